/-
  Words and walks for ProposerTells. No condition.
-/
import Derived.Test.YtjfbchlfgfkcdaaProposerTellsY3
set_option linter.unusedSimpArgs false
set_option linter.unusedVariables false
set_option maxRecDepth 100000
set_option maxHeartbeats 4000000
namespace Go.RX.L
open Go Go.RX Go.Proofs
def ref16_Accepted_Q (y : GProp) (d : D) (s : Sto) : Prop := d = D.agg [D.int .i64 y.Epoch, D.int .i64 y.Ballot, D.int .i64 y.Phase, D.int .i64 y.Own.Epoch, D.int .i64 y.Own.Target, D.int .i64 y.Own.Prev, D.int .i64 y.Own.Spill, D.int .i64 y.Own.Percent, D.int .i64 y.Own.Stamp, D.int .i64 y.Own.Since, D.int .i64 y.Own.Ramped, D.int .u64 y.Own.Up, D.int .u64 y.Own.Sup, D.sl false 1 (List.map (eInt .i64) y.Own.Pen), D.sl false 1 (List.map (eInt .i64) y.Own.Changes), D.int .i64 y.Best, D.int .i64 y.Value.Epoch, D.int .i64 y.Value.Target, D.int .i64 y.Value.Prev, D.int .i64 y.Value.Spill, D.int .i64 y.Value.Percent, D.int .i64 y.Value.Stamp, D.int .i64 y.Value.Since, D.int .i64 y.Value.Ramped, D.int .u64 y.Value.Up, D.int .u64 y.Value.Sup, D.sl false 1 (List.map (eInt .i64) y.Value.Pen), D.sl false 1 (List.map (eInt .i64) y.Value.Changes), D.int .u64 y.Promises, D.int .u64 y.Accepts] ∧ s = []
noncomputable def ref16_Accepted_1M (t17 : Bool) (p : GProp) (c : Config) (m : Msg) (b3 : GProp) : M := { td := [It.code (codeAt (bodyOf Try.f15) [1, 0, 1]), It.code (codeAt (bodyOf Try.f15) [1, 1])], fr := [(3, D.ptr 0 0 0), (4, D.ptr 1 0 0), (5, D.ptr 2 0 0), (6, D.ptr 3 0 0), (17, D.bool t17)], st := [some { sz := 30, deep := false, rows := [[D.int .i64 p.Epoch, D.int .i64 p.Ballot, D.int .i64 p.Phase, D.int .i64 p.Own.Epoch, D.int .i64 p.Own.Target, D.int .i64 p.Own.Prev, D.int .i64 p.Own.Spill, D.int .i64 p.Own.Percent, D.int .i64 p.Own.Stamp, D.int .i64 p.Own.Since, D.int .i64 p.Own.Ramped, D.int .u64 p.Own.Up, D.int .u64 p.Own.Sup, D.sl false 1 (List.map (eInt .i64) p.Own.Pen), D.sl false 1 (List.map (eInt .i64) p.Own.Changes), D.int .i64 p.Best, D.int .i64 p.Value.Epoch, D.int .i64 p.Value.Target, D.int .i64 p.Value.Prev, D.int .i64 p.Value.Spill, D.int .i64 p.Value.Percent, D.int .i64 p.Value.Stamp, D.int .i64 p.Value.Since, D.int .i64 p.Value.Ramped, D.int .u64 p.Value.Up, D.int .u64 p.Value.Sup, D.sl false 1 (List.map (eInt .i64) p.Value.Pen), D.sl false 1 (List.map (eInt .i64) p.Value.Changes), D.int .u64 p.Promises, D.int .u64 p.Accepts]] }, some { sz := 30, deep := false, rows := [[D.int .i64 c.F_, D.int .i64 c.Deciders, D.int .i64 c.Targets, D.int .i64 c.Routers, D.int .i64 c.Observers, D.sl false 1 (List.map (eInt .i64) c.Tiers), D.int .i64 c.Every, D.int .i64 c.Wait, D.int .i64 c.Rise, D.int .i64 c.Fall, D.int .i64 c.Fresh, D.int .i64 c.L_, D.int .i64 c.M_, D.int .i64 c.Dwell, D.int .i64 c.D_, D.int .i64 c.W_, D.int .i64 c.B_, D.int .i64 c.Hit, D.int .i64 c.Suppress, D.int .i64 c.Reuse, D.int .i64 c.Half, D.int .i64 c.First, D.int .i64 c.Step, D.int .i64 c.StepTime, D.int .i64 c.S_, D.int .i64 c.Cap, D.int .i64 c.Span, D.int .i64 c.Room, D.int .i64 c.Tries, D.int .i64 c.Retry]] }, some { sz := 26, deep := false, rows := [[D.int .i64 m.Kind, D.int .i64 m.From, D.int .i64 m.To, D.int .i64 m.Epoch, D.int .i64 m.Ballot, D.int .i64 m.Accepted, D.int .i64 m.Nonce, D.int .i64 m.Time, D.int .u64 m.Up, D.int .i64 m.Code, D.bool m.HasPlan, D.int .i64 m.Plan.Epoch, D.int .i64 m.Plan.Target, D.int .i64 m.Plan.Prev, D.int .i64 m.Plan.Spill, D.int .i64 m.Plan.Percent, D.int .i64 m.Plan.Stamp, D.int .i64 m.Plan.Since, D.int .i64 m.Plan.Ramped, D.int .u64 m.Plan.Up, D.int .u64 m.Plan.Sup, D.sl false 1 (List.map (eInt .i64) m.Plan.Pen), D.sl false 1 (List.map (eInt .i64) m.Plan.Changes), D.sl false 1 (List.map (eInt .i64) m.ID), D.sl false 1 (List.map (eInt .u8) m.Session), D.sl false 1 (List.map (eInt .u8) m.Payload)]] }, some { sz := 30, deep := false, rows := [[D.int .i64 b3.Epoch, D.int .i64 b3.Ballot, D.int .i64 b3.Phase, D.int .i64 b3.Own.Epoch, D.int .i64 b3.Own.Target, D.int .i64 b3.Own.Prev, D.int .i64 b3.Own.Spill, D.int .i64 b3.Own.Percent, D.int .i64 b3.Own.Stamp, D.int .i64 b3.Own.Since, D.int .i64 b3.Own.Ramped, D.int .u64 b3.Own.Up, D.int .u64 b3.Own.Sup, D.sl false 1 (List.map (eInt .i64) b3.Own.Pen), D.sl false 1 (List.map (eInt .i64) b3.Own.Changes), D.int .i64 b3.Best, D.int .i64 b3.Value.Epoch, D.int .i64 b3.Value.Target, D.int .i64 b3.Value.Prev, D.int .i64 b3.Value.Spill, D.int .i64 b3.Value.Percent, D.int .i64 b3.Value.Stamp, D.int .i64 b3.Value.Since, D.int .i64 b3.Value.Ramped, D.int .u64 b3.Value.Up, D.int .u64 b3.Value.Sup, D.sl false 1 (List.map (eInt .i64) b3.Value.Pen), D.sl false 1 (List.map (eInt .i64) b3.Value.Changes), D.int .u64 b3.Promises, D.int .u64 b3.Accepts]] }] }
noncomputable def ref16_Accepted_1 (t17 : Bool) (p : GProp) (c : Config) (m : Msg) (b3 : GProp) : Option GProp := (bif t17 then (some p) else (bif (!decide ((m.From : Int) < 0)) then ((ref16_Most c (orI .u64 p.Accepts (shlI .u64 1 m.From))).bind fun y3 => (bif y3 then (some (⟨p.Epoch, p.Ballot, 3, p.Own, p.Best, p.Value, p.Promises, (orI .u64 p.Accepts (shlI .u64 1 m.From))⟩ : GProp)) else (some (⟨p.Epoch, p.Ballot, p.Phase, p.Own, p.Best, p.Value, p.Promises, (orI .u64 p.Accepts (shlI .u64 1 m.From))⟩ : GProp)))) else none))
theorem ref16_Accepted_1_ok {t17 : Bool} {p : GProp} {c : Config} {m : Msg} {b3 : GProp} {r : GProp} (h : ref16_Accepted_1 t17 p c m b3 = some r) : FinQ E ⟨Try.f15, false, 0⟩ (QW (ref16_Accepted_Q r)) (.go (ref16_Accepted_1M t17 p c m b3)) := by
  unfold ref16_Accepted_1 at h
  refine adv_ok hm 1 _ ?_
  refine p_split h (by kernel_rfl) (fun h1 h => ?_) (fun h1 h => ?_)
  · -- true
    refine adv_ok hm 10 _ ?_
    obtain rfl := Option.some.inj h
    exact r_retF [] (d := D.agg [D.int .i64 p.Epoch, D.int .i64 p.Ballot, D.int .i64 p.Phase, D.int .i64 p.Own.Epoch, D.int .i64 p.Own.Target, D.int .i64 p.Own.Prev, D.int .i64 p.Own.Spill, D.int .i64 p.Own.Percent, D.int .i64 p.Own.Stamp, D.int .i64 p.Own.Since, D.int .i64 p.Own.Ramped, D.int .u64 p.Own.Up, D.int .u64 p.Own.Sup, D.sl false 1 (List.map (eInt .i64) p.Own.Pen), D.sl false 1 (List.map (eInt .i64) p.Own.Changes), D.int .i64 p.Best, D.int .i64 p.Value.Epoch, D.int .i64 p.Value.Target, D.int .i64 p.Value.Prev, D.int .i64 p.Value.Spill, D.int .i64 p.Value.Percent, D.int .i64 p.Value.Stamp, D.int .i64 p.Value.Since, D.int .i64 p.Value.Ramped, D.int .u64 p.Value.Up, D.int .u64 p.Value.Sup, D.sl false 1 (List.map (eInt .i64) p.Value.Pen), D.sl false 1 (List.map (eInt .i64) p.Value.Changes), D.int .u64 p.Promises, D.int .u64 p.Accepts]) (s := []) (by kernel_rfl) ⟨rfl, rfl⟩
  · -- false
    refine adv_ok hm 5 _ ?_
    refine p_need h (by kernel_rfl) (fun h2 h => ?_)
    refine adv_ok hm 10 _ ?_
    have ok3 := fun (y : Bool) (hy : ref16_Most c (orI .u64 p.Accepts (shlI .u64 1 m.From)) = some y) => ref16_Most_ok hy
    refine p_callE [] (args1 := [D.agg [D.int .i64 c.F_, D.int .i64 c.Deciders, D.int .i64 c.Targets, D.int .i64 c.Routers, D.int .i64 c.Observers, D.sl false 1 (List.map (eInt .i64) c.Tiers), D.int .i64 c.Every, D.int .i64 c.Wait, D.int .i64 c.Rise, D.int .i64 c.Fall, D.int .i64 c.Fresh, D.int .i64 c.L_, D.int .i64 c.M_, D.int .i64 c.Dwell, D.int .i64 c.D_, D.int .i64 c.W_, D.int .i64 c.B_, D.int .i64 c.Hit, D.int .i64 c.Suppress, D.int .i64 c.Reuse, D.int .i64 c.Half, D.int .i64 c.First, D.int .i64 c.Step, D.int .i64 c.StepTime, D.int .i64 c.S_, D.int .i64 c.Cap, D.int .i64 c.Span, D.int .i64 c.Room, D.int .i64 c.Tries, D.int .i64 c.Retry], D.int .u64 (orI .u64 p.Accepts (shlI .u64 1 m.From))]) (args := [D.agg [D.int .i64 c.F_, D.int .i64 c.Deciders, D.int .i64 c.Targets, D.int .i64 c.Routers, D.int .i64 c.Observers, D.sl false 1 (List.map (eInt .i64) c.Tiers), D.int .i64 c.Every, D.int .i64 c.Wait, D.int .i64 c.Rise, D.int .i64 c.Fall, D.int .i64 c.Fresh, D.int .i64 c.L_, D.int .i64 c.M_, D.int .i64 c.Dwell, D.int .i64 c.D_, D.int .i64 c.W_, D.int .i64 c.B_, D.int .i64 c.Hit, D.int .i64 c.Suppress, D.int .i64 c.Reuse, D.int .i64 c.Half, D.int .i64 c.First, D.int .i64 c.Step, D.int .i64 c.StepTime, D.int .i64 c.S_, D.int .i64 c.Cap, D.int .i64 c.Span, D.int .i64 c.Room, D.int .i64 c.Tries, D.int .i64 c.Retry], D.int .u64 (orI .u64 p.Accepts (shlI .u64 1 m.From))]) (fun y3 => D.bool y3) (fun y3 => []) h (by kernel_rfl) ⟨rfl, rfl⟩ ok3 (fun y3 h3 h => ?_)
    refine adv_ok hm 8 _ ?_
    refine p_split h (by kernel_rfl) (fun h4 h => ?_) (fun h4 h => ?_)
    · -- true
      refine adv_ok hm 16 _ ?_
      obtain rfl := Option.some.inj h
      exact r_retF [] (d := D.agg [D.int .i64 p.Epoch, D.int .i64 p.Ballot, D.int .i64 3, D.int .i64 p.Own.Epoch, D.int .i64 p.Own.Target, D.int .i64 p.Own.Prev, D.int .i64 p.Own.Spill, D.int .i64 p.Own.Percent, D.int .i64 p.Own.Stamp, D.int .i64 p.Own.Since, D.int .i64 p.Own.Ramped, D.int .u64 p.Own.Up, D.int .u64 p.Own.Sup, D.sl false 1 (List.map (eInt .i64) p.Own.Pen), D.sl false 1 (List.map (eInt .i64) p.Own.Changes), D.int .i64 p.Best, D.int .i64 p.Value.Epoch, D.int .i64 p.Value.Target, D.int .i64 p.Value.Prev, D.int .i64 p.Value.Spill, D.int .i64 p.Value.Percent, D.int .i64 p.Value.Stamp, D.int .i64 p.Value.Since, D.int .i64 p.Value.Ramped, D.int .u64 p.Value.Up, D.int .u64 p.Value.Sup, D.sl false 1 (List.map (eInt .i64) p.Value.Pen), D.sl false 1 (List.map (eInt .i64) p.Value.Changes), D.int .u64 p.Promises, D.int .u64 (orI .u64 p.Accepts (shlI .u64 1 m.From))]) (s := []) (by kernel_rfl) ⟨rfl, rfl⟩
    · -- false
      refine adv_ok hm 11 _ ?_
      obtain rfl := Option.some.inj h
      exact r_retF [] (d := D.agg [D.int .i64 p.Epoch, D.int .i64 p.Ballot, D.int .i64 p.Phase, D.int .i64 p.Own.Epoch, D.int .i64 p.Own.Target, D.int .i64 p.Own.Prev, D.int .i64 p.Own.Spill, D.int .i64 p.Own.Percent, D.int .i64 p.Own.Stamp, D.int .i64 p.Own.Since, D.int .i64 p.Own.Ramped, D.int .u64 p.Own.Up, D.int .u64 p.Own.Sup, D.sl false 1 (List.map (eInt .i64) p.Own.Pen), D.sl false 1 (List.map (eInt .i64) p.Own.Changes), D.int .i64 p.Best, D.int .i64 p.Value.Epoch, D.int .i64 p.Value.Target, D.int .i64 p.Value.Prev, D.int .i64 p.Value.Spill, D.int .i64 p.Value.Percent, D.int .i64 p.Value.Stamp, D.int .i64 p.Value.Since, D.int .i64 p.Value.Ramped, D.int .u64 p.Value.Up, D.int .u64 p.Value.Sup, D.sl false 1 (List.map (eInt .i64) p.Value.Pen), D.sl false 1 (List.map (eInt .i64) p.Value.Changes), D.int .u64 p.Promises, D.int .u64 (orI .u64 p.Accepts (shlI .u64 1 m.From))]) (s := []) (by kernel_rfl) ⟨rfl, rfl⟩
noncomputable def ref16_Accepted (p : GProp) (c : Config) (m : Msg) : Option GProp := (bif ((p.Phase : Int) != 2) then (ref16_Accepted_1 true p c m (⟨0, 0, 0, (⟨0, 0, 0, 0, 0, 0, 0, 0, 0, 0, [], []⟩ : Plan), 0, (⟨0, 0, 0, 0, 0, 0, 0, 0, 0, 0, [], []⟩ : Plan), 0, 0⟩ : GProp)) else ((ref16_answers p c m 8).bind fun y2 => (ref16_Accepted_1 (!y2) p c m (⟨0, 0, 0, (⟨0, 0, 0, 0, 0, 0, 0, 0, 0, 0, [], []⟩ : Plan), 0, (⟨0, 0, 0, 0, 0, 0, 0, 0, 0, 0, [], []⟩ : Plan), 0, 0⟩ : GProp))))
theorem ref16_Accepted_ok {p : GProp} {c : Config} {m : Msg} {r : GProp} (h : ref16_Accepted p c m = some r) : Sound E 15 [D.agg [D.int .i64 p.Epoch, D.int .i64 p.Ballot, D.int .i64 p.Phase, D.int .i64 p.Own.Epoch, D.int .i64 p.Own.Target, D.int .i64 p.Own.Prev, D.int .i64 p.Own.Spill, D.int .i64 p.Own.Percent, D.int .i64 p.Own.Stamp, D.int .i64 p.Own.Since, D.int .i64 p.Own.Ramped, D.int .u64 p.Own.Up, D.int .u64 p.Own.Sup, D.sl false 1 (List.map (eInt .i64) p.Own.Pen), D.sl false 1 (List.map (eInt .i64) p.Own.Changes), D.int .i64 p.Best, D.int .i64 p.Value.Epoch, D.int .i64 p.Value.Target, D.int .i64 p.Value.Prev, D.int .i64 p.Value.Spill, D.int .i64 p.Value.Percent, D.int .i64 p.Value.Stamp, D.int .i64 p.Value.Since, D.int .i64 p.Value.Ramped, D.int .u64 p.Value.Up, D.int .u64 p.Value.Sup, D.sl false 1 (List.map (eInt .i64) p.Value.Pen), D.sl false 1 (List.map (eInt .i64) p.Value.Changes), D.int .u64 p.Promises, D.int .u64 p.Accepts], D.agg [D.int .i64 c.F_, D.int .i64 c.Deciders, D.int .i64 c.Targets, D.int .i64 c.Routers, D.int .i64 c.Observers, D.sl false 1 (List.map (eInt .i64) c.Tiers), D.int .i64 c.Every, D.int .i64 c.Wait, D.int .i64 c.Rise, D.int .i64 c.Fall, D.int .i64 c.Fresh, D.int .i64 c.L_, D.int .i64 c.M_, D.int .i64 c.Dwell, D.int .i64 c.D_, D.int .i64 c.W_, D.int .i64 c.B_, D.int .i64 c.Hit, D.int .i64 c.Suppress, D.int .i64 c.Reuse, D.int .i64 c.Half, D.int .i64 c.First, D.int .i64 c.Step, D.int .i64 c.StepTime, D.int .i64 c.S_, D.int .i64 c.Cap, D.int .i64 c.Span, D.int .i64 c.Room, D.int .i64 c.Tries, D.int .i64 c.Retry], D.agg [D.int .i64 m.Kind, D.int .i64 m.From, D.int .i64 m.To, D.int .i64 m.Epoch, D.int .i64 m.Ballot, D.int .i64 m.Accepted, D.int .i64 m.Nonce, D.int .i64 m.Time, D.int .u64 m.Up, D.int .i64 m.Code, D.bool m.HasPlan, D.int .i64 m.Plan.Epoch, D.int .i64 m.Plan.Target, D.int .i64 m.Plan.Prev, D.int .i64 m.Plan.Spill, D.int .i64 m.Plan.Percent, D.int .i64 m.Plan.Stamp, D.int .i64 m.Plan.Since, D.int .i64 m.Plan.Ramped, D.int .u64 m.Plan.Up, D.int .u64 m.Plan.Sup, D.sl false 1 (List.map (eInt .i64) m.Plan.Pen), D.sl false 1 (List.map (eInt .i64) m.Plan.Changes), D.sl false 1 (List.map (eInt .i64) m.ID), D.sl false 1 (List.map (eInt .u8) m.Session), D.sl false 1 (List.map (eInt .u8) m.Payload)]] [] (ref16_Accepted_Q r) := by
  refine sound_ofW (m := ⟨[.code (bodyOf Try.f15)], [(0, D.agg [D.int .i64 p.Epoch, D.int .i64 p.Ballot, D.int .i64 p.Phase, D.int .i64 p.Own.Epoch, D.int .i64 p.Own.Target, D.int .i64 p.Own.Prev, D.int .i64 p.Own.Spill, D.int .i64 p.Own.Percent, D.int .i64 p.Own.Stamp, D.int .i64 p.Own.Since, D.int .i64 p.Own.Ramped, D.int .u64 p.Own.Up, D.int .u64 p.Own.Sup, D.sl false 1 (List.map (eInt .i64) p.Own.Pen), D.sl false 1 (List.map (eInt .i64) p.Own.Changes), D.int .i64 p.Best, D.int .i64 p.Value.Epoch, D.int .i64 p.Value.Target, D.int .i64 p.Value.Prev, D.int .i64 p.Value.Spill, D.int .i64 p.Value.Percent, D.int .i64 p.Value.Stamp, D.int .i64 p.Value.Since, D.int .i64 p.Value.Ramped, D.int .u64 p.Value.Up, D.int .u64 p.Value.Sup, D.sl false 1 (List.map (eInt .i64) p.Value.Pen), D.sl false 1 (List.map (eInt .i64) p.Value.Changes), D.int .u64 p.Promises, D.int .u64 p.Accepts]), (1, D.agg [D.int .i64 c.F_, D.int .i64 c.Deciders, D.int .i64 c.Targets, D.int .i64 c.Routers, D.int .i64 c.Observers, D.sl false 1 (List.map (eInt .i64) c.Tiers), D.int .i64 c.Every, D.int .i64 c.Wait, D.int .i64 c.Rise, D.int .i64 c.Fall, D.int .i64 c.Fresh, D.int .i64 c.L_, D.int .i64 c.M_, D.int .i64 c.Dwell, D.int .i64 c.D_, D.int .i64 c.W_, D.int .i64 c.B_, D.int .i64 c.Hit, D.int .i64 c.Suppress, D.int .i64 c.Reuse, D.int .i64 c.Half, D.int .i64 c.First, D.int .i64 c.Step, D.int .i64 c.StepTime, D.int .i64 c.S_, D.int .i64 c.Cap, D.int .i64 c.Span, D.int .i64 c.Room, D.int .i64 c.Tries, D.int .i64 c.Retry]), (2, D.agg [D.int .i64 m.Kind, D.int .i64 m.From, D.int .i64 m.To, D.int .i64 m.Epoch, D.int .i64 m.Ballot, D.int .i64 m.Accepted, D.int .i64 m.Nonce, D.int .i64 m.Time, D.int .u64 m.Up, D.int .i64 m.Code, D.bool m.HasPlan, D.int .i64 m.Plan.Epoch, D.int .i64 m.Plan.Target, D.int .i64 m.Plan.Prev, D.int .i64 m.Plan.Spill, D.int .i64 m.Plan.Percent, D.int .i64 m.Plan.Stamp, D.int .i64 m.Plan.Since, D.int .i64 m.Plan.Ramped, D.int .u64 m.Plan.Up, D.int .u64 m.Plan.Sup, D.sl false 1 (List.map (eInt .i64) m.Plan.Pen), D.sl false 1 (List.map (eInt .i64) m.Plan.Changes), D.sl false 1 (List.map (eInt .i64) m.ID), D.sl false 1 (List.map (eInt .u8) m.Session), D.sl false 1 (List.map (eInt .u8) m.Payload)])], []⟩) (fn := Try.f15) (by kernel_rfl) (by kernel_rfl) ?_
  show FinQ E ⟨Try.f15, false, 0⟩ (QW (ref16_Accepted_Q r)) _
  unfold ref16_Accepted at h
  refine adv_ok hm 16 _ ?_
  refine p_split h (by kernel_rfl) (fun h1 h => ?_) (fun h1 h => ?_)
  · -- true
    refine adv_ok hm 11 _ ?_
    exact r_cut 131192 [.blk 3 [some 1, some 1, some 1, some 1]] (m' := (ref16_Accepted_1M true p c m (⟨0, 0, 0, (⟨0, 0, 0, 0, 0, 0, 0, 0, 0, 0, [], []⟩ : Plan), 0, (⟨0, 0, 0, 0, 0, 0, 0, 0, 0, 0, [], []⟩ : Plan), 0, 0⟩ : GProp))) (by kernel_rfl) (ref16_Accepted_1_ok h)
  · -- false
    refine adv_ok hm 9 _ ?_
    have ok2 := fun (y : Bool) (hy : ref16_answers p c m 8 = some y) => ref16_answers_ok hy
    refine p_callE [] (args1 := [D.agg [D.int .i64 p.Epoch, D.int .i64 p.Ballot, D.int .i64 p.Phase, D.int .i64 p.Own.Epoch, D.int .i64 p.Own.Target, D.int .i64 p.Own.Prev, D.int .i64 p.Own.Spill, D.int .i64 p.Own.Percent, D.int .i64 p.Own.Stamp, D.int .i64 p.Own.Since, D.int .i64 p.Own.Ramped, D.int .u64 p.Own.Up, D.int .u64 p.Own.Sup, D.sl false 1 (List.map (eInt .i64) p.Own.Pen), D.sl false 1 (List.map (eInt .i64) p.Own.Changes), D.int .i64 p.Best, D.int .i64 p.Value.Epoch, D.int .i64 p.Value.Target, D.int .i64 p.Value.Prev, D.int .i64 p.Value.Spill, D.int .i64 p.Value.Percent, D.int .i64 p.Value.Stamp, D.int .i64 p.Value.Since, D.int .i64 p.Value.Ramped, D.int .u64 p.Value.Up, D.int .u64 p.Value.Sup, D.sl false 1 (List.map (eInt .i64) p.Value.Pen), D.sl false 1 (List.map (eInt .i64) p.Value.Changes), D.int .u64 p.Promises, D.int .u64 p.Accepts], D.agg [D.int .i64 c.F_, D.int .i64 c.Deciders, D.int .i64 c.Targets, D.int .i64 c.Routers, D.int .i64 c.Observers, D.sl false 1 (List.map (eInt .i64) c.Tiers), D.int .i64 c.Every, D.int .i64 c.Wait, D.int .i64 c.Rise, D.int .i64 c.Fall, D.int .i64 c.Fresh, D.int .i64 c.L_, D.int .i64 c.M_, D.int .i64 c.Dwell, D.int .i64 c.D_, D.int .i64 c.W_, D.int .i64 c.B_, D.int .i64 c.Hit, D.int .i64 c.Suppress, D.int .i64 c.Reuse, D.int .i64 c.Half, D.int .i64 c.First, D.int .i64 c.Step, D.int .i64 c.StepTime, D.int .i64 c.S_, D.int .i64 c.Cap, D.int .i64 c.Span, D.int .i64 c.Room, D.int .i64 c.Tries, D.int .i64 c.Retry], D.agg [D.int .i64 m.Kind, D.int .i64 m.From, D.int .i64 m.To, D.int .i64 m.Epoch, D.int .i64 m.Ballot, D.int .i64 m.Accepted, D.int .i64 m.Nonce, D.int .i64 m.Time, D.int .u64 m.Up, D.int .i64 m.Code, D.bool m.HasPlan, D.int .i64 m.Plan.Epoch, D.int .i64 m.Plan.Target, D.int .i64 m.Plan.Prev, D.int .i64 m.Plan.Spill, D.int .i64 m.Plan.Percent, D.int .i64 m.Plan.Stamp, D.int .i64 m.Plan.Since, D.int .i64 m.Plan.Ramped, D.int .u64 m.Plan.Up, D.int .u64 m.Plan.Sup, D.sl false 1 (List.map (eInt .i64) m.Plan.Pen), D.sl false 1 (List.map (eInt .i64) m.Plan.Changes), D.sl false 1 (List.map (eInt .i64) m.ID), D.sl false 1 (List.map (eInt .u8) m.Session), D.sl false 1 (List.map (eInt .u8) m.Payload)], D.int .i64 8]) (args := [D.agg [D.int .i64 p.Epoch, D.int .i64 p.Ballot, D.int .i64 p.Phase, D.int .i64 p.Own.Epoch, D.int .i64 p.Own.Target, D.int .i64 p.Own.Prev, D.int .i64 p.Own.Spill, D.int .i64 p.Own.Percent, D.int .i64 p.Own.Stamp, D.int .i64 p.Own.Since, D.int .i64 p.Own.Ramped, D.int .u64 p.Own.Up, D.int .u64 p.Own.Sup, D.sl false 1 (List.map (eInt .i64) p.Own.Pen), D.sl false 1 (List.map (eInt .i64) p.Own.Changes), D.int .i64 p.Best, D.int .i64 p.Value.Epoch, D.int .i64 p.Value.Target, D.int .i64 p.Value.Prev, D.int .i64 p.Value.Spill, D.int .i64 p.Value.Percent, D.int .i64 p.Value.Stamp, D.int .i64 p.Value.Since, D.int .i64 p.Value.Ramped, D.int .u64 p.Value.Up, D.int .u64 p.Value.Sup, D.sl false 1 (List.map (eInt .i64) p.Value.Pen), D.sl false 1 (List.map (eInt .i64) p.Value.Changes), D.int .u64 p.Promises, D.int .u64 p.Accepts], D.agg [D.int .i64 c.F_, D.int .i64 c.Deciders, D.int .i64 c.Targets, D.int .i64 c.Routers, D.int .i64 c.Observers, D.sl false 1 (List.map (eInt .i64) c.Tiers), D.int .i64 c.Every, D.int .i64 c.Wait, D.int .i64 c.Rise, D.int .i64 c.Fall, D.int .i64 c.Fresh, D.int .i64 c.L_, D.int .i64 c.M_, D.int .i64 c.Dwell, D.int .i64 c.D_, D.int .i64 c.W_, D.int .i64 c.B_, D.int .i64 c.Hit, D.int .i64 c.Suppress, D.int .i64 c.Reuse, D.int .i64 c.Half, D.int .i64 c.First, D.int .i64 c.Step, D.int .i64 c.StepTime, D.int .i64 c.S_, D.int .i64 c.Cap, D.int .i64 c.Span, D.int .i64 c.Room, D.int .i64 c.Tries, D.int .i64 c.Retry], D.agg [D.int .i64 m.Kind, D.int .i64 m.From, D.int .i64 m.To, D.int .i64 m.Epoch, D.int .i64 m.Ballot, D.int .i64 m.Accepted, D.int .i64 m.Nonce, D.int .i64 m.Time, D.int .u64 m.Up, D.int .i64 m.Code, D.bool m.HasPlan, D.int .i64 m.Plan.Epoch, D.int .i64 m.Plan.Target, D.int .i64 m.Plan.Prev, D.int .i64 m.Plan.Spill, D.int .i64 m.Plan.Percent, D.int .i64 m.Plan.Stamp, D.int .i64 m.Plan.Since, D.int .i64 m.Plan.Ramped, D.int .u64 m.Plan.Up, D.int .u64 m.Plan.Sup, D.sl false 1 (List.map (eInt .i64) m.Plan.Pen), D.sl false 1 (List.map (eInt .i64) m.Plan.Changes), D.sl false 1 (List.map (eInt .i64) m.ID), D.sl false 1 (List.map (eInt .u8) m.Session), D.sl false 1 (List.map (eInt .u8) m.Payload)], D.int .i64 8]) (fun y2 => D.bool y2) (fun y2 => []) h (by kernel_rfl) ⟨rfl, rfl⟩ ok2 (fun y2 h2 h => ?_)
    refine adv_ok hm 5 _ ?_
    exact r_cut 131192 [.blk 3 [some 1, some 1, some 1, some 1]] (m' := (ref16_Accepted_1M (!y2) p c m (⟨0, 0, 0, (⟨0, 0, 0, 0, 0, 0, 0, 0, 0, 0, [], []⟩ : Plan), 0, (⟨0, 0, 0, 0, 0, 0, 0, 0, 0, 0, [], []⟩ : Plan), 0, 0⟩ : GProp))) (by kernel_rfl) (ref16_Accepted_1_ok h)
end Go.RX.L

set_option linter.unusedSimpArgs false
set_option linter.unusedVariables false
set_option maxRecDepth 100000
set_option maxHeartbeats 4000000
namespace Go.RX.L
open Go Go.RX Go.Proofs
def ref16_Promise_Q (y : GProp) (d : D) (s : Sto) : Prop := d = D.agg [D.int .i64 y.Epoch, D.int .i64 y.Ballot, D.int .i64 y.Phase, D.int .i64 y.Own.Epoch, D.int .i64 y.Own.Target, D.int .i64 y.Own.Prev, D.int .i64 y.Own.Spill, D.int .i64 y.Own.Percent, D.int .i64 y.Own.Stamp, D.int .i64 y.Own.Since, D.int .i64 y.Own.Ramped, D.int .u64 y.Own.Up, D.int .u64 y.Own.Sup, D.sl false 1 (List.map (eInt .i64) y.Own.Pen), D.sl false 1 (List.map (eInt .i64) y.Own.Changes), D.int .i64 y.Best, D.int .i64 y.Value.Epoch, D.int .i64 y.Value.Target, D.int .i64 y.Value.Prev, D.int .i64 y.Value.Spill, D.int .i64 y.Value.Percent, D.int .i64 y.Value.Stamp, D.int .i64 y.Value.Since, D.int .i64 y.Value.Ramped, D.int .u64 y.Value.Up, D.int .u64 y.Value.Sup, D.sl false 1 (List.map (eInt .i64) y.Value.Pen), D.sl false 1 (List.map (eInt .i64) y.Value.Changes), D.int .u64 y.Promises, D.int .u64 y.Accepts] ∧ s = []
noncomputable def ref16_Promise_2M (p : GProp) (c : Config) (b2 : GProp) : M := { td := [It.code (codeAt (bodyOf Try.f13) [1, 1, 1, 1])], fr := [(3, D.ptr 0 0 0), (4, D.ptr 1 0 0), (6, D.ptr 2 0 0)], st := [some { sz := 30, deep := false, rows := [[D.int .i64 p.Epoch, D.int .i64 p.Ballot, D.int .i64 p.Phase, D.int .i64 p.Own.Epoch, D.int .i64 p.Own.Target, D.int .i64 p.Own.Prev, D.int .i64 p.Own.Spill, D.int .i64 p.Own.Percent, D.int .i64 p.Own.Stamp, D.int .i64 p.Own.Since, D.int .i64 p.Own.Ramped, D.int .u64 p.Own.Up, D.int .u64 p.Own.Sup, D.sl false 1 (List.map (eInt .i64) p.Own.Pen), D.sl false 1 (List.map (eInt .i64) p.Own.Changes), D.int .i64 p.Best, D.int .i64 p.Value.Epoch, D.int .i64 p.Value.Target, D.int .i64 p.Value.Prev, D.int .i64 p.Value.Spill, D.int .i64 p.Value.Percent, D.int .i64 p.Value.Stamp, D.int .i64 p.Value.Since, D.int .i64 p.Value.Ramped, D.int .u64 p.Value.Up, D.int .u64 p.Value.Sup, D.sl false 1 (List.map (eInt .i64) p.Value.Pen), D.sl false 1 (List.map (eInt .i64) p.Value.Changes), D.int .u64 p.Promises, D.int .u64 p.Accepts]] }, some { sz := 30, deep := false, rows := [[D.int .i64 c.F_, D.int .i64 c.Deciders, D.int .i64 c.Targets, D.int .i64 c.Routers, D.int .i64 c.Observers, D.sl false 1 (List.map (eInt .i64) c.Tiers), D.int .i64 c.Every, D.int .i64 c.Wait, D.int .i64 c.Rise, D.int .i64 c.Fall, D.int .i64 c.Fresh, D.int .i64 c.L_, D.int .i64 c.M_, D.int .i64 c.Dwell, D.int .i64 c.D_, D.int .i64 c.W_, D.int .i64 c.B_, D.int .i64 c.Hit, D.int .i64 c.Suppress, D.int .i64 c.Reuse, D.int .i64 c.Half, D.int .i64 c.First, D.int .i64 c.Step, D.int .i64 c.StepTime, D.int .i64 c.S_, D.int .i64 c.Cap, D.int .i64 c.Span, D.int .i64 c.Room, D.int .i64 c.Tries, D.int .i64 c.Retry]] }, some { sz := 30, deep := false, rows := [[D.int .i64 b2.Epoch, D.int .i64 b2.Ballot, D.int .i64 b2.Phase, D.int .i64 b2.Own.Epoch, D.int .i64 b2.Own.Target, D.int .i64 b2.Own.Prev, D.int .i64 b2.Own.Spill, D.int .i64 b2.Own.Percent, D.int .i64 b2.Own.Stamp, D.int .i64 b2.Own.Since, D.int .i64 b2.Own.Ramped, D.int .u64 b2.Own.Up, D.int .u64 b2.Own.Sup, D.sl false 1 (List.map (eInt .i64) b2.Own.Pen), D.sl false 1 (List.map (eInt .i64) b2.Own.Changes), D.int .i64 b2.Best, D.int .i64 b2.Value.Epoch, D.int .i64 b2.Value.Target, D.int .i64 b2.Value.Prev, D.int .i64 b2.Value.Spill, D.int .i64 b2.Value.Percent, D.int .i64 b2.Value.Stamp, D.int .i64 b2.Value.Since, D.int .i64 b2.Value.Ramped, D.int .u64 b2.Value.Up, D.int .u64 b2.Value.Sup, D.sl false 1 (List.map (eInt .i64) b2.Value.Pen), D.sl false 1 (List.map (eInt .i64) b2.Value.Changes), D.int .u64 b2.Promises, D.int .u64 b2.Accepts]] }] }
noncomputable def ref16_Promise_2 (p : GProp) (c : Config) (b2 : GProp) : Option GProp := ((ref16_Most c p.Promises).bind fun y1 => (bif y1 then (bif ((p.Best : Int) == 0) then (some (⟨p.Epoch, p.Ballot, 2, p.Own, p.Best, p.Own, p.Promises, p.Accepts⟩ : GProp)) else (some (⟨p.Epoch, p.Ballot, 2, p.Own, p.Best, p.Value, p.Promises, p.Accepts⟩ : GProp))) else (some p)))
theorem ref16_Promise_2_ok {p : GProp} {c : Config} {b2 : GProp} {r : GProp} (h : ref16_Promise_2 p c b2 = some r) : FinQ E ⟨Try.f13, false, 0⟩ (QW (ref16_Promise_Q r)) (.go (ref16_Promise_2M p c b2)) := by
  unfold ref16_Promise_2 at h
  refine adv_ok hm 8 _ ?_
  have ok1 := fun (y : Bool) (hy : ref16_Most c p.Promises = some y) => ref16_Most_ok hy
  refine p_callE [] (args1 := [D.agg [D.int .i64 c.F_, D.int .i64 c.Deciders, D.int .i64 c.Targets, D.int .i64 c.Routers, D.int .i64 c.Observers, D.sl false 1 (List.map (eInt .i64) c.Tiers), D.int .i64 c.Every, D.int .i64 c.Wait, D.int .i64 c.Rise, D.int .i64 c.Fall, D.int .i64 c.Fresh, D.int .i64 c.L_, D.int .i64 c.M_, D.int .i64 c.Dwell, D.int .i64 c.D_, D.int .i64 c.W_, D.int .i64 c.B_, D.int .i64 c.Hit, D.int .i64 c.Suppress, D.int .i64 c.Reuse, D.int .i64 c.Half, D.int .i64 c.First, D.int .i64 c.Step, D.int .i64 c.StepTime, D.int .i64 c.S_, D.int .i64 c.Cap, D.int .i64 c.Span, D.int .i64 c.Room, D.int .i64 c.Tries, D.int .i64 c.Retry], D.int .u64 p.Promises]) (args := [D.agg [D.int .i64 c.F_, D.int .i64 c.Deciders, D.int .i64 c.Targets, D.int .i64 c.Routers, D.int .i64 c.Observers, D.sl false 1 (List.map (eInt .i64) c.Tiers), D.int .i64 c.Every, D.int .i64 c.Wait, D.int .i64 c.Rise, D.int .i64 c.Fall, D.int .i64 c.Fresh, D.int .i64 c.L_, D.int .i64 c.M_, D.int .i64 c.Dwell, D.int .i64 c.D_, D.int .i64 c.W_, D.int .i64 c.B_, D.int .i64 c.Hit, D.int .i64 c.Suppress, D.int .i64 c.Reuse, D.int .i64 c.Half, D.int .i64 c.First, D.int .i64 c.Step, D.int .i64 c.StepTime, D.int .i64 c.S_, D.int .i64 c.Cap, D.int .i64 c.Span, D.int .i64 c.Room, D.int .i64 c.Tries, D.int .i64 c.Retry], D.int .u64 p.Promises]) (fun y1 => D.bool y1) (fun y1 => []) h (by kernel_rfl) ⟨rfl, rfl⟩ ok1 (fun y1 h1 h => ?_)
  refine adv_ok hm 8 _ ?_
  refine p_split h (by kernel_rfl) (fun h2 h => ?_) (fun h2 h => ?_)
  · -- true
    refine adv_ok hm 15 _ ?_
    refine p_split h (by kernel_rfl) (fun h3 h => ?_) (fun h3 h => ?_)
    · -- true
      refine adv_ok hm 19 _ ?_
      obtain rfl := Option.some.inj h
      exact r_retF [] (d := D.agg [D.int .i64 p.Epoch, D.int .i64 p.Ballot, D.int .i64 2, D.int .i64 p.Own.Epoch, D.int .i64 p.Own.Target, D.int .i64 p.Own.Prev, D.int .i64 p.Own.Spill, D.int .i64 p.Own.Percent, D.int .i64 p.Own.Stamp, D.int .i64 p.Own.Since, D.int .i64 p.Own.Ramped, D.int .u64 p.Own.Up, D.int .u64 p.Own.Sup, D.sl false 1 (List.map (eInt .i64) p.Own.Pen), D.sl false 1 (List.map (eInt .i64) p.Own.Changes), D.int .i64 p.Best, D.int .i64 p.Own.Epoch, D.int .i64 p.Own.Target, D.int .i64 p.Own.Prev, D.int .i64 p.Own.Spill, D.int .i64 p.Own.Percent, D.int .i64 p.Own.Stamp, D.int .i64 p.Own.Since, D.int .i64 p.Own.Ramped, D.int .u64 p.Own.Up, D.int .u64 p.Own.Sup, D.sl false 1 (List.map (eInt .i64) p.Own.Pen), D.sl false 1 (List.map (eInt .i64) p.Own.Changes), D.int .u64 p.Promises, D.int .u64 p.Accepts]) (s := []) (by kernel_rfl) ⟨rfl, rfl⟩
    · -- false
      refine adv_ok hm 11 _ ?_
      obtain rfl := Option.some.inj h
      exact r_retF [] (d := D.agg [D.int .i64 p.Epoch, D.int .i64 p.Ballot, D.int .i64 2, D.int .i64 p.Own.Epoch, D.int .i64 p.Own.Target, D.int .i64 p.Own.Prev, D.int .i64 p.Own.Spill, D.int .i64 p.Own.Percent, D.int .i64 p.Own.Stamp, D.int .i64 p.Own.Since, D.int .i64 p.Own.Ramped, D.int .u64 p.Own.Up, D.int .u64 p.Own.Sup, D.sl false 1 (List.map (eInt .i64) p.Own.Pen), D.sl false 1 (List.map (eInt .i64) p.Own.Changes), D.int .i64 p.Best, D.int .i64 p.Value.Epoch, D.int .i64 p.Value.Target, D.int .i64 p.Value.Prev, D.int .i64 p.Value.Spill, D.int .i64 p.Value.Percent, D.int .i64 p.Value.Stamp, D.int .i64 p.Value.Since, D.int .i64 p.Value.Ramped, D.int .u64 p.Value.Up, D.int .u64 p.Value.Sup, D.sl false 1 (List.map (eInt .i64) p.Value.Pen), D.sl false 1 (List.map (eInt .i64) p.Value.Changes), D.int .u64 p.Promises, D.int .u64 p.Accepts]) (s := []) (by kernel_rfl) ⟨rfl, rfl⟩
  · -- false
    refine adv_ok hm 11 _ ?_
    obtain rfl := Option.some.inj h
    exact r_retF [] (d := D.agg [D.int .i64 p.Epoch, D.int .i64 p.Ballot, D.int .i64 p.Phase, D.int .i64 p.Own.Epoch, D.int .i64 p.Own.Target, D.int .i64 p.Own.Prev, D.int .i64 p.Own.Spill, D.int .i64 p.Own.Percent, D.int .i64 p.Own.Stamp, D.int .i64 p.Own.Since, D.int .i64 p.Own.Ramped, D.int .u64 p.Own.Up, D.int .u64 p.Own.Sup, D.sl false 1 (List.map (eInt .i64) p.Own.Pen), D.sl false 1 (List.map (eInt .i64) p.Own.Changes), D.int .i64 p.Best, D.int .i64 p.Value.Epoch, D.int .i64 p.Value.Target, D.int .i64 p.Value.Prev, D.int .i64 p.Value.Spill, D.int .i64 p.Value.Percent, D.int .i64 p.Value.Stamp, D.int .i64 p.Value.Since, D.int .i64 p.Value.Ramped, D.int .u64 p.Value.Up, D.int .u64 p.Value.Sup, D.sl false 1 (List.map (eInt .i64) p.Value.Pen), D.sl false 1 (List.map (eInt .i64) p.Value.Changes), D.int .u64 p.Promises, D.int .u64 p.Accepts]) (s := []) (by kernel_rfl) ⟨rfl, rfl⟩
noncomputable def ref16_Promise_3M (t46 : Bool) (p : GProp) (c : Config) (m : Msg) (b3 : GProp) : M := { td := [It.code (codeAt (bodyOf Try.f13) [1, 1, 1, 0, 1]), It.code (codeAt (bodyOf Try.f13) [1, 1, 1, 1])], fr := [(3, D.ptr 0 0 0), (4, D.ptr 1 0 0), (5, D.ptr 2 0 0), (6, D.ptr 3 0 0), (46, D.bool t46)], st := [some { sz := 30, deep := false, rows := [[D.int .i64 p.Epoch, D.int .i64 p.Ballot, D.int .i64 p.Phase, D.int .i64 p.Own.Epoch, D.int .i64 p.Own.Target, D.int .i64 p.Own.Prev, D.int .i64 p.Own.Spill, D.int .i64 p.Own.Percent, D.int .i64 p.Own.Stamp, D.int .i64 p.Own.Since, D.int .i64 p.Own.Ramped, D.int .u64 p.Own.Up, D.int .u64 p.Own.Sup, D.sl false 1 (List.map (eInt .i64) p.Own.Pen), D.sl false 1 (List.map (eInt .i64) p.Own.Changes), D.int .i64 p.Best, D.int .i64 p.Value.Epoch, D.int .i64 p.Value.Target, D.int .i64 p.Value.Prev, D.int .i64 p.Value.Spill, D.int .i64 p.Value.Percent, D.int .i64 p.Value.Stamp, D.int .i64 p.Value.Since, D.int .i64 p.Value.Ramped, D.int .u64 p.Value.Up, D.int .u64 p.Value.Sup, D.sl false 1 (List.map (eInt .i64) p.Value.Pen), D.sl false 1 (List.map (eInt .i64) p.Value.Changes), D.int .u64 p.Promises, D.int .u64 p.Accepts]] }, some { sz := 30, deep := false, rows := [[D.int .i64 c.F_, D.int .i64 c.Deciders, D.int .i64 c.Targets, D.int .i64 c.Routers, D.int .i64 c.Observers, D.sl false 1 (List.map (eInt .i64) c.Tiers), D.int .i64 c.Every, D.int .i64 c.Wait, D.int .i64 c.Rise, D.int .i64 c.Fall, D.int .i64 c.Fresh, D.int .i64 c.L_, D.int .i64 c.M_, D.int .i64 c.Dwell, D.int .i64 c.D_, D.int .i64 c.W_, D.int .i64 c.B_, D.int .i64 c.Hit, D.int .i64 c.Suppress, D.int .i64 c.Reuse, D.int .i64 c.Half, D.int .i64 c.First, D.int .i64 c.Step, D.int .i64 c.StepTime, D.int .i64 c.S_, D.int .i64 c.Cap, D.int .i64 c.Span, D.int .i64 c.Room, D.int .i64 c.Tries, D.int .i64 c.Retry]] }, some { sz := 26, deep := false, rows := [[D.int .i64 m.Kind, D.int .i64 m.From, D.int .i64 m.To, D.int .i64 m.Epoch, D.int .i64 m.Ballot, D.int .i64 m.Accepted, D.int .i64 m.Nonce, D.int .i64 m.Time, D.int .u64 m.Up, D.int .i64 m.Code, D.bool m.HasPlan, D.int .i64 m.Plan.Epoch, D.int .i64 m.Plan.Target, D.int .i64 m.Plan.Prev, D.int .i64 m.Plan.Spill, D.int .i64 m.Plan.Percent, D.int .i64 m.Plan.Stamp, D.int .i64 m.Plan.Since, D.int .i64 m.Plan.Ramped, D.int .u64 m.Plan.Up, D.int .u64 m.Plan.Sup, D.sl false 1 (List.map (eInt .i64) m.Plan.Pen), D.sl false 1 (List.map (eInt .i64) m.Plan.Changes), D.sl false 1 (List.map (eInt .i64) m.ID), D.sl false 1 (List.map (eInt .u8) m.Session), D.sl false 1 (List.map (eInt .u8) m.Payload)]] }, some { sz := 30, deep := false, rows := [[D.int .i64 b3.Epoch, D.int .i64 b3.Ballot, D.int .i64 b3.Phase, D.int .i64 b3.Own.Epoch, D.int .i64 b3.Own.Target, D.int .i64 b3.Own.Prev, D.int .i64 b3.Own.Spill, D.int .i64 b3.Own.Percent, D.int .i64 b3.Own.Stamp, D.int .i64 b3.Own.Since, D.int .i64 b3.Own.Ramped, D.int .u64 b3.Own.Up, D.int .u64 b3.Own.Sup, D.sl false 1 (List.map (eInt .i64) b3.Own.Pen), D.sl false 1 (List.map (eInt .i64) b3.Own.Changes), D.int .i64 b3.Best, D.int .i64 b3.Value.Epoch, D.int .i64 b3.Value.Target, D.int .i64 b3.Value.Prev, D.int .i64 b3.Value.Spill, D.int .i64 b3.Value.Percent, D.int .i64 b3.Value.Stamp, D.int .i64 b3.Value.Since, D.int .i64 b3.Value.Ramped, D.int .u64 b3.Value.Up, D.int .u64 b3.Value.Sup, D.sl false 1 (List.map (eInt .i64) b3.Value.Pen), D.sl false 1 (List.map (eInt .i64) b3.Value.Changes), D.int .u64 b3.Promises, D.int .u64 b3.Accepts]] }] }
noncomputable def ref16_Promise_3 (t46 : Bool) (p : GProp) (c : Config) (m : Msg) (b3 : GProp) : Option GProp := (bif t46 then (ref16_Promise_2 (⟨p.Epoch, p.Ballot, p.Phase, p.Own, m.Accepted, m.Plan, p.Promises, p.Accepts⟩ : GProp) c b3) else (ref16_Promise_2 p c b3))
theorem ref16_Promise_3_ok {t46 : Bool} {p : GProp} {c : Config} {m : Msg} {b3 : GProp} {r : GProp} (h : ref16_Promise_3 t46 p c m b3 = some r) : FinQ E ⟨Try.f13, false, 0⟩ (QW (ref16_Promise_Q r)) (.go (ref16_Promise_3M t46 p c m b3)) := by
  unfold ref16_Promise_3 at h
  refine adv_ok hm 1 _ ?_
  refine p_split h (by kernel_rfl) (fun h1 h => ?_) (fun h1 h => ?_)
  · -- true
    refine adv_ok hm 19 _ ?_
    exact r_cut 88 [] (m' := (ref16_Promise_2M (⟨p.Epoch, p.Ballot, p.Phase, p.Own, m.Accepted, m.Plan, p.Promises, p.Accepts⟩ : GProp) c b3)) (by kernel_rfl) (ref16_Promise_2_ok h)
  · -- false
    refine adv_ok hm 1 _ ?_
    exact r_cut 88 [] (m' := (ref16_Promise_2M p c b3)) (by kernel_rfl) (ref16_Promise_2_ok h)
noncomputable def ref16_Promise_1M (t29 : Bool) (p : GProp) (c : Config) (m : Msg) (b3 : GProp) : M := { td := [It.code (codeAt (bodyOf Try.f13) [1, 0, 1]), It.code (codeAt (bodyOf Try.f13) [1, 1])], fr := [(3, D.ptr 0 0 0), (4, D.ptr 1 0 0), (5, D.ptr 2 0 0), (6, D.ptr 3 0 0), (29, D.bool t29)], st := [some { sz := 30, deep := false, rows := [[D.int .i64 p.Epoch, D.int .i64 p.Ballot, D.int .i64 p.Phase, D.int .i64 p.Own.Epoch, D.int .i64 p.Own.Target, D.int .i64 p.Own.Prev, D.int .i64 p.Own.Spill, D.int .i64 p.Own.Percent, D.int .i64 p.Own.Stamp, D.int .i64 p.Own.Since, D.int .i64 p.Own.Ramped, D.int .u64 p.Own.Up, D.int .u64 p.Own.Sup, D.sl false 1 (List.map (eInt .i64) p.Own.Pen), D.sl false 1 (List.map (eInt .i64) p.Own.Changes), D.int .i64 p.Best, D.int .i64 p.Value.Epoch, D.int .i64 p.Value.Target, D.int .i64 p.Value.Prev, D.int .i64 p.Value.Spill, D.int .i64 p.Value.Percent, D.int .i64 p.Value.Stamp, D.int .i64 p.Value.Since, D.int .i64 p.Value.Ramped, D.int .u64 p.Value.Up, D.int .u64 p.Value.Sup, D.sl false 1 (List.map (eInt .i64) p.Value.Pen), D.sl false 1 (List.map (eInt .i64) p.Value.Changes), D.int .u64 p.Promises, D.int .u64 p.Accepts]] }, some { sz := 30, deep := false, rows := [[D.int .i64 c.F_, D.int .i64 c.Deciders, D.int .i64 c.Targets, D.int .i64 c.Routers, D.int .i64 c.Observers, D.sl false 1 (List.map (eInt .i64) c.Tiers), D.int .i64 c.Every, D.int .i64 c.Wait, D.int .i64 c.Rise, D.int .i64 c.Fall, D.int .i64 c.Fresh, D.int .i64 c.L_, D.int .i64 c.M_, D.int .i64 c.Dwell, D.int .i64 c.D_, D.int .i64 c.W_, D.int .i64 c.B_, D.int .i64 c.Hit, D.int .i64 c.Suppress, D.int .i64 c.Reuse, D.int .i64 c.Half, D.int .i64 c.First, D.int .i64 c.Step, D.int .i64 c.StepTime, D.int .i64 c.S_, D.int .i64 c.Cap, D.int .i64 c.Span, D.int .i64 c.Room, D.int .i64 c.Tries, D.int .i64 c.Retry]] }, some { sz := 26, deep := false, rows := [[D.int .i64 m.Kind, D.int .i64 m.From, D.int .i64 m.To, D.int .i64 m.Epoch, D.int .i64 m.Ballot, D.int .i64 m.Accepted, D.int .i64 m.Nonce, D.int .i64 m.Time, D.int .u64 m.Up, D.int .i64 m.Code, D.bool m.HasPlan, D.int .i64 m.Plan.Epoch, D.int .i64 m.Plan.Target, D.int .i64 m.Plan.Prev, D.int .i64 m.Plan.Spill, D.int .i64 m.Plan.Percent, D.int .i64 m.Plan.Stamp, D.int .i64 m.Plan.Since, D.int .i64 m.Plan.Ramped, D.int .u64 m.Plan.Up, D.int .u64 m.Plan.Sup, D.sl false 1 (List.map (eInt .i64) m.Plan.Pen), D.sl false 1 (List.map (eInt .i64) m.Plan.Changes), D.sl false 1 (List.map (eInt .i64) m.ID), D.sl false 1 (List.map (eInt .u8) m.Session), D.sl false 1 (List.map (eInt .u8) m.Payload)]] }, some { sz := 30, deep := false, rows := [[D.int .i64 b3.Epoch, D.int .i64 b3.Ballot, D.int .i64 b3.Phase, D.int .i64 b3.Own.Epoch, D.int .i64 b3.Own.Target, D.int .i64 b3.Own.Prev, D.int .i64 b3.Own.Spill, D.int .i64 b3.Own.Percent, D.int .i64 b3.Own.Stamp, D.int .i64 b3.Own.Since, D.int .i64 b3.Own.Ramped, D.int .u64 b3.Own.Up, D.int .u64 b3.Own.Sup, D.sl false 1 (List.map (eInt .i64) b3.Own.Pen), D.sl false 1 (List.map (eInt .i64) b3.Own.Changes), D.int .i64 b3.Best, D.int .i64 b3.Value.Epoch, D.int .i64 b3.Value.Target, D.int .i64 b3.Value.Prev, D.int .i64 b3.Value.Spill, D.int .i64 b3.Value.Percent, D.int .i64 b3.Value.Stamp, D.int .i64 b3.Value.Since, D.int .i64 b3.Value.Ramped, D.int .u64 b3.Value.Up, D.int .u64 b3.Value.Sup, D.sl false 1 (List.map (eInt .i64) b3.Value.Pen), D.sl false 1 (List.map (eInt .i64) b3.Value.Changes), D.int .u64 b3.Promises, D.int .u64 b3.Accepts]] }] }
noncomputable def ref16_Promise_1 (t29 : Bool) (p : GProp) (c : Config) (m : Msg) (b3 : GProp) : Option GProp := (bif t29 then (some p) else (bif (!decide ((m.From : Int) < 0)) then (bif m.HasPlan then (ref16_Promise_3 (decide ((m.Accepted : Int) > p.Best)) (⟨p.Epoch, p.Ballot, p.Phase, p.Own, p.Best, p.Value, (orI .u64 p.Promises (shlI .u64 1 m.From)), p.Accepts⟩ : GProp) c m b3) else (ref16_Promise_3 false (⟨p.Epoch, p.Ballot, p.Phase, p.Own, p.Best, p.Value, (orI .u64 p.Promises (shlI .u64 1 m.From)), p.Accepts⟩ : GProp) c m b3)) else none))
theorem ref16_Promise_1_ok {t29 : Bool} {p : GProp} {c : Config} {m : Msg} {b3 : GProp} {r : GProp} (h : ref16_Promise_1 t29 p c m b3 = some r) : FinQ E ⟨Try.f13, false, 0⟩ (QW (ref16_Promise_Q r)) (.go (ref16_Promise_1M t29 p c m b3)) := by
  unfold ref16_Promise_1 at h
  refine adv_ok hm 1 _ ?_
  refine p_split h (by kernel_rfl) (fun h1 h => ?_) (fun h1 h => ?_)
  · -- true
    refine adv_ok hm 10 _ ?_
    obtain rfl := Option.some.inj h
    exact r_retF [] (d := D.agg [D.int .i64 p.Epoch, D.int .i64 p.Ballot, D.int .i64 p.Phase, D.int .i64 p.Own.Epoch, D.int .i64 p.Own.Target, D.int .i64 p.Own.Prev, D.int .i64 p.Own.Spill, D.int .i64 p.Own.Percent, D.int .i64 p.Own.Stamp, D.int .i64 p.Own.Since, D.int .i64 p.Own.Ramped, D.int .u64 p.Own.Up, D.int .u64 p.Own.Sup, D.sl false 1 (List.map (eInt .i64) p.Own.Pen), D.sl false 1 (List.map (eInt .i64) p.Own.Changes), D.int .i64 p.Best, D.int .i64 p.Value.Epoch, D.int .i64 p.Value.Target, D.int .i64 p.Value.Prev, D.int .i64 p.Value.Spill, D.int .i64 p.Value.Percent, D.int .i64 p.Value.Stamp, D.int .i64 p.Value.Since, D.int .i64 p.Value.Ramped, D.int .u64 p.Value.Up, D.int .u64 p.Value.Sup, D.sl false 1 (List.map (eInt .i64) p.Value.Pen), D.sl false 1 (List.map (eInt .i64) p.Value.Changes), D.int .u64 p.Promises, D.int .u64 p.Accepts]) (s := []) (by kernel_rfl) ⟨rfl, rfl⟩
  · -- false
    refine adv_ok hm 5 _ ?_
    refine p_need h (by kernel_rfl) (fun h2 h => ?_)
    refine adv_ok hm 10 _ ?_
    refine p_split h (by kernel_rfl) (fun h3 h => ?_) (fun h3 h => ?_)
    · -- true
      refine adv_ok hm 13 _ ?_
      exact r_cut 70368744177784 [] (m' := (ref16_Promise_3M (decide ((m.Accepted : Int) > p.Best)) (⟨p.Epoch, p.Ballot, p.Phase, p.Own, p.Best, p.Value, (orI .u64 p.Promises (shlI .u64 1 m.From)), p.Accepts⟩ : GProp) c m b3)) (by kernel_rfl) (ref16_Promise_3_ok h)
    · -- false
      refine adv_ok hm 11 _ ?_
      exact r_cut 70368744177784 [] (m' := (ref16_Promise_3M false (⟨p.Epoch, p.Ballot, p.Phase, p.Own, p.Best, p.Value, (orI .u64 p.Promises (shlI .u64 1 m.From)), p.Accepts⟩ : GProp) c m b3)) (by kernel_rfl) (ref16_Promise_3_ok h)
noncomputable def ref16_Promise (p : GProp) (c : Config) (m : Msg) : Option GProp := (bif ((p.Phase : Int) != 1) then (ref16_Promise_1 true p c m (⟨0, 0, 0, (⟨0, 0, 0, 0, 0, 0, 0, 0, 0, 0, [], []⟩ : Plan), 0, (⟨0, 0, 0, 0, 0, 0, 0, 0, 0, 0, [], []⟩ : Plan), 0, 0⟩ : GProp)) else ((ref16_answers p c m 5).bind fun y2 => (bif (!y2) then (ref16_Promise_1 true p c m (⟨0, 0, 0, (⟨0, 0, 0, 0, 0, 0, 0, 0, 0, 0, [], []⟩ : Plan), 0, (⟨0, 0, 0, 0, 0, 0, 0, 0, 0, 0, [], []⟩ : Plan), 0, 0⟩ : GProp)) else (bif m.HasPlan then (ref16_Promise_1 ((m.Plan.Epoch : Int) != p.Epoch) p c m (⟨0, 0, 0, (⟨0, 0, 0, 0, 0, 0, 0, 0, 0, 0, [], []⟩ : Plan), 0, (⟨0, 0, 0, 0, 0, 0, 0, 0, 0, 0, [], []⟩ : Plan), 0, 0⟩ : GProp)) else (ref16_Promise_1 false p c m (⟨0, 0, 0, (⟨0, 0, 0, 0, 0, 0, 0, 0, 0, 0, [], []⟩ : Plan), 0, (⟨0, 0, 0, 0, 0, 0, 0, 0, 0, 0, [], []⟩ : Plan), 0, 0⟩ : GProp))))))
theorem ref16_Promise_ok {p : GProp} {c : Config} {m : Msg} {r : GProp} (h : ref16_Promise p c m = some r) : Sound E 13 [D.agg [D.int .i64 p.Epoch, D.int .i64 p.Ballot, D.int .i64 p.Phase, D.int .i64 p.Own.Epoch, D.int .i64 p.Own.Target, D.int .i64 p.Own.Prev, D.int .i64 p.Own.Spill, D.int .i64 p.Own.Percent, D.int .i64 p.Own.Stamp, D.int .i64 p.Own.Since, D.int .i64 p.Own.Ramped, D.int .u64 p.Own.Up, D.int .u64 p.Own.Sup, D.sl false 1 (List.map (eInt .i64) p.Own.Pen), D.sl false 1 (List.map (eInt .i64) p.Own.Changes), D.int .i64 p.Best, D.int .i64 p.Value.Epoch, D.int .i64 p.Value.Target, D.int .i64 p.Value.Prev, D.int .i64 p.Value.Spill, D.int .i64 p.Value.Percent, D.int .i64 p.Value.Stamp, D.int .i64 p.Value.Since, D.int .i64 p.Value.Ramped, D.int .u64 p.Value.Up, D.int .u64 p.Value.Sup, D.sl false 1 (List.map (eInt .i64) p.Value.Pen), D.sl false 1 (List.map (eInt .i64) p.Value.Changes), D.int .u64 p.Promises, D.int .u64 p.Accepts], D.agg [D.int .i64 c.F_, D.int .i64 c.Deciders, D.int .i64 c.Targets, D.int .i64 c.Routers, D.int .i64 c.Observers, D.sl false 1 (List.map (eInt .i64) c.Tiers), D.int .i64 c.Every, D.int .i64 c.Wait, D.int .i64 c.Rise, D.int .i64 c.Fall, D.int .i64 c.Fresh, D.int .i64 c.L_, D.int .i64 c.M_, D.int .i64 c.Dwell, D.int .i64 c.D_, D.int .i64 c.W_, D.int .i64 c.B_, D.int .i64 c.Hit, D.int .i64 c.Suppress, D.int .i64 c.Reuse, D.int .i64 c.Half, D.int .i64 c.First, D.int .i64 c.Step, D.int .i64 c.StepTime, D.int .i64 c.S_, D.int .i64 c.Cap, D.int .i64 c.Span, D.int .i64 c.Room, D.int .i64 c.Tries, D.int .i64 c.Retry], D.agg [D.int .i64 m.Kind, D.int .i64 m.From, D.int .i64 m.To, D.int .i64 m.Epoch, D.int .i64 m.Ballot, D.int .i64 m.Accepted, D.int .i64 m.Nonce, D.int .i64 m.Time, D.int .u64 m.Up, D.int .i64 m.Code, D.bool m.HasPlan, D.int .i64 m.Plan.Epoch, D.int .i64 m.Plan.Target, D.int .i64 m.Plan.Prev, D.int .i64 m.Plan.Spill, D.int .i64 m.Plan.Percent, D.int .i64 m.Plan.Stamp, D.int .i64 m.Plan.Since, D.int .i64 m.Plan.Ramped, D.int .u64 m.Plan.Up, D.int .u64 m.Plan.Sup, D.sl false 1 (List.map (eInt .i64) m.Plan.Pen), D.sl false 1 (List.map (eInt .i64) m.Plan.Changes), D.sl false 1 (List.map (eInt .i64) m.ID), D.sl false 1 (List.map (eInt .u8) m.Session), D.sl false 1 (List.map (eInt .u8) m.Payload)]] [] (ref16_Promise_Q r) := by
  refine sound_ofW (m := ⟨[.code (bodyOf Try.f13)], [(0, D.agg [D.int .i64 p.Epoch, D.int .i64 p.Ballot, D.int .i64 p.Phase, D.int .i64 p.Own.Epoch, D.int .i64 p.Own.Target, D.int .i64 p.Own.Prev, D.int .i64 p.Own.Spill, D.int .i64 p.Own.Percent, D.int .i64 p.Own.Stamp, D.int .i64 p.Own.Since, D.int .i64 p.Own.Ramped, D.int .u64 p.Own.Up, D.int .u64 p.Own.Sup, D.sl false 1 (List.map (eInt .i64) p.Own.Pen), D.sl false 1 (List.map (eInt .i64) p.Own.Changes), D.int .i64 p.Best, D.int .i64 p.Value.Epoch, D.int .i64 p.Value.Target, D.int .i64 p.Value.Prev, D.int .i64 p.Value.Spill, D.int .i64 p.Value.Percent, D.int .i64 p.Value.Stamp, D.int .i64 p.Value.Since, D.int .i64 p.Value.Ramped, D.int .u64 p.Value.Up, D.int .u64 p.Value.Sup, D.sl false 1 (List.map (eInt .i64) p.Value.Pen), D.sl false 1 (List.map (eInt .i64) p.Value.Changes), D.int .u64 p.Promises, D.int .u64 p.Accepts]), (1, D.agg [D.int .i64 c.F_, D.int .i64 c.Deciders, D.int .i64 c.Targets, D.int .i64 c.Routers, D.int .i64 c.Observers, D.sl false 1 (List.map (eInt .i64) c.Tiers), D.int .i64 c.Every, D.int .i64 c.Wait, D.int .i64 c.Rise, D.int .i64 c.Fall, D.int .i64 c.Fresh, D.int .i64 c.L_, D.int .i64 c.M_, D.int .i64 c.Dwell, D.int .i64 c.D_, D.int .i64 c.W_, D.int .i64 c.B_, D.int .i64 c.Hit, D.int .i64 c.Suppress, D.int .i64 c.Reuse, D.int .i64 c.Half, D.int .i64 c.First, D.int .i64 c.Step, D.int .i64 c.StepTime, D.int .i64 c.S_, D.int .i64 c.Cap, D.int .i64 c.Span, D.int .i64 c.Room, D.int .i64 c.Tries, D.int .i64 c.Retry]), (2, D.agg [D.int .i64 m.Kind, D.int .i64 m.From, D.int .i64 m.To, D.int .i64 m.Epoch, D.int .i64 m.Ballot, D.int .i64 m.Accepted, D.int .i64 m.Nonce, D.int .i64 m.Time, D.int .u64 m.Up, D.int .i64 m.Code, D.bool m.HasPlan, D.int .i64 m.Plan.Epoch, D.int .i64 m.Plan.Target, D.int .i64 m.Plan.Prev, D.int .i64 m.Plan.Spill, D.int .i64 m.Plan.Percent, D.int .i64 m.Plan.Stamp, D.int .i64 m.Plan.Since, D.int .i64 m.Plan.Ramped, D.int .u64 m.Plan.Up, D.int .u64 m.Plan.Sup, D.sl false 1 (List.map (eInt .i64) m.Plan.Pen), D.sl false 1 (List.map (eInt .i64) m.Plan.Changes), D.sl false 1 (List.map (eInt .i64) m.ID), D.sl false 1 (List.map (eInt .u8) m.Session), D.sl false 1 (List.map (eInt .u8) m.Payload)])], []⟩) (fn := Try.f13) (by kernel_rfl) (by kernel_rfl) ?_
  show FinQ E ⟨Try.f13, false, 0⟩ (QW (ref16_Promise_Q r)) _
  unfold ref16_Promise at h
  refine adv_ok hm 16 _ ?_
  refine p_split h (by kernel_rfl) (fun h1 h => ?_) (fun h1 h => ?_)
  · -- true
    refine adv_ok hm 28 _ ?_
    exact r_cut 536871032 [.blk 3 [some 1, some 1, some 1, some 1]] (m' := (ref16_Promise_1M true p c m (⟨0, 0, 0, (⟨0, 0, 0, 0, 0, 0, 0, 0, 0, 0, [], []⟩ : Plan), 0, (⟨0, 0, 0, 0, 0, 0, 0, 0, 0, 0, [], []⟩ : Plan), 0, 0⟩ : GProp))) (by kernel_rfl) (ref16_Promise_1_ok h)
  · -- false
    refine adv_ok hm 9 _ ?_
    have ok2 := fun (y : Bool) (hy : ref16_answers p c m 5 = some y) => ref16_answers_ok hy
    refine p_callE [] (args1 := [D.agg [D.int .i64 p.Epoch, D.int .i64 p.Ballot, D.int .i64 p.Phase, D.int .i64 p.Own.Epoch, D.int .i64 p.Own.Target, D.int .i64 p.Own.Prev, D.int .i64 p.Own.Spill, D.int .i64 p.Own.Percent, D.int .i64 p.Own.Stamp, D.int .i64 p.Own.Since, D.int .i64 p.Own.Ramped, D.int .u64 p.Own.Up, D.int .u64 p.Own.Sup, D.sl false 1 (List.map (eInt .i64) p.Own.Pen), D.sl false 1 (List.map (eInt .i64) p.Own.Changes), D.int .i64 p.Best, D.int .i64 p.Value.Epoch, D.int .i64 p.Value.Target, D.int .i64 p.Value.Prev, D.int .i64 p.Value.Spill, D.int .i64 p.Value.Percent, D.int .i64 p.Value.Stamp, D.int .i64 p.Value.Since, D.int .i64 p.Value.Ramped, D.int .u64 p.Value.Up, D.int .u64 p.Value.Sup, D.sl false 1 (List.map (eInt .i64) p.Value.Pen), D.sl false 1 (List.map (eInt .i64) p.Value.Changes), D.int .u64 p.Promises, D.int .u64 p.Accepts], D.agg [D.int .i64 c.F_, D.int .i64 c.Deciders, D.int .i64 c.Targets, D.int .i64 c.Routers, D.int .i64 c.Observers, D.sl false 1 (List.map (eInt .i64) c.Tiers), D.int .i64 c.Every, D.int .i64 c.Wait, D.int .i64 c.Rise, D.int .i64 c.Fall, D.int .i64 c.Fresh, D.int .i64 c.L_, D.int .i64 c.M_, D.int .i64 c.Dwell, D.int .i64 c.D_, D.int .i64 c.W_, D.int .i64 c.B_, D.int .i64 c.Hit, D.int .i64 c.Suppress, D.int .i64 c.Reuse, D.int .i64 c.Half, D.int .i64 c.First, D.int .i64 c.Step, D.int .i64 c.StepTime, D.int .i64 c.S_, D.int .i64 c.Cap, D.int .i64 c.Span, D.int .i64 c.Room, D.int .i64 c.Tries, D.int .i64 c.Retry], D.agg [D.int .i64 m.Kind, D.int .i64 m.From, D.int .i64 m.To, D.int .i64 m.Epoch, D.int .i64 m.Ballot, D.int .i64 m.Accepted, D.int .i64 m.Nonce, D.int .i64 m.Time, D.int .u64 m.Up, D.int .i64 m.Code, D.bool m.HasPlan, D.int .i64 m.Plan.Epoch, D.int .i64 m.Plan.Target, D.int .i64 m.Plan.Prev, D.int .i64 m.Plan.Spill, D.int .i64 m.Plan.Percent, D.int .i64 m.Plan.Stamp, D.int .i64 m.Plan.Since, D.int .i64 m.Plan.Ramped, D.int .u64 m.Plan.Up, D.int .u64 m.Plan.Sup, D.sl false 1 (List.map (eInt .i64) m.Plan.Pen), D.sl false 1 (List.map (eInt .i64) m.Plan.Changes), D.sl false 1 (List.map (eInt .i64) m.ID), D.sl false 1 (List.map (eInt .u8) m.Session), D.sl false 1 (List.map (eInt .u8) m.Payload)], D.int .i64 5]) (args := [D.agg [D.int .i64 p.Epoch, D.int .i64 p.Ballot, D.int .i64 p.Phase, D.int .i64 p.Own.Epoch, D.int .i64 p.Own.Target, D.int .i64 p.Own.Prev, D.int .i64 p.Own.Spill, D.int .i64 p.Own.Percent, D.int .i64 p.Own.Stamp, D.int .i64 p.Own.Since, D.int .i64 p.Own.Ramped, D.int .u64 p.Own.Up, D.int .u64 p.Own.Sup, D.sl false 1 (List.map (eInt .i64) p.Own.Pen), D.sl false 1 (List.map (eInt .i64) p.Own.Changes), D.int .i64 p.Best, D.int .i64 p.Value.Epoch, D.int .i64 p.Value.Target, D.int .i64 p.Value.Prev, D.int .i64 p.Value.Spill, D.int .i64 p.Value.Percent, D.int .i64 p.Value.Stamp, D.int .i64 p.Value.Since, D.int .i64 p.Value.Ramped, D.int .u64 p.Value.Up, D.int .u64 p.Value.Sup, D.sl false 1 (List.map (eInt .i64) p.Value.Pen), D.sl false 1 (List.map (eInt .i64) p.Value.Changes), D.int .u64 p.Promises, D.int .u64 p.Accepts], D.agg [D.int .i64 c.F_, D.int .i64 c.Deciders, D.int .i64 c.Targets, D.int .i64 c.Routers, D.int .i64 c.Observers, D.sl false 1 (List.map (eInt .i64) c.Tiers), D.int .i64 c.Every, D.int .i64 c.Wait, D.int .i64 c.Rise, D.int .i64 c.Fall, D.int .i64 c.Fresh, D.int .i64 c.L_, D.int .i64 c.M_, D.int .i64 c.Dwell, D.int .i64 c.D_, D.int .i64 c.W_, D.int .i64 c.B_, D.int .i64 c.Hit, D.int .i64 c.Suppress, D.int .i64 c.Reuse, D.int .i64 c.Half, D.int .i64 c.First, D.int .i64 c.Step, D.int .i64 c.StepTime, D.int .i64 c.S_, D.int .i64 c.Cap, D.int .i64 c.Span, D.int .i64 c.Room, D.int .i64 c.Tries, D.int .i64 c.Retry], D.agg [D.int .i64 m.Kind, D.int .i64 m.From, D.int .i64 m.To, D.int .i64 m.Epoch, D.int .i64 m.Ballot, D.int .i64 m.Accepted, D.int .i64 m.Nonce, D.int .i64 m.Time, D.int .u64 m.Up, D.int .i64 m.Code, D.bool m.HasPlan, D.int .i64 m.Plan.Epoch, D.int .i64 m.Plan.Target, D.int .i64 m.Plan.Prev, D.int .i64 m.Plan.Spill, D.int .i64 m.Plan.Percent, D.int .i64 m.Plan.Stamp, D.int .i64 m.Plan.Since, D.int .i64 m.Plan.Ramped, D.int .u64 m.Plan.Up, D.int .u64 m.Plan.Sup, D.sl false 1 (List.map (eInt .i64) m.Plan.Pen), D.sl false 1 (List.map (eInt .i64) m.Plan.Changes), D.sl false 1 (List.map (eInt .i64) m.ID), D.sl false 1 (List.map (eInt .u8) m.Session), D.sl false 1 (List.map (eInt .u8) m.Payload)], D.int .i64 5]) (fun y2 => D.bool y2) (fun y2 => []) h (by kernel_rfl) ⟨rfl, rfl⟩ ok2 (fun y2 h2 h => ?_)
    refine adv_ok hm 6 _ ?_
    refine p_split h (by kernel_rfl) (fun h3 h => ?_) (fun h3 h => ?_)
    · -- true
      refine adv_ok hm 15 _ ?_
      exact r_cut 536871032 [.blk 3 [some 1, some 1, some 1, some 1]] (m' := (ref16_Promise_1M true p c m (⟨0, 0, 0, (⟨0, 0, 0, 0, 0, 0, 0, 0, 0, 0, [], []⟩ : Plan), 0, (⟨0, 0, 0, 0, 0, 0, 0, 0, 0, 0, [], []⟩ : Plan), 0, 0⟩ : GProp))) (by kernel_rfl) (ref16_Promise_1_ok h)
    · -- false
      refine adv_ok hm 6 _ ?_
      refine p_split h (by kernel_rfl) (fun h4 h => ?_) (fun h4 h => ?_)
      · -- true
        refine adv_ok hm 18 _ ?_
        exact r_cut 536871032 [.blk 3 [some 1, some 1, some 1, some 1]] (m' := (ref16_Promise_1M ((m.Plan.Epoch : Int) != p.Epoch) p c m (⟨0, 0, 0, (⟨0, 0, 0, 0, 0, 0, 0, 0, 0, 0, [], []⟩ : Plan), 0, (⟨0, 0, 0, 0, 0, 0, 0, 0, 0, 0, [], []⟩ : Plan), 0, 0⟩ : GProp))) (by kernel_rfl) (ref16_Promise_1_ok h)
      · -- false
        refine adv_ok hm 16 _ ?_
        exact r_cut 536871032 [.blk 3 [some 1, some 1, some 1, some 1]] (m' := (ref16_Promise_1M false p c m (⟨0, 0, 0, (⟨0, 0, 0, 0, 0, 0, 0, 0, 0, 0, [], []⟩ : Plan), 0, (⟨0, 0, 0, 0, 0, 0, 0, 0, 0, 0, [], []⟩ : Plan), 0, 0⟩ : GProp))) (by kernel_rfl) (ref16_Promise_1_ok h)
end Go.RX.L

set_option linter.unusedSimpArgs false
set_option linter.unusedVariables false
set_option maxRecDepth 100000
set_option maxHeartbeats 4000000
namespace Go.RX.L
open Go Go.RX Go.Proofs
def ref16_Same_Q (y : Bool) (d : D) (s : Sto) : Prop := d = D.bool y ∧ s = []
noncomputable def ref16_Same_1M (one : Bool) (a : GProp) (b : GProp) : M := { td := [It.code (codeAt (bodyOf Try.f12) [1, 1])], fr := [(2, D.ptr 0 0 0), (3, D.ptr 1 0 0), (5, D.bool one)], st := [some { sz := 30, deep := false, rows := [[D.int .i64 a.Epoch, D.int .i64 a.Ballot, D.int .i64 a.Phase, D.int .i64 a.Own.Epoch, D.int .i64 a.Own.Target, D.int .i64 a.Own.Prev, D.int .i64 a.Own.Spill, D.int .i64 a.Own.Percent, D.int .i64 a.Own.Stamp, D.int .i64 a.Own.Since, D.int .i64 a.Own.Ramped, D.int .u64 a.Own.Up, D.int .u64 a.Own.Sup, D.sl false 1 (List.map (eInt .i64) a.Own.Pen), D.sl false 1 (List.map (eInt .i64) a.Own.Changes), D.int .i64 a.Best, D.int .i64 a.Value.Epoch, D.int .i64 a.Value.Target, D.int .i64 a.Value.Prev, D.int .i64 a.Value.Spill, D.int .i64 a.Value.Percent, D.int .i64 a.Value.Stamp, D.int .i64 a.Value.Since, D.int .i64 a.Value.Ramped, D.int .u64 a.Value.Up, D.int .u64 a.Value.Sup, D.sl false 1 (List.map (eInt .i64) a.Value.Pen), D.sl false 1 (List.map (eInt .i64) a.Value.Changes), D.int .u64 a.Promises, D.int .u64 a.Accepts]] }, some { sz := 30, deep := false, rows := [[D.int .i64 b.Epoch, D.int .i64 b.Ballot, D.int .i64 b.Phase, D.int .i64 b.Own.Epoch, D.int .i64 b.Own.Target, D.int .i64 b.Own.Prev, D.int .i64 b.Own.Spill, D.int .i64 b.Own.Percent, D.int .i64 b.Own.Stamp, D.int .i64 b.Own.Since, D.int .i64 b.Own.Ramped, D.int .u64 b.Own.Up, D.int .u64 b.Own.Sup, D.sl false 1 (List.map (eInt .i64) b.Own.Pen), D.sl false 1 (List.map (eInt .i64) b.Own.Changes), D.int .i64 b.Best, D.int .i64 b.Value.Epoch, D.int .i64 b.Value.Target, D.int .i64 b.Value.Prev, D.int .i64 b.Value.Spill, D.int .i64 b.Value.Percent, D.int .i64 b.Value.Stamp, D.int .i64 b.Value.Since, D.int .i64 b.Value.Ramped, D.int .u64 b.Value.Up, D.int .u64 b.Value.Sup, D.sl false 1 (List.map (eInt .i64) b.Value.Pen), D.sl false 1 (List.map (eInt .i64) b.Value.Changes), D.int .u64 b.Promises, D.int .u64 b.Accepts]] }] }
noncomputable def ref16_Same_1 (one : Bool) (a : GProp) (b : GProp) : Option Bool := (bif one then (bif ((a.Epoch : Int) == b.Epoch) then (bif ((a.Ballot : Int) == b.Ballot) then (bif ((a.Phase : Int) == b.Phase) then (bif ((a.Best : Int) == b.Best) then (bif ((a.Promises : Int) == b.Promises) then (some ((a.Accepts : Int) == b.Accepts)) else (some false)) else (some false)) else (some false)) else (some false)) else (some false)) else (some false))
theorem ref16_Same_1_ok {one : Bool} {a : GProp} {b : GProp} {r : Bool} (h : ref16_Same_1 one a b = some r) : FinQ E ⟨Try.f12, false, 0⟩ (QW (ref16_Same_Q r)) (.go (ref16_Same_1M one a b)) := by
  unfold ref16_Same_1 at h
  refine adv_ok hm 5 _ ?_
  refine p_split h (by kernel_rfl) (fun h1 h => ?_) (fun h1 h => ?_)
  · -- true
    refine adv_ok hm 14 _ ?_
    refine p_split h (by kernel_rfl) (fun h2 h => ?_) (fun h2 h => ?_)
    · -- true
      refine adv_ok hm 14 _ ?_
      refine p_split h (by kernel_rfl) (fun h3 h => ?_) (fun h3 h => ?_)
      · -- true
        refine adv_ok hm 14 _ ?_
        refine p_split h (by kernel_rfl) (fun h4 h => ?_) (fun h4 h => ?_)
        · -- true
          refine adv_ok hm 14 _ ?_
          refine p_split h (by kernel_rfl) (fun h5 h => ?_) (fun h5 h => ?_)
          · -- true
            refine adv_ok hm 14 _ ?_
            refine p_split h (by kernel_rfl) (fun h6 h => ?_) (fun h6 h => ?_)
            · -- true
              refine adv_ok hm 15 _ ?_
              obtain rfl := Option.some.inj h
              exact r_retF [] (d := D.bool ((a.Accepts : Int) == b.Accepts)) (s := []) (by kernel_rfl) ⟨rfl, rfl⟩
            · -- false
              refine adv_ok hm 13 _ ?_
              obtain rfl := Option.some.inj h
              exact r_retF [] (d := D.bool false) (s := []) (by kernel_rfl) ⟨rfl, rfl⟩
          · -- false
            refine adv_ok hm 26 _ ?_
            obtain rfl := Option.some.inj h
            exact r_retF [] (d := D.bool false) (s := []) (by kernel_rfl) ⟨rfl, rfl⟩
        · -- false
          refine adv_ok hm 39 _ ?_
          obtain rfl := Option.some.inj h
          exact r_retF [] (d := D.bool false) (s := []) (by kernel_rfl) ⟨rfl, rfl⟩
      · -- false
        refine adv_ok hm 52 _ ?_
        obtain rfl := Option.some.inj h
        exact r_retF [] (d := D.bool false) (s := []) (by kernel_rfl) ⟨rfl, rfl⟩
    · -- false
      refine adv_ok hm 65 _ ?_
      obtain rfl := Option.some.inj h
      exact r_retF [] (d := D.bool false) (s := []) (by kernel_rfl) ⟨rfl, rfl⟩
  · -- false
    refine adv_ok hm 78 _ ?_
    obtain rfl := Option.some.inj h
    exact r_retF [] (d := D.bool false) (s := []) (by kernel_rfl) ⟨rfl, rfl⟩
noncomputable def ref16_Same (a : GProp) (b : GProp) : Option Bool := ((ref04_Same a.Own b.Own).bind fun y1 => (bif y1 then ((ref04_Same a.Value b.Value).bind fun y3 => (ref16_Same_1 y3 a b)) else (ref16_Same_1 false a b)))
theorem ref16_Same_ok {a : GProp} {b : GProp} {r : Bool} (h : ref16_Same a b = some r) : Sound E 12 [D.agg [D.int .i64 a.Epoch, D.int .i64 a.Ballot, D.int .i64 a.Phase, D.int .i64 a.Own.Epoch, D.int .i64 a.Own.Target, D.int .i64 a.Own.Prev, D.int .i64 a.Own.Spill, D.int .i64 a.Own.Percent, D.int .i64 a.Own.Stamp, D.int .i64 a.Own.Since, D.int .i64 a.Own.Ramped, D.int .u64 a.Own.Up, D.int .u64 a.Own.Sup, D.sl false 1 (List.map (eInt .i64) a.Own.Pen), D.sl false 1 (List.map (eInt .i64) a.Own.Changes), D.int .i64 a.Best, D.int .i64 a.Value.Epoch, D.int .i64 a.Value.Target, D.int .i64 a.Value.Prev, D.int .i64 a.Value.Spill, D.int .i64 a.Value.Percent, D.int .i64 a.Value.Stamp, D.int .i64 a.Value.Since, D.int .i64 a.Value.Ramped, D.int .u64 a.Value.Up, D.int .u64 a.Value.Sup, D.sl false 1 (List.map (eInt .i64) a.Value.Pen), D.sl false 1 (List.map (eInt .i64) a.Value.Changes), D.int .u64 a.Promises, D.int .u64 a.Accepts], D.agg [D.int .i64 b.Epoch, D.int .i64 b.Ballot, D.int .i64 b.Phase, D.int .i64 b.Own.Epoch, D.int .i64 b.Own.Target, D.int .i64 b.Own.Prev, D.int .i64 b.Own.Spill, D.int .i64 b.Own.Percent, D.int .i64 b.Own.Stamp, D.int .i64 b.Own.Since, D.int .i64 b.Own.Ramped, D.int .u64 b.Own.Up, D.int .u64 b.Own.Sup, D.sl false 1 (List.map (eInt .i64) b.Own.Pen), D.sl false 1 (List.map (eInt .i64) b.Own.Changes), D.int .i64 b.Best, D.int .i64 b.Value.Epoch, D.int .i64 b.Value.Target, D.int .i64 b.Value.Prev, D.int .i64 b.Value.Spill, D.int .i64 b.Value.Percent, D.int .i64 b.Value.Stamp, D.int .i64 b.Value.Since, D.int .i64 b.Value.Ramped, D.int .u64 b.Value.Up, D.int .u64 b.Value.Sup, D.sl false 1 (List.map (eInt .i64) b.Value.Pen), D.sl false 1 (List.map (eInt .i64) b.Value.Changes), D.int .u64 b.Promises, D.int .u64 b.Accepts]] [] (ref16_Same_Q r) := by
  refine sound_ofW (m := ⟨[.code (bodyOf Try.f12)], [(0, D.agg [D.int .i64 a.Epoch, D.int .i64 a.Ballot, D.int .i64 a.Phase, D.int .i64 a.Own.Epoch, D.int .i64 a.Own.Target, D.int .i64 a.Own.Prev, D.int .i64 a.Own.Spill, D.int .i64 a.Own.Percent, D.int .i64 a.Own.Stamp, D.int .i64 a.Own.Since, D.int .i64 a.Own.Ramped, D.int .u64 a.Own.Up, D.int .u64 a.Own.Sup, D.sl false 1 (List.map (eInt .i64) a.Own.Pen), D.sl false 1 (List.map (eInt .i64) a.Own.Changes), D.int .i64 a.Best, D.int .i64 a.Value.Epoch, D.int .i64 a.Value.Target, D.int .i64 a.Value.Prev, D.int .i64 a.Value.Spill, D.int .i64 a.Value.Percent, D.int .i64 a.Value.Stamp, D.int .i64 a.Value.Since, D.int .i64 a.Value.Ramped, D.int .u64 a.Value.Up, D.int .u64 a.Value.Sup, D.sl false 1 (List.map (eInt .i64) a.Value.Pen), D.sl false 1 (List.map (eInt .i64) a.Value.Changes), D.int .u64 a.Promises, D.int .u64 a.Accepts]), (1, D.agg [D.int .i64 b.Epoch, D.int .i64 b.Ballot, D.int .i64 b.Phase, D.int .i64 b.Own.Epoch, D.int .i64 b.Own.Target, D.int .i64 b.Own.Prev, D.int .i64 b.Own.Spill, D.int .i64 b.Own.Percent, D.int .i64 b.Own.Stamp, D.int .i64 b.Own.Since, D.int .i64 b.Own.Ramped, D.int .u64 b.Own.Up, D.int .u64 b.Own.Sup, D.sl false 1 (List.map (eInt .i64) b.Own.Pen), D.sl false 1 (List.map (eInt .i64) b.Own.Changes), D.int .i64 b.Best, D.int .i64 b.Value.Epoch, D.int .i64 b.Value.Target, D.int .i64 b.Value.Prev, D.int .i64 b.Value.Spill, D.int .i64 b.Value.Percent, D.int .i64 b.Value.Stamp, D.int .i64 b.Value.Since, D.int .i64 b.Value.Ramped, D.int .u64 b.Value.Up, D.int .u64 b.Value.Sup, D.sl false 1 (List.map (eInt .i64) b.Value.Pen), D.sl false 1 (List.map (eInt .i64) b.Value.Changes), D.int .u64 b.Promises, D.int .u64 b.Accepts])], []⟩) (fn := Try.f12) (by kernel_rfl) (by kernel_rfl) ?_
  show FinQ E ⟨Try.f12, false, 0⟩ (QW (ref16_Same_Q r)) _
  unfold ref16_Same at h
  refine adv_ok hm 15 _ ?_
  have ok1 := fun (y : Bool) (hy : ref04_Same a.Own b.Own = some y) => ref04_Same_ok hy
  refine p_callE [] (args1 := [D.agg [D.int .i64 a.Own.Epoch, D.int .i64 a.Own.Target, D.int .i64 a.Own.Prev, D.int .i64 a.Own.Spill, D.int .i64 a.Own.Percent, D.int .i64 a.Own.Stamp, D.int .i64 a.Own.Since, D.int .i64 a.Own.Ramped, D.int .u64 a.Own.Up, D.int .u64 a.Own.Sup, D.sl false 1 (List.map (eInt .i64) a.Own.Pen), D.sl false 1 (List.map (eInt .i64) a.Own.Changes)], D.agg [D.int .i64 b.Own.Epoch, D.int .i64 b.Own.Target, D.int .i64 b.Own.Prev, D.int .i64 b.Own.Spill, D.int .i64 b.Own.Percent, D.int .i64 b.Own.Stamp, D.int .i64 b.Own.Since, D.int .i64 b.Own.Ramped, D.int .u64 b.Own.Up, D.int .u64 b.Own.Sup, D.sl false 1 (List.map (eInt .i64) b.Own.Pen), D.sl false 1 (List.map (eInt .i64) b.Own.Changes)]]) (args := [D.agg [D.int .i64 a.Own.Epoch, D.int .i64 a.Own.Target, D.int .i64 a.Own.Prev, D.int .i64 a.Own.Spill, D.int .i64 a.Own.Percent, D.int .i64 a.Own.Stamp, D.int .i64 a.Own.Since, D.int .i64 a.Own.Ramped, D.int .u64 a.Own.Up, D.int .u64 a.Own.Sup, D.sl false 1 (List.map (eInt .i64) a.Own.Pen), D.sl false 1 (List.map (eInt .i64) a.Own.Changes)], D.agg [D.int .i64 b.Own.Epoch, D.int .i64 b.Own.Target, D.int .i64 b.Own.Prev, D.int .i64 b.Own.Spill, D.int .i64 b.Own.Percent, D.int .i64 b.Own.Stamp, D.int .i64 b.Own.Since, D.int .i64 b.Own.Ramped, D.int .u64 b.Own.Up, D.int .u64 b.Own.Sup, D.sl false 1 (List.map (eInt .i64) b.Own.Pen), D.sl false 1 (List.map (eInt .i64) b.Own.Changes)]]) (fun y1 => D.bool y1) (fun y1 => []) h (by kernel_rfl) ⟨rfl, rfl⟩ ok1 (fun y1 h1 h => ?_)
  refine adv_ok hm 2 _ ?_
  refine p_split h (by kernel_rfl) (fun h2 h => ?_) (fun h2 h => ?_)
  · -- true
    refine adv_ok hm 10 _ ?_
    have ok3 := fun (y : Bool) (hy : ref04_Same a.Value b.Value = some y) => ref04_Same_ok hy
    refine p_callE [] (args1 := [D.agg [D.int .i64 a.Value.Epoch, D.int .i64 a.Value.Target, D.int .i64 a.Value.Prev, D.int .i64 a.Value.Spill, D.int .i64 a.Value.Percent, D.int .i64 a.Value.Stamp, D.int .i64 a.Value.Since, D.int .i64 a.Value.Ramped, D.int .u64 a.Value.Up, D.int .u64 a.Value.Sup, D.sl false 1 (List.map (eInt .i64) a.Value.Pen), D.sl false 1 (List.map (eInt .i64) a.Value.Changes)], D.agg [D.int .i64 b.Value.Epoch, D.int .i64 b.Value.Target, D.int .i64 b.Value.Prev, D.int .i64 b.Value.Spill, D.int .i64 b.Value.Percent, D.int .i64 b.Value.Stamp, D.int .i64 b.Value.Since, D.int .i64 b.Value.Ramped, D.int .u64 b.Value.Up, D.int .u64 b.Value.Sup, D.sl false 1 (List.map (eInt .i64) b.Value.Pen), D.sl false 1 (List.map (eInt .i64) b.Value.Changes)]]) (args := [D.agg [D.int .i64 a.Value.Epoch, D.int .i64 a.Value.Target, D.int .i64 a.Value.Prev, D.int .i64 a.Value.Spill, D.int .i64 a.Value.Percent, D.int .i64 a.Value.Stamp, D.int .i64 a.Value.Since, D.int .i64 a.Value.Ramped, D.int .u64 a.Value.Up, D.int .u64 a.Value.Sup, D.sl false 1 (List.map (eInt .i64) a.Value.Pen), D.sl false 1 (List.map (eInt .i64) a.Value.Changes)], D.agg [D.int .i64 b.Value.Epoch, D.int .i64 b.Value.Target, D.int .i64 b.Value.Prev, D.int .i64 b.Value.Spill, D.int .i64 b.Value.Percent, D.int .i64 b.Value.Stamp, D.int .i64 b.Value.Since, D.int .i64 b.Value.Ramped, D.int .u64 b.Value.Up, D.int .u64 b.Value.Sup, D.sl false 1 (List.map (eInt .i64) b.Value.Pen), D.sl false 1 (List.map (eInt .i64) b.Value.Changes)]]) (fun y3 => D.bool y3) (fun y3 => []) h (by kernel_rfl) ⟨rfl, rfl⟩ ok3 (fun y3 h3 h => ?_)
    refine adv_ok hm 4 _ ?_
    exact r_cut 44 [] (m' := (ref16_Same_1M y3 a b)) (by kernel_rfl) (ref16_Same_1_ok h)
  · -- false
    refine adv_ok hm 12 _ ?_
    exact r_cut 44 [] (m' := (ref16_Same_1M false a b)) (by kernel_rfl) (ref16_Same_1_ok h)
end Go.RX.L

set_option linter.unusedSimpArgs false
set_option linter.unusedVariables false
set_option maxRecDepth 100000
set_option maxHeartbeats 4000000
namespace Go.RX.L
open Go Go.RX Go.Proofs
def ref16_Start_Q (y : GProp) (d : D) (s : Sto) : Prop := d = D.agg [D.int .i64 y.Epoch, D.int .i64 y.Ballot, D.int .i64 y.Phase, D.int .i64 y.Own.Epoch, D.int .i64 y.Own.Target, D.int .i64 y.Own.Prev, D.int .i64 y.Own.Spill, D.int .i64 y.Own.Percent, D.int .i64 y.Own.Stamp, D.int .i64 y.Own.Since, D.int .i64 y.Own.Ramped, D.int .u64 y.Own.Up, D.int .u64 y.Own.Sup, D.sl false 1 (List.map (eInt .i64) y.Own.Pen), D.sl false 1 (List.map (eInt .i64) y.Own.Changes), D.int .i64 y.Best, D.int .i64 y.Value.Epoch, D.int .i64 y.Value.Target, D.int .i64 y.Value.Prev, D.int .i64 y.Value.Spill, D.int .i64 y.Value.Percent, D.int .i64 y.Value.Stamp, D.int .i64 y.Value.Since, D.int .i64 y.Value.Ramped, D.int .u64 y.Value.Up, D.int .u64 y.Value.Sup, D.sl false 1 (List.map (eInt .i64) y.Value.Pen), D.sl false 1 (List.map (eInt .i64) y.Value.Changes), D.int .u64 y.Promises, D.int .u64 y.Accepts] ∧ s = []
noncomputable def ref16_Start (epoch : Int) (ballot : Int) (own : Plan) : Option GProp := (some (⟨epoch, ballot, 1, (⟨epoch, own.Target, own.Prev, own.Spill, own.Percent, own.Stamp, own.Since, own.Ramped, own.Up, own.Sup, own.Pen, own.Changes⟩ : Plan), 0, (⟨0, 0, 0, 0, 0, 0, 0, 0, 0, 0, [], []⟩ : Plan), 0, 0⟩ : GProp))
theorem ref16_Start_ok {epoch : Int} {ballot : Int} {own : Plan} {r : GProp} (h : ref16_Start epoch ballot own = some r) : Sound E 16 [D.int .i64 epoch, D.int .i64 ballot, D.agg [D.int .i64 own.Epoch, D.int .i64 own.Target, D.int .i64 own.Prev, D.int .i64 own.Spill, D.int .i64 own.Percent, D.int .i64 own.Stamp, D.int .i64 own.Since, D.int .i64 own.Ramped, D.int .u64 own.Up, D.int .u64 own.Sup, D.sl false 1 (List.map (eInt .i64) own.Pen), D.sl false 1 (List.map (eInt .i64) own.Changes)]] [] (ref16_Start_Q r) := by
  refine sound_ofW (m := ⟨[.code (bodyOf Try.f16)], [(0, D.int .i64 epoch), (1, D.int .i64 ballot), (2, D.agg [D.int .i64 own.Epoch, D.int .i64 own.Target, D.int .i64 own.Prev, D.int .i64 own.Spill, D.int .i64 own.Percent, D.int .i64 own.Stamp, D.int .i64 own.Since, D.int .i64 own.Ramped, D.int .u64 own.Up, D.int .u64 own.Sup, D.sl false 1 (List.map (eInt .i64) own.Pen), D.sl false 1 (List.map (eInt .i64) own.Changes)])], []⟩) (fn := Try.f16) (by kernel_rfl) (by kernel_rfl) ?_
  show FinQ E ⟨Try.f16, false, 0⟩ (QW (ref16_Start_Q r)) _
  unfold ref16_Start at h
  refine adv_ok hm 26 _ ?_
  obtain rfl := Option.some.inj h
  exact r_retF [.slot 0 [some 1, some 1]] (d := D.agg [D.int .i64 epoch, D.int .i64 ballot, D.int .i64 1, D.int .i64 epoch, D.int .i64 own.Target, D.int .i64 own.Prev, D.int .i64 own.Spill, D.int .i64 own.Percent, D.int .i64 own.Stamp, D.int .i64 own.Since, D.int .i64 own.Ramped, D.int .u64 own.Up, D.int .u64 own.Sup, D.sl false 1 (List.map (eInt .i64) own.Pen), D.sl false 1 (List.map (eInt .i64) own.Changes), D.int .i64 0, D.int .i64 0, D.int .i64 0, D.int .i64 0, D.int .i64 0, D.int .i64 0, D.int .i64 0, D.int .i64 0, D.int .i64 0, D.int .u64 0, D.int .u64 0, D.sl false 1 [], D.sl false 1 [], D.int .u64 0, D.int .u64 0]) (s := []) (by kernel_rfl) ⟨rfl, rfl⟩
end Go.RX.L

set_option linter.unusedSimpArgs false
set_option linter.unusedVariables false
set_option maxRecDepth 100000
set_option maxHeartbeats 4000000
namespace Go.RX.L
open Go Go.RX Go.Proofs
def law16_ProposerTells_Q (y : Bool) (d : D) (s : Sto) : Prop := d = D.bool y ∧ s = []
noncomputable def law16_ProposerTells (p : GProp) (c : Config) (m : Msg) (mask_ : Int) : Option Bool := ((law16_head ).bind fun y1 => (bif y1 then ((proposer_Promise p c m).bind fun y3 => ((ref16_Promise p c m).bind fun y4 => ((ref16_Same y3 y4).bind fun y5 => (bif y5 then ((proposer_Accepted p c m).bind fun y7 => ((ref16_Accepted p c m).bind fun y8 => ((ref16_Same y7 y8).bind fun y9 => (bif y9 then ((proposer_Start m.Epoch m.Ballot m.Plan).bind fun y11 => ((ref16_Start m.Epoch m.Ballot m.Plan).bind fun y12 => ((ref16_Same y11 y12).bind fun y13 => (bif y13 then ((proposer_Most c mask_).bind fun y15 => ((ref16_Most c mask_).bind fun y16 => (some (y15 == y16)))) else (some false))))) else (some false))))) else (some false))))) else (some false)))
theorem law16_ProposerTells_ok {p : GProp} {c : Config} {m : Msg} {mask_ : Int} {r : Bool} (h : law16_ProposerTells p c m mask_ = some r) : Sound E 5 [D.agg [D.int .i64 p.Epoch, D.int .i64 p.Ballot, D.int .i64 p.Phase, D.int .i64 p.Own.Epoch, D.int .i64 p.Own.Target, D.int .i64 p.Own.Prev, D.int .i64 p.Own.Spill, D.int .i64 p.Own.Percent, D.int .i64 p.Own.Stamp, D.int .i64 p.Own.Since, D.int .i64 p.Own.Ramped, D.int .u64 p.Own.Up, D.int .u64 p.Own.Sup, D.sl false 1 (List.map (eInt .i64) p.Own.Pen), D.sl false 1 (List.map (eInt .i64) p.Own.Changes), D.int .i64 p.Best, D.int .i64 p.Value.Epoch, D.int .i64 p.Value.Target, D.int .i64 p.Value.Prev, D.int .i64 p.Value.Spill, D.int .i64 p.Value.Percent, D.int .i64 p.Value.Stamp, D.int .i64 p.Value.Since, D.int .i64 p.Value.Ramped, D.int .u64 p.Value.Up, D.int .u64 p.Value.Sup, D.sl false 1 (List.map (eInt .i64) p.Value.Pen), D.sl false 1 (List.map (eInt .i64) p.Value.Changes), D.int .u64 p.Promises, D.int .u64 p.Accepts], D.agg [D.int .i64 c.F_, D.int .i64 c.Deciders, D.int .i64 c.Targets, D.int .i64 c.Routers, D.int .i64 c.Observers, D.sl false 1 (List.map (eInt .i64) c.Tiers), D.int .i64 c.Every, D.int .i64 c.Wait, D.int .i64 c.Rise, D.int .i64 c.Fall, D.int .i64 c.Fresh, D.int .i64 c.L_, D.int .i64 c.M_, D.int .i64 c.Dwell, D.int .i64 c.D_, D.int .i64 c.W_, D.int .i64 c.B_, D.int .i64 c.Hit, D.int .i64 c.Suppress, D.int .i64 c.Reuse, D.int .i64 c.Half, D.int .i64 c.First, D.int .i64 c.Step, D.int .i64 c.StepTime, D.int .i64 c.S_, D.int .i64 c.Cap, D.int .i64 c.Span, D.int .i64 c.Room, D.int .i64 c.Tries, D.int .i64 c.Retry], D.agg [D.int .i64 m.Kind, D.int .i64 m.From, D.int .i64 m.To, D.int .i64 m.Epoch, D.int .i64 m.Ballot, D.int .i64 m.Accepted, D.int .i64 m.Nonce, D.int .i64 m.Time, D.int .u64 m.Up, D.int .i64 m.Code, D.bool m.HasPlan, D.int .i64 m.Plan.Epoch, D.int .i64 m.Plan.Target, D.int .i64 m.Plan.Prev, D.int .i64 m.Plan.Spill, D.int .i64 m.Plan.Percent, D.int .i64 m.Plan.Stamp, D.int .i64 m.Plan.Since, D.int .i64 m.Plan.Ramped, D.int .u64 m.Plan.Up, D.int .u64 m.Plan.Sup, D.sl false 1 (List.map (eInt .i64) m.Plan.Pen), D.sl false 1 (List.map (eInt .i64) m.Plan.Changes), D.sl false 1 (List.map (eInt .i64) m.ID), D.sl false 1 (List.map (eInt .u8) m.Session), D.sl false 1 (List.map (eInt .u8) m.Payload)], D.int .u64 mask_] [] (law16_ProposerTells_Q r) := by
  refine sound_ofW (m := ⟨[.code (bodyOf Try.f5)], [(0, D.agg [D.int .i64 p.Epoch, D.int .i64 p.Ballot, D.int .i64 p.Phase, D.int .i64 p.Own.Epoch, D.int .i64 p.Own.Target, D.int .i64 p.Own.Prev, D.int .i64 p.Own.Spill, D.int .i64 p.Own.Percent, D.int .i64 p.Own.Stamp, D.int .i64 p.Own.Since, D.int .i64 p.Own.Ramped, D.int .u64 p.Own.Up, D.int .u64 p.Own.Sup, D.sl false 1 (List.map (eInt .i64) p.Own.Pen), D.sl false 1 (List.map (eInt .i64) p.Own.Changes), D.int .i64 p.Best, D.int .i64 p.Value.Epoch, D.int .i64 p.Value.Target, D.int .i64 p.Value.Prev, D.int .i64 p.Value.Spill, D.int .i64 p.Value.Percent, D.int .i64 p.Value.Stamp, D.int .i64 p.Value.Since, D.int .i64 p.Value.Ramped, D.int .u64 p.Value.Up, D.int .u64 p.Value.Sup, D.sl false 1 (List.map (eInt .i64) p.Value.Pen), D.sl false 1 (List.map (eInt .i64) p.Value.Changes), D.int .u64 p.Promises, D.int .u64 p.Accepts]), (1, D.agg [D.int .i64 c.F_, D.int .i64 c.Deciders, D.int .i64 c.Targets, D.int .i64 c.Routers, D.int .i64 c.Observers, D.sl false 1 (List.map (eInt .i64) c.Tiers), D.int .i64 c.Every, D.int .i64 c.Wait, D.int .i64 c.Rise, D.int .i64 c.Fall, D.int .i64 c.Fresh, D.int .i64 c.L_, D.int .i64 c.M_, D.int .i64 c.Dwell, D.int .i64 c.D_, D.int .i64 c.W_, D.int .i64 c.B_, D.int .i64 c.Hit, D.int .i64 c.Suppress, D.int .i64 c.Reuse, D.int .i64 c.Half, D.int .i64 c.First, D.int .i64 c.Step, D.int .i64 c.StepTime, D.int .i64 c.S_, D.int .i64 c.Cap, D.int .i64 c.Span, D.int .i64 c.Room, D.int .i64 c.Tries, D.int .i64 c.Retry]), (2, D.agg [D.int .i64 m.Kind, D.int .i64 m.From, D.int .i64 m.To, D.int .i64 m.Epoch, D.int .i64 m.Ballot, D.int .i64 m.Accepted, D.int .i64 m.Nonce, D.int .i64 m.Time, D.int .u64 m.Up, D.int .i64 m.Code, D.bool m.HasPlan, D.int .i64 m.Plan.Epoch, D.int .i64 m.Plan.Target, D.int .i64 m.Plan.Prev, D.int .i64 m.Plan.Spill, D.int .i64 m.Plan.Percent, D.int .i64 m.Plan.Stamp, D.int .i64 m.Plan.Since, D.int .i64 m.Plan.Ramped, D.int .u64 m.Plan.Up, D.int .u64 m.Plan.Sup, D.sl false 1 (List.map (eInt .i64) m.Plan.Pen), D.sl false 1 (List.map (eInt .i64) m.Plan.Changes), D.sl false 1 (List.map (eInt .i64) m.ID), D.sl false 1 (List.map (eInt .u8) m.Session), D.sl false 1 (List.map (eInt .u8) m.Payload)]), (3, D.int .u64 mask_)], []⟩) (fn := Try.f5) (by kernel_rfl) (by kernel_rfl) ?_
  show FinQ E ⟨Try.f5, false, 0⟩ (QW (law16_ProposerTells_Q r)) _
  unfold law16_ProposerTells at h
  refine adv_ok hm 10 _ ?_
  have ok1 := fun (y : Bool) (hy : law16_head  = some y) => law16_head_ok hy
  refine p_callE [] (args1 := []) (args := []) (fun y1 => D.bool y1) (fun y1 => []) h (by kernel_rfl) ⟨rfl, rfl⟩ ok1 (fun y1 h1 h => ?_)
  refine adv_ok hm 4 _ ?_
  refine p_split h (by kernel_rfl) (fun h2 h => ?_) (fun h2 h => ?_)
  · -- true
    refine adv_ok hm 6 _ ?_
    have ok3 := fun (y : GProp) (hy : proposer_Promise p c m = some y) => proposer_Promise_ok hy
    refine p_callDE [] (args1 := [D.agg [D.int .i64 p.Epoch, D.int .i64 p.Ballot, D.int .i64 p.Phase, D.int .i64 p.Own.Epoch, D.int .i64 p.Own.Target, D.int .i64 p.Own.Prev, D.int .i64 p.Own.Spill, D.int .i64 p.Own.Percent, D.int .i64 p.Own.Stamp, D.int .i64 p.Own.Since, D.int .i64 p.Own.Ramped, D.int .u64 p.Own.Up, D.int .u64 p.Own.Sup, D.sl false 1 (List.map (eInt .i64) p.Own.Pen), D.sl false 1 (List.map (eInt .i64) p.Own.Changes), D.int .i64 p.Best, D.int .i64 p.Value.Epoch, D.int .i64 p.Value.Target, D.int .i64 p.Value.Prev, D.int .i64 p.Value.Spill, D.int .i64 p.Value.Percent, D.int .i64 p.Value.Stamp, D.int .i64 p.Value.Since, D.int .i64 p.Value.Ramped, D.int .u64 p.Value.Up, D.int .u64 p.Value.Sup, D.sl false 1 (List.map (eInt .i64) p.Value.Pen), D.sl false 1 (List.map (eInt .i64) p.Value.Changes), D.int .u64 p.Promises, D.int .u64 p.Accepts], D.agg [D.int .i64 c.F_, D.int .i64 c.Deciders, D.int .i64 c.Targets, D.int .i64 c.Routers, D.int .i64 c.Observers, D.sl false 1 (List.map (eInt .i64) c.Tiers), D.int .i64 c.Every, D.int .i64 c.Wait, D.int .i64 c.Rise, D.int .i64 c.Fall, D.int .i64 c.Fresh, D.int .i64 c.L_, D.int .i64 c.M_, D.int .i64 c.Dwell, D.int .i64 c.D_, D.int .i64 c.W_, D.int .i64 c.B_, D.int .i64 c.Hit, D.int .i64 c.Suppress, D.int .i64 c.Reuse, D.int .i64 c.Half, D.int .i64 c.First, D.int .i64 c.Step, D.int .i64 c.StepTime, D.int .i64 c.S_, D.int .i64 c.Cap, D.int .i64 c.Span, D.int .i64 c.Room, D.int .i64 c.Tries, D.int .i64 c.Retry], D.agg [D.int .i64 m.Kind, D.int .i64 m.From, D.int .i64 m.To, D.int .i64 m.Epoch, D.int .i64 m.Ballot, D.int .i64 m.Accepted, D.int .i64 m.Nonce, D.int .i64 m.Time, D.int .u64 m.Up, D.int .i64 m.Code, D.bool m.HasPlan, D.int .i64 m.Plan.Epoch, D.int .i64 m.Plan.Target, D.int .i64 m.Plan.Prev, D.int .i64 m.Plan.Spill, D.int .i64 m.Plan.Percent, D.int .i64 m.Plan.Stamp, D.int .i64 m.Plan.Since, D.int .i64 m.Plan.Ramped, D.int .u64 m.Plan.Up, D.int .u64 m.Plan.Sup, D.sl false 1 (List.map (eInt .i64) m.Plan.Pen), D.sl false 1 (List.map (eInt .i64) m.Plan.Changes), D.sl false 1 (List.map (eInt .i64) m.ID), D.sl false 1 (List.map (eInt .u8) m.Session), D.sl false 1 (List.map (eInt .u8) m.Payload)]]) (args := [D.agg [D.int .i64 p.Epoch, D.int .i64 p.Ballot, D.int .i64 p.Phase, D.int .i64 p.Own.Epoch, D.int .i64 p.Own.Target, D.int .i64 p.Own.Prev, D.int .i64 p.Own.Spill, D.int .i64 p.Own.Percent, D.int .i64 p.Own.Stamp, D.int .i64 p.Own.Since, D.int .i64 p.Own.Ramped, D.int .u64 p.Own.Up, D.int .u64 p.Own.Sup, D.sl false 1 (List.map (eInt .i64) p.Own.Pen), D.sl false 1 (List.map (eInt .i64) p.Own.Changes), D.int .i64 p.Best, D.int .i64 p.Value.Epoch, D.int .i64 p.Value.Target, D.int .i64 p.Value.Prev, D.int .i64 p.Value.Spill, D.int .i64 p.Value.Percent, D.int .i64 p.Value.Stamp, D.int .i64 p.Value.Since, D.int .i64 p.Value.Ramped, D.int .u64 p.Value.Up, D.int .u64 p.Value.Sup, D.sl false 1 (List.map (eInt .i64) p.Value.Pen), D.sl false 1 (List.map (eInt .i64) p.Value.Changes), D.int .u64 p.Promises, D.int .u64 p.Accepts], D.agg [D.int .i64 c.F_, D.int .i64 c.Deciders, D.int .i64 c.Targets, D.int .i64 c.Routers, D.int .i64 c.Observers, D.sl false 1 (List.map (eInt .i64) c.Tiers), D.int .i64 c.Every, D.int .i64 c.Wait, D.int .i64 c.Rise, D.int .i64 c.Fall, D.int .i64 c.Fresh, D.int .i64 c.L_, D.int .i64 c.M_, D.int .i64 c.Dwell, D.int .i64 c.D_, D.int .i64 c.W_, D.int .i64 c.B_, D.int .i64 c.Hit, D.int .i64 c.Suppress, D.int .i64 c.Reuse, D.int .i64 c.Half, D.int .i64 c.First, D.int .i64 c.Step, D.int .i64 c.StepTime, D.int .i64 c.S_, D.int .i64 c.Cap, D.int .i64 c.Span, D.int .i64 c.Room, D.int .i64 c.Tries, D.int .i64 c.Retry], D.agg [D.int .i64 m.Kind, D.int .i64 m.From, D.int .i64 m.To, D.int .i64 m.Epoch, D.int .i64 m.Ballot, D.int .i64 m.Accepted, D.int .i64 m.Nonce, D.int .i64 m.Time, D.int .u64 m.Up, D.int .i64 m.Code, D.bool m.HasPlan, D.int .i64 m.Plan.Epoch, D.int .i64 m.Plan.Target, D.int .i64 m.Plan.Prev, D.int .i64 m.Plan.Spill, D.int .i64 m.Plan.Percent, D.int .i64 m.Plan.Stamp, D.int .i64 m.Plan.Since, D.int .i64 m.Plan.Ramped, D.int .u64 m.Plan.Up, D.int .u64 m.Plan.Sup, D.sl false 1 (List.map (eInt .i64) m.Plan.Pen), D.sl false 1 (List.map (eInt .i64) m.Plan.Changes), D.sl false 1 (List.map (eInt .i64) m.ID), D.sl false 1 (List.map (eInt .u8) m.Session), D.sl false 1 (List.map (eInt .u8) m.Payload)]]) (fun y3 => D.agg [D.int .i64 y3.Epoch, D.int .i64 y3.Ballot, D.int .i64 y3.Phase, D.int .i64 y3.Own.Epoch, D.int .i64 y3.Own.Target, D.int .i64 y3.Own.Prev, D.int .i64 y3.Own.Spill, D.int .i64 y3.Own.Percent, D.int .i64 y3.Own.Stamp, D.int .i64 y3.Own.Since, D.int .i64 y3.Own.Ramped, D.int .u64 y3.Own.Up, D.int .u64 y3.Own.Sup, D.sl false 1 (List.map (eInt .i64) y3.Own.Pen), D.sl false 1 (List.map (eInt .i64) y3.Own.Changes), D.int .i64 y3.Best, D.int .i64 y3.Value.Epoch, D.int .i64 y3.Value.Target, D.int .i64 y3.Value.Prev, D.int .i64 y3.Value.Spill, D.int .i64 y3.Value.Percent, D.int .i64 y3.Value.Stamp, D.int .i64 y3.Value.Since, D.int .i64 y3.Value.Ramped, D.int .u64 y3.Value.Up, D.int .u64 y3.Value.Sup, D.sl false 1 (List.map (eInt .i64) y3.Value.Pen), D.sl false 1 (List.map (eInt .i64) y3.Value.Changes), D.int .u64 y3.Promises, D.int .u64 y3.Accepts]) h (by kernel_rfl) rfl ok3 (fun y3 h3 h => ?_)
    refine adv_ok hm 7 _ ?_
    have ok4 := fun (y : GProp) (hy : ref16_Promise p c m = some y) => ref16_Promise_ok hy
    refine p_callDE [] (args1 := [D.agg [D.int .i64 p.Epoch, D.int .i64 p.Ballot, D.int .i64 p.Phase, D.int .i64 p.Own.Epoch, D.int .i64 p.Own.Target, D.int .i64 p.Own.Prev, D.int .i64 p.Own.Spill, D.int .i64 p.Own.Percent, D.int .i64 p.Own.Stamp, D.int .i64 p.Own.Since, D.int .i64 p.Own.Ramped, D.int .u64 p.Own.Up, D.int .u64 p.Own.Sup, D.sl false 1 (List.map (eInt .i64) p.Own.Pen), D.sl false 1 (List.map (eInt .i64) p.Own.Changes), D.int .i64 p.Best, D.int .i64 p.Value.Epoch, D.int .i64 p.Value.Target, D.int .i64 p.Value.Prev, D.int .i64 p.Value.Spill, D.int .i64 p.Value.Percent, D.int .i64 p.Value.Stamp, D.int .i64 p.Value.Since, D.int .i64 p.Value.Ramped, D.int .u64 p.Value.Up, D.int .u64 p.Value.Sup, D.sl false 1 (List.map (eInt .i64) p.Value.Pen), D.sl false 1 (List.map (eInt .i64) p.Value.Changes), D.int .u64 p.Promises, D.int .u64 p.Accepts], D.agg [D.int .i64 c.F_, D.int .i64 c.Deciders, D.int .i64 c.Targets, D.int .i64 c.Routers, D.int .i64 c.Observers, D.sl false 1 (List.map (eInt .i64) c.Tiers), D.int .i64 c.Every, D.int .i64 c.Wait, D.int .i64 c.Rise, D.int .i64 c.Fall, D.int .i64 c.Fresh, D.int .i64 c.L_, D.int .i64 c.M_, D.int .i64 c.Dwell, D.int .i64 c.D_, D.int .i64 c.W_, D.int .i64 c.B_, D.int .i64 c.Hit, D.int .i64 c.Suppress, D.int .i64 c.Reuse, D.int .i64 c.Half, D.int .i64 c.First, D.int .i64 c.Step, D.int .i64 c.StepTime, D.int .i64 c.S_, D.int .i64 c.Cap, D.int .i64 c.Span, D.int .i64 c.Room, D.int .i64 c.Tries, D.int .i64 c.Retry], D.agg [D.int .i64 m.Kind, D.int .i64 m.From, D.int .i64 m.To, D.int .i64 m.Epoch, D.int .i64 m.Ballot, D.int .i64 m.Accepted, D.int .i64 m.Nonce, D.int .i64 m.Time, D.int .u64 m.Up, D.int .i64 m.Code, D.bool m.HasPlan, D.int .i64 m.Plan.Epoch, D.int .i64 m.Plan.Target, D.int .i64 m.Plan.Prev, D.int .i64 m.Plan.Spill, D.int .i64 m.Plan.Percent, D.int .i64 m.Plan.Stamp, D.int .i64 m.Plan.Since, D.int .i64 m.Plan.Ramped, D.int .u64 m.Plan.Up, D.int .u64 m.Plan.Sup, D.sl false 1 (List.map (eInt .i64) m.Plan.Pen), D.sl false 1 (List.map (eInt .i64) m.Plan.Changes), D.sl false 1 (List.map (eInt .i64) m.ID), D.sl false 1 (List.map (eInt .u8) m.Session), D.sl false 1 (List.map (eInt .u8) m.Payload)]]) (args := [D.agg [D.int .i64 p.Epoch, D.int .i64 p.Ballot, D.int .i64 p.Phase, D.int .i64 p.Own.Epoch, D.int .i64 p.Own.Target, D.int .i64 p.Own.Prev, D.int .i64 p.Own.Spill, D.int .i64 p.Own.Percent, D.int .i64 p.Own.Stamp, D.int .i64 p.Own.Since, D.int .i64 p.Own.Ramped, D.int .u64 p.Own.Up, D.int .u64 p.Own.Sup, D.sl false 1 (List.map (eInt .i64) p.Own.Pen), D.sl false 1 (List.map (eInt .i64) p.Own.Changes), D.int .i64 p.Best, D.int .i64 p.Value.Epoch, D.int .i64 p.Value.Target, D.int .i64 p.Value.Prev, D.int .i64 p.Value.Spill, D.int .i64 p.Value.Percent, D.int .i64 p.Value.Stamp, D.int .i64 p.Value.Since, D.int .i64 p.Value.Ramped, D.int .u64 p.Value.Up, D.int .u64 p.Value.Sup, D.sl false 1 (List.map (eInt .i64) p.Value.Pen), D.sl false 1 (List.map (eInt .i64) p.Value.Changes), D.int .u64 p.Promises, D.int .u64 p.Accepts], D.agg [D.int .i64 c.F_, D.int .i64 c.Deciders, D.int .i64 c.Targets, D.int .i64 c.Routers, D.int .i64 c.Observers, D.sl false 1 (List.map (eInt .i64) c.Tiers), D.int .i64 c.Every, D.int .i64 c.Wait, D.int .i64 c.Rise, D.int .i64 c.Fall, D.int .i64 c.Fresh, D.int .i64 c.L_, D.int .i64 c.M_, D.int .i64 c.Dwell, D.int .i64 c.D_, D.int .i64 c.W_, D.int .i64 c.B_, D.int .i64 c.Hit, D.int .i64 c.Suppress, D.int .i64 c.Reuse, D.int .i64 c.Half, D.int .i64 c.First, D.int .i64 c.Step, D.int .i64 c.StepTime, D.int .i64 c.S_, D.int .i64 c.Cap, D.int .i64 c.Span, D.int .i64 c.Room, D.int .i64 c.Tries, D.int .i64 c.Retry], D.agg [D.int .i64 m.Kind, D.int .i64 m.From, D.int .i64 m.To, D.int .i64 m.Epoch, D.int .i64 m.Ballot, D.int .i64 m.Accepted, D.int .i64 m.Nonce, D.int .i64 m.Time, D.int .u64 m.Up, D.int .i64 m.Code, D.bool m.HasPlan, D.int .i64 m.Plan.Epoch, D.int .i64 m.Plan.Target, D.int .i64 m.Plan.Prev, D.int .i64 m.Plan.Spill, D.int .i64 m.Plan.Percent, D.int .i64 m.Plan.Stamp, D.int .i64 m.Plan.Since, D.int .i64 m.Plan.Ramped, D.int .u64 m.Plan.Up, D.int .u64 m.Plan.Sup, D.sl false 1 (List.map (eInt .i64) m.Plan.Pen), D.sl false 1 (List.map (eInt .i64) m.Plan.Changes), D.sl false 1 (List.map (eInt .i64) m.ID), D.sl false 1 (List.map (eInt .u8) m.Session), D.sl false 1 (List.map (eInt .u8) m.Payload)]]) (fun y4 => D.agg [D.int .i64 y4.Epoch, D.int .i64 y4.Ballot, D.int .i64 y4.Phase, D.int .i64 y4.Own.Epoch, D.int .i64 y4.Own.Target, D.int .i64 y4.Own.Prev, D.int .i64 y4.Own.Spill, D.int .i64 y4.Own.Percent, D.int .i64 y4.Own.Stamp, D.int .i64 y4.Own.Since, D.int .i64 y4.Own.Ramped, D.int .u64 y4.Own.Up, D.int .u64 y4.Own.Sup, D.sl false 1 (List.map (eInt .i64) y4.Own.Pen), D.sl false 1 (List.map (eInt .i64) y4.Own.Changes), D.int .i64 y4.Best, D.int .i64 y4.Value.Epoch, D.int .i64 y4.Value.Target, D.int .i64 y4.Value.Prev, D.int .i64 y4.Value.Spill, D.int .i64 y4.Value.Percent, D.int .i64 y4.Value.Stamp, D.int .i64 y4.Value.Since, D.int .i64 y4.Value.Ramped, D.int .u64 y4.Value.Up, D.int .u64 y4.Value.Sup, D.sl false 1 (List.map (eInt .i64) y4.Value.Pen), D.sl false 1 (List.map (eInt .i64) y4.Value.Changes), D.int .u64 y4.Promises, D.int .u64 y4.Accepts]) h (by kernel_rfl) rfl ok4 (fun y4 h4 h => ?_)
    refine adv_ok hm 1 _ ?_
    have ok5 := fun (y : Bool) (hy : ref16_Same y3 y4 = some y) => ref16_Same_ok hy
    refine p_callDE [] (args1 := [D.agg [D.int .i64 y3.Epoch, D.int .i64 y3.Ballot, D.int .i64 y3.Phase, D.int .i64 y3.Own.Epoch, D.int .i64 y3.Own.Target, D.int .i64 y3.Own.Prev, D.int .i64 y3.Own.Spill, D.int .i64 y3.Own.Percent, D.int .i64 y3.Own.Stamp, D.int .i64 y3.Own.Since, D.int .i64 y3.Own.Ramped, D.int .u64 y3.Own.Up, D.int .u64 y3.Own.Sup, D.sl false 1 (List.map (eInt .i64) y3.Own.Pen), D.sl false 1 (List.map (eInt .i64) y3.Own.Changes), D.int .i64 y3.Best, D.int .i64 y3.Value.Epoch, D.int .i64 y3.Value.Target, D.int .i64 y3.Value.Prev, D.int .i64 y3.Value.Spill, D.int .i64 y3.Value.Percent, D.int .i64 y3.Value.Stamp, D.int .i64 y3.Value.Since, D.int .i64 y3.Value.Ramped, D.int .u64 y3.Value.Up, D.int .u64 y3.Value.Sup, D.sl false 1 (List.map (eInt .i64) y3.Value.Pen), D.sl false 1 (List.map (eInt .i64) y3.Value.Changes), D.int .u64 y3.Promises, D.int .u64 y3.Accepts], D.agg [D.int .i64 y4.Epoch, D.int .i64 y4.Ballot, D.int .i64 y4.Phase, D.int .i64 y4.Own.Epoch, D.int .i64 y4.Own.Target, D.int .i64 y4.Own.Prev, D.int .i64 y4.Own.Spill, D.int .i64 y4.Own.Percent, D.int .i64 y4.Own.Stamp, D.int .i64 y4.Own.Since, D.int .i64 y4.Own.Ramped, D.int .u64 y4.Own.Up, D.int .u64 y4.Own.Sup, D.sl false 1 (List.map (eInt .i64) y4.Own.Pen), D.sl false 1 (List.map (eInt .i64) y4.Own.Changes), D.int .i64 y4.Best, D.int .i64 y4.Value.Epoch, D.int .i64 y4.Value.Target, D.int .i64 y4.Value.Prev, D.int .i64 y4.Value.Spill, D.int .i64 y4.Value.Percent, D.int .i64 y4.Value.Stamp, D.int .i64 y4.Value.Since, D.int .i64 y4.Value.Ramped, D.int .u64 y4.Value.Up, D.int .u64 y4.Value.Sup, D.sl false 1 (List.map (eInt .i64) y4.Value.Pen), D.sl false 1 (List.map (eInt .i64) y4.Value.Changes), D.int .u64 y4.Promises, D.int .u64 y4.Accepts]]) (args := [D.agg [D.int .i64 y3.Epoch, D.int .i64 y3.Ballot, D.int .i64 y3.Phase, D.int .i64 y3.Own.Epoch, D.int .i64 y3.Own.Target, D.int .i64 y3.Own.Prev, D.int .i64 y3.Own.Spill, D.int .i64 y3.Own.Percent, D.int .i64 y3.Own.Stamp, D.int .i64 y3.Own.Since, D.int .i64 y3.Own.Ramped, D.int .u64 y3.Own.Up, D.int .u64 y3.Own.Sup, D.sl false 1 (List.map (eInt .i64) y3.Own.Pen), D.sl false 1 (List.map (eInt .i64) y3.Own.Changes), D.int .i64 y3.Best, D.int .i64 y3.Value.Epoch, D.int .i64 y3.Value.Target, D.int .i64 y3.Value.Prev, D.int .i64 y3.Value.Spill, D.int .i64 y3.Value.Percent, D.int .i64 y3.Value.Stamp, D.int .i64 y3.Value.Since, D.int .i64 y3.Value.Ramped, D.int .u64 y3.Value.Up, D.int .u64 y3.Value.Sup, D.sl false 1 (List.map (eInt .i64) y3.Value.Pen), D.sl false 1 (List.map (eInt .i64) y3.Value.Changes), D.int .u64 y3.Promises, D.int .u64 y3.Accepts], D.agg [D.int .i64 y4.Epoch, D.int .i64 y4.Ballot, D.int .i64 y4.Phase, D.int .i64 y4.Own.Epoch, D.int .i64 y4.Own.Target, D.int .i64 y4.Own.Prev, D.int .i64 y4.Own.Spill, D.int .i64 y4.Own.Percent, D.int .i64 y4.Own.Stamp, D.int .i64 y4.Own.Since, D.int .i64 y4.Own.Ramped, D.int .u64 y4.Own.Up, D.int .u64 y4.Own.Sup, D.sl false 1 (List.map (eInt .i64) y4.Own.Pen), D.sl false 1 (List.map (eInt .i64) y4.Own.Changes), D.int .i64 y4.Best, D.int .i64 y4.Value.Epoch, D.int .i64 y4.Value.Target, D.int .i64 y4.Value.Prev, D.int .i64 y4.Value.Spill, D.int .i64 y4.Value.Percent, D.int .i64 y4.Value.Stamp, D.int .i64 y4.Value.Since, D.int .i64 y4.Value.Ramped, D.int .u64 y4.Value.Up, D.int .u64 y4.Value.Sup, D.sl false 1 (List.map (eInt .i64) y4.Value.Pen), D.sl false 1 (List.map (eInt .i64) y4.Value.Changes), D.int .u64 y4.Promises, D.int .u64 y4.Accepts]]) (fun y5 => D.bool y5) h (by kernel_rfl) rfl ok5 (fun y5 h5 h => ?_)
    refine adv_ok hm 1 _ ?_
    refine p_split h (by kernel_rfl) (fun h6 h => ?_) (fun h6 h => ?_)
    · -- true
      refine adv_ok hm 6 _ ?_
      have ok7 := fun (y : GProp) (hy : proposer_Accepted p c m = some y) => proposer_Accepted_ok hy
      refine p_callDE [] (args1 := [D.agg [D.int .i64 p.Epoch, D.int .i64 p.Ballot, D.int .i64 p.Phase, D.int .i64 p.Own.Epoch, D.int .i64 p.Own.Target, D.int .i64 p.Own.Prev, D.int .i64 p.Own.Spill, D.int .i64 p.Own.Percent, D.int .i64 p.Own.Stamp, D.int .i64 p.Own.Since, D.int .i64 p.Own.Ramped, D.int .u64 p.Own.Up, D.int .u64 p.Own.Sup, D.sl false 1 (List.map (eInt .i64) p.Own.Pen), D.sl false 1 (List.map (eInt .i64) p.Own.Changes), D.int .i64 p.Best, D.int .i64 p.Value.Epoch, D.int .i64 p.Value.Target, D.int .i64 p.Value.Prev, D.int .i64 p.Value.Spill, D.int .i64 p.Value.Percent, D.int .i64 p.Value.Stamp, D.int .i64 p.Value.Since, D.int .i64 p.Value.Ramped, D.int .u64 p.Value.Up, D.int .u64 p.Value.Sup, D.sl false 1 (List.map (eInt .i64) p.Value.Pen), D.sl false 1 (List.map (eInt .i64) p.Value.Changes), D.int .u64 p.Promises, D.int .u64 p.Accepts], D.agg [D.int .i64 c.F_, D.int .i64 c.Deciders, D.int .i64 c.Targets, D.int .i64 c.Routers, D.int .i64 c.Observers, D.sl false 1 (List.map (eInt .i64) c.Tiers), D.int .i64 c.Every, D.int .i64 c.Wait, D.int .i64 c.Rise, D.int .i64 c.Fall, D.int .i64 c.Fresh, D.int .i64 c.L_, D.int .i64 c.M_, D.int .i64 c.Dwell, D.int .i64 c.D_, D.int .i64 c.W_, D.int .i64 c.B_, D.int .i64 c.Hit, D.int .i64 c.Suppress, D.int .i64 c.Reuse, D.int .i64 c.Half, D.int .i64 c.First, D.int .i64 c.Step, D.int .i64 c.StepTime, D.int .i64 c.S_, D.int .i64 c.Cap, D.int .i64 c.Span, D.int .i64 c.Room, D.int .i64 c.Tries, D.int .i64 c.Retry], D.agg [D.int .i64 m.Kind, D.int .i64 m.From, D.int .i64 m.To, D.int .i64 m.Epoch, D.int .i64 m.Ballot, D.int .i64 m.Accepted, D.int .i64 m.Nonce, D.int .i64 m.Time, D.int .u64 m.Up, D.int .i64 m.Code, D.bool m.HasPlan, D.int .i64 m.Plan.Epoch, D.int .i64 m.Plan.Target, D.int .i64 m.Plan.Prev, D.int .i64 m.Plan.Spill, D.int .i64 m.Plan.Percent, D.int .i64 m.Plan.Stamp, D.int .i64 m.Plan.Since, D.int .i64 m.Plan.Ramped, D.int .u64 m.Plan.Up, D.int .u64 m.Plan.Sup, D.sl false 1 (List.map (eInt .i64) m.Plan.Pen), D.sl false 1 (List.map (eInt .i64) m.Plan.Changes), D.sl false 1 (List.map (eInt .i64) m.ID), D.sl false 1 (List.map (eInt .u8) m.Session), D.sl false 1 (List.map (eInt .u8) m.Payload)]]) (args := [D.agg [D.int .i64 p.Epoch, D.int .i64 p.Ballot, D.int .i64 p.Phase, D.int .i64 p.Own.Epoch, D.int .i64 p.Own.Target, D.int .i64 p.Own.Prev, D.int .i64 p.Own.Spill, D.int .i64 p.Own.Percent, D.int .i64 p.Own.Stamp, D.int .i64 p.Own.Since, D.int .i64 p.Own.Ramped, D.int .u64 p.Own.Up, D.int .u64 p.Own.Sup, D.sl false 1 (List.map (eInt .i64) p.Own.Pen), D.sl false 1 (List.map (eInt .i64) p.Own.Changes), D.int .i64 p.Best, D.int .i64 p.Value.Epoch, D.int .i64 p.Value.Target, D.int .i64 p.Value.Prev, D.int .i64 p.Value.Spill, D.int .i64 p.Value.Percent, D.int .i64 p.Value.Stamp, D.int .i64 p.Value.Since, D.int .i64 p.Value.Ramped, D.int .u64 p.Value.Up, D.int .u64 p.Value.Sup, D.sl false 1 (List.map (eInt .i64) p.Value.Pen), D.sl false 1 (List.map (eInt .i64) p.Value.Changes), D.int .u64 p.Promises, D.int .u64 p.Accepts], D.agg [D.int .i64 c.F_, D.int .i64 c.Deciders, D.int .i64 c.Targets, D.int .i64 c.Routers, D.int .i64 c.Observers, D.sl false 1 (List.map (eInt .i64) c.Tiers), D.int .i64 c.Every, D.int .i64 c.Wait, D.int .i64 c.Rise, D.int .i64 c.Fall, D.int .i64 c.Fresh, D.int .i64 c.L_, D.int .i64 c.M_, D.int .i64 c.Dwell, D.int .i64 c.D_, D.int .i64 c.W_, D.int .i64 c.B_, D.int .i64 c.Hit, D.int .i64 c.Suppress, D.int .i64 c.Reuse, D.int .i64 c.Half, D.int .i64 c.First, D.int .i64 c.Step, D.int .i64 c.StepTime, D.int .i64 c.S_, D.int .i64 c.Cap, D.int .i64 c.Span, D.int .i64 c.Room, D.int .i64 c.Tries, D.int .i64 c.Retry], D.agg [D.int .i64 m.Kind, D.int .i64 m.From, D.int .i64 m.To, D.int .i64 m.Epoch, D.int .i64 m.Ballot, D.int .i64 m.Accepted, D.int .i64 m.Nonce, D.int .i64 m.Time, D.int .u64 m.Up, D.int .i64 m.Code, D.bool m.HasPlan, D.int .i64 m.Plan.Epoch, D.int .i64 m.Plan.Target, D.int .i64 m.Plan.Prev, D.int .i64 m.Plan.Spill, D.int .i64 m.Plan.Percent, D.int .i64 m.Plan.Stamp, D.int .i64 m.Plan.Since, D.int .i64 m.Plan.Ramped, D.int .u64 m.Plan.Up, D.int .u64 m.Plan.Sup, D.sl false 1 (List.map (eInt .i64) m.Plan.Pen), D.sl false 1 (List.map (eInt .i64) m.Plan.Changes), D.sl false 1 (List.map (eInt .i64) m.ID), D.sl false 1 (List.map (eInt .u8) m.Session), D.sl false 1 (List.map (eInt .u8) m.Payload)]]) (fun y7 => D.agg [D.int .i64 y7.Epoch, D.int .i64 y7.Ballot, D.int .i64 y7.Phase, D.int .i64 y7.Own.Epoch, D.int .i64 y7.Own.Target, D.int .i64 y7.Own.Prev, D.int .i64 y7.Own.Spill, D.int .i64 y7.Own.Percent, D.int .i64 y7.Own.Stamp, D.int .i64 y7.Own.Since, D.int .i64 y7.Own.Ramped, D.int .u64 y7.Own.Up, D.int .u64 y7.Own.Sup, D.sl false 1 (List.map (eInt .i64) y7.Own.Pen), D.sl false 1 (List.map (eInt .i64) y7.Own.Changes), D.int .i64 y7.Best, D.int .i64 y7.Value.Epoch, D.int .i64 y7.Value.Target, D.int .i64 y7.Value.Prev, D.int .i64 y7.Value.Spill, D.int .i64 y7.Value.Percent, D.int .i64 y7.Value.Stamp, D.int .i64 y7.Value.Since, D.int .i64 y7.Value.Ramped, D.int .u64 y7.Value.Up, D.int .u64 y7.Value.Sup, D.sl false 1 (List.map (eInt .i64) y7.Value.Pen), D.sl false 1 (List.map (eInt .i64) y7.Value.Changes), D.int .u64 y7.Promises, D.int .u64 y7.Accepts]) h (by kernel_rfl) rfl ok7 (fun y7 h7 h => ?_)
      refine adv_ok hm 7 _ ?_
      have ok8 := fun (y : GProp) (hy : ref16_Accepted p c m = some y) => ref16_Accepted_ok hy
      refine p_callDE [] (args1 := [D.agg [D.int .i64 p.Epoch, D.int .i64 p.Ballot, D.int .i64 p.Phase, D.int .i64 p.Own.Epoch, D.int .i64 p.Own.Target, D.int .i64 p.Own.Prev, D.int .i64 p.Own.Spill, D.int .i64 p.Own.Percent, D.int .i64 p.Own.Stamp, D.int .i64 p.Own.Since, D.int .i64 p.Own.Ramped, D.int .u64 p.Own.Up, D.int .u64 p.Own.Sup, D.sl false 1 (List.map (eInt .i64) p.Own.Pen), D.sl false 1 (List.map (eInt .i64) p.Own.Changes), D.int .i64 p.Best, D.int .i64 p.Value.Epoch, D.int .i64 p.Value.Target, D.int .i64 p.Value.Prev, D.int .i64 p.Value.Spill, D.int .i64 p.Value.Percent, D.int .i64 p.Value.Stamp, D.int .i64 p.Value.Since, D.int .i64 p.Value.Ramped, D.int .u64 p.Value.Up, D.int .u64 p.Value.Sup, D.sl false 1 (List.map (eInt .i64) p.Value.Pen), D.sl false 1 (List.map (eInt .i64) p.Value.Changes), D.int .u64 p.Promises, D.int .u64 p.Accepts], D.agg [D.int .i64 c.F_, D.int .i64 c.Deciders, D.int .i64 c.Targets, D.int .i64 c.Routers, D.int .i64 c.Observers, D.sl false 1 (List.map (eInt .i64) c.Tiers), D.int .i64 c.Every, D.int .i64 c.Wait, D.int .i64 c.Rise, D.int .i64 c.Fall, D.int .i64 c.Fresh, D.int .i64 c.L_, D.int .i64 c.M_, D.int .i64 c.Dwell, D.int .i64 c.D_, D.int .i64 c.W_, D.int .i64 c.B_, D.int .i64 c.Hit, D.int .i64 c.Suppress, D.int .i64 c.Reuse, D.int .i64 c.Half, D.int .i64 c.First, D.int .i64 c.Step, D.int .i64 c.StepTime, D.int .i64 c.S_, D.int .i64 c.Cap, D.int .i64 c.Span, D.int .i64 c.Room, D.int .i64 c.Tries, D.int .i64 c.Retry], D.agg [D.int .i64 m.Kind, D.int .i64 m.From, D.int .i64 m.To, D.int .i64 m.Epoch, D.int .i64 m.Ballot, D.int .i64 m.Accepted, D.int .i64 m.Nonce, D.int .i64 m.Time, D.int .u64 m.Up, D.int .i64 m.Code, D.bool m.HasPlan, D.int .i64 m.Plan.Epoch, D.int .i64 m.Plan.Target, D.int .i64 m.Plan.Prev, D.int .i64 m.Plan.Spill, D.int .i64 m.Plan.Percent, D.int .i64 m.Plan.Stamp, D.int .i64 m.Plan.Since, D.int .i64 m.Plan.Ramped, D.int .u64 m.Plan.Up, D.int .u64 m.Plan.Sup, D.sl false 1 (List.map (eInt .i64) m.Plan.Pen), D.sl false 1 (List.map (eInt .i64) m.Plan.Changes), D.sl false 1 (List.map (eInt .i64) m.ID), D.sl false 1 (List.map (eInt .u8) m.Session), D.sl false 1 (List.map (eInt .u8) m.Payload)]]) (args := [D.agg [D.int .i64 p.Epoch, D.int .i64 p.Ballot, D.int .i64 p.Phase, D.int .i64 p.Own.Epoch, D.int .i64 p.Own.Target, D.int .i64 p.Own.Prev, D.int .i64 p.Own.Spill, D.int .i64 p.Own.Percent, D.int .i64 p.Own.Stamp, D.int .i64 p.Own.Since, D.int .i64 p.Own.Ramped, D.int .u64 p.Own.Up, D.int .u64 p.Own.Sup, D.sl false 1 (List.map (eInt .i64) p.Own.Pen), D.sl false 1 (List.map (eInt .i64) p.Own.Changes), D.int .i64 p.Best, D.int .i64 p.Value.Epoch, D.int .i64 p.Value.Target, D.int .i64 p.Value.Prev, D.int .i64 p.Value.Spill, D.int .i64 p.Value.Percent, D.int .i64 p.Value.Stamp, D.int .i64 p.Value.Since, D.int .i64 p.Value.Ramped, D.int .u64 p.Value.Up, D.int .u64 p.Value.Sup, D.sl false 1 (List.map (eInt .i64) p.Value.Pen), D.sl false 1 (List.map (eInt .i64) p.Value.Changes), D.int .u64 p.Promises, D.int .u64 p.Accepts], D.agg [D.int .i64 c.F_, D.int .i64 c.Deciders, D.int .i64 c.Targets, D.int .i64 c.Routers, D.int .i64 c.Observers, D.sl false 1 (List.map (eInt .i64) c.Tiers), D.int .i64 c.Every, D.int .i64 c.Wait, D.int .i64 c.Rise, D.int .i64 c.Fall, D.int .i64 c.Fresh, D.int .i64 c.L_, D.int .i64 c.M_, D.int .i64 c.Dwell, D.int .i64 c.D_, D.int .i64 c.W_, D.int .i64 c.B_, D.int .i64 c.Hit, D.int .i64 c.Suppress, D.int .i64 c.Reuse, D.int .i64 c.Half, D.int .i64 c.First, D.int .i64 c.Step, D.int .i64 c.StepTime, D.int .i64 c.S_, D.int .i64 c.Cap, D.int .i64 c.Span, D.int .i64 c.Room, D.int .i64 c.Tries, D.int .i64 c.Retry], D.agg [D.int .i64 m.Kind, D.int .i64 m.From, D.int .i64 m.To, D.int .i64 m.Epoch, D.int .i64 m.Ballot, D.int .i64 m.Accepted, D.int .i64 m.Nonce, D.int .i64 m.Time, D.int .u64 m.Up, D.int .i64 m.Code, D.bool m.HasPlan, D.int .i64 m.Plan.Epoch, D.int .i64 m.Plan.Target, D.int .i64 m.Plan.Prev, D.int .i64 m.Plan.Spill, D.int .i64 m.Plan.Percent, D.int .i64 m.Plan.Stamp, D.int .i64 m.Plan.Since, D.int .i64 m.Plan.Ramped, D.int .u64 m.Plan.Up, D.int .u64 m.Plan.Sup, D.sl false 1 (List.map (eInt .i64) m.Plan.Pen), D.sl false 1 (List.map (eInt .i64) m.Plan.Changes), D.sl false 1 (List.map (eInt .i64) m.ID), D.sl false 1 (List.map (eInt .u8) m.Session), D.sl false 1 (List.map (eInt .u8) m.Payload)]]) (fun y8 => D.agg [D.int .i64 y8.Epoch, D.int .i64 y8.Ballot, D.int .i64 y8.Phase, D.int .i64 y8.Own.Epoch, D.int .i64 y8.Own.Target, D.int .i64 y8.Own.Prev, D.int .i64 y8.Own.Spill, D.int .i64 y8.Own.Percent, D.int .i64 y8.Own.Stamp, D.int .i64 y8.Own.Since, D.int .i64 y8.Own.Ramped, D.int .u64 y8.Own.Up, D.int .u64 y8.Own.Sup, D.sl false 1 (List.map (eInt .i64) y8.Own.Pen), D.sl false 1 (List.map (eInt .i64) y8.Own.Changes), D.int .i64 y8.Best, D.int .i64 y8.Value.Epoch, D.int .i64 y8.Value.Target, D.int .i64 y8.Value.Prev, D.int .i64 y8.Value.Spill, D.int .i64 y8.Value.Percent, D.int .i64 y8.Value.Stamp, D.int .i64 y8.Value.Since, D.int .i64 y8.Value.Ramped, D.int .u64 y8.Value.Up, D.int .u64 y8.Value.Sup, D.sl false 1 (List.map (eInt .i64) y8.Value.Pen), D.sl false 1 (List.map (eInt .i64) y8.Value.Changes), D.int .u64 y8.Promises, D.int .u64 y8.Accepts]) h (by kernel_rfl) rfl ok8 (fun y8 h8 h => ?_)
      refine adv_ok hm 1 _ ?_
      have ok9 := fun (y : Bool) (hy : ref16_Same y7 y8 = some y) => ref16_Same_ok hy
      refine p_callDE [] (args1 := [D.agg [D.int .i64 y7.Epoch, D.int .i64 y7.Ballot, D.int .i64 y7.Phase, D.int .i64 y7.Own.Epoch, D.int .i64 y7.Own.Target, D.int .i64 y7.Own.Prev, D.int .i64 y7.Own.Spill, D.int .i64 y7.Own.Percent, D.int .i64 y7.Own.Stamp, D.int .i64 y7.Own.Since, D.int .i64 y7.Own.Ramped, D.int .u64 y7.Own.Up, D.int .u64 y7.Own.Sup, D.sl false 1 (List.map (eInt .i64) y7.Own.Pen), D.sl false 1 (List.map (eInt .i64) y7.Own.Changes), D.int .i64 y7.Best, D.int .i64 y7.Value.Epoch, D.int .i64 y7.Value.Target, D.int .i64 y7.Value.Prev, D.int .i64 y7.Value.Spill, D.int .i64 y7.Value.Percent, D.int .i64 y7.Value.Stamp, D.int .i64 y7.Value.Since, D.int .i64 y7.Value.Ramped, D.int .u64 y7.Value.Up, D.int .u64 y7.Value.Sup, D.sl false 1 (List.map (eInt .i64) y7.Value.Pen), D.sl false 1 (List.map (eInt .i64) y7.Value.Changes), D.int .u64 y7.Promises, D.int .u64 y7.Accepts], D.agg [D.int .i64 y8.Epoch, D.int .i64 y8.Ballot, D.int .i64 y8.Phase, D.int .i64 y8.Own.Epoch, D.int .i64 y8.Own.Target, D.int .i64 y8.Own.Prev, D.int .i64 y8.Own.Spill, D.int .i64 y8.Own.Percent, D.int .i64 y8.Own.Stamp, D.int .i64 y8.Own.Since, D.int .i64 y8.Own.Ramped, D.int .u64 y8.Own.Up, D.int .u64 y8.Own.Sup, D.sl false 1 (List.map (eInt .i64) y8.Own.Pen), D.sl false 1 (List.map (eInt .i64) y8.Own.Changes), D.int .i64 y8.Best, D.int .i64 y8.Value.Epoch, D.int .i64 y8.Value.Target, D.int .i64 y8.Value.Prev, D.int .i64 y8.Value.Spill, D.int .i64 y8.Value.Percent, D.int .i64 y8.Value.Stamp, D.int .i64 y8.Value.Since, D.int .i64 y8.Value.Ramped, D.int .u64 y8.Value.Up, D.int .u64 y8.Value.Sup, D.sl false 1 (List.map (eInt .i64) y8.Value.Pen), D.sl false 1 (List.map (eInt .i64) y8.Value.Changes), D.int .u64 y8.Promises, D.int .u64 y8.Accepts]]) (args := [D.agg [D.int .i64 y7.Epoch, D.int .i64 y7.Ballot, D.int .i64 y7.Phase, D.int .i64 y7.Own.Epoch, D.int .i64 y7.Own.Target, D.int .i64 y7.Own.Prev, D.int .i64 y7.Own.Spill, D.int .i64 y7.Own.Percent, D.int .i64 y7.Own.Stamp, D.int .i64 y7.Own.Since, D.int .i64 y7.Own.Ramped, D.int .u64 y7.Own.Up, D.int .u64 y7.Own.Sup, D.sl false 1 (List.map (eInt .i64) y7.Own.Pen), D.sl false 1 (List.map (eInt .i64) y7.Own.Changes), D.int .i64 y7.Best, D.int .i64 y7.Value.Epoch, D.int .i64 y7.Value.Target, D.int .i64 y7.Value.Prev, D.int .i64 y7.Value.Spill, D.int .i64 y7.Value.Percent, D.int .i64 y7.Value.Stamp, D.int .i64 y7.Value.Since, D.int .i64 y7.Value.Ramped, D.int .u64 y7.Value.Up, D.int .u64 y7.Value.Sup, D.sl false 1 (List.map (eInt .i64) y7.Value.Pen), D.sl false 1 (List.map (eInt .i64) y7.Value.Changes), D.int .u64 y7.Promises, D.int .u64 y7.Accepts], D.agg [D.int .i64 y8.Epoch, D.int .i64 y8.Ballot, D.int .i64 y8.Phase, D.int .i64 y8.Own.Epoch, D.int .i64 y8.Own.Target, D.int .i64 y8.Own.Prev, D.int .i64 y8.Own.Spill, D.int .i64 y8.Own.Percent, D.int .i64 y8.Own.Stamp, D.int .i64 y8.Own.Since, D.int .i64 y8.Own.Ramped, D.int .u64 y8.Own.Up, D.int .u64 y8.Own.Sup, D.sl false 1 (List.map (eInt .i64) y8.Own.Pen), D.sl false 1 (List.map (eInt .i64) y8.Own.Changes), D.int .i64 y8.Best, D.int .i64 y8.Value.Epoch, D.int .i64 y8.Value.Target, D.int .i64 y8.Value.Prev, D.int .i64 y8.Value.Spill, D.int .i64 y8.Value.Percent, D.int .i64 y8.Value.Stamp, D.int .i64 y8.Value.Since, D.int .i64 y8.Value.Ramped, D.int .u64 y8.Value.Up, D.int .u64 y8.Value.Sup, D.sl false 1 (List.map (eInt .i64) y8.Value.Pen), D.sl false 1 (List.map (eInt .i64) y8.Value.Changes), D.int .u64 y8.Promises, D.int .u64 y8.Accepts]]) (fun y9 => D.bool y9) h (by kernel_rfl) rfl ok9 (fun y9 h9 h => ?_)
      refine adv_ok hm 1 _ ?_
      refine p_split h (by kernel_rfl) (fun h10 h => ?_) (fun h10 h => ?_)
      · -- true
        refine adv_ok hm 9 _ ?_
        have ok11 := fun (y : GProp) (hy : proposer_Start m.Epoch m.Ballot m.Plan = some y) => proposer_Start_ok hy
        refine p_callDE [] (args1 := [D.int .i64 m.Epoch, D.int .i64 m.Ballot, D.agg [D.int .i64 m.Plan.Epoch, D.int .i64 m.Plan.Target, D.int .i64 m.Plan.Prev, D.int .i64 m.Plan.Spill, D.int .i64 m.Plan.Percent, D.int .i64 m.Plan.Stamp, D.int .i64 m.Plan.Since, D.int .i64 m.Plan.Ramped, D.int .u64 m.Plan.Up, D.int .u64 m.Plan.Sup, D.sl false 1 (List.map (eInt .i64) m.Plan.Pen), D.sl false 1 (List.map (eInt .i64) m.Plan.Changes)]]) (args := [D.int .i64 m.Epoch, D.int .i64 m.Ballot, D.agg [D.int .i64 m.Plan.Epoch, D.int .i64 m.Plan.Target, D.int .i64 m.Plan.Prev, D.int .i64 m.Plan.Spill, D.int .i64 m.Plan.Percent, D.int .i64 m.Plan.Stamp, D.int .i64 m.Plan.Since, D.int .i64 m.Plan.Ramped, D.int .u64 m.Plan.Up, D.int .u64 m.Plan.Sup, D.sl false 1 (List.map (eInt .i64) m.Plan.Pen), D.sl false 1 (List.map (eInt .i64) m.Plan.Changes)]]) (fun y11 => D.agg [D.int .i64 y11.Epoch, D.int .i64 y11.Ballot, D.int .i64 y11.Phase, D.int .i64 y11.Own.Epoch, D.int .i64 y11.Own.Target, D.int .i64 y11.Own.Prev, D.int .i64 y11.Own.Spill, D.int .i64 y11.Own.Percent, D.int .i64 y11.Own.Stamp, D.int .i64 y11.Own.Since, D.int .i64 y11.Own.Ramped, D.int .u64 y11.Own.Up, D.int .u64 y11.Own.Sup, D.sl false 1 (List.map (eInt .i64) y11.Own.Pen), D.sl false 1 (List.map (eInt .i64) y11.Own.Changes), D.int .i64 y11.Best, D.int .i64 y11.Value.Epoch, D.int .i64 y11.Value.Target, D.int .i64 y11.Value.Prev, D.int .i64 y11.Value.Spill, D.int .i64 y11.Value.Percent, D.int .i64 y11.Value.Stamp, D.int .i64 y11.Value.Since, D.int .i64 y11.Value.Ramped, D.int .u64 y11.Value.Up, D.int .u64 y11.Value.Sup, D.sl false 1 (List.map (eInt .i64) y11.Value.Pen), D.sl false 1 (List.map (eInt .i64) y11.Value.Changes), D.int .u64 y11.Promises, D.int .u64 y11.Accepts]) h (by kernel_rfl) rfl ok11 (fun y11 h11 h => ?_)
        refine adv_ok hm 10 _ ?_
        have ok12 := fun (y : GProp) (hy : ref16_Start m.Epoch m.Ballot m.Plan = some y) => ref16_Start_ok hy
        refine p_callDE [] (args1 := [D.int .i64 m.Epoch, D.int .i64 m.Ballot, D.agg [D.int .i64 m.Plan.Epoch, D.int .i64 m.Plan.Target, D.int .i64 m.Plan.Prev, D.int .i64 m.Plan.Spill, D.int .i64 m.Plan.Percent, D.int .i64 m.Plan.Stamp, D.int .i64 m.Plan.Since, D.int .i64 m.Plan.Ramped, D.int .u64 m.Plan.Up, D.int .u64 m.Plan.Sup, D.sl false 1 (List.map (eInt .i64) m.Plan.Pen), D.sl false 1 (List.map (eInt .i64) m.Plan.Changes)]]) (args := [D.int .i64 m.Epoch, D.int .i64 m.Ballot, D.agg [D.int .i64 m.Plan.Epoch, D.int .i64 m.Plan.Target, D.int .i64 m.Plan.Prev, D.int .i64 m.Plan.Spill, D.int .i64 m.Plan.Percent, D.int .i64 m.Plan.Stamp, D.int .i64 m.Plan.Since, D.int .i64 m.Plan.Ramped, D.int .u64 m.Plan.Up, D.int .u64 m.Plan.Sup, D.sl false 1 (List.map (eInt .i64) m.Plan.Pen), D.sl false 1 (List.map (eInt .i64) m.Plan.Changes)]]) (fun y12 => D.agg [D.int .i64 y12.Epoch, D.int .i64 y12.Ballot, D.int .i64 y12.Phase, D.int .i64 y12.Own.Epoch, D.int .i64 y12.Own.Target, D.int .i64 y12.Own.Prev, D.int .i64 y12.Own.Spill, D.int .i64 y12.Own.Percent, D.int .i64 y12.Own.Stamp, D.int .i64 y12.Own.Since, D.int .i64 y12.Own.Ramped, D.int .u64 y12.Own.Up, D.int .u64 y12.Own.Sup, D.sl false 1 (List.map (eInt .i64) y12.Own.Pen), D.sl false 1 (List.map (eInt .i64) y12.Own.Changes), D.int .i64 y12.Best, D.int .i64 y12.Value.Epoch, D.int .i64 y12.Value.Target, D.int .i64 y12.Value.Prev, D.int .i64 y12.Value.Spill, D.int .i64 y12.Value.Percent, D.int .i64 y12.Value.Stamp, D.int .i64 y12.Value.Since, D.int .i64 y12.Value.Ramped, D.int .u64 y12.Value.Up, D.int .u64 y12.Value.Sup, D.sl false 1 (List.map (eInt .i64) y12.Value.Pen), D.sl false 1 (List.map (eInt .i64) y12.Value.Changes), D.int .u64 y12.Promises, D.int .u64 y12.Accepts]) h (by kernel_rfl) rfl ok12 (fun y12 h12 h => ?_)
        refine adv_ok hm 1 _ ?_
        have ok13 := fun (y : Bool) (hy : ref16_Same y11 y12 = some y) => ref16_Same_ok hy
        refine p_callDE [] (args1 := [D.agg [D.int .i64 y11.Epoch, D.int .i64 y11.Ballot, D.int .i64 y11.Phase, D.int .i64 y11.Own.Epoch, D.int .i64 y11.Own.Target, D.int .i64 y11.Own.Prev, D.int .i64 y11.Own.Spill, D.int .i64 y11.Own.Percent, D.int .i64 y11.Own.Stamp, D.int .i64 y11.Own.Since, D.int .i64 y11.Own.Ramped, D.int .u64 y11.Own.Up, D.int .u64 y11.Own.Sup, D.sl false 1 (List.map (eInt .i64) y11.Own.Pen), D.sl false 1 (List.map (eInt .i64) y11.Own.Changes), D.int .i64 y11.Best, D.int .i64 y11.Value.Epoch, D.int .i64 y11.Value.Target, D.int .i64 y11.Value.Prev, D.int .i64 y11.Value.Spill, D.int .i64 y11.Value.Percent, D.int .i64 y11.Value.Stamp, D.int .i64 y11.Value.Since, D.int .i64 y11.Value.Ramped, D.int .u64 y11.Value.Up, D.int .u64 y11.Value.Sup, D.sl false 1 (List.map (eInt .i64) y11.Value.Pen), D.sl false 1 (List.map (eInt .i64) y11.Value.Changes), D.int .u64 y11.Promises, D.int .u64 y11.Accepts], D.agg [D.int .i64 y12.Epoch, D.int .i64 y12.Ballot, D.int .i64 y12.Phase, D.int .i64 y12.Own.Epoch, D.int .i64 y12.Own.Target, D.int .i64 y12.Own.Prev, D.int .i64 y12.Own.Spill, D.int .i64 y12.Own.Percent, D.int .i64 y12.Own.Stamp, D.int .i64 y12.Own.Since, D.int .i64 y12.Own.Ramped, D.int .u64 y12.Own.Up, D.int .u64 y12.Own.Sup, D.sl false 1 (List.map (eInt .i64) y12.Own.Pen), D.sl false 1 (List.map (eInt .i64) y12.Own.Changes), D.int .i64 y12.Best, D.int .i64 y12.Value.Epoch, D.int .i64 y12.Value.Target, D.int .i64 y12.Value.Prev, D.int .i64 y12.Value.Spill, D.int .i64 y12.Value.Percent, D.int .i64 y12.Value.Stamp, D.int .i64 y12.Value.Since, D.int .i64 y12.Value.Ramped, D.int .u64 y12.Value.Up, D.int .u64 y12.Value.Sup, D.sl false 1 (List.map (eInt .i64) y12.Value.Pen), D.sl false 1 (List.map (eInt .i64) y12.Value.Changes), D.int .u64 y12.Promises, D.int .u64 y12.Accepts]]) (args := [D.agg [D.int .i64 y11.Epoch, D.int .i64 y11.Ballot, D.int .i64 y11.Phase, D.int .i64 y11.Own.Epoch, D.int .i64 y11.Own.Target, D.int .i64 y11.Own.Prev, D.int .i64 y11.Own.Spill, D.int .i64 y11.Own.Percent, D.int .i64 y11.Own.Stamp, D.int .i64 y11.Own.Since, D.int .i64 y11.Own.Ramped, D.int .u64 y11.Own.Up, D.int .u64 y11.Own.Sup, D.sl false 1 (List.map (eInt .i64) y11.Own.Pen), D.sl false 1 (List.map (eInt .i64) y11.Own.Changes), D.int .i64 y11.Best, D.int .i64 y11.Value.Epoch, D.int .i64 y11.Value.Target, D.int .i64 y11.Value.Prev, D.int .i64 y11.Value.Spill, D.int .i64 y11.Value.Percent, D.int .i64 y11.Value.Stamp, D.int .i64 y11.Value.Since, D.int .i64 y11.Value.Ramped, D.int .u64 y11.Value.Up, D.int .u64 y11.Value.Sup, D.sl false 1 (List.map (eInt .i64) y11.Value.Pen), D.sl false 1 (List.map (eInt .i64) y11.Value.Changes), D.int .u64 y11.Promises, D.int .u64 y11.Accepts], D.agg [D.int .i64 y12.Epoch, D.int .i64 y12.Ballot, D.int .i64 y12.Phase, D.int .i64 y12.Own.Epoch, D.int .i64 y12.Own.Target, D.int .i64 y12.Own.Prev, D.int .i64 y12.Own.Spill, D.int .i64 y12.Own.Percent, D.int .i64 y12.Own.Stamp, D.int .i64 y12.Own.Since, D.int .i64 y12.Own.Ramped, D.int .u64 y12.Own.Up, D.int .u64 y12.Own.Sup, D.sl false 1 (List.map (eInt .i64) y12.Own.Pen), D.sl false 1 (List.map (eInt .i64) y12.Own.Changes), D.int .i64 y12.Best, D.int .i64 y12.Value.Epoch, D.int .i64 y12.Value.Target, D.int .i64 y12.Value.Prev, D.int .i64 y12.Value.Spill, D.int .i64 y12.Value.Percent, D.int .i64 y12.Value.Stamp, D.int .i64 y12.Value.Since, D.int .i64 y12.Value.Ramped, D.int .u64 y12.Value.Up, D.int .u64 y12.Value.Sup, D.sl false 1 (List.map (eInt .i64) y12.Value.Pen), D.sl false 1 (List.map (eInt .i64) y12.Value.Changes), D.int .u64 y12.Promises, D.int .u64 y12.Accepts]]) (fun y13 => D.bool y13) h (by kernel_rfl) rfl ok13 (fun y13 h13 h => ?_)
        refine adv_ok hm 1 _ ?_
        refine p_split h (by kernel_rfl) (fun h14 h => ?_) (fun h14 h => ?_)
        · -- true
          refine adv_ok hm 3 _ ?_
          have ok15 := fun (y : Bool) (hy : proposer_Most c mask_ = some y) => proposer_Most_ok hy
          refine p_callDE [] (args1 := [D.agg [D.int .i64 c.F_, D.int .i64 c.Deciders, D.int .i64 c.Targets, D.int .i64 c.Routers, D.int .i64 c.Observers, D.sl false 1 (List.map (eInt .i64) c.Tiers), D.int .i64 c.Every, D.int .i64 c.Wait, D.int .i64 c.Rise, D.int .i64 c.Fall, D.int .i64 c.Fresh, D.int .i64 c.L_, D.int .i64 c.M_, D.int .i64 c.Dwell, D.int .i64 c.D_, D.int .i64 c.W_, D.int .i64 c.B_, D.int .i64 c.Hit, D.int .i64 c.Suppress, D.int .i64 c.Reuse, D.int .i64 c.Half, D.int .i64 c.First, D.int .i64 c.Step, D.int .i64 c.StepTime, D.int .i64 c.S_, D.int .i64 c.Cap, D.int .i64 c.Span, D.int .i64 c.Room, D.int .i64 c.Tries, D.int .i64 c.Retry], D.int .u64 mask_]) (args := [D.agg [D.int .i64 c.F_, D.int .i64 c.Deciders, D.int .i64 c.Targets, D.int .i64 c.Routers, D.int .i64 c.Observers, D.sl false 1 (List.map (eInt .i64) c.Tiers), D.int .i64 c.Every, D.int .i64 c.Wait, D.int .i64 c.Rise, D.int .i64 c.Fall, D.int .i64 c.Fresh, D.int .i64 c.L_, D.int .i64 c.M_, D.int .i64 c.Dwell, D.int .i64 c.D_, D.int .i64 c.W_, D.int .i64 c.B_, D.int .i64 c.Hit, D.int .i64 c.Suppress, D.int .i64 c.Reuse, D.int .i64 c.Half, D.int .i64 c.First, D.int .i64 c.Step, D.int .i64 c.StepTime, D.int .i64 c.S_, D.int .i64 c.Cap, D.int .i64 c.Span, D.int .i64 c.Room, D.int .i64 c.Tries, D.int .i64 c.Retry], D.int .u64 mask_]) (fun y15 => D.bool y15) h (by kernel_rfl) rfl ok15 (fun y15 h15 h => ?_)
          refine adv_ok hm 4 _ ?_
          have ok16 := fun (y : Bool) (hy : ref16_Most c mask_ = some y) => ref16_Most_ok hy
          refine p_callDE [] (args1 := [D.agg [D.int .i64 c.F_, D.int .i64 c.Deciders, D.int .i64 c.Targets, D.int .i64 c.Routers, D.int .i64 c.Observers, D.sl false 1 (List.map (eInt .i64) c.Tiers), D.int .i64 c.Every, D.int .i64 c.Wait, D.int .i64 c.Rise, D.int .i64 c.Fall, D.int .i64 c.Fresh, D.int .i64 c.L_, D.int .i64 c.M_, D.int .i64 c.Dwell, D.int .i64 c.D_, D.int .i64 c.W_, D.int .i64 c.B_, D.int .i64 c.Hit, D.int .i64 c.Suppress, D.int .i64 c.Reuse, D.int .i64 c.Half, D.int .i64 c.First, D.int .i64 c.Step, D.int .i64 c.StepTime, D.int .i64 c.S_, D.int .i64 c.Cap, D.int .i64 c.Span, D.int .i64 c.Room, D.int .i64 c.Tries, D.int .i64 c.Retry], D.int .u64 mask_]) (args := [D.agg [D.int .i64 c.F_, D.int .i64 c.Deciders, D.int .i64 c.Targets, D.int .i64 c.Routers, D.int .i64 c.Observers, D.sl false 1 (List.map (eInt .i64) c.Tiers), D.int .i64 c.Every, D.int .i64 c.Wait, D.int .i64 c.Rise, D.int .i64 c.Fall, D.int .i64 c.Fresh, D.int .i64 c.L_, D.int .i64 c.M_, D.int .i64 c.Dwell, D.int .i64 c.D_, D.int .i64 c.W_, D.int .i64 c.B_, D.int .i64 c.Hit, D.int .i64 c.Suppress, D.int .i64 c.Reuse, D.int .i64 c.Half, D.int .i64 c.First, D.int .i64 c.Step, D.int .i64 c.StepTime, D.int .i64 c.S_, D.int .i64 c.Cap, D.int .i64 c.Span, D.int .i64 c.Room, D.int .i64 c.Tries, D.int .i64 c.Retry], D.int .u64 mask_]) (fun y16 => D.bool y16) h (by kernel_rfl) rfl ok16 (fun y16 h16 h => ?_)
          refine adv_ok hm 3 _ ?_
          obtain rfl := Option.some.inj h
          exact r_retF [] (d := D.bool (y15 == y16)) (s := []) (by kernel_rfl) ⟨rfl, rfl⟩
        · -- false
          refine adv_ok hm 8 _ ?_
          obtain rfl := Option.some.inj h
          exact r_retF [] (d := D.bool false) (s := []) (by kernel_rfl) ⟨rfl, rfl⟩
      · -- false
        refine adv_ok hm 24 _ ?_
        obtain rfl := Option.some.inj h
        exact r_retF [] (d := D.bool false) (s := []) (by kernel_rfl) ⟨rfl, rfl⟩
    · -- false
      refine adv_ok hm 34 _ ?_
      obtain rfl := Option.some.inj h
      exact r_retF [] (d := D.bool false) (s := []) (by kernel_rfl) ⟨rfl, rfl⟩
  · -- false
    refine adv_ok hm 44 _ ?_
    obtain rfl := Option.some.inj h
    exact r_retF [] (d := D.bool false) (s := []) (by kernel_rfl) ⟨rfl, rfl⟩
end Go.RX.L

set_option linter.unusedSimpArgs false
set_option linter.unusedVariables false
set_option maxRecDepth 100000
namespace Go.RX.L
open Go Go.RX Go.Proofs
theorem law16_ProposerTells_of_t2 {n : Nat} {ds : List D} (h : wtF Try.prog (n + 1) 2 ds) : ∃ x : Int, ds = (eInt .i64) x ∧ inK .i64 x := by
  obtain ⟨m, rfl, o⟩ := wt_int (k := .i64) (by kernel_rfl) h
  exact ⟨m, rfl, o⟩
theorem law16_ProposerTells_of_t3 {n : Nat} {ds : List D} (h : wtF Try.prog (n + 1) 3 ds) : ∃ x : Int, ds = (eInt .i64) x ∧ inK .i64 x := by
  obtain ⟨m, rfl, o⟩ := wt_int (k := .i64) (by kernel_rfl) h
  exact ⟨m, rfl, o⟩
theorem law16_ProposerTells_of_t25 {n : Nat} {ds : List D} (h : wtF Try.prog (n + 1) 25 ds) : ∃ x : Int, ds = (eInt .u64) x ∧ inK .u64 x := by
  obtain ⟨m, rfl, o⟩ := wt_int (k := .u64) (by kernel_rfl) h
  exact ⟨m, rfl, o⟩
theorem law16_ProposerTells_of_t22 {n : Nat} {ds : List D} (h : wtF Try.prog (n + 2) 22 ds) : ∃ x : List Int, ds = (eSl 1 (eInt .i64)) x ∧ (x.length * 8 ≤ reachBytes ∧ ∀ y ∈ x, inK .i64 y) := by
  obtain ⟨rows, rfl, o, w⟩ := wt_slice (n := n + 1) (e := 3) (sz := 1) (by_ := 8) (by kernel_rfl) (by kernel_rfl) (by kernel_rfl) h
  obtain ⟨l, rfl, q⟩ := wt_rows (en := (eInt .i64)) (Ok := fun y => inK .i64 y) (fun r hr => law16_ProposerTells_of_t3 (n := n + 0) hr) rows w
  exact ⟨l, rfl, by simpa using o, q⟩
theorem law16_ProposerTells_of_t26 {n : Nat} {ds : List D} (h : wtF Try.prog (n + 2) 26 ds) : ∃ x : List Int, ds = (eSl 1 (eInt .i64)) x ∧ (x.length * 8 ≤ reachBytes ∧ ∀ y ∈ x, inK .i64 y) := by
  obtain ⟨rows, rfl, o, w⟩ := wt_slice (n := n + 1) (e := 2) (sz := 1) (by_ := 8) (by kernel_rfl) (by kernel_rfl) (by kernel_rfl) h
  obtain ⟨l, rfl, q⟩ := wt_rows (en := (eInt .i64)) (Ok := fun y => inK .i64 y) (fun r hr => law16_ProposerTells_of_t2 (n := n + 0) hr) rows w
  exact ⟨l, rfl, by simpa using o, q⟩
theorem law16_ProposerTells_of_t28 {n : Nat} {ds : List D} (h : wtF Try.prog (n + 3) 28 ds) : ∃ x : Plan, ds = Plan.enc x ∧ x.Ok := by
  have h0 := wt_struct (n := n + 2) (ts := [2, 3, 3, 3, 3, 2, 2, 2, 25, 25, 22, 26]) (by kernel_rfl) h
  obtain ⟨a0, b0, rfl, w0, h1⟩ := wtL_cons h0
  obtain ⟨x0, rfl, o0⟩ := law16_ProposerTells_of_t2 (n := n + 1) w0
  obtain ⟨a1, b1, rfl, w1, h2⟩ := wtL_cons h1
  obtain ⟨x1, rfl, o1⟩ := law16_ProposerTells_of_t3 (n := n + 1) w1
  obtain ⟨a2, b2, rfl, w2, h3⟩ := wtL_cons h2
  obtain ⟨x2, rfl, o2⟩ := law16_ProposerTells_of_t3 (n := n + 1) w2
  obtain ⟨a3, b3, rfl, w3, h4⟩ := wtL_cons h3
  obtain ⟨x3, rfl, o3⟩ := law16_ProposerTells_of_t3 (n := n + 1) w3
  obtain ⟨a4, b4, rfl, w4, h5⟩ := wtL_cons h4
  obtain ⟨x4, rfl, o4⟩ := law16_ProposerTells_of_t3 (n := n + 1) w4
  obtain ⟨a5, b5, rfl, w5, h6⟩ := wtL_cons h5
  obtain ⟨x5, rfl, o5⟩ := law16_ProposerTells_of_t2 (n := n + 1) w5
  obtain ⟨a6, b6, rfl, w6, h7⟩ := wtL_cons h6
  obtain ⟨x6, rfl, o6⟩ := law16_ProposerTells_of_t2 (n := n + 1) w6
  obtain ⟨a7, b7, rfl, w7, h8⟩ := wtL_cons h7
  obtain ⟨x7, rfl, o7⟩ := law16_ProposerTells_of_t2 (n := n + 1) w7
  obtain ⟨a8, b8, rfl, w8, h9⟩ := wtL_cons h8
  obtain ⟨x8, rfl, o8⟩ := law16_ProposerTells_of_t25 (n := n + 1) w8
  obtain ⟨a9, b9, rfl, w9, h10⟩ := wtL_cons h9
  obtain ⟨x9, rfl, o9⟩ := law16_ProposerTells_of_t25 (n := n + 1) w9
  obtain ⟨a10, b10, rfl, w10, h11⟩ := wtL_cons h10
  obtain ⟨x10, rfl, o10⟩ := law16_ProposerTells_of_t22 (n := n + 0) w10
  obtain ⟨a11, b11, rfl, w11, h12⟩ := wtL_cons h11
  obtain ⟨x11, rfl, o11⟩ := law16_ProposerTells_of_t26 (n := n + 0) w11
  obtain rfl := wtL_nil h12
  exact ⟨⟨x0, x1, x2, x3, x4, x5, x6, x7, x8, x9, x10, x11⟩, rfl, o0, o1, o2, o3, o4, o5, o6, o7, o8, o9, o10, o11⟩
theorem law16_ProposerTells_of_t32 {n : Nat} {ds : List D} (h : wtF Try.prog (n + 4) 32 ds) : ∃ x : GProp, ds = GProp.enc x ∧ x.Ok := by
  have h0 := wt_struct (n := n + 3) (ts := [2, 2, 3, 28, 2, 28, 25, 25]) (by kernel_rfl) h
  obtain ⟨a0, b0, rfl, w0, h1⟩ := wtL_cons h0
  obtain ⟨x0, rfl, o0⟩ := law16_ProposerTells_of_t2 (n := n + 2) w0
  obtain ⟨a1, b1, rfl, w1, h2⟩ := wtL_cons h1
  obtain ⟨x1, rfl, o1⟩ := law16_ProposerTells_of_t2 (n := n + 2) w1
  obtain ⟨a2, b2, rfl, w2, h3⟩ := wtL_cons h2
  obtain ⟨x2, rfl, o2⟩ := law16_ProposerTells_of_t3 (n := n + 2) w2
  obtain ⟨a3, b3, rfl, w3, h4⟩ := wtL_cons h3
  obtain ⟨x3, rfl, o3⟩ := law16_ProposerTells_of_t28 (n := n + 0) w3
  obtain ⟨a4, b4, rfl, w4, h5⟩ := wtL_cons h4
  obtain ⟨x4, rfl, o4⟩ := law16_ProposerTells_of_t2 (n := n + 2) w4
  obtain ⟨a5, b5, rfl, w5, h6⟩ := wtL_cons h5
  obtain ⟨x5, rfl, o5⟩ := law16_ProposerTells_of_t28 (n := n + 0) w5
  obtain ⟨a6, b6, rfl, w6, h7⟩ := wtL_cons h6
  obtain ⟨x6, rfl, o6⟩ := law16_ProposerTells_of_t25 (n := n + 2) w6
  obtain ⟨a7, b7, rfl, w7, h8⟩ := wtL_cons h7
  obtain ⟨x7, rfl, o7⟩ := law16_ProposerTells_of_t25 (n := n + 2) w7
  obtain rfl := wtL_nil h8
  exact ⟨⟨x0, x1, x2, x3, x4, x5, x6, x7⟩, rfl, o0, o1, o2, o3, o4, o5, o6, o7⟩
theorem law16_ProposerTells_of_t24 {n : Nat} {ds : List D} (h : wtF Try.prog (n + 3) 24 ds) : ∃ x : Config, ds = Config.enc x ∧ x.Ok := by
  have h0 := wt_struct (n := n + 2) (ts := [3, 3, 3, 3, 3, 22, 2, 2, 3, 3, 2, 2, 2, 2, 2, 2, 3, 3, 3, 3, 2, 3, 3, 2, 2, 3, 2, 3, 3, 2]) (by kernel_rfl) h
  obtain ⟨a0, b0, rfl, w0, h1⟩ := wtL_cons h0
  obtain ⟨x0, rfl, o0⟩ := law16_ProposerTells_of_t3 (n := n + 1) w0
  obtain ⟨a1, b1, rfl, w1, h2⟩ := wtL_cons h1
  obtain ⟨x1, rfl, o1⟩ := law16_ProposerTells_of_t3 (n := n + 1) w1
  obtain ⟨a2, b2, rfl, w2, h3⟩ := wtL_cons h2
  obtain ⟨x2, rfl, o2⟩ := law16_ProposerTells_of_t3 (n := n + 1) w2
  obtain ⟨a3, b3, rfl, w3, h4⟩ := wtL_cons h3
  obtain ⟨x3, rfl, o3⟩ := law16_ProposerTells_of_t3 (n := n + 1) w3
  obtain ⟨a4, b4, rfl, w4, h5⟩ := wtL_cons h4
  obtain ⟨x4, rfl, o4⟩ := law16_ProposerTells_of_t3 (n := n + 1) w4
  obtain ⟨a5, b5, rfl, w5, h6⟩ := wtL_cons h5
  obtain ⟨x5, rfl, o5⟩ := law16_ProposerTells_of_t22 (n := n + 0) w5
  obtain ⟨a6, b6, rfl, w6, h7⟩ := wtL_cons h6
  obtain ⟨x6, rfl, o6⟩ := law16_ProposerTells_of_t2 (n := n + 1) w6
  obtain ⟨a7, b7, rfl, w7, h8⟩ := wtL_cons h7
  obtain ⟨x7, rfl, o7⟩ := law16_ProposerTells_of_t2 (n := n + 1) w7
  obtain ⟨a8, b8, rfl, w8, h9⟩ := wtL_cons h8
  obtain ⟨x8, rfl, o8⟩ := law16_ProposerTells_of_t3 (n := n + 1) w8
  obtain ⟨a9, b9, rfl, w9, h10⟩ := wtL_cons h9
  obtain ⟨x9, rfl, o9⟩ := law16_ProposerTells_of_t3 (n := n + 1) w9
  obtain ⟨a10, b10, rfl, w10, h11⟩ := wtL_cons h10
  obtain ⟨x10, rfl, o10⟩ := law16_ProposerTells_of_t2 (n := n + 1) w10
  obtain ⟨a11, b11, rfl, w11, h12⟩ := wtL_cons h11
  obtain ⟨x11, rfl, o11⟩ := law16_ProposerTells_of_t2 (n := n + 1) w11
  obtain ⟨a12, b12, rfl, w12, h13⟩ := wtL_cons h12
  obtain ⟨x12, rfl, o12⟩ := law16_ProposerTells_of_t2 (n := n + 1) w12
  obtain ⟨a13, b13, rfl, w13, h14⟩ := wtL_cons h13
  obtain ⟨x13, rfl, o13⟩ := law16_ProposerTells_of_t2 (n := n + 1) w13
  obtain ⟨a14, b14, rfl, w14, h15⟩ := wtL_cons h14
  obtain ⟨x14, rfl, o14⟩ := law16_ProposerTells_of_t2 (n := n + 1) w14
  obtain ⟨a15, b15, rfl, w15, h16⟩ := wtL_cons h15
  obtain ⟨x15, rfl, o15⟩ := law16_ProposerTells_of_t2 (n := n + 1) w15
  obtain ⟨a16, b16, rfl, w16, h17⟩ := wtL_cons h16
  obtain ⟨x16, rfl, o16⟩ := law16_ProposerTells_of_t3 (n := n + 1) w16
  obtain ⟨a17, b17, rfl, w17, h18⟩ := wtL_cons h17
  obtain ⟨x17, rfl, o17⟩ := law16_ProposerTells_of_t3 (n := n + 1) w17
  obtain ⟨a18, b18, rfl, w18, h19⟩ := wtL_cons h18
  obtain ⟨x18, rfl, o18⟩ := law16_ProposerTells_of_t3 (n := n + 1) w18
  obtain ⟨a19, b19, rfl, w19, h20⟩ := wtL_cons h19
  obtain ⟨x19, rfl, o19⟩ := law16_ProposerTells_of_t3 (n := n + 1) w19
  obtain ⟨a20, b20, rfl, w20, h21⟩ := wtL_cons h20
  obtain ⟨x20, rfl, o20⟩ := law16_ProposerTells_of_t2 (n := n + 1) w20
  obtain ⟨a21, b21, rfl, w21, h22⟩ := wtL_cons h21
  obtain ⟨x21, rfl, o21⟩ := law16_ProposerTells_of_t3 (n := n + 1) w21
  obtain ⟨a22, b22, rfl, w22, h23⟩ := wtL_cons h22
  obtain ⟨x22, rfl, o22⟩ := law16_ProposerTells_of_t3 (n := n + 1) w22
  obtain ⟨a23, b23, rfl, w23, h24⟩ := wtL_cons h23
  obtain ⟨x23, rfl, o23⟩ := law16_ProposerTells_of_t2 (n := n + 1) w23
  obtain ⟨a24, b24, rfl, w24, h25⟩ := wtL_cons h24
  obtain ⟨x24, rfl, o24⟩ := law16_ProposerTells_of_t2 (n := n + 1) w24
  obtain ⟨a25, b25, rfl, w25, h26⟩ := wtL_cons h25
  obtain ⟨x25, rfl, o25⟩ := law16_ProposerTells_of_t3 (n := n + 1) w25
  obtain ⟨a26, b26, rfl, w26, h27⟩ := wtL_cons h26
  obtain ⟨x26, rfl, o26⟩ := law16_ProposerTells_of_t2 (n := n + 1) w26
  obtain ⟨a27, b27, rfl, w27, h28⟩ := wtL_cons h27
  obtain ⟨x27, rfl, o27⟩ := law16_ProposerTells_of_t3 (n := n + 1) w27
  obtain ⟨a28, b28, rfl, w28, h29⟩ := wtL_cons h28
  obtain ⟨x28, rfl, o28⟩ := law16_ProposerTells_of_t3 (n := n + 1) w28
  obtain ⟨a29, b29, rfl, w29, h30⟩ := wtL_cons h29
  obtain ⟨x29, rfl, o29⟩ := law16_ProposerTells_of_t2 (n := n + 1) w29
  obtain rfl := wtL_nil h30
  exact ⟨⟨x0, x1, x2, x3, x4, x5, x6, x7, x8, x9, x10, x11, x12, x13, x14, x15, x16, x17, x18, x19, x20, x21, x22, x23, x24, x25, x26, x27, x28, x29⟩, rfl, o0, o1, o2, o3, o4, o5, o6, o7, o8, o9, o10, o11, o12, o13, o14, o15, o16, o17, o18, o19, o20, o21, o22, o23, o24, o25, o26, o27, o28, o29⟩
theorem law16_ProposerTells_of_t34 {n : Nat} {ds : List D} (h : wtF Try.prog (n + 1) 34 ds) : ∃ x : Int, ds = (eInt .i64) x ∧ inK .i64 x := by
  obtain ⟨m, rfl, o⟩ := wt_int (k := .i64) (by kernel_rfl) h
  exact ⟨m, rfl, o⟩
theorem law16_ProposerTells_of_t4 {n : Nat} {ds : List D} (h : wtF Try.prog (n + 1) 4 ds) : ∃ x : Bool, ds = eBool x ∧ True := by
  obtain ⟨m, rfl⟩ := wt_bool (by kernel_rfl) h
  exact ⟨m, rfl, trivial⟩
theorem law16_ProposerTells_of_t5 {n : Nat} {ds : List D} (h : wtF Try.prog (n + 1) 5 ds) : ∃ x : Int, ds = (eInt .u8) x ∧ inK .u8 x := by
  obtain ⟨m, rfl, o⟩ := wt_int (k := .u8) (by kernel_rfl) h
  exact ⟨m, rfl, o⟩
theorem law16_ProposerTells_of_t35 {n : Nat} {ds : List D} (h : wtF Try.prog (n + 2) 35 ds) : ∃ x : List Int, ds = (eSl 1 (eInt .u8)) x ∧ (x.length * 1 ≤ reachBytes ∧ ∀ y ∈ x, inK .u8 y) := by
  obtain ⟨rows, rfl, o, w⟩ := wt_slice (n := n + 1) (e := 5) (sz := 1) (by_ := 1) (by kernel_rfl) (by kernel_rfl) (by kernel_rfl) h
  obtain ⟨l, rfl, q⟩ := wt_rows (en := (eInt .u8)) (Ok := fun y => inK .u8 y) (fun r hr => law16_ProposerTells_of_t5 (n := n + 0) hr) rows w
  exact ⟨l, rfl, by simpa using o, q⟩
theorem law16_ProposerTells_of_t37 {n : Nat} {ds : List D} (h : wtF Try.prog (n + 4) 37 ds) : ∃ x : Msg, ds = Msg.enc x ∧ x.Ok := by
  have h0 := wt_struct (n := n + 3) (ts := [34, 3, 3, 2, 2, 2, 2, 2, 25, 3, 4, 28, 26, 35, 35]) (by kernel_rfl) h
  obtain ⟨a0, b0, rfl, w0, h1⟩ := wtL_cons h0
  obtain ⟨x0, rfl, o0⟩ := law16_ProposerTells_of_t34 (n := n + 2) w0
  obtain ⟨a1, b1, rfl, w1, h2⟩ := wtL_cons h1
  obtain ⟨x1, rfl, o1⟩ := law16_ProposerTells_of_t3 (n := n + 2) w1
  obtain ⟨a2, b2, rfl, w2, h3⟩ := wtL_cons h2
  obtain ⟨x2, rfl, o2⟩ := law16_ProposerTells_of_t3 (n := n + 2) w2
  obtain ⟨a3, b3, rfl, w3, h4⟩ := wtL_cons h3
  obtain ⟨x3, rfl, o3⟩ := law16_ProposerTells_of_t2 (n := n + 2) w3
  obtain ⟨a4, b4, rfl, w4, h5⟩ := wtL_cons h4
  obtain ⟨x4, rfl, o4⟩ := law16_ProposerTells_of_t2 (n := n + 2) w4
  obtain ⟨a5, b5, rfl, w5, h6⟩ := wtL_cons h5
  obtain ⟨x5, rfl, o5⟩ := law16_ProposerTells_of_t2 (n := n + 2) w5
  obtain ⟨a6, b6, rfl, w6, h7⟩ := wtL_cons h6
  obtain ⟨x6, rfl, o6⟩ := law16_ProposerTells_of_t2 (n := n + 2) w6
  obtain ⟨a7, b7, rfl, w7, h8⟩ := wtL_cons h7
  obtain ⟨x7, rfl, o7⟩ := law16_ProposerTells_of_t2 (n := n + 2) w7
  obtain ⟨a8, b8, rfl, w8, h9⟩ := wtL_cons h8
  obtain ⟨x8, rfl, o8⟩ := law16_ProposerTells_of_t25 (n := n + 2) w8
  obtain ⟨a9, b9, rfl, w9, h10⟩ := wtL_cons h9
  obtain ⟨x9, rfl, o9⟩ := law16_ProposerTells_of_t3 (n := n + 2) w9
  obtain ⟨a10, b10, rfl, w10, h11⟩ := wtL_cons h10
  obtain ⟨x10, rfl, o10⟩ := law16_ProposerTells_of_t4 (n := n + 2) w10
  obtain ⟨a11, b11, rfl, w11, h12⟩ := wtL_cons h11
  obtain ⟨x11, rfl, o11⟩ := law16_ProposerTells_of_t28 (n := n + 0) w11
  obtain ⟨a12, b12, rfl, w12, h13⟩ := wtL_cons h12
  obtain ⟨x12, rfl, o12⟩ := law16_ProposerTells_of_t26 (n := n + 1) w12
  obtain ⟨a13, b13, rfl, w13, h14⟩ := wtL_cons h13
  obtain ⟨x13, rfl, o13⟩ := law16_ProposerTells_of_t35 (n := n + 1) w13
  obtain ⟨a14, b14, rfl, w14, h15⟩ := wtL_cons h14
  obtain ⟨x14, rfl, o14⟩ := law16_ProposerTells_of_t35 (n := n + 1) w14
  obtain rfl := wtL_nil h15
  exact ⟨⟨x0, x1, x2, x3, x4, x5, x6, x7, x8, x9, x10, x11, x12, x13, x14⟩, rfl, o0, o1, o2, o3, o4, o5, o6, o7, o8, o9, o10, o11, o12, o13, o14⟩
theorem law16_ProposerTells_sound (H : ∀ (p : GProp) (c : Config) (m : Msg) (mask_ : Int), p.Ok → c.Ok → m.Ok → inK .u64 mask_ → law16_ProposerTells p c m mask_ = some true) : ∀ xs, wtA Try.prog Try.f5.params.toList xs → Sound E 5 xs [] fun d _ => d = .bool true := by
  intro xs h
  have h0 : wtA Try.prog [32, 24, 37, 25] xs := h
  obtain ⟨d0, r0, rfl, w0, h1⟩ := wtA_cons h0
  obtain ⟨c0, rfl, v0⟩ := wtP_agg (by kernel_rfl) w0
  obtain ⟨x0, rfl, o0⟩ := law16_ProposerTells_of_t32 (n := 2) v0
  obtain ⟨d1, r1, rfl, w1, h2⟩ := wtA_cons h1
  obtain ⟨c1, rfl, v1⟩ := wtP_agg (by kernel_rfl) w1
  obtain ⟨x1, rfl, o1⟩ := law16_ProposerTells_of_t24 (n := 3) v1
  obtain ⟨d2, r2, rfl, w2, h3⟩ := wtA_cons h2
  obtain ⟨c2, rfl, v2⟩ := wtP_agg (by kernel_rfl) w2
  obtain ⟨x2, rfl, o2⟩ := law16_ProposerTells_of_t37 (n := 2) v2
  obtain ⟨d3, r3, rfl, w3, h4⟩ := wtA_cons h3
  have v3 := wtP_flat (by kernel_rfl) w3
  obtain ⟨x3, e3, o3⟩ := law16_ProposerTells_of_t25 (n := 5) v3
  obtain ⟨rfl, -⟩ := List.cons.inj e3
  obtain rfl := wtA_nil h4
  exact (law16_ProposerTells_ok (H x0 x1 x2 x3 o0 o1 o2 o3)).mono fun d s h => h.1
end Go.RX.L

set_option linter.unusedSimpArgs false
set_option linter.unusedVariables false
namespace Go.RX.L
open Go Go.RX

theorem answers_ok (p : GProp) (c : Config) (m : Msg) (k f : Int) (h : p.Phase = f) : ref16_answers p c m k = some (toP p c m k f) := by
  have hf := fN_le c
  have e2 : IntKind.i64.wrap ((2 : Int) * (fN c : Int)) = 2 * (fN c : Int) := wI64 (by omega) (by omega)
  unfold ref16_answers ref16_f toP
  simp only [Option.bind_some, fN_eq, e2]
  rw [decide_eq_true h, Bool.true_and]
  by_cases h2 : m.Kind = k
  · by_cases h3 : m.Epoch = p.Epoch
    · by_cases h4 : m.Ballot = p.Ballot
      · by_cases h5 : m.From ≥ 0
        · simp [h2, h3, h4, h5]
        · simp [h2, h3, h4, h5]
      · simp [h2, h3, h4, beq_eq_false_iff_ne.2 h4]
    · simp [h2, h3, beq_eq_false_iff_ne.2 h3]
  · simp [h2, beq_eq_false_iff_ne.2 h2]

theorem rst3_ok {p : GProp} {c : Config} {b : GProp} (hg : inK .u64 p.Promises) : ref16_Promise_2 p c b = some (st3 p c) := by
  have hg' := inU64.1 hg
  unfold ref16_Promise_2 st3
  obtain ⟨n, hn⟩ := Int.eq_ofNat_of_zero_le hg'.1
  rw [hn, rmost_ok c (by omega)]
  simp only [Int.toNat_natCast, Option.bind_some]
  cases mostP c n with
  | false => rfl
  | true =>
    by_cases h : p.Best = 0
    · simp [h]
    · simp [h, beq_eq_false_iff_ne.2 h]

theorem rpromise_ok (p : GProp) (c : Config) (m : Msg) (hp : inK .u64 p.Promises) : ref16_Promise p c m = some (promiseP p c m) := by
  have yes : ∀ b, toP p c m 5 1 = true → ref16_Promise_1 false p c m b = some (st3 (st2 (st1 p m) m) c) := fun b h => by
    have hf := to_from h
    obtain ⟨o1, o2, o3⟩ := orP_ok hp hf
    unfold ref16_Promise_1 ref16_Promise_3
    rw [o1]
    have nn : (!decide (m.From < 0)) = true := by simp; omega
    simp only [cond_false, nn, cond_true]
    cases hh : m.HasPlan with
    | false =>
      simp only [cond_false]
      refine (rst3_ok (p := st1 p m) o2).trans ?_
      unfold st2
      rw [hh]
      rfl
    | true =>
      simp only [cond_true]
      have e : decide (m.Accepted > (st1 p m).Best) = decide (m.Accepted > p.Best) := rfl
      unfold st2
      rw [hh, e]
      cases decide (m.Accepted > p.Best) with
      | false =>
        simp only [cond_false, Bool.and_false]
        exact rst3_ok (p := st1 p m) o2
      | true =>
        simp only [cond_true, Bool.and_true]
        exact rst3_ok (p := ⟨p.Epoch, p.Ballot, p.Phase, p.Own, m.Accepted, m.Plan, orP p.Promises m.From.toNat, p.Accepts⟩) o2
  have no : ∀ b, ref16_Promise_1 true p c m b = some p := fun b => rfl
  unfold ref16_Promise promiseP
  by_cases h1 : p.Phase = 1
  · rw [answers_ok p c m 5 1 h1, show (p.Phase != 1) = false by simp [h1]]
    simp only [Option.bind_some, cond_false]
    cases ht : toP p c m 5 1 with
    | false => simp [no]
    | true =>
      simp only [Bool.not_true, cond_false, Bool.true_and]
      unfold wellP
      cases hh : m.HasPlan with
      | false => simp [yes _ ht]
      | true =>
        by_cases h : m.Plan.Epoch = p.Epoch
        · simp [h, yes _ ht]
        · have hb : (m.Plan.Epoch != p.Epoch) = true := by simpa using h
          simp [h, hb, no]
  · rw [show (p.Phase != 1) = true by simpa using h1]
    simp [toP, h1, no]

theorem raccepted_ok (p : GProp) (c : Config) (m : Msg) (hp : inK .u64 p.Accepts) : ref16_Accepted p c m = some (acceptedP p c m) := by
  unfold ref16_Accepted acceptedP
  by_cases h1 : p.Phase = 2
  · rw [answers_ok p c m 8 2 h1, show (p.Phase != 2) = false by simp [h1]]
    simp only [Option.bind_some, cond_false]
    unfold ref16_Accepted_1
    cases ht : toP p c m 8 2 with
    | false => rfl
    | true =>
      have hf := to_from ht
      obtain ⟨o1, o2, o3⟩ := orP_ok hp hf
      have nn : (!decide (m.From < 0)) = true := by simp; omega
      rw [o1]
      simp only [Bool.not_true, cond_false, nn, cond_true]
      obtain ⟨n, hn⟩ := Int.eq_ofNat_of_zero_le (inU64.1 o2).1
      rw [hn]
      rw [hn, Int.toNat_natCast] at o3
      rw [rmost_ok c o3]
      simp only [Option.bind_some, Int.toNat_natCast]
      cases mostP c n <;> rfl
  · rw [show (p.Phase != 2) = true by simpa using h1]
    simp [toP, h1, ref16_Accepted_1]

theorem rsame_ok (p : GProp) (h1 : Shrt p.Own) (h2 : Shrt p.Value) : ref16_Same p p = some true := by
  unfold ref16_Same ref16_Same_1
  rw [ref04_refl _ h1, ref04_refl _ h2]
  simp

theorem promise_shrt {p : GProp} {c : Config} {m : Msg} (h1 : Shrt p.Own) (h2 : Shrt p.Value) (h3 : Shrt m.Plan) : Shrt (promiseP p c m).Own ∧ Shrt (promiseP p c m).Value := by
  unfold promiseP
  cases toP p c m 5 1 && wellP p m with
  | false => exact ⟨h1, h2⟩
  | true =>
    simp only [cond_true]
    have s2 : Shrt (st2 (st1 p m) m).Own ∧ Shrt (st2 (st1 p m) m).Value := by
      unfold st2
      cases m.HasPlan && decide (m.Accepted > (st1 p m).Best)
      · exact ⟨h1, h2⟩
      · exact ⟨h1, h3⟩
    generalize st2 (st1 p m) m = q at s2
    unfold st3
    cases mostP c q.Promises.toNat
    · exact s2
    · refine ⟨s2.1, ?_⟩
      show Shrt (bif decide (q.Best = 0) then q.Own else q.Value)
      cases decide (q.Best = 0)
      · exact s2.2
      · exact s2.1
theorem accepted_shrt {p : GProp} {c : Config} {m : Msg} (h1 : Shrt p.Own) (h2 : Shrt p.Value) : Shrt (acceptedP p c m).Own ∧ Shrt (acceptedP p c m).Value := by
  unfold acceptedP
  cases toP p c m 8 2 <;> exact ⟨h1, h2⟩

theorem proposerTells (p : GProp) (c : Config) (m : Msg) (k : Int) (hp : p.Ok) (_ : c.Ok) (hm : m.Ok) (hk : inK .u64 k) : law16_ProposerTells p c m k = some true := by
  obtain ⟨-, -, -, po, -, pv, pp, pa⟩ := hp
  obtain ⟨-, -, -, -, -, -, -, -, -, -, -, mp, -⟩ := hm
  have po := po.shrt
  have pv := pv.shrt
  have mp := mp.shrt
  obtain ⟨a1, a2⟩ := promise_shrt (c := c) po pv mp
  obtain ⟨b1, b2⟩ := accepted_shrt (c := c) (m := m) po pv
  have hk' := inU64.1 hk
  obtain ⟨n, rfl⟩ := Int.eq_ofNat_of_zero_le hk'.1
  have hn : n < 18446744073709551616 := by omega
  have zs : Shrt zeroP := ⟨by decide, by decide⟩
  unfold law16_ProposerTells
  rw [head_ok, promise_ok p c m pp, rpromise_ok p c m pp, accepted_ok p c m pa, raccepted_ok p c m pa, start_ok, show ref16_Start m.Epoch m.Ballot m.Plan = proposer_Start m.Epoch m.Ballot m.Plan from rfl, start_ok, most_ok c hn, rmost_ok c hn]
  simp only [Option.bind_some, cond_true]
  rw [rsame_ok _ a1 a2, rsame_ok _ b1 b2, rsame_ok _ (by exact mp) zs]
  simp
end Go.RX.L
