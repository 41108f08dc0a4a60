/-
  Words and walks for ProposerHighest. No condition.
-/
import Derived.Test.YtjfbchlfgfkcdaaProposerHighestY3
set_option linter.unusedSimpArgs false
set_option linter.unusedVariables false
set_option maxRecDepth 100000
set_option maxHeartbeats 4000000
namespace Go.RX.L
open Go Go.RX Go.Proofs
def law16_ProposerHighest_Q (y : Bool) (d : D) (s : Sto) : Prop := d = D.bool y ∧ s = []
inductive law16_ProposerHighest_S where
  | s0 (c : Config) (epoch : Int) (ballot : Int) (own : Plan) (l : List Msg)
  | s1 (epoch : Int) (ballot : Int) (l : List Msg) (up : Bool) (t31 : Bool) (c : Config) (own : Plan)
  | s2 (epoch : Int) (ballot : Int) (l : List Msg) (up : Bool) (best : Int) (seen : Int) (i : Int) (c : Config) (own : Plan) (p : GProp) (value : Plan)
  | s5 (epoch : Int) (ballot : Int) (l : List Msg) (up : Bool) (best : Int) (seen : Int) (i : Int) (t91 : Bool) (c : Config) (own : Plan) (p : GProp) (value : Plan) (m : Msg)
  | s4 (epoch : Int) (ballot : Int) (l : List Msg) (up : Bool) (best : Int) (seen : Int) (i : Int) (t104 : Bool) (c : Config) (own : Plan) (p : GProp) (value : Plan) (m : Msg)
  | s3 (epoch : Int) (ballot : Int) (l : List Msg) (up : Bool) (best : Int) (seen : Int) (i : Int) (c : Config) (own : Plan) (p : GProp) (value : Plan) (m : Msg)
noncomputable def law16_ProposerHighest_M : law16_ProposerHighest_S → M
  | .s0 c epoch ballot own l => ⟨[.code (bodyOf Try.f3)], [(0, D.agg [D.int .i64 c.F_, D.int .i64 c.Deciders, D.int .i64 c.Targets, D.int .i64 c.Routers, D.int .i64 c.Observers, D.sl false 1 (List.map (eInt .i64) c.Tiers), D.int .i64 c.Every, D.int .i64 c.Wait, D.int .i64 c.Rise, D.int .i64 c.Fall, D.int .i64 c.Fresh, D.int .i64 c.L_, D.int .i64 c.M_, D.int .i64 c.Dwell, D.int .i64 c.D_, D.int .i64 c.W_, D.int .i64 c.B_, D.int .i64 c.Hit, D.int .i64 c.Suppress, D.int .i64 c.Reuse, D.int .i64 c.Half, D.int .i64 c.First, D.int .i64 c.Step, D.int .i64 c.StepTime, D.int .i64 c.S_, D.int .i64 c.Cap, D.int .i64 c.Span, D.int .i64 c.Room, D.int .i64 c.Tries, D.int .i64 c.Retry]), (1, D.int .i64 epoch), (2, D.int .i64 ballot), (3, D.agg [D.int .i64 own.Epoch, D.int .i64 own.Target, D.int .i64 own.Prev, D.int .i64 own.Spill, D.int .i64 own.Percent, D.int .i64 own.Stamp, D.int .i64 own.Since, D.int .i64 own.Ramped, D.int .u64 own.Up, D.int .u64 own.Sup, D.sl false 1 (List.map (eInt .i64) own.Pen), D.sl false 1 (List.map (eInt .i64) own.Changes)]), (4, D.sl false 26 (List.map Msg.enc l))], []⟩
  | .s1 epoch ballot l up t31 c own => { td := [It.code (codeAt (bodyOf Try.f3) [1, 1, 0, 1]), It.code (codeAt (bodyOf Try.f3) [1, 1, 1])], fr := [(1, D.int .i64 epoch), (2, D.int .i64 ballot), (4, D.sl false 26 (List.map Msg.enc l)), (5, D.ptr 0 0 0), (8, D.ptr 1 0 0), (11, D.bool up), (31, D.bool t31)], st := [some { sz := 30, deep := false, rows := [[D.int .i64 c.F_, D.int .i64 c.Deciders, D.int .i64 c.Targets, D.int .i64 c.Routers, D.int .i64 c.Observers, D.sl false 1 (List.map (eInt .i64) c.Tiers), D.int .i64 c.Every, D.int .i64 c.Wait, D.int .i64 c.Rise, D.int .i64 c.Fall, D.int .i64 c.Fresh, D.int .i64 c.L_, D.int .i64 c.M_, D.int .i64 c.Dwell, D.int .i64 c.D_, D.int .i64 c.W_, D.int .i64 c.B_, D.int .i64 c.Hit, D.int .i64 c.Suppress, D.int .i64 c.Reuse, D.int .i64 c.Half, D.int .i64 c.First, D.int .i64 c.Step, D.int .i64 c.StepTime, D.int .i64 c.S_, D.int .i64 c.Cap, D.int .i64 c.Span, D.int .i64 c.Room, D.int .i64 c.Tries, D.int .i64 c.Retry]] }, some { sz := 12, deep := false, rows := [[D.int .i64 own.Epoch, D.int .i64 own.Target, D.int .i64 own.Prev, D.int .i64 own.Spill, D.int .i64 own.Percent, D.int .i64 own.Stamp, D.int .i64 own.Since, D.int .i64 own.Ramped, D.int .u64 own.Up, D.int .u64 own.Sup, D.sl false 1 (List.map (eInt .i64) own.Pen), D.sl false 1 (List.map (eInt .i64) own.Changes)]] }] }
  | .s2 epoch ballot l up best seen i c own p value => { td := [It.lpc (codeAt (bodyOf Try.f3) [1, 1, 1, 1, 1, 1, 1, 0, 1, 0, 0]) 129334, It.blk 0, It.code (codeAt (bodyOf Try.f3) [1, 1, 1, 1, 1, 1, 1, 1])], fr := [(1, D.int .i64 epoch), (2, D.int .i64 ballot), (4, D.sl false 26 (List.map Msg.enc l)), (5, D.ptr 0 0 0), (8, D.ptr 1 0 0), (11, D.bool up), (12, D.ptr 2 0 0), (13, D.int .i64 best), (14, D.ptr 3 0 0), (15, D.int .u64 seen), (16, D.int .i64 i)], st := [some { sz := 30, deep := false, rows := [[D.int .i64 c.F_, D.int .i64 c.Deciders, D.int .i64 c.Targets, D.int .i64 c.Routers, D.int .i64 c.Observers, D.sl false 1 (List.map (eInt .i64) c.Tiers), D.int .i64 c.Every, D.int .i64 c.Wait, D.int .i64 c.Rise, D.int .i64 c.Fall, D.int .i64 c.Fresh, D.int .i64 c.L_, D.int .i64 c.M_, D.int .i64 c.Dwell, D.int .i64 c.D_, D.int .i64 c.W_, D.int .i64 c.B_, D.int .i64 c.Hit, D.int .i64 c.Suppress, D.int .i64 c.Reuse, D.int .i64 c.Half, D.int .i64 c.First, D.int .i64 c.Step, D.int .i64 c.StepTime, D.int .i64 c.S_, D.int .i64 c.Cap, D.int .i64 c.Span, D.int .i64 c.Room, D.int .i64 c.Tries, D.int .i64 c.Retry]] }, some { sz := 12, deep := false, rows := [[D.int .i64 own.Epoch, D.int .i64 own.Target, D.int .i64 own.Prev, D.int .i64 own.Spill, D.int .i64 own.Percent, D.int .i64 own.Stamp, D.int .i64 own.Since, D.int .i64 own.Ramped, D.int .u64 own.Up, D.int .u64 own.Sup, D.sl false 1 (List.map (eInt .i64) own.Pen), D.sl false 1 (List.map (eInt .i64) own.Changes)]] }, some { sz := 30, deep := false, rows := [[D.int .i64 p.Epoch, D.int .i64 p.Ballot, D.int .i64 p.Phase, D.int .i64 p.Own.Epoch, D.int .i64 p.Own.Target, D.int .i64 p.Own.Prev, D.int .i64 p.Own.Spill, D.int .i64 p.Own.Percent, D.int .i64 p.Own.Stamp, D.int .i64 p.Own.Since, D.int .i64 p.Own.Ramped, D.int .u64 p.Own.Up, D.int .u64 p.Own.Sup, D.sl false 1 (List.map (eInt .i64) p.Own.Pen), D.sl false 1 (List.map (eInt .i64) p.Own.Changes), D.int .i64 p.Best, D.int .i64 p.Value.Epoch, D.int .i64 p.Value.Target, D.int .i64 p.Value.Prev, D.int .i64 p.Value.Spill, D.int .i64 p.Value.Percent, D.int .i64 p.Value.Stamp, D.int .i64 p.Value.Since, D.int .i64 p.Value.Ramped, D.int .u64 p.Value.Up, D.int .u64 p.Value.Sup, D.sl false 1 (List.map (eInt .i64) p.Value.Pen), D.sl false 1 (List.map (eInt .i64) p.Value.Changes), D.int .u64 p.Promises, D.int .u64 p.Accepts]] }, some { sz := 12, deep := false, rows := [[D.int .i64 value.Epoch, D.int .i64 value.Target, D.int .i64 value.Prev, D.int .i64 value.Spill, D.int .i64 value.Percent, D.int .i64 value.Stamp, D.int .i64 value.Since, D.int .i64 value.Ramped, D.int .u64 value.Up, D.int .u64 value.Sup, D.sl false 1 (List.map (eInt .i64) value.Pen), D.sl false 1 (List.map (eInt .i64) value.Changes)]] }] }
  | .s5 epoch ballot l up best seen i t91 c own p value m => { td := [It.code (codeAt (bodyOf Try.f3) [1, 1, 1, 1, 1, 1, 1, 0, 1, 0, 0, 1, 0, 0, 1, 0, 1]), It.code (codeAt (bodyOf Try.f3) [1, 1, 1, 1, 1, 1, 1, 0, 1, 0, 0, 1, 0, 0, 1, 1]), It.blk 1, It.code (codeAt (bodyOf Try.f3) [1, 1, 1, 1, 1, 1, 1, 0, 1, 0, 0, 1, 1]), It.lp (codeAt (bodyOf Try.f3) [1, 1, 1, 1, 1, 1, 1, 0, 1, 0, 0]) 129334, It.blk 0, It.code (codeAt (bodyOf Try.f3) [1, 1, 1, 1, 1, 1, 1, 1])], fr := [(1, D.int .i64 epoch), (2, D.int .i64 ballot), (4, D.sl false 26 (List.map Msg.enc l)), (5, D.ptr 0 0 0), (8, D.ptr 1 0 0), (11, D.bool up), (12, D.ptr 2 0 0), (13, D.int .i64 best), (14, D.ptr 3 0 0), (15, D.int .u64 seen), (16, D.int .i64 i), (17, D.ptr 4 0 0), (91, D.bool t91)], st := [some { sz := 30, deep := false, rows := [[D.int .i64 c.F_, D.int .i64 c.Deciders, D.int .i64 c.Targets, D.int .i64 c.Routers, D.int .i64 c.Observers, D.sl false 1 (List.map (eInt .i64) c.Tiers), D.int .i64 c.Every, D.int .i64 c.Wait, D.int .i64 c.Rise, D.int .i64 c.Fall, D.int .i64 c.Fresh, D.int .i64 c.L_, D.int .i64 c.M_, D.int .i64 c.Dwell, D.int .i64 c.D_, D.int .i64 c.W_, D.int .i64 c.B_, D.int .i64 c.Hit, D.int .i64 c.Suppress, D.int .i64 c.Reuse, D.int .i64 c.Half, D.int .i64 c.First, D.int .i64 c.Step, D.int .i64 c.StepTime, D.int .i64 c.S_, D.int .i64 c.Cap, D.int .i64 c.Span, D.int .i64 c.Room, D.int .i64 c.Tries, D.int .i64 c.Retry]] }, some { sz := 12, deep := false, rows := [[D.int .i64 own.Epoch, D.int .i64 own.Target, D.int .i64 own.Prev, D.int .i64 own.Spill, D.int .i64 own.Percent, D.int .i64 own.Stamp, D.int .i64 own.Since, D.int .i64 own.Ramped, D.int .u64 own.Up, D.int .u64 own.Sup, D.sl false 1 (List.map (eInt .i64) own.Pen), D.sl false 1 (List.map (eInt .i64) own.Changes)]] }, some { sz := 30, deep := false, rows := [[D.int .i64 p.Epoch, D.int .i64 p.Ballot, D.int .i64 p.Phase, D.int .i64 p.Own.Epoch, D.int .i64 p.Own.Target, D.int .i64 p.Own.Prev, D.int .i64 p.Own.Spill, D.int .i64 p.Own.Percent, D.int .i64 p.Own.Stamp, D.int .i64 p.Own.Since, D.int .i64 p.Own.Ramped, D.int .u64 p.Own.Up, D.int .u64 p.Own.Sup, D.sl false 1 (List.map (eInt .i64) p.Own.Pen), D.sl false 1 (List.map (eInt .i64) p.Own.Changes), D.int .i64 p.Best, D.int .i64 p.Value.Epoch, D.int .i64 p.Value.Target, D.int .i64 p.Value.Prev, D.int .i64 p.Value.Spill, D.int .i64 p.Value.Percent, D.int .i64 p.Value.Stamp, D.int .i64 p.Value.Since, D.int .i64 p.Value.Ramped, D.int .u64 p.Value.Up, D.int .u64 p.Value.Sup, D.sl false 1 (List.map (eInt .i64) p.Value.Pen), D.sl false 1 (List.map (eInt .i64) p.Value.Changes), D.int .u64 p.Promises, D.int .u64 p.Accepts]] }, some { sz := 12, deep := false, rows := [[D.int .i64 value.Epoch, D.int .i64 value.Target, D.int .i64 value.Prev, D.int .i64 value.Spill, D.int .i64 value.Percent, D.int .i64 value.Stamp, D.int .i64 value.Since, D.int .i64 value.Ramped, D.int .u64 value.Up, D.int .u64 value.Sup, D.sl false 1 (List.map (eInt .i64) value.Pen), D.sl false 1 (List.map (eInt .i64) value.Changes)]] }, some { sz := 26, deep := false, rows := [[D.int .i64 m.Kind, D.int .i64 m.From, D.int .i64 m.To, D.int .i64 m.Epoch, D.int .i64 m.Ballot, D.int .i64 m.Accepted, D.int .i64 m.Nonce, D.int .i64 m.Time, D.int .u64 m.Up, D.int .i64 m.Code, D.bool m.HasPlan, D.int .i64 m.Plan.Epoch, D.int .i64 m.Plan.Target, D.int .i64 m.Plan.Prev, D.int .i64 m.Plan.Spill, D.int .i64 m.Plan.Percent, D.int .i64 m.Plan.Stamp, D.int .i64 m.Plan.Since, D.int .i64 m.Plan.Ramped, D.int .u64 m.Plan.Up, D.int .u64 m.Plan.Sup, D.sl false 1 (List.map (eInt .i64) m.Plan.Pen), D.sl false 1 (List.map (eInt .i64) m.Plan.Changes), D.sl false 1 (List.map (eInt .i64) m.ID), D.sl false 1 (List.map (eInt .u8) m.Session), D.sl false 1 (List.map (eInt .u8) m.Payload)]] }] }
  | .s4 epoch ballot l up best seen i t104 c own p value m => { td := [It.code (codeAt (bodyOf Try.f3) [1, 1, 1, 1, 1, 1, 1, 0, 1, 0, 0, 1, 0, 0, 1, 0, 1, 0, 1, 1]), It.code (codeAt (bodyOf Try.f3) [1, 1, 1, 1, 1, 1, 1, 0, 1, 0, 0, 1, 0, 0, 1, 1]), It.blk 1, It.code (codeAt (bodyOf Try.f3) [1, 1, 1, 1, 1, 1, 1, 0, 1, 0, 0, 1, 1]), It.lp (codeAt (bodyOf Try.f3) [1, 1, 1, 1, 1, 1, 1, 0, 1, 0, 0]) 129334, It.blk 0, It.code (codeAt (bodyOf Try.f3) [1, 1, 1, 1, 1, 1, 1, 1])], fr := [(1, D.int .i64 epoch), (2, D.int .i64 ballot), (4, D.sl false 26 (List.map Msg.enc l)), (5, D.ptr 0 0 0), (8, D.ptr 1 0 0), (11, D.bool up), (12, D.ptr 2 0 0), (13, D.int .i64 best), (14, D.ptr 3 0 0), (15, D.int .u64 seen), (16, D.int .i64 i), (17, D.ptr 4 0 0), (104, D.bool t104)], st := [some { sz := 30, deep := false, rows := [[D.int .i64 c.F_, D.int .i64 c.Deciders, D.int .i64 c.Targets, D.int .i64 c.Routers, D.int .i64 c.Observers, D.sl false 1 (List.map (eInt .i64) c.Tiers), D.int .i64 c.Every, D.int .i64 c.Wait, D.int .i64 c.Rise, D.int .i64 c.Fall, D.int .i64 c.Fresh, D.int .i64 c.L_, D.int .i64 c.M_, D.int .i64 c.Dwell, D.int .i64 c.D_, D.int .i64 c.W_, D.int .i64 c.B_, D.int .i64 c.Hit, D.int .i64 c.Suppress, D.int .i64 c.Reuse, D.int .i64 c.Half, D.int .i64 c.First, D.int .i64 c.Step, D.int .i64 c.StepTime, D.int .i64 c.S_, D.int .i64 c.Cap, D.int .i64 c.Span, D.int .i64 c.Room, D.int .i64 c.Tries, D.int .i64 c.Retry]] }, some { sz := 12, deep := false, rows := [[D.int .i64 own.Epoch, D.int .i64 own.Target, D.int .i64 own.Prev, D.int .i64 own.Spill, D.int .i64 own.Percent, D.int .i64 own.Stamp, D.int .i64 own.Since, D.int .i64 own.Ramped, D.int .u64 own.Up, D.int .u64 own.Sup, D.sl false 1 (List.map (eInt .i64) own.Pen), D.sl false 1 (List.map (eInt .i64) own.Changes)]] }, some { sz := 30, deep := false, rows := [[D.int .i64 p.Epoch, D.int .i64 p.Ballot, D.int .i64 p.Phase, D.int .i64 p.Own.Epoch, D.int .i64 p.Own.Target, D.int .i64 p.Own.Prev, D.int .i64 p.Own.Spill, D.int .i64 p.Own.Percent, D.int .i64 p.Own.Stamp, D.int .i64 p.Own.Since, D.int .i64 p.Own.Ramped, D.int .u64 p.Own.Up, D.int .u64 p.Own.Sup, D.sl false 1 (List.map (eInt .i64) p.Own.Pen), D.sl false 1 (List.map (eInt .i64) p.Own.Changes), D.int .i64 p.Best, D.int .i64 p.Value.Epoch, D.int .i64 p.Value.Target, D.int .i64 p.Value.Prev, D.int .i64 p.Value.Spill, D.int .i64 p.Value.Percent, D.int .i64 p.Value.Stamp, D.int .i64 p.Value.Since, D.int .i64 p.Value.Ramped, D.int .u64 p.Value.Up, D.int .u64 p.Value.Sup, D.sl false 1 (List.map (eInt .i64) p.Value.Pen), D.sl false 1 (List.map (eInt .i64) p.Value.Changes), D.int .u64 p.Promises, D.int .u64 p.Accepts]] }, some { sz := 12, deep := false, rows := [[D.int .i64 value.Epoch, D.int .i64 value.Target, D.int .i64 value.Prev, D.int .i64 value.Spill, D.int .i64 value.Percent, D.int .i64 value.Stamp, D.int .i64 value.Since, D.int .i64 value.Ramped, D.int .u64 value.Up, D.int .u64 value.Sup, D.sl false 1 (List.map (eInt .i64) value.Pen), D.sl false 1 (List.map (eInt .i64) value.Changes)]] }, some { sz := 26, deep := false, rows := [[D.int .i64 m.Kind, D.int .i64 m.From, D.int .i64 m.To, D.int .i64 m.Epoch, D.int .i64 m.Ballot, D.int .i64 m.Accepted, D.int .i64 m.Nonce, D.int .i64 m.Time, D.int .u64 m.Up, D.int .i64 m.Code, D.bool m.HasPlan, D.int .i64 m.Plan.Epoch, D.int .i64 m.Plan.Target, D.int .i64 m.Plan.Prev, D.int .i64 m.Plan.Spill, D.int .i64 m.Plan.Percent, D.int .i64 m.Plan.Stamp, D.int .i64 m.Plan.Since, D.int .i64 m.Plan.Ramped, D.int .u64 m.Plan.Up, D.int .u64 m.Plan.Sup, D.sl false 1 (List.map (eInt .i64) m.Plan.Pen), D.sl false 1 (List.map (eInt .i64) m.Plan.Changes), D.sl false 1 (List.map (eInt .i64) m.ID), D.sl false 1 (List.map (eInt .u8) m.Session), D.sl false 1 (List.map (eInt .u8) m.Payload)]] }] }
  | .s3 epoch ballot l up best seen i c own p value m => { td := [It.code (codeAt (bodyOf Try.f3) [1, 1, 1, 1, 1, 1, 1, 0, 1, 0, 0, 1, 0, 0, 1, 1]), It.blk 1, It.code (codeAt (bodyOf Try.f3) [1, 1, 1, 1, 1, 1, 1, 0, 1, 0, 0, 1, 1]), It.lp (codeAt (bodyOf Try.f3) [1, 1, 1, 1, 1, 1, 1, 0, 1, 0, 0]) 129334, It.blk 0, It.code (codeAt (bodyOf Try.f3) [1, 1, 1, 1, 1, 1, 1, 1])], fr := [(1, D.int .i64 epoch), (2, D.int .i64 ballot), (4, D.sl false 26 (List.map Msg.enc l)), (5, D.ptr 0 0 0), (8, D.ptr 1 0 0), (11, D.bool up), (12, D.ptr 2 0 0), (13, D.int .i64 best), (14, D.ptr 3 0 0), (15, D.int .u64 seen), (16, D.int .i64 i), (17, D.ptr 4 0 0)], st := [some { sz := 30, deep := false, rows := [[D.int .i64 c.F_, D.int .i64 c.Deciders, D.int .i64 c.Targets, D.int .i64 c.Routers, D.int .i64 c.Observers, D.sl false 1 (List.map (eInt .i64) c.Tiers), D.int .i64 c.Every, D.int .i64 c.Wait, D.int .i64 c.Rise, D.int .i64 c.Fall, D.int .i64 c.Fresh, D.int .i64 c.L_, D.int .i64 c.M_, D.int .i64 c.Dwell, D.int .i64 c.D_, D.int .i64 c.W_, D.int .i64 c.B_, D.int .i64 c.Hit, D.int .i64 c.Suppress, D.int .i64 c.Reuse, D.int .i64 c.Half, D.int .i64 c.First, D.int .i64 c.Step, D.int .i64 c.StepTime, D.int .i64 c.S_, D.int .i64 c.Cap, D.int .i64 c.Span, D.int .i64 c.Room, D.int .i64 c.Tries, D.int .i64 c.Retry]] }, some { sz := 12, deep := false, rows := [[D.int .i64 own.Epoch, D.int .i64 own.Target, D.int .i64 own.Prev, D.int .i64 own.Spill, D.int .i64 own.Percent, D.int .i64 own.Stamp, D.int .i64 own.Since, D.int .i64 own.Ramped, D.int .u64 own.Up, D.int .u64 own.Sup, D.sl false 1 (List.map (eInt .i64) own.Pen), D.sl false 1 (List.map (eInt .i64) own.Changes)]] }, some { sz := 30, deep := false, rows := [[D.int .i64 p.Epoch, D.int .i64 p.Ballot, D.int .i64 p.Phase, D.int .i64 p.Own.Epoch, D.int .i64 p.Own.Target, D.int .i64 p.Own.Prev, D.int .i64 p.Own.Spill, D.int .i64 p.Own.Percent, D.int .i64 p.Own.Stamp, D.int .i64 p.Own.Since, D.int .i64 p.Own.Ramped, D.int .u64 p.Own.Up, D.int .u64 p.Own.Sup, D.sl false 1 (List.map (eInt .i64) p.Own.Pen), D.sl false 1 (List.map (eInt .i64) p.Own.Changes), D.int .i64 p.Best, D.int .i64 p.Value.Epoch, D.int .i64 p.Value.Target, D.int .i64 p.Value.Prev, D.int .i64 p.Value.Spill, D.int .i64 p.Value.Percent, D.int .i64 p.Value.Stamp, D.int .i64 p.Value.Since, D.int .i64 p.Value.Ramped, D.int .u64 p.Value.Up, D.int .u64 p.Value.Sup, D.sl false 1 (List.map (eInt .i64) p.Value.Pen), D.sl false 1 (List.map (eInt .i64) p.Value.Changes), D.int .u64 p.Promises, D.int .u64 p.Accepts]] }, some { sz := 12, deep := false, rows := [[D.int .i64 value.Epoch, D.int .i64 value.Target, D.int .i64 value.Prev, D.int .i64 value.Spill, D.int .i64 value.Percent, D.int .i64 value.Stamp, D.int .i64 value.Since, D.int .i64 value.Ramped, D.int .u64 value.Up, D.int .u64 value.Sup, D.sl false 1 (List.map (eInt .i64) value.Pen), D.sl false 1 (List.map (eInt .i64) value.Changes)]] }, some { sz := 26, deep := false, rows := [[D.int .i64 m.Kind, D.int .i64 m.From, D.int .i64 m.To, D.int .i64 m.Epoch, D.int .i64 m.Ballot, D.int .i64 m.Accepted, D.int .i64 m.Nonce, D.int .i64 m.Time, D.int .u64 m.Up, D.int .i64 m.Code, D.bool m.HasPlan, D.int .i64 m.Plan.Epoch, D.int .i64 m.Plan.Target, D.int .i64 m.Plan.Prev, D.int .i64 m.Plan.Spill, D.int .i64 m.Plan.Percent, D.int .i64 m.Plan.Stamp, D.int .i64 m.Plan.Since, D.int .i64 m.Plan.Ramped, D.int .u64 m.Plan.Up, D.int .u64 m.Plan.Sup, D.sl false 1 (List.map (eInt .i64) m.Plan.Pen), D.sl false 1 (List.map (eInt .i64) m.Plan.Changes), D.sl false 1 (List.map (eInt .i64) m.ID), D.sl false 1 (List.map (eInt .u8) m.Session), D.sl false 1 (List.map (eInt .u8) m.Payload)]] }] }
noncomputable def law16_ProposerHighest_0 (c : Config) (epoch : Int) (ballot : Int) (own : Plan) (l : List Msg) : Option (law16_ProposerHighest_S ⊕ Bool) := ((law16_head ).bind fun y1 => (bif (decide (((((List.map Msg.enc l).length : Nat) : Int) : Int) > 200)) then (some (.inl (.s1 epoch ballot l y1 true c own))) else (bif (decide ((c.F_ : Int) < 0)) then (some (.inl (.s1 epoch ballot l y1 true c own))) else (some (.inl (.s1 epoch ballot l y1 (decide ((c.F_ : Int) > 3)) c own))))))
noncomputable def law16_ProposerHighest_1 (epoch : Int) (ballot : Int) (l : List Msg) (up : Bool) (t31 : Bool) (c : Config) (own : Plan) : Option (law16_ProposerHighest_S ⊕ Bool) := (bif t31 then (some (.inr up)) else ((proposer_Start epoch ballot own).bind fun y2 => (some (.inl (.s2 epoch ballot l up 0 0 0 c own y2 (⟨0, 0, 0, 0, 0, 0, 0, 0, 0, 0, [], []⟩ : Plan))))))
noncomputable def law16_ProposerHighest_2 (epoch : Int) (ballot : Int) (l : List Msg) (up : Bool) (best : Int) (seen : Int) (i : Int) (c : Config) (own : Plan) (p : GProp) (value : Plan) : Option (law16_ProposerHighest_S ⊕ Bool) := (bif (decide ((i : Int) < (((List.map Msg.enc l).length : Nat) : Int))) then (bif ((decide ((0 : Int) ≤ i)) && (decide ((i : Int) < (((List.map Msg.enc l).length : Nat) : Int)))) then (((l)[i.toNat]?).bind fun y3 => (bif ((p.Phase : Int) == 1) then (bif ((y3.Kind : Int) == 5) then (bif ((y3.Epoch : Int) == epoch) then (bif ((y3.Ballot : Int) == ballot) then (bif (decide ((y3.From : Int) ≥ 0)) then (bif (decide ((y3.From : Int) ≤ (IntKind.i64.wrap ((2 : Int) * c.F_)))) then (bif (!y3.HasPlan) then (some (.inl (.s5 epoch ballot l up best seen i true c own p value y3))) else (some (.inl (.s5 epoch ballot l up best seen i ((y3.Plan.Epoch : Int) == epoch) c own p value y3)))) else (some (.inl (.s5 epoch ballot l up best seen i false c own p value y3)))) else (some (.inl (.s5 epoch ballot l up best seen i false c own p value y3)))) else (some (.inl (.s5 epoch ballot l up best seen i false c own p value y3)))) else (some (.inl (.s5 epoch ballot l up best seen i false c own p value y3)))) else (some (.inl (.s5 epoch ballot l up best seen i false c own p value y3)))) else (some (.inl (.s5 epoch ballot l up best seen i false c own p value y3))))) else none) else (bif ((p.Phase : Int) != 2) then (bif up then (some (.inr ((p.Phase : Int) == 1))) else (some (.inr false))) else (bif ((best : Int) == 0) then (bif up then ((ref04_Same p.Value (⟨epoch, own.Target, own.Prev, own.Spill, own.Percent, own.Stamp, own.Since, own.Ramped, own.Up, own.Sup, own.Pen, own.Changes⟩ : Plan)).bind fun y16 => (some (.inr y16))) else (some (.inr false))) else (bif up then ((ref04_Same p.Value value).bind fun y18 => (bif y18 then (some (.inr ((p.Best : Int) == best))) else (some (.inr false)))) else (some (.inr false))))))
noncomputable def law16_ProposerHighest_5 (epoch : Int) (ballot : Int) (l : List Msg) (up : Bool) (best : Int) (seen : Int) (i : Int) (t91 : Bool) (c : Config) (own : Plan) (p : GProp) (value : Plan) (m : Msg) : Option (law16_ProposerHighest_S ⊕ Bool) := (bif t91 then (bif (!decide ((m.From : Int) < 0)) then (bif m.HasPlan then (some (.inl (.s4 epoch ballot l up best (orI .u64 seen (shlI .u64 1 m.From)) i (decide ((m.Accepted : Int) > best)) c own p value m))) else (some (.inl (.s4 epoch ballot l up best (orI .u64 seen (shlI .u64 1 m.From)) i false c own p value m)))) else none) else (some (.inl (.s3 epoch ballot l up best seen i c own p value m))))
noncomputable def law16_ProposerHighest_4 (epoch : Int) (ballot : Int) (l : List Msg) (up : Bool) (best : Int) (seen : Int) (i : Int) (t104 : Bool) (c : Config) (own : Plan) (p : GProp) (value : Plan) (m : Msg) : Option (law16_ProposerHighest_S ⊕ Bool) := (bif t104 then (some (.inl (.s3 epoch ballot l up m.Accepted seen i c own p m.Plan m))) else (some (.inl (.s3 epoch ballot l up best seen i c own p value m))))
noncomputable def law16_ProposerHighest_3 (epoch : Int) (ballot : Int) (l : List Msg) (up : Bool) (best : Int) (seen : Int) (i : Int) (c : Config) (own : Plan) (p : GProp) (value : Plan) (m : Msg) : Option (law16_ProposerHighest_S ⊕ Bool) := ((proposer_Promise p c m).bind fun y1 => (bif ((y1.Promises : Int) != seen) then (some (.inr false)) else ((proposer_Most c seen).bind fun y3 => (bif (!(((y1.Phase : Int) == 2) == y3)) then (some (.inr false)) else (some (.inl (.s2 epoch ballot l up best seen (IntKind.i64.wrap (i + 1)) c own y1 value)))))))
noncomputable def law16_ProposerHighest_step : law16_ProposerHighest_S → Option (law16_ProposerHighest_S ⊕ Bool)
  | .s0 c epoch ballot own l => law16_ProposerHighest_0 c epoch ballot own l
  | .s1 epoch ballot l up t31 c own => law16_ProposerHighest_1 epoch ballot l up t31 c own
  | .s2 epoch ballot l up best seen i c own p value => law16_ProposerHighest_2 epoch ballot l up best seen i c own p value
  | .s5 epoch ballot l up best seen i t91 c own p value m => law16_ProposerHighest_5 epoch ballot l up best seen i t91 c own p value m
  | .s4 epoch ballot l up best seen i t104 c own p value m => law16_ProposerHighest_4 epoch ballot l up best seen i t104 c own p value m
  | .s3 epoch ballot l up best seen i c own p value m => law16_ProposerHighest_3 epoch ballot l up best seen i c own p value m
theorem law16_ProposerHighest_0_ok {c : Config} {epoch : Int} {ballot : Int} {own : Plan} {l : List Msg} {r : Bool} {x : law16_ProposerHighest_S ⊕ Bool} (h : law16_ProposerHighest_0 c epoch ballot own l = some x) (ha : After E ⟨Try.f3, false, 0⟩ law16_ProposerHighest_Q law16_ProposerHighest_M r x) : FinQ E ⟨Try.f3, false, 0⟩ (QW (law16_ProposerHighest_Q r)) (.go (law16_ProposerHighest_M (.s0 c epoch ballot own l))) := by
  unfold law16_ProposerHighest_0 at h
  refine adv_ok hm 9 _ ?_
  have ok1 := fun (y : Bool) (hy : law16_head  = some y) => law16_head_ok hy
  refine p_callE [] (args1 := []) (args := []) (fun y1 => D.bool y1) (fun y1 => []) h (by kernel_rfl) ⟨rfl, rfl⟩ ok1 (fun y1 h1 h => ?_)
  refine adv_ok hm 10 _ ?_
  refine p_split h (by kernel_rfl) (fun h2 h => ?_) (fun h2 h => ?_)
  · -- true
    refine adv_ok hm 16 _ ?_
    obtain rfl := Option.some.inj h
    exact r_cut 2147486006 [] (m' := (law16_ProposerHighest_M (.s1 epoch ballot l y1 true c own))) (by kernel_rfl) ha
  · -- false
    refine adv_ok hm 9 _ ?_
    refine p_split h (by kernel_rfl) (fun h3 h => ?_) (fun h3 h => ?_)
    · -- true
      refine adv_ok hm 7 _ ?_
      obtain rfl := Option.some.inj h
      exact r_cut 2147486006 [] (m' := (law16_ProposerHighest_M (.s1 epoch ballot l y1 true c own))) (by kernel_rfl) ha
    · -- false
      refine adv_ok hm 8 _ ?_
      obtain rfl := Option.some.inj h
      exact r_cut 2147486006 [] (m' := (law16_ProposerHighest_M (.s1 epoch ballot l y1 (decide ((c.F_ : Int) > 3)) c own))) (by kernel_rfl) ha
theorem law16_ProposerHighest_1_ok {epoch : Int} {ballot : Int} {l : List Msg} {up : Bool} {t31 : Bool} {c : Config} {own : Plan} {r : Bool} {x : law16_ProposerHighest_S ⊕ Bool} (h : law16_ProposerHighest_1 epoch ballot l up t31 c own = some x) (ha : After E ⟨Try.f3, false, 0⟩ law16_ProposerHighest_Q law16_ProposerHighest_M r x) : FinQ E ⟨Try.f3, false, 0⟩ (QW (law16_ProposerHighest_Q r)) (.go (law16_ProposerHighest_M (.s1 epoch ballot l up t31 c own))) := by
  unfold law16_ProposerHighest_1 at h
  refine adv_ok hm 1 _ ?_
  refine p_split h (by kernel_rfl) (fun h1 h => ?_) (fun h1 h => ?_)
  · -- true
    refine adv_ok hm 6 _ ?_
    obtain rfl := Option.some.inj h
    have hv := ha
    simp only [After] at hv
    subst hv
    exact r_retF [] (d := D.bool up) (s := []) (by kernel_rfl) ⟨rfl, rfl⟩
  · -- false
    refine adv_ok hm 8 _ ?_
    have ok2 := fun (y : GProp) (hy : proposer_Start epoch ballot own = some y) => proposer_Start_ok hy
    refine p_callE [] (args1 := [D.int .i64 epoch, D.int .i64 ballot, D.agg [D.int .i64 own.Epoch, D.int .i64 own.Target, D.int .i64 own.Prev, D.int .i64 own.Spill, D.int .i64 own.Percent, D.int .i64 own.Stamp, D.int .i64 own.Since, D.int .i64 own.Ramped, D.int .u64 own.Up, D.int .u64 own.Sup, D.sl false 1 (List.map (eInt .i64) own.Pen), D.sl false 1 (List.map (eInt .i64) own.Changes)]]) (args := [D.int .i64 epoch, D.int .i64 ballot, D.agg [D.int .i64 own.Epoch, D.int .i64 own.Target, D.int .i64 own.Prev, D.int .i64 own.Spill, D.int .i64 own.Percent, D.int .i64 own.Stamp, D.int .i64 own.Since, D.int .i64 own.Ramped, D.int .u64 own.Up, D.int .u64 own.Sup, D.sl false 1 (List.map (eInt .i64) own.Pen), D.sl false 1 (List.map (eInt .i64) own.Changes)]]) (fun y2 => D.agg [D.int .i64 y2.Epoch, D.int .i64 y2.Ballot, D.int .i64 y2.Phase, D.int .i64 y2.Own.Epoch, D.int .i64 y2.Own.Target, D.int .i64 y2.Own.Prev, D.int .i64 y2.Own.Spill, D.int .i64 y2.Own.Percent, D.int .i64 y2.Own.Stamp, D.int .i64 y2.Own.Since, D.int .i64 y2.Own.Ramped, D.int .u64 y2.Own.Up, D.int .u64 y2.Own.Sup, D.sl false 1 (List.map (eInt .i64) y2.Own.Pen), D.sl false 1 (List.map (eInt .i64) y2.Own.Changes), D.int .i64 y2.Best, D.int .i64 y2.Value.Epoch, D.int .i64 y2.Value.Target, D.int .i64 y2.Value.Prev, D.int .i64 y2.Value.Spill, D.int .i64 y2.Value.Percent, D.int .i64 y2.Value.Stamp, D.int .i64 y2.Value.Since, D.int .i64 y2.Value.Ramped, D.int .u64 y2.Value.Up, D.int .u64 y2.Value.Sup, D.sl false 1 (List.map (eInt .i64) y2.Value.Pen), D.sl false 1 (List.map (eInt .i64) y2.Value.Changes), D.int .u64 y2.Promises, D.int .u64 y2.Accepts]) (fun y2 => []) h (by kernel_rfl) ⟨rfl, rfl⟩ ok2 (fun y2 h2 h => ?_)
    refine adv_ok hm 25 _ ?_
    obtain rfl := Option.some.inj h
    exact r_cut 129334 [.blk 3 [some 1, some 1]] (m' := (law16_ProposerHighest_M (.s2 epoch ballot l up 0 0 0 c own y2 (⟨0, 0, 0, 0, 0, 0, 0, 0, 0, 0, [], []⟩ : Plan)))) (by kernel_rfl) ha
theorem law16_ProposerHighest_2_ok {epoch : Int} {ballot : Int} {l : List Msg} {up : Bool} {best : Int} {seen : Int} {i : Int} {c : Config} {own : Plan} {p : GProp} {value : Plan} {r : Bool} {x : law16_ProposerHighest_S ⊕ Bool} (h : law16_ProposerHighest_2 epoch ballot l up best seen i c own p value = some x) (ha : After E ⟨Try.f3, false, 0⟩ law16_ProposerHighest_Q law16_ProposerHighest_M r x) : FinQ E ⟨Try.f3, false, 0⟩ (QW (law16_ProposerHighest_Q r)) (.go (law16_ProposerHighest_M (.s2 epoch ballot l up best seen i c own p value))) := by
  unfold law16_ProposerHighest_2 at h
  refine adv_ok hm 10 _ ?_
  refine p_split h (by kernel_rfl) (fun h1 h => ?_) (fun h1 h => ?_)
  · -- true
    refine adv_ok hm 8 _ ?_
    refine p_need h (by kernel_rfl) (fun h2 h => ?_)
    refine adv_ok hm 1 _ ?_
    refine p_row (((List.map Msg.enc l))[i.toNat]?) Msg.enc h (by kernel_rfl) List.getElem?_map (fun y3 h4 h => ?_)
    refine adv_ok hm 14 _ ?_
    refine p_split h (by kernel_rfl) (fun h5 h => ?_) (fun h5 h => ?_)
    · -- true
      refine adv_ok hm 9 _ ?_
      refine p_split h (by kernel_rfl) (fun h6 h => ?_) (fun h6 h => ?_)
      · -- true
        refine adv_ok hm 11 _ ?_
        refine p_split h (by kernel_rfl) (fun h7 h => ?_) (fun h7 h => ?_)
        · -- true
          refine adv_ok hm 11 _ ?_
          refine p_split h (by kernel_rfl) (fun h8 h => ?_) (fun h8 h => ?_)
          · -- true
            refine adv_ok hm 9 _ ?_
            refine p_split h (by kernel_rfl) (fun h9 h => ?_) (fun h9 h => ?_)
            · -- true
              refine adv_ok hm 16 _ ?_
              refine p_split h (by kernel_rfl) (fun h10 h => ?_) (fun h10 h => ?_)
              · -- true
                refine adv_ok hm 8 _ ?_
                refine p_split h (by kernel_rfl) (fun h11 h => ?_) (fun h11 h => ?_)
                · -- true
                  refine adv_ok hm 14 _ ?_
                  obtain rfl := Option.some.inj h
                  exact r_cut 2475880078570760549798508854 [] (m' := (law16_ProposerHighest_M (.s5 epoch ballot l up best seen i true c own p value y3))) (by kernel_rfl) ha
                · -- false
                  refine adv_ok hm 15 _ ?_
                  obtain rfl := Option.some.inj h
                  exact r_cut 2475880078570760549798508854 [] (m' := (law16_ProposerHighest_M (.s5 epoch ballot l up best seen i ((y3.Plan.Epoch : Int) == epoch) c own p value y3))) (by kernel_rfl) ha
              · -- false
                refine adv_ok hm 16 _ ?_
                obtain rfl := Option.some.inj h
                exact r_cut 2475880078570760549798508854 [] (m' := (law16_ProposerHighest_M (.s5 epoch ballot l up best seen i false c own p value y3))) (by kernel_rfl) ha
            · -- false
              refine adv_ok hm 31 _ ?_
              obtain rfl := Option.some.inj h
              exact r_cut 2475880078570760549798508854 [] (m' := (law16_ProposerHighest_M (.s5 epoch ballot l up best seen i false c own p value y3))) (by kernel_rfl) ha
          · -- false
            refine adv_ok hm 40 _ ?_
            obtain rfl := Option.some.inj h
            exact r_cut 2475880078570760549798508854 [] (m' := (law16_ProposerHighest_M (.s5 epoch ballot l up best seen i false c own p value y3))) (by kernel_rfl) ha
        · -- false
          refine adv_ok hm 51 _ ?_
          obtain rfl := Option.some.inj h
          exact r_cut 2475880078570760549798508854 [] (m' := (law16_ProposerHighest_M (.s5 epoch ballot l up best seen i false c own p value y3))) (by kernel_rfl) ha
      · -- false
        refine adv_ok hm 62 _ ?_
        obtain rfl := Option.some.inj h
        exact r_cut 2475880078570760549798508854 [] (m' := (law16_ProposerHighest_M (.s5 epoch ballot l up best seen i false c own p value y3))) (by kernel_rfl) ha
    · -- false
      refine adv_ok hm 71 _ ?_
      obtain rfl := Option.some.inj h
      exact r_cut 2475880078570760549798508854 [] (m' := (law16_ProposerHighest_M (.s5 epoch ballot l up best seen i false c own p value y3))) (by kernel_rfl) ha
  · -- false
    refine adv_ok hm 10 _ ?_
    refine p_split h (by kernel_rfl) (fun h12 h => ?_) (fun h12 h => ?_)
    · -- true
      refine adv_ok hm 5 _ ?_
      refine p_split h (by kernel_rfl) (fun h13 h => ?_) (fun h13 h => ?_)
      · -- true
        refine adv_ok hm 10 _ ?_
        obtain rfl := Option.some.inj h
        have hv := ha
        simp only [After] at hv
        subst hv
        exact r_retF [] (d := D.bool ((p.Phase : Int) == 1)) (s := []) (by kernel_rfl) ⟨rfl, rfl⟩
      · -- false
        refine adv_ok hm 9 _ ?_
        obtain rfl := Option.some.inj h
        have hv := ha
        simp only [After] at hv
        subst hv
        exact r_retF [] (d := D.bool false) (s := []) (by kernel_rfl) ⟨rfl, rfl⟩
    · -- false
      refine adv_ok hm 8 _ ?_
      refine p_split h (by kernel_rfl) (fun h14 h => ?_) (fun h14 h => ?_)
      · -- true
        refine adv_ok hm 13 _ ?_
        refine p_split h (by kernel_rfl) (fun h15 h => ?_) (fun h15 h => ?_)
        · -- true
          refine adv_ok hm 8 _ ?_
          have ok16 := fun (y : Bool) (hy : ref04_Same p.Value (⟨epoch, own.Target, own.Prev, own.Spill, own.Percent, own.Stamp, own.Since, own.Ramped, own.Up, own.Sup, own.Pen, own.Changes⟩ : Plan) = some y) => ref04_Same_ok hy
          refine p_callE [] (args1 := [D.agg [D.int .i64 p.Value.Epoch, D.int .i64 p.Value.Target, D.int .i64 p.Value.Prev, D.int .i64 p.Value.Spill, D.int .i64 p.Value.Percent, D.int .i64 p.Value.Stamp, D.int .i64 p.Value.Since, D.int .i64 p.Value.Ramped, D.int .u64 p.Value.Up, D.int .u64 p.Value.Sup, D.sl false 1 (List.map (eInt .i64) p.Value.Pen), D.sl false 1 (List.map (eInt .i64) p.Value.Changes)], D.agg [D.int .i64 epoch, D.int .i64 own.Target, D.int .i64 own.Prev, D.int .i64 own.Spill, D.int .i64 own.Percent, D.int .i64 own.Stamp, D.int .i64 own.Since, D.int .i64 own.Ramped, D.int .u64 own.Up, D.int .u64 own.Sup, D.sl false 1 (List.map (eInt .i64) own.Pen), D.sl false 1 (List.map (eInt .i64) own.Changes)]]) (args := [D.agg [D.int .i64 p.Value.Epoch, D.int .i64 p.Value.Target, D.int .i64 p.Value.Prev, D.int .i64 p.Value.Spill, D.int .i64 p.Value.Percent, D.int .i64 p.Value.Stamp, D.int .i64 p.Value.Since, D.int .i64 p.Value.Ramped, D.int .u64 p.Value.Up, D.int .u64 p.Value.Sup, D.sl false 1 (List.map (eInt .i64) p.Value.Pen), D.sl false 1 (List.map (eInt .i64) p.Value.Changes)], D.agg [D.int .i64 epoch, D.int .i64 own.Target, D.int .i64 own.Prev, D.int .i64 own.Spill, D.int .i64 own.Percent, D.int .i64 own.Stamp, D.int .i64 own.Since, D.int .i64 own.Ramped, D.int .u64 own.Up, D.int .u64 own.Sup, D.sl false 1 (List.map (eInt .i64) own.Pen), D.sl false 1 (List.map (eInt .i64) own.Changes)]]) (fun y16 => D.bool y16) (fun y16 => []) h (by kernel_rfl) ⟨rfl, rfl⟩ ok16 (fun y16 h16 h => ?_)
          refine adv_ok hm 5 _ ?_
          obtain rfl := Option.some.inj h
          have hv := ha
          simp only [After] at hv
          subst hv
          exact r_retF [] (d := D.bool y16) (s := []) (by kernel_rfl) ⟨rfl, rfl⟩
        · -- false
          refine adv_ok hm 11 _ ?_
          obtain rfl := Option.some.inj h
          have hv := ha
          simp only [After] at hv
          subst hv
          exact r_retF [] (d := D.bool false) (s := []) (by kernel_rfl) ⟨rfl, rfl⟩
      · -- false
        refine adv_ok hm 6 _ ?_
        refine p_split h (by kernel_rfl) (fun h17 h => ?_) (fun h17 h => ?_)
        · -- true
          refine adv_ok hm 8 _ ?_
          have ok18 := fun (y : Bool) (hy : ref04_Same p.Value value = some y) => ref04_Same_ok hy
          refine p_callE [] (args1 := [D.agg [D.int .i64 p.Value.Epoch, D.int .i64 p.Value.Target, D.int .i64 p.Value.Prev, D.int .i64 p.Value.Spill, D.int .i64 p.Value.Percent, D.int .i64 p.Value.Stamp, D.int .i64 p.Value.Since, D.int .i64 p.Value.Ramped, D.int .u64 p.Value.Up, D.int .u64 p.Value.Sup, D.sl false 1 (List.map (eInt .i64) p.Value.Pen), D.sl false 1 (List.map (eInt .i64) p.Value.Changes)], D.agg [D.int .i64 value.Epoch, D.int .i64 value.Target, D.int .i64 value.Prev, D.int .i64 value.Spill, D.int .i64 value.Percent, D.int .i64 value.Stamp, D.int .i64 value.Since, D.int .i64 value.Ramped, D.int .u64 value.Up, D.int .u64 value.Sup, D.sl false 1 (List.map (eInt .i64) value.Pen), D.sl false 1 (List.map (eInt .i64) value.Changes)]]) (args := [D.agg [D.int .i64 p.Value.Epoch, D.int .i64 p.Value.Target, D.int .i64 p.Value.Prev, D.int .i64 p.Value.Spill, D.int .i64 p.Value.Percent, D.int .i64 p.Value.Stamp, D.int .i64 p.Value.Since, D.int .i64 p.Value.Ramped, D.int .u64 p.Value.Up, D.int .u64 p.Value.Sup, D.sl false 1 (List.map (eInt .i64) p.Value.Pen), D.sl false 1 (List.map (eInt .i64) p.Value.Changes)], D.agg [D.int .i64 value.Epoch, D.int .i64 value.Target, D.int .i64 value.Prev, D.int .i64 value.Spill, D.int .i64 value.Percent, D.int .i64 value.Stamp, D.int .i64 value.Since, D.int .i64 value.Ramped, D.int .u64 value.Up, D.int .u64 value.Sup, D.sl false 1 (List.map (eInt .i64) value.Pen), D.sl false 1 (List.map (eInt .i64) value.Changes)]]) (fun y18 => D.bool y18) (fun y18 => []) h (by kernel_rfl) ⟨rfl, rfl⟩ ok18 (fun y18 h18 h => ?_)
          refine adv_ok hm 4 _ ?_
          refine p_split h (by kernel_rfl) (fun h19 h => ?_) (fun h19 h => ?_)
          · -- true
            refine adv_ok hm 12 _ ?_
            obtain rfl := Option.some.inj h
            have hv := ha
            simp only [After] at hv
            subst hv
            exact r_retF [] (d := D.bool ((p.Best : Int) == best)) (s := []) (by kernel_rfl) ⟨rfl, rfl⟩
          · -- false
            refine adv_ok hm 11 _ ?_
            obtain rfl := Option.some.inj h
            have hv := ha
            simp only [After] at hv
            subst hv
            exact r_retF [] (d := D.bool false) (s := []) (by kernel_rfl) ⟨rfl, rfl⟩
        · -- false
          refine adv_ok hm 22 _ ?_
          obtain rfl := Option.some.inj h
          have hv := ha
          simp only [After] at hv
          subst hv
          exact r_retF [] (d := D.bool false) (s := []) (by kernel_rfl) ⟨rfl, rfl⟩
theorem law16_ProposerHighest_5_ok {epoch : Int} {ballot : Int} {l : List Msg} {up : Bool} {best : Int} {seen : Int} {i : Int} {t91 : Bool} {c : Config} {own : Plan} {p : GProp} {value : Plan} {m : Msg} {r : Bool} {x : law16_ProposerHighest_S ⊕ Bool} (h : law16_ProposerHighest_5 epoch ballot l up best seen i t91 c own p value m = some x) (ha : After E ⟨Try.f3, false, 0⟩ law16_ProposerHighest_Q law16_ProposerHighest_M r x) : FinQ E ⟨Try.f3, false, 0⟩ (QW (law16_ProposerHighest_Q r)) (.go (law16_ProposerHighest_M (.s5 epoch ballot l up best seen i t91 c own p value m))) := by
  unfold law16_ProposerHighest_5 at h
  refine adv_ok hm 1 _ ?_
  refine p_split h (by kernel_rfl) (fun h1 h => ?_) (fun h1 h => ?_)
  · -- true
    refine adv_ok hm 7 _ ?_
    refine p_need h (by kernel_rfl) (fun h2 h => ?_)
    refine adv_ok hm 10 _ ?_
    refine p_split h (by kernel_rfl) (fun h3 h => ?_) (fun h3 h => ?_)
    · -- true
      refine adv_ok hm 10 _ ?_
      obtain rfl := Option.some.inj h
      exact r_cut 20282409603651670423947251546422 [] (m' := (law16_ProposerHighest_M (.s4 epoch ballot l up best (orI .u64 seen (shlI .u64 1 m.From)) i (decide ((m.Accepted : Int) > best)) c own p value m))) (by kernel_rfl) ha
    · -- false
      refine adv_ok hm 9 _ ?_
      obtain rfl := Option.some.inj h
      exact r_cut 20282409603651670423947251546422 [] (m' := (law16_ProposerHighest_M (.s4 epoch ballot l up best (orI .u64 seen (shlI .u64 1 m.From)) i false c own p value m))) (by kernel_rfl) ha
  · -- false
    refine adv_ok hm 1 _ ?_
    obtain rfl := Option.some.inj h
    exact r_cut 260406 [] (m' := (law16_ProposerHighest_M (.s3 epoch ballot l up best seen i c own p value m))) (by kernel_rfl) ha
theorem law16_ProposerHighest_4_ok {epoch : Int} {ballot : Int} {l : List Msg} {up : Bool} {best : Int} {seen : Int} {i : Int} {t104 : Bool} {c : Config} {own : Plan} {p : GProp} {value : Plan} {m : Msg} {r : Bool} {x : law16_ProposerHighest_S ⊕ Bool} (h : law16_ProposerHighest_4 epoch ballot l up best seen i t104 c own p value m = some x) (ha : After E ⟨Try.f3, false, 0⟩ law16_ProposerHighest_Q law16_ProposerHighest_M r x) : FinQ E ⟨Try.f3, false, 0⟩ (QW (law16_ProposerHighest_Q r)) (.go (law16_ProposerHighest_M (.s4 epoch ballot l up best seen i t104 c own p value m))) := by
  unfold law16_ProposerHighest_4 at h
  refine adv_ok hm 1 _ ?_
  refine p_split h (by kernel_rfl) (fun h1 h => ?_) (fun h1 h => ?_)
  · -- true
    refine adv_ok hm 15 _ ?_
    obtain rfl := Option.some.inj h
    exact r_cut 260406 [] (m' := (law16_ProposerHighest_M (.s3 epoch ballot l up m.Accepted seen i c own p m.Plan m))) (by kernel_rfl) ha
  · -- false
    refine adv_ok hm 1 _ ?_
    obtain rfl := Option.some.inj h
    exact r_cut 260406 [] (m' := (law16_ProposerHighest_M (.s3 epoch ballot l up best seen i c own p value m))) (by kernel_rfl) ha
theorem law16_ProposerHighest_3_ok {epoch : Int} {ballot : Int} {l : List Msg} {up : Bool} {best : Int} {seen : Int} {i : Int} {c : Config} {own : Plan} {p : GProp} {value : Plan} {m : Msg} {r : Bool} {x : law16_ProposerHighest_S ⊕ Bool} (h : law16_ProposerHighest_3 epoch ballot l up best seen i c own p value m = some x) (ha : After E ⟨Try.f3, false, 0⟩ law16_ProposerHighest_Q law16_ProposerHighest_M r x) : FinQ E ⟨Try.f3, false, 0⟩ (QW (law16_ProposerHighest_Q r)) (.go (law16_ProposerHighest_M (.s3 epoch ballot l up best seen i c own p value m))) := by
  unfold law16_ProposerHighest_3 at h
  refine adv_ok hm 9 _ ?_
  have ok1 := fun (y : GProp) (hy : proposer_Promise p c m = some y) => proposer_Promise_ok hy
  refine p_callE [] (args1 := [D.agg [D.int .i64 p.Epoch, D.int .i64 p.Ballot, D.int .i64 p.Phase, D.int .i64 p.Own.Epoch, D.int .i64 p.Own.Target, D.int .i64 p.Own.Prev, D.int .i64 p.Own.Spill, D.int .i64 p.Own.Percent, D.int .i64 p.Own.Stamp, D.int .i64 p.Own.Since, D.int .i64 p.Own.Ramped, D.int .u64 p.Own.Up, D.int .u64 p.Own.Sup, D.sl false 1 (List.map (eInt .i64) p.Own.Pen), D.sl false 1 (List.map (eInt .i64) p.Own.Changes), D.int .i64 p.Best, D.int .i64 p.Value.Epoch, D.int .i64 p.Value.Target, D.int .i64 p.Value.Prev, D.int .i64 p.Value.Spill, D.int .i64 p.Value.Percent, D.int .i64 p.Value.Stamp, D.int .i64 p.Value.Since, D.int .i64 p.Value.Ramped, D.int .u64 p.Value.Up, D.int .u64 p.Value.Sup, D.sl false 1 (List.map (eInt .i64) p.Value.Pen), D.sl false 1 (List.map (eInt .i64) p.Value.Changes), D.int .u64 p.Promises, D.int .u64 p.Accepts], D.agg [D.int .i64 c.F_, D.int .i64 c.Deciders, D.int .i64 c.Targets, D.int .i64 c.Routers, D.int .i64 c.Observers, D.sl false 1 (List.map (eInt .i64) c.Tiers), D.int .i64 c.Every, D.int .i64 c.Wait, D.int .i64 c.Rise, D.int .i64 c.Fall, D.int .i64 c.Fresh, D.int .i64 c.L_, D.int .i64 c.M_, D.int .i64 c.Dwell, D.int .i64 c.D_, D.int .i64 c.W_, D.int .i64 c.B_, D.int .i64 c.Hit, D.int .i64 c.Suppress, D.int .i64 c.Reuse, D.int .i64 c.Half, D.int .i64 c.First, D.int .i64 c.Step, D.int .i64 c.StepTime, D.int .i64 c.S_, D.int .i64 c.Cap, D.int .i64 c.Span, D.int .i64 c.Room, D.int .i64 c.Tries, D.int .i64 c.Retry], D.agg [D.int .i64 m.Kind, D.int .i64 m.From, D.int .i64 m.To, D.int .i64 m.Epoch, D.int .i64 m.Ballot, D.int .i64 m.Accepted, D.int .i64 m.Nonce, D.int .i64 m.Time, D.int .u64 m.Up, D.int .i64 m.Code, D.bool m.HasPlan, D.int .i64 m.Plan.Epoch, D.int .i64 m.Plan.Target, D.int .i64 m.Plan.Prev, D.int .i64 m.Plan.Spill, D.int .i64 m.Plan.Percent, D.int .i64 m.Plan.Stamp, D.int .i64 m.Plan.Since, D.int .i64 m.Plan.Ramped, D.int .u64 m.Plan.Up, D.int .u64 m.Plan.Sup, D.sl false 1 (List.map (eInt .i64) m.Plan.Pen), D.sl false 1 (List.map (eInt .i64) m.Plan.Changes), D.sl false 1 (List.map (eInt .i64) m.ID), D.sl false 1 (List.map (eInt .u8) m.Session), D.sl false 1 (List.map (eInt .u8) m.Payload)]]) (args := [D.agg [D.int .i64 p.Epoch, D.int .i64 p.Ballot, D.int .i64 p.Phase, D.int .i64 p.Own.Epoch, D.int .i64 p.Own.Target, D.int .i64 p.Own.Prev, D.int .i64 p.Own.Spill, D.int .i64 p.Own.Percent, D.int .i64 p.Own.Stamp, D.int .i64 p.Own.Since, D.int .i64 p.Own.Ramped, D.int .u64 p.Own.Up, D.int .u64 p.Own.Sup, D.sl false 1 (List.map (eInt .i64) p.Own.Pen), D.sl false 1 (List.map (eInt .i64) p.Own.Changes), D.int .i64 p.Best, D.int .i64 p.Value.Epoch, D.int .i64 p.Value.Target, D.int .i64 p.Value.Prev, D.int .i64 p.Value.Spill, D.int .i64 p.Value.Percent, D.int .i64 p.Value.Stamp, D.int .i64 p.Value.Since, D.int .i64 p.Value.Ramped, D.int .u64 p.Value.Up, D.int .u64 p.Value.Sup, D.sl false 1 (List.map (eInt .i64) p.Value.Pen), D.sl false 1 (List.map (eInt .i64) p.Value.Changes), D.int .u64 p.Promises, D.int .u64 p.Accepts], D.agg [D.int .i64 c.F_, D.int .i64 c.Deciders, D.int .i64 c.Targets, D.int .i64 c.Routers, D.int .i64 c.Observers, D.sl false 1 (List.map (eInt .i64) c.Tiers), D.int .i64 c.Every, D.int .i64 c.Wait, D.int .i64 c.Rise, D.int .i64 c.Fall, D.int .i64 c.Fresh, D.int .i64 c.L_, D.int .i64 c.M_, D.int .i64 c.Dwell, D.int .i64 c.D_, D.int .i64 c.W_, D.int .i64 c.B_, D.int .i64 c.Hit, D.int .i64 c.Suppress, D.int .i64 c.Reuse, D.int .i64 c.Half, D.int .i64 c.First, D.int .i64 c.Step, D.int .i64 c.StepTime, D.int .i64 c.S_, D.int .i64 c.Cap, D.int .i64 c.Span, D.int .i64 c.Room, D.int .i64 c.Tries, D.int .i64 c.Retry], D.agg [D.int .i64 m.Kind, D.int .i64 m.From, D.int .i64 m.To, D.int .i64 m.Epoch, D.int .i64 m.Ballot, D.int .i64 m.Accepted, D.int .i64 m.Nonce, D.int .i64 m.Time, D.int .u64 m.Up, D.int .i64 m.Code, D.bool m.HasPlan, D.int .i64 m.Plan.Epoch, D.int .i64 m.Plan.Target, D.int .i64 m.Plan.Prev, D.int .i64 m.Plan.Spill, D.int .i64 m.Plan.Percent, D.int .i64 m.Plan.Stamp, D.int .i64 m.Plan.Since, D.int .i64 m.Plan.Ramped, D.int .u64 m.Plan.Up, D.int .u64 m.Plan.Sup, D.sl false 1 (List.map (eInt .i64) m.Plan.Pen), D.sl false 1 (List.map (eInt .i64) m.Plan.Changes), D.sl false 1 (List.map (eInt .i64) m.ID), D.sl false 1 (List.map (eInt .u8) m.Session), D.sl false 1 (List.map (eInt .u8) m.Payload)]]) (fun y1 => D.agg [D.int .i64 y1.Epoch, D.int .i64 y1.Ballot, D.int .i64 y1.Phase, D.int .i64 y1.Own.Epoch, D.int .i64 y1.Own.Target, D.int .i64 y1.Own.Prev, D.int .i64 y1.Own.Spill, D.int .i64 y1.Own.Percent, D.int .i64 y1.Own.Stamp, D.int .i64 y1.Own.Since, D.int .i64 y1.Own.Ramped, D.int .u64 y1.Own.Up, D.int .u64 y1.Own.Sup, D.sl false 1 (List.map (eInt .i64) y1.Own.Pen), D.sl false 1 (List.map (eInt .i64) y1.Own.Changes), D.int .i64 y1.Best, D.int .i64 y1.Value.Epoch, D.int .i64 y1.Value.Target, D.int .i64 y1.Value.Prev, D.int .i64 y1.Value.Spill, D.int .i64 y1.Value.Percent, D.int .i64 y1.Value.Stamp, D.int .i64 y1.Value.Since, D.int .i64 y1.Value.Ramped, D.int .u64 y1.Value.Up, D.int .u64 y1.Value.Sup, D.sl false 1 (List.map (eInt .i64) y1.Value.Pen), D.sl false 1 (List.map (eInt .i64) y1.Value.Changes), D.int .u64 y1.Promises, D.int .u64 y1.Accepts]) (fun y1 => []) h (by kernel_rfl) ⟨rfl, rfl⟩ ok1 (fun y1 h1 h => ?_)
  refine adv_ok hm 7 _ ?_
  refine p_split h (by kernel_rfl) (fun h2 h => ?_) (fun h2 h => ?_)
  · -- true
    refine adv_ok hm 14 _ ?_
    obtain rfl := Option.some.inj h
    have hv := ha
    simp only [After] at hv
    subst hv
    exact r_retF [] (d := D.bool false) (s := []) (by kernel_rfl) ⟨rfl, rfl⟩
  · -- false
    refine adv_ok hm 7 _ ?_
    have ok3 := fun (y : Bool) (hy : proposer_Most c seen = some y) => proposer_Most_ok hy
    refine p_callDE [] (args1 := [D.agg [D.int .i64 c.F_, D.int .i64 c.Deciders, D.int .i64 c.Targets, D.int .i64 c.Routers, D.int .i64 c.Observers, D.sl false 1 (List.map (eInt .i64) c.Tiers), D.int .i64 c.Every, D.int .i64 c.Wait, D.int .i64 c.Rise, D.int .i64 c.Fall, D.int .i64 c.Fresh, D.int .i64 c.L_, D.int .i64 c.M_, D.int .i64 c.Dwell, D.int .i64 c.D_, D.int .i64 c.W_, D.int .i64 c.B_, D.int .i64 c.Hit, D.int .i64 c.Suppress, D.int .i64 c.Reuse, D.int .i64 c.Half, D.int .i64 c.First, D.int .i64 c.Step, D.int .i64 c.StepTime, D.int .i64 c.S_, D.int .i64 c.Cap, D.int .i64 c.Span, D.int .i64 c.Room, D.int .i64 c.Tries, D.int .i64 c.Retry], D.int .u64 seen]) (args := [D.agg [D.int .i64 c.F_, D.int .i64 c.Deciders, D.int .i64 c.Targets, D.int .i64 c.Routers, D.int .i64 c.Observers, D.sl false 1 (List.map (eInt .i64) c.Tiers), D.int .i64 c.Every, D.int .i64 c.Wait, D.int .i64 c.Rise, D.int .i64 c.Fall, D.int .i64 c.Fresh, D.int .i64 c.L_, D.int .i64 c.M_, D.int .i64 c.Dwell, D.int .i64 c.D_, D.int .i64 c.W_, D.int .i64 c.B_, D.int .i64 c.Hit, D.int .i64 c.Suppress, D.int .i64 c.Reuse, D.int .i64 c.Half, D.int .i64 c.First, D.int .i64 c.Step, D.int .i64 c.StepTime, D.int .i64 c.S_, D.int .i64 c.Cap, D.int .i64 c.Span, D.int .i64 c.Room, D.int .i64 c.Tries, D.int .i64 c.Retry], D.int .u64 seen]) (fun y3 => D.bool y3) h (by kernel_rfl) rfl ok3 (fun y3 h3 h => ?_)
    refine adv_ok hm 3 _ ?_
    refine p_split h (by kernel_rfl) (fun h4 h => ?_) (fun h4 h => ?_)
    · -- true
      refine adv_ok hm 5 _ ?_
      obtain rfl := Option.some.inj h
      have hv := ha
      simp only [After] at hv
      subst hv
      exact r_retF [] (d := D.bool false) (s := []) (by kernel_rfl) ⟨rfl, rfl⟩
    · -- false
      refine adv_ok hm 8 _ ?_
      obtain rfl := Option.some.inj h
      exact r_to (q' := .go (law16_ProposerHighest_M (.s2 epoch ballot l up best seen (IntKind.i64.wrap (i + 1)) c own y1 value))) (by kernel_rfl) ha
theorem law16_ProposerHighest_ev {c : Config} {epoch : Int} {ballot : Int} {own : Plan} {l : List Msg} {r : Bool} (h : Ev law16_ProposerHighest_step (.s0 c epoch ballot own l) r) : Sound E 3 [D.agg [D.int .i64 c.F_, D.int .i64 c.Deciders, D.int .i64 c.Targets, D.int .i64 c.Routers, D.int .i64 c.Observers, D.sl false 1 (List.map (eInt .i64) c.Tiers), D.int .i64 c.Every, D.int .i64 c.Wait, D.int .i64 c.Rise, D.int .i64 c.Fall, D.int .i64 c.Fresh, D.int .i64 c.L_, D.int .i64 c.M_, D.int .i64 c.Dwell, D.int .i64 c.D_, D.int .i64 c.W_, D.int .i64 c.B_, D.int .i64 c.Hit, D.int .i64 c.Suppress, D.int .i64 c.Reuse, D.int .i64 c.Half, D.int .i64 c.First, D.int .i64 c.Step, D.int .i64 c.StepTime, D.int .i64 c.S_, D.int .i64 c.Cap, D.int .i64 c.Span, D.int .i64 c.Room, D.int .i64 c.Tries, D.int .i64 c.Retry], D.int .i64 epoch, D.int .i64 ballot, D.agg [D.int .i64 own.Epoch, D.int .i64 own.Target, D.int .i64 own.Prev, D.int .i64 own.Spill, D.int .i64 own.Percent, D.int .i64 own.Stamp, D.int .i64 own.Since, D.int .i64 own.Ramped, D.int .u64 own.Up, D.int .u64 own.Sup, D.sl false 1 (List.map (eInt .i64) own.Pen), D.sl false 1 (List.map (eInt .i64) own.Changes)], D.sl false 26 (List.map Msg.enc l)] [] (law16_ProposerHighest_Q r) :=
  sound_ofW (m := law16_ProposerHighest_M (.s0 c epoch ballot own l)) (fn := Try.f3) (by kernel_rfl) (by kernel_rfl) (ev_run (C := ⟨Try.f3, false, 0⟩) (fun s x r hs ha => by
    cases s with
    | s0 => exact law16_ProposerHighest_0_ok hs ha
    | s1 => exact law16_ProposerHighest_1_ok hs ha
    | s2 => exact law16_ProposerHighest_2_ok hs ha
    | s5 => exact law16_ProposerHighest_5_ok hs ha
    | s4 => exact law16_ProposerHighest_4_ok hs ha
    | s3 => exact law16_ProposerHighest_3_ok hs ha) h)
noncomputable def law16_ProposerHighest (c : Config) (epoch : Int) (ballot : Int) (own : Plan) (l : List Msg) : Option Bool := evf law16_ProposerHighest_step (.s0 c epoch ballot own l)
theorem law16_ProposerHighest_ok {c : Config} {epoch : Int} {ballot : Int} {own : Plan} {l : List Msg} {r : Bool} (h : law16_ProposerHighest c epoch ballot own l = some r) : Sound E 3 [D.agg [D.int .i64 c.F_, D.int .i64 c.Deciders, D.int .i64 c.Targets, D.int .i64 c.Routers, D.int .i64 c.Observers, D.sl false 1 (List.map (eInt .i64) c.Tiers), D.int .i64 c.Every, D.int .i64 c.Wait, D.int .i64 c.Rise, D.int .i64 c.Fall, D.int .i64 c.Fresh, D.int .i64 c.L_, D.int .i64 c.M_, D.int .i64 c.Dwell, D.int .i64 c.D_, D.int .i64 c.W_, D.int .i64 c.B_, D.int .i64 c.Hit, D.int .i64 c.Suppress, D.int .i64 c.Reuse, D.int .i64 c.Half, D.int .i64 c.First, D.int .i64 c.Step, D.int .i64 c.StepTime, D.int .i64 c.S_, D.int .i64 c.Cap, D.int .i64 c.Span, D.int .i64 c.Room, D.int .i64 c.Tries, D.int .i64 c.Retry], D.int .i64 epoch, D.int .i64 ballot, D.agg [D.int .i64 own.Epoch, D.int .i64 own.Target, D.int .i64 own.Prev, D.int .i64 own.Spill, D.int .i64 own.Percent, D.int .i64 own.Stamp, D.int .i64 own.Since, D.int .i64 own.Ramped, D.int .u64 own.Up, D.int .u64 own.Sup, D.sl false 1 (List.map (eInt .i64) own.Pen), D.sl false 1 (List.map (eInt .i64) own.Changes)], D.sl false 26 (List.map Msg.enc l)] [] (law16_ProposerHighest_Q r) := law16_ProposerHighest_ev (evf_ev h)
end Go.RX.L

set_option linter.unusedSimpArgs false
set_option linter.unusedVariables false
set_option maxRecDepth 100000
namespace Go.RX.L
open Go Go.RX Go.Proofs
theorem law16_ProposerHighest_of_t3 {n : Nat} {ds : List D} (h : wtF Try.prog (n + 1) 3 ds) : ∃ x : Int, ds = (eInt .i64) x ∧ inK .i64 x := by
  obtain ⟨m, rfl, o⟩ := wt_int (k := .i64) (by kernel_rfl) h
  exact ⟨m, rfl, o⟩
theorem law16_ProposerHighest_of_t22 {n : Nat} {ds : List D} (h : wtF Try.prog (n + 2) 22 ds) : ∃ x : List Int, ds = (eSl 1 (eInt .i64)) x ∧ (x.length * 8 ≤ reachBytes ∧ ∀ y ∈ x, inK .i64 y) := by
  obtain ⟨rows, rfl, o, w⟩ := wt_slice (n := n + 1) (e := 3) (sz := 1) (by_ := 8) (by kernel_rfl) (by kernel_rfl) (by kernel_rfl) h
  obtain ⟨l, rfl, q⟩ := wt_rows (en := (eInt .i64)) (Ok := fun y => inK .i64 y) (fun r hr => law16_ProposerHighest_of_t3 (n := n + 0) hr) rows w
  exact ⟨l, rfl, by simpa using o, q⟩
theorem law16_ProposerHighest_of_t2 {n : Nat} {ds : List D} (h : wtF Try.prog (n + 1) 2 ds) : ∃ x : Int, ds = (eInt .i64) x ∧ inK .i64 x := by
  obtain ⟨m, rfl, o⟩ := wt_int (k := .i64) (by kernel_rfl) h
  exact ⟨m, rfl, o⟩
theorem law16_ProposerHighest_of_t24 {n : Nat} {ds : List D} (h : wtF Try.prog (n + 3) 24 ds) : ∃ x : Config, ds = Config.enc x ∧ x.Ok := by
  have h0 := wt_struct (n := n + 2) (ts := [3, 3, 3, 3, 3, 22, 2, 2, 3, 3, 2, 2, 2, 2, 2, 2, 3, 3, 3, 3, 2, 3, 3, 2, 2, 3, 2, 3, 3, 2]) (by kernel_rfl) h
  obtain ⟨a0, b0, rfl, w0, h1⟩ := wtL_cons h0
  obtain ⟨x0, rfl, o0⟩ := law16_ProposerHighest_of_t3 (n := n + 1) w0
  obtain ⟨a1, b1, rfl, w1, h2⟩ := wtL_cons h1
  obtain ⟨x1, rfl, o1⟩ := law16_ProposerHighest_of_t3 (n := n + 1) w1
  obtain ⟨a2, b2, rfl, w2, h3⟩ := wtL_cons h2
  obtain ⟨x2, rfl, o2⟩ := law16_ProposerHighest_of_t3 (n := n + 1) w2
  obtain ⟨a3, b3, rfl, w3, h4⟩ := wtL_cons h3
  obtain ⟨x3, rfl, o3⟩ := law16_ProposerHighest_of_t3 (n := n + 1) w3
  obtain ⟨a4, b4, rfl, w4, h5⟩ := wtL_cons h4
  obtain ⟨x4, rfl, o4⟩ := law16_ProposerHighest_of_t3 (n := n + 1) w4
  obtain ⟨a5, b5, rfl, w5, h6⟩ := wtL_cons h5
  obtain ⟨x5, rfl, o5⟩ := law16_ProposerHighest_of_t22 (n := n + 0) w5
  obtain ⟨a6, b6, rfl, w6, h7⟩ := wtL_cons h6
  obtain ⟨x6, rfl, o6⟩ := law16_ProposerHighest_of_t2 (n := n + 1) w6
  obtain ⟨a7, b7, rfl, w7, h8⟩ := wtL_cons h7
  obtain ⟨x7, rfl, o7⟩ := law16_ProposerHighest_of_t2 (n := n + 1) w7
  obtain ⟨a8, b8, rfl, w8, h9⟩ := wtL_cons h8
  obtain ⟨x8, rfl, o8⟩ := law16_ProposerHighest_of_t3 (n := n + 1) w8
  obtain ⟨a9, b9, rfl, w9, h10⟩ := wtL_cons h9
  obtain ⟨x9, rfl, o9⟩ := law16_ProposerHighest_of_t3 (n := n + 1) w9
  obtain ⟨a10, b10, rfl, w10, h11⟩ := wtL_cons h10
  obtain ⟨x10, rfl, o10⟩ := law16_ProposerHighest_of_t2 (n := n + 1) w10
  obtain ⟨a11, b11, rfl, w11, h12⟩ := wtL_cons h11
  obtain ⟨x11, rfl, o11⟩ := law16_ProposerHighest_of_t2 (n := n + 1) w11
  obtain ⟨a12, b12, rfl, w12, h13⟩ := wtL_cons h12
  obtain ⟨x12, rfl, o12⟩ := law16_ProposerHighest_of_t2 (n := n + 1) w12
  obtain ⟨a13, b13, rfl, w13, h14⟩ := wtL_cons h13
  obtain ⟨x13, rfl, o13⟩ := law16_ProposerHighest_of_t2 (n := n + 1) w13
  obtain ⟨a14, b14, rfl, w14, h15⟩ := wtL_cons h14
  obtain ⟨x14, rfl, o14⟩ := law16_ProposerHighest_of_t2 (n := n + 1) w14
  obtain ⟨a15, b15, rfl, w15, h16⟩ := wtL_cons h15
  obtain ⟨x15, rfl, o15⟩ := law16_ProposerHighest_of_t2 (n := n + 1) w15
  obtain ⟨a16, b16, rfl, w16, h17⟩ := wtL_cons h16
  obtain ⟨x16, rfl, o16⟩ := law16_ProposerHighest_of_t3 (n := n + 1) w16
  obtain ⟨a17, b17, rfl, w17, h18⟩ := wtL_cons h17
  obtain ⟨x17, rfl, o17⟩ := law16_ProposerHighest_of_t3 (n := n + 1) w17
  obtain ⟨a18, b18, rfl, w18, h19⟩ := wtL_cons h18
  obtain ⟨x18, rfl, o18⟩ := law16_ProposerHighest_of_t3 (n := n + 1) w18
  obtain ⟨a19, b19, rfl, w19, h20⟩ := wtL_cons h19
  obtain ⟨x19, rfl, o19⟩ := law16_ProposerHighest_of_t3 (n := n + 1) w19
  obtain ⟨a20, b20, rfl, w20, h21⟩ := wtL_cons h20
  obtain ⟨x20, rfl, o20⟩ := law16_ProposerHighest_of_t2 (n := n + 1) w20
  obtain ⟨a21, b21, rfl, w21, h22⟩ := wtL_cons h21
  obtain ⟨x21, rfl, o21⟩ := law16_ProposerHighest_of_t3 (n := n + 1) w21
  obtain ⟨a22, b22, rfl, w22, h23⟩ := wtL_cons h22
  obtain ⟨x22, rfl, o22⟩ := law16_ProposerHighest_of_t3 (n := n + 1) w22
  obtain ⟨a23, b23, rfl, w23, h24⟩ := wtL_cons h23
  obtain ⟨x23, rfl, o23⟩ := law16_ProposerHighest_of_t2 (n := n + 1) w23
  obtain ⟨a24, b24, rfl, w24, h25⟩ := wtL_cons h24
  obtain ⟨x24, rfl, o24⟩ := law16_ProposerHighest_of_t2 (n := n + 1) w24
  obtain ⟨a25, b25, rfl, w25, h26⟩ := wtL_cons h25
  obtain ⟨x25, rfl, o25⟩ := law16_ProposerHighest_of_t3 (n := n + 1) w25
  obtain ⟨a26, b26, rfl, w26, h27⟩ := wtL_cons h26
  obtain ⟨x26, rfl, o26⟩ := law16_ProposerHighest_of_t2 (n := n + 1) w26
  obtain ⟨a27, b27, rfl, w27, h28⟩ := wtL_cons h27
  obtain ⟨x27, rfl, o27⟩ := law16_ProposerHighest_of_t3 (n := n + 1) w27
  obtain ⟨a28, b28, rfl, w28, h29⟩ := wtL_cons h28
  obtain ⟨x28, rfl, o28⟩ := law16_ProposerHighest_of_t3 (n := n + 1) w28
  obtain ⟨a29, b29, rfl, w29, h30⟩ := wtL_cons h29
  obtain ⟨x29, rfl, o29⟩ := law16_ProposerHighest_of_t2 (n := n + 1) w29
  obtain rfl := wtL_nil h30
  exact ⟨⟨x0, x1, x2, x3, x4, x5, x6, x7, x8, x9, x10, x11, x12, x13, x14, x15, x16, x17, x18, x19, x20, x21, x22, x23, x24, x25, x26, x27, x28, x29⟩, rfl, o0, o1, o2, o3, o4, o5, o6, o7, o8, o9, o10, o11, o12, o13, o14, o15, o16, o17, o18, o19, o20, o21, o22, o23, o24, o25, o26, o27, o28, o29⟩
theorem law16_ProposerHighest_of_t25 {n : Nat} {ds : List D} (h : wtF Try.prog (n + 1) 25 ds) : ∃ x : Int, ds = (eInt .u64) x ∧ inK .u64 x := by
  obtain ⟨m, rfl, o⟩ := wt_int (k := .u64) (by kernel_rfl) h
  exact ⟨m, rfl, o⟩
theorem law16_ProposerHighest_of_t26 {n : Nat} {ds : List D} (h : wtF Try.prog (n + 2) 26 ds) : ∃ x : List Int, ds = (eSl 1 (eInt .i64)) x ∧ (x.length * 8 ≤ reachBytes ∧ ∀ y ∈ x, inK .i64 y) := by
  obtain ⟨rows, rfl, o, w⟩ := wt_slice (n := n + 1) (e := 2) (sz := 1) (by_ := 8) (by kernel_rfl) (by kernel_rfl) (by kernel_rfl) h
  obtain ⟨l, rfl, q⟩ := wt_rows (en := (eInt .i64)) (Ok := fun y => inK .i64 y) (fun r hr => law16_ProposerHighest_of_t2 (n := n + 0) hr) rows w
  exact ⟨l, rfl, by simpa using o, q⟩
theorem law16_ProposerHighest_of_t28 {n : Nat} {ds : List D} (h : wtF Try.prog (n + 3) 28 ds) : ∃ x : Plan, ds = Plan.enc x ∧ x.Ok := by
  have h0 := wt_struct (n := n + 2) (ts := [2, 3, 3, 3, 3, 2, 2, 2, 25, 25, 22, 26]) (by kernel_rfl) h
  obtain ⟨a0, b0, rfl, w0, h1⟩ := wtL_cons h0
  obtain ⟨x0, rfl, o0⟩ := law16_ProposerHighest_of_t2 (n := n + 1) w0
  obtain ⟨a1, b1, rfl, w1, h2⟩ := wtL_cons h1
  obtain ⟨x1, rfl, o1⟩ := law16_ProposerHighest_of_t3 (n := n + 1) w1
  obtain ⟨a2, b2, rfl, w2, h3⟩ := wtL_cons h2
  obtain ⟨x2, rfl, o2⟩ := law16_ProposerHighest_of_t3 (n := n + 1) w2
  obtain ⟨a3, b3, rfl, w3, h4⟩ := wtL_cons h3
  obtain ⟨x3, rfl, o3⟩ := law16_ProposerHighest_of_t3 (n := n + 1) w3
  obtain ⟨a4, b4, rfl, w4, h5⟩ := wtL_cons h4
  obtain ⟨x4, rfl, o4⟩ := law16_ProposerHighest_of_t3 (n := n + 1) w4
  obtain ⟨a5, b5, rfl, w5, h6⟩ := wtL_cons h5
  obtain ⟨x5, rfl, o5⟩ := law16_ProposerHighest_of_t2 (n := n + 1) w5
  obtain ⟨a6, b6, rfl, w6, h7⟩ := wtL_cons h6
  obtain ⟨x6, rfl, o6⟩ := law16_ProposerHighest_of_t2 (n := n + 1) w6
  obtain ⟨a7, b7, rfl, w7, h8⟩ := wtL_cons h7
  obtain ⟨x7, rfl, o7⟩ := law16_ProposerHighest_of_t2 (n := n + 1) w7
  obtain ⟨a8, b8, rfl, w8, h9⟩ := wtL_cons h8
  obtain ⟨x8, rfl, o8⟩ := law16_ProposerHighest_of_t25 (n := n + 1) w8
  obtain ⟨a9, b9, rfl, w9, h10⟩ := wtL_cons h9
  obtain ⟨x9, rfl, o9⟩ := law16_ProposerHighest_of_t25 (n := n + 1) w9
  obtain ⟨a10, b10, rfl, w10, h11⟩ := wtL_cons h10
  obtain ⟨x10, rfl, o10⟩ := law16_ProposerHighest_of_t22 (n := n + 0) w10
  obtain ⟨a11, b11, rfl, w11, h12⟩ := wtL_cons h11
  obtain ⟨x11, rfl, o11⟩ := law16_ProposerHighest_of_t26 (n := n + 0) w11
  obtain rfl := wtL_nil h12
  exact ⟨⟨x0, x1, x2, x3, x4, x5, x6, x7, x8, x9, x10, x11⟩, rfl, o0, o1, o2, o3, o4, o5, o6, o7, o8, o9, o10, o11⟩
theorem law16_ProposerHighest_of_t34 {n : Nat} {ds : List D} (h : wtF Try.prog (n + 1) 34 ds) : ∃ x : Int, ds = (eInt .i64) x ∧ inK .i64 x := by
  obtain ⟨m, rfl, o⟩ := wt_int (k := .i64) (by kernel_rfl) h
  exact ⟨m, rfl, o⟩
theorem law16_ProposerHighest_of_t4 {n : Nat} {ds : List D} (h : wtF Try.prog (n + 1) 4 ds) : ∃ x : Bool, ds = eBool x ∧ True := by
  obtain ⟨m, rfl⟩ := wt_bool (by kernel_rfl) h
  exact ⟨m, rfl, trivial⟩
theorem law16_ProposerHighest_of_t5 {n : Nat} {ds : List D} (h : wtF Try.prog (n + 1) 5 ds) : ∃ x : Int, ds = (eInt .u8) x ∧ inK .u8 x := by
  obtain ⟨m, rfl, o⟩ := wt_int (k := .u8) (by kernel_rfl) h
  exact ⟨m, rfl, o⟩
theorem law16_ProposerHighest_of_t35 {n : Nat} {ds : List D} (h : wtF Try.prog (n + 2) 35 ds) : ∃ x : List Int, ds = (eSl 1 (eInt .u8)) x ∧ (x.length * 1 ≤ reachBytes ∧ ∀ y ∈ x, inK .u8 y) := by
  obtain ⟨rows, rfl, o, w⟩ := wt_slice (n := n + 1) (e := 5) (sz := 1) (by_ := 1) (by kernel_rfl) (by kernel_rfl) (by kernel_rfl) h
  obtain ⟨l, rfl, q⟩ := wt_rows (en := (eInt .u8)) (Ok := fun y => inK .u8 y) (fun r hr => law16_ProposerHighest_of_t5 (n := n + 0) hr) rows w
  exact ⟨l, rfl, by simpa using o, q⟩
theorem law16_ProposerHighest_of_t37 {n : Nat} {ds : List D} (h : wtF Try.prog (n + 4) 37 ds) : ∃ x : Msg, ds = Msg.enc x ∧ x.Ok := by
  have h0 := wt_struct (n := n + 3) (ts := [34, 3, 3, 2, 2, 2, 2, 2, 25, 3, 4, 28, 26, 35, 35]) (by kernel_rfl) h
  obtain ⟨a0, b0, rfl, w0, h1⟩ := wtL_cons h0
  obtain ⟨x0, rfl, o0⟩ := law16_ProposerHighest_of_t34 (n := n + 2) w0
  obtain ⟨a1, b1, rfl, w1, h2⟩ := wtL_cons h1
  obtain ⟨x1, rfl, o1⟩ := law16_ProposerHighest_of_t3 (n := n + 2) w1
  obtain ⟨a2, b2, rfl, w2, h3⟩ := wtL_cons h2
  obtain ⟨x2, rfl, o2⟩ := law16_ProposerHighest_of_t3 (n := n + 2) w2
  obtain ⟨a3, b3, rfl, w3, h4⟩ := wtL_cons h3
  obtain ⟨x3, rfl, o3⟩ := law16_ProposerHighest_of_t2 (n := n + 2) w3
  obtain ⟨a4, b4, rfl, w4, h5⟩ := wtL_cons h4
  obtain ⟨x4, rfl, o4⟩ := law16_ProposerHighest_of_t2 (n := n + 2) w4
  obtain ⟨a5, b5, rfl, w5, h6⟩ := wtL_cons h5
  obtain ⟨x5, rfl, o5⟩ := law16_ProposerHighest_of_t2 (n := n + 2) w5
  obtain ⟨a6, b6, rfl, w6, h7⟩ := wtL_cons h6
  obtain ⟨x6, rfl, o6⟩ := law16_ProposerHighest_of_t2 (n := n + 2) w6
  obtain ⟨a7, b7, rfl, w7, h8⟩ := wtL_cons h7
  obtain ⟨x7, rfl, o7⟩ := law16_ProposerHighest_of_t2 (n := n + 2) w7
  obtain ⟨a8, b8, rfl, w8, h9⟩ := wtL_cons h8
  obtain ⟨x8, rfl, o8⟩ := law16_ProposerHighest_of_t25 (n := n + 2) w8
  obtain ⟨a9, b9, rfl, w9, h10⟩ := wtL_cons h9
  obtain ⟨x9, rfl, o9⟩ := law16_ProposerHighest_of_t3 (n := n + 2) w9
  obtain ⟨a10, b10, rfl, w10, h11⟩ := wtL_cons h10
  obtain ⟨x10, rfl, o10⟩ := law16_ProposerHighest_of_t4 (n := n + 2) w10
  obtain ⟨a11, b11, rfl, w11, h12⟩ := wtL_cons h11
  obtain ⟨x11, rfl, o11⟩ := law16_ProposerHighest_of_t28 (n := n + 0) w11
  obtain ⟨a12, b12, rfl, w12, h13⟩ := wtL_cons h12
  obtain ⟨x12, rfl, o12⟩ := law16_ProposerHighest_of_t26 (n := n + 1) w12
  obtain ⟨a13, b13, rfl, w13, h14⟩ := wtL_cons h13
  obtain ⟨x13, rfl, o13⟩ := law16_ProposerHighest_of_t35 (n := n + 1) w13
  obtain ⟨a14, b14, rfl, w14, h15⟩ := wtL_cons h14
  obtain ⟨x14, rfl, o14⟩ := law16_ProposerHighest_of_t35 (n := n + 1) w14
  obtain rfl := wtL_nil h15
  exact ⟨⟨x0, x1, x2, x3, x4, x5, x6, x7, x8, x9, x10, x11, x12, x13, x14⟩, rfl, o0, o1, o2, o3, o4, o5, o6, o7, o8, o9, o10, o11, o12, o13, o14⟩
theorem law16_ProposerHighest_of_t29 {n : Nat} {ds : List D} (h : wtF Try.prog (n + 5) 29 ds) : ∃ x : List Msg, ds = (eSl 26 Msg.enc) x ∧ (x.length * 288 ≤ reachBytes ∧ ∀ y ∈ x, y.Ok) := by
  obtain ⟨rows, rfl, o, w⟩ := wt_slice (n := n + 4) (e := 37) (sz := 26) (by_ := 288) (by kernel_rfl) (by kernel_rfl) (by kernel_rfl) h
  obtain ⟨l, rfl, q⟩ := wt_rows (en := Msg.enc) (Ok := fun y => y.Ok) (fun r hr => law16_ProposerHighest_of_t37 (n := n + 0) hr) rows w
  exact ⟨l, rfl, by simpa using o, q⟩
theorem law16_ProposerHighest_sound (H : ∀ (c : Config) (epoch : Int) (ballot : Int) (own : Plan) (l : List Msg), c.Ok → inK .i64 epoch → inK .i64 ballot → own.Ok → (l.length * 288 ≤ reachBytes ∧ ∀ y ∈ l, y.Ok) → law16_ProposerHighest c epoch ballot own l = some true) : ∀ xs, wtA Try.prog Try.f3.params.toList xs → Sound E 3 xs [] fun d _ => d = .bool true := by
  intro xs h
  have h0 : wtA Try.prog [24, 2, 2, 28, 29] xs := h
  obtain ⟨d0, r0, rfl, w0, h1⟩ := wtA_cons h0
  obtain ⟨c0, rfl, v0⟩ := wtP_agg (by kernel_rfl) w0
  obtain ⟨x0, rfl, o0⟩ := law16_ProposerHighest_of_t24 (n := 3) v0
  obtain ⟨d1, r1, rfl, w1, h2⟩ := wtA_cons h1
  have v1 := wtP_flat (by kernel_rfl) w1
  obtain ⟨x1, e1, o1⟩ := law16_ProposerHighest_of_t2 (n := 5) v1
  obtain ⟨rfl, -⟩ := List.cons.inj e1
  obtain ⟨d2, r2, rfl, w2, h3⟩ := wtA_cons h2
  have v2 := wtP_flat (by kernel_rfl) w2
  obtain ⟨x2, e2, o2⟩ := law16_ProposerHighest_of_t2 (n := 5) v2
  obtain ⟨rfl, -⟩ := List.cons.inj e2
  obtain ⟨d3, r3, rfl, w3, h4⟩ := wtA_cons h3
  obtain ⟨c3, rfl, v3⟩ := wtP_agg (by kernel_rfl) w3
  obtain ⟨x3, rfl, o3⟩ := law16_ProposerHighest_of_t28 (n := 3) v3
  obtain ⟨d4, r4, rfl, w4, h5⟩ := wtA_cons h4
  have v4 := wtP_flat (by kernel_rfl) w4
  obtain ⟨x4, e4, o4⟩ := law16_ProposerHighest_of_t29 (n := 1) v4
  obtain ⟨rfl, -⟩ := List.cons.inj e4
  obtain rfl := wtA_nil h5
  exact (law16_ProposerHighest_ok (H x0 x1 x2 x3 x4 o0 o1 o2 o3 o4)).mono fun d s h => h.1
end Go.RX.L

set_option linter.unusedSimpArgs false
set_option linter.unusedVariables false
namespace Go.RX.L
open Go Go.RX

theorem cnt_zero : ∀ n, cnt 0 n = 0
  | 0 => rfl
  | n + 1 => by unfold cnt; rw [cnt_zero n]; simp
theorem most_zero (c : Config) : mostP c 0 = false := by unfold mostP; rw [cnt_zero]; simp

/-- What the proposal is, by what was seen. -/
structure HiI (c : Config) (e b : Int) (own : Plan) (best : Int) (seen : Nat) (value : Plan) (p : GProp) : Prop where
  s64 : seen < 18446744073709551616
  b0 : 0 ≤ best
  vs : Shrt value
  eq : p = ⟨e, b, bif mostP c seen then 2 else 1, setE own e, best, bif mostP c seen && decide (best = 0) then setE own e else value, (seen : Int), 0⟩
  vz : best = 0 → mostP c seen = false → value = zeroP

theorem proposerHighest (c : Config) (e b : Int) (own : Plan) (l : List Msg) (_ : c.Ok) (_ : inK .i64 e) (_ : inK .i64 b) (ho : own.Ok) (hl : l.length * 288 ≤ reachBytes ∧ ∀ y ∈ l, y.Ok) : law16_ProposerHighest c e b own l = some true := by
  have os : Shrt (setE own e) := ho.shrt
  have main : ∀ t : Bool, (t = false → l.length ≤ 200 ∧ 0 ≤ c.F_ ∧ c.F_ ≤ 3) → law16_ProposerHighest_step (.s0 c e b own l) = some (.inl (.s1 e b l true t c own)) → law16_ProposerHighest c e b own l = some true := fun t ht h0 => by
    cases t with
    | true => exact evf_of (.next h0 (.done rfl))
    | false =>
      obtain ⟨b1, b2, b3⟩ := ht rfl
      have fC : (fN c : Int) = c.F_ := by rw [← fN_eq]; unfold mnI mxI; split <;> split <;> omega
      have wF : IntKind.i64.wrap (2 * c.F_) = 2 * c.F_ := wI64 (by omega) (by omega)
      have loop : ∀ (j k : Nat), k + j = l.length → ∀ best (seen : Nat) value p, HiI c e b own best seen value p → Ev law16_ProposerHighest_step (.s2 e b l true best seen k c own p value) true := by
        intro j
        induction j with
        | zero =>
          intro k hk best seen value p I
          refine .done ?_
          have q1 := I.eq
          simp only [law16_ProposerHighest_step, law16_ProposerHighest_2, List.length_map, geB (show l.length ≤ k by omega), cond_false]
          rw [q1]
          cases mostP c seen with
          | false => simp
          | true =>
            by_cases hb : best = 0
            · subst hb
              have := ref04_refl _ os
              unfold setE at this
              simp only [cond_true, bne_self_eq_false, cond_false, beq_self_eq_true, decide_true, Bool.and_self]
              unfold setE
              rw [this]
              rfl
            · simp only [cond_true, bne_self_eq_false, cond_false, beq_eq_false_iff_ne.2 hb, decide_eq_false hb, Bool.and_false]
              rw [ref04_refl _ I.vs]
              simp
        | succ j ih =>
          intro k hk best seen value p I
          have hkl : k < l.length := by omega
          have hmok := hl.2 _ (List.getElem_mem hkl)
          have hget := List.getElem?_eq_getElem hkl
          have wk := wS (k := k) (by omega)
          generalize l[k] = m at hmok hget
          obtain ⟨-, -, -, -, -, -, -, -, -, -, -, mp, -⟩ := hmok
          have mp := mp.shrt
          have p64 : inK .u64 p.Promises := by
            have := I.s64
            rw [I.eq]
            exact inU64.2 ⟨Int.natCast_nonneg _, by show (seen : Int) ≤ _; omega⟩
          -- behind the message
          have fin : ∀ best' (seen' : Nat) value', HiI c e b own best' seen' value' (promiseP p c m) → Ev law16_ProposerHighest_step (.s3 e b l true best' seen' k c own p value' m) true := fun best' seen' value' I' => by
            refine .next (s' := .s2 e b l true best' seen' ((k + 1 : Nat) : Int) c own (promiseP p c m) value') ?_ (ih (k + 1) (by omega) _ _ _ _ I')
            simp only [law16_ProposerHighest_step, law16_ProposerHighest_3]
            rw [promise_ok p c m p64, most_ok c I'.s64]
            simp only [Option.bind_some, wk]
            rw [show ((promiseP p c m).Promises != (seen' : Int)) = false by rw [I'.eq]; simp]
            rw [show ((promiseP p c m).Phase == 2) = mostP c seen' by rw [I'.eq]; cases mostP c seen' <;> rfl]
            simp
          have no : (toP p c m 5 1 && wellP p m) = false → Ev law16_ProposerHighest_step (.s5 e b l true best seen k false c own p value m) true := fun h => by
            refine .next (s' := .s3 e b l true best seen k c own p value m) rfl (fin _ _ _ ?_)
            have : promiseP p c m = p := by unfold promiseP; rw [h]; rfl
            rw [this]; exact I
          have yes : (toP p c m 5 1 && wellP p m) = true → Ev law16_ProposerHighest_step (.s5 e b l true best seen k true c own p value m) true := fun h => by
            have e1 : promiseP p c m = st3 (st2 (st1 p m) m) c := by unfold promiseP; rw [h]; rfl
            simp only [Bool.and_eq_true] at h
            have hfr := to_from h.1
            have hph : p.Phase = 1 := by
              have := h.1
              simp only [toP, Bool.and_eq_true, decide_eq_true_eq] at this
              exact this.1
            have hms : mostP c seen = false := by
              rw [I.eq] at hph
              cases hm : mostP c seen with
              | false => rfl
              | true => rw [hm] at hph; cases hph
            obtain ⟨o1, o2, o3⟩ := orP_ok p64 hfr
            have hpr : p.Promises = (seen : Int) := by rw [I.eq]
            have or' : orP p.Promises m.From.toNat = ((seen ||| 2 ^ m.From.toNat : Nat) : Int) := by rw [hpr]; rfl
            rw [hpr] at o1
            have hpeq : p = ⟨e, b, 1, setE own e, best, value, (seen : Int), 0⟩ := by
              have := I.eq
              rw [hms] at this
              exact this
            have nn : (!decide (m.From < 0)) = true := by simp; omega
            have lt' : seen ||| 2 ^ m.From.toNat < 18446744073709551616 := by
              rw [or', Int.toNat_natCast] at o3; exact o3
            have st : ∀ q : Bool, q = (m.HasPlan && decide (m.Accepted > best)) → law16_ProposerHighest_step (.s5 e b l true best seen k true c own p value m) = some (.inl (.s4 e b l true best ((seen ||| 2 ^ m.From.toNat : Nat) : Int) k q c own p value m)) := fun q hq => by
              simp only [law16_ProposerHighest_step, law16_ProposerHighest_5, cond_true, nn, o1]
              rw [hq]
              rw [show orP (seen : Int) m.From.toNat = ((seen ||| 2 ^ m.From.toNat : Nat) : Int) from rfl]
              cases m.HasPlan <;> rfl
            have e2 : st1 p m = ⟨e, b, 1, setE own e, best, value, ((seen ||| 2 ^ m.From.toNat : Nat) : Int), 0⟩ := by
              unfold st1; rw [or', hpeq]
            cases hq : m.HasPlan && decide (m.Accepted > best) with
            | true =>
              refine .next (st true hq.symm) (.next (s' := .s3 e b l true m.Accepted ((seen ||| 2 ^ m.From.toNat : Nat) : Int) k c own p m.Plan m) rfl (fin _ _ _ ?_))
              simp only [Bool.and_eq_true, decide_eq_true_eq] at hq
              have hb0 := I.b0
              refine ⟨lt', by omega, mp, ?_, fun h => by omega⟩
              rw [e1, e2]
              unfold st2 st3
              have : (m.HasPlan && decide (m.Accepted > best)) = true := by simp [hq.1]; omega
              rw [show (m.HasPlan && decide (m.Accepted > (⟨e, b, 1, setE own e, best, value, ((seen ||| 2 ^ m.From.toNat : Nat) : Int), 0⟩ : GProp).Best)) = true from this]
              simp only [cond_true, Int.toNat_natCast, decide_eq_false (show ¬ m.Accepted = 0 by omega), Bool.and_false, cond_false]
              cases mostP c (seen ||| 2 ^ m.From.toNat) <;> rfl
            | false =>
              refine .next (st false hq.symm) (.next (s' := .s3 e b l true best ((seen ||| 2 ^ m.From.toNat : Nat) : Int) k c own p value m) rfl (fin _ _ _ ?_))
              refine ⟨lt', I.b0, I.vs, ?_, fun h _ => I.vz h hms⟩
              rw [e1, e2]
              unfold st2 st3
              rw [show (m.HasPlan && decide (m.Accepted > (⟨e, b, 1, setE own e, best, value, ((seen ||| 2 ^ m.From.toNat : Nat) : Int), 0⟩ : GProp).Best)) = false from hq]
              simp only [cond_false, Int.toNat_natCast]
              cases mostP c (seen ||| 2 ^ m.From.toNat) <;> rfl
          have st2' : ∀ t : Bool, t = (toP p c m 5 1 && wellP p m) → law16_ProposerHighest_step (.s2 e b l true best seen k c own p value) = some (.inl (.s5 e b l true best seen k t c own p value m)) := fun t ht => by
            have pe : p.Epoch = e := by rw [I.eq]
            have pb : p.Ballot = b := by rw [I.eq]
            have ht2 : t = (decide (p.Phase = 1) && (decide (m.Kind = 5) && (decide (m.Epoch = e) && (decide (m.Ballot = b) && (decide (m.From ≥ 0) && decide (m.From ≤ 2 * c.F_))))) && !(m.HasPlan && decide (m.Plan.Epoch ≠ e))) := by
              rw [ht]; unfold toP wellP; rw [pe, pb, fC]
            simp only [law16_ProposerHighest_step, law16_ProposerHighest_2, List.length_map, ltB hkl, le0, Bool.and_self, cond_true, Int.toNat_natCast, hget, Option.bind_some, wF]
            rw [ht2]
            by_cases h1 : p.Phase = 1
            · by_cases h2 : m.Kind = 5
              · by_cases h3 : m.Epoch = e
                · by_cases h4 : m.Ballot = b
                  · by_cases h5 : m.From ≥ 0
                    · by_cases h6 : m.From ≤ 2 * c.F_
                      · cases hh : m.HasPlan with
                        | false => simp [h1, h2, h3, h4, h5, h6]
                        | true =>
                          by_cases h7 : m.Plan.Epoch = e
                          · simp [h1, h2, h3, h4, h5, h6, h7]
                          · simp [h1, h2, h3, h4, h5, h6, h7]
                      · simp [h1, h2, h3, h4, h5, h6]
                    · simp [h1, h2, h3, h4, h5]
                  · simp [h1, h2, h3, h4, beq_eq_false_iff_ne.2 h4]
                · simp [h1, h2, h3, beq_eq_false_iff_ne.2 h3]
              · simp [h1, h2, beq_eq_false_iff_ne.2 h2]
            · simp [h1, beq_eq_false_iff_ne.2 h1]
          cases hc : toP p c m 5 1 && wellP p m with
          | true => exact .next (st2' true hc.symm) (yes hc)
          | false => exact .next (st2' false hc.symm) (no hc)
      have I0 : HiI c e b own 0 0 zeroP ⟨e, b, 1, setE own e, 0, zeroP, 0, 0⟩ := by
        refine ⟨by omega, by omega, ⟨by decide, by decide⟩, ?_, fun _ _ => rfl⟩
        rw [most_zero]
        rfl
      refine evf_of (.next h0 (.next (s' := .s2 e b l true 0 (0 : Nat) (0 : Nat) c own ⟨e, b, 1, setE own e, 0, zeroP, 0, 0⟩ zeroP) ?_ (loop l.length 0 (by omega) _ _ _ _ I0)))
      simp only [law16_ProposerHighest_step, law16_ProposerHighest_1, cond_false, start_ok, Option.bind_some]
      rfl
  by_cases x1 : (l.length : Int) > 200
  · exact main true (fun h => by cases h) (by simp only [law16_ProposerHighest_step, law16_ProposerHighest_0, head_ok, Option.bind_some, List.length_map, decide_eq_true x1, cond_true])
  by_cases x2 : c.F_ < 0
  · exact main true (fun h => by cases h) (by simp only [law16_ProposerHighest_step, law16_ProposerHighest_0, head_ok, Option.bind_some, List.length_map, decide_eq_false x1, decide_eq_true x2, cond_true, cond_false])
  refine main (decide (c.F_ > 3)) (fun h => ?_) (by simp only [law16_ProposerHighest_step, law16_ProposerHighest_0, head_ok, Option.bind_some, List.length_map, decide_eq_false x1, decide_eq_false x2, cond_true, cond_false])
  simp only [decide_eq_false_iff_not] at h
  omega
end Go.RX.L
