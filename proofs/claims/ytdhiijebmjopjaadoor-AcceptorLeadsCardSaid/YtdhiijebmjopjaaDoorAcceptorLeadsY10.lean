/-
  Words and walks for AcceptorLeads. No condition.
-/
import Derived.Test.YtdhiijebmjopjaaDoorAcceptorLeadsY9
set_option linter.unusedSectionVars false
set_option linter.unnecessarySimpa false
set_option linter.unusedSimpArgs false
set_option linter.unusedVariables false
set_option maxRecDepth 100000
set_option maxHeartbeats 4000000
namespace Go.RX.L
open Go Go.RX Go.Proofs
attribute [local irreducible] FinQ
noncomputable def law15_AcceptorLeads_c := codeAt (bodyOf Tryd.f6)
noncomputable def law15_AcceptorLeads_e (y : Bool) : D × Sto := (.bool y, [])
inductive law15_AcceptorLeads_S where
 | s0
 | s1 (up : Bool)
 | s2 (up : Bool) (kept : keptT) (node : Int) (fuse : Int) (down : Bool) (b3 : List Int) (b4 : List Int)
 | s3 (up : Bool) (at_ : Int) (who : Int) (now : Int) (i : Int) (kept : keptT) (node : Int) (fuse : Int) (down : Bool) (b3 : List Int) (b4 : List Int)
 | s5 (up : Bool) (at_ : Int) (who : Int) (now : Int) (i : Int) (kept : keptT) (node : Int) (o : Op) (fuse : Int) (down : Bool) (b4 : List Int) (b5 : List Int)
 | s4 (up : Bool) (at_ : Int) (who : Int) (now : Int) (i : Int) (x_ : List Msg) (k : Int) (kept : keptT) (node : Int) (fuse : Int) (down : Bool) (b3 : List Int) (b4 : List Int)
 | s6 (up : Bool) (at_ : Int) (who : Int) (now : Int) (i : Int) (x_ : List Msg) (k : Int) (t89 : Bool) (kept : keptT) (node : Int) (fuse : Int) (down : Bool) (b3 : List Int) (b4 : List Int)
 | s7 (up : Bool) (now : Int) (i : Int) (x_ : List Msg) (k : Int) (t111 : Bool) (kept : keptT) (node : Int) (fuse : Int) (down : Bool) (b3 : List Int) (b4 : List Int)
noncomputable def law15_AcceptorLeads_M (c : Config) (l_ : List Op) : law15_AcceptorLeads_S → M
 | .s0 => startM Tryd.f6 [.agg [.int .i64 c.F_, .int .i64 c.Deciders, .int .i64 c.Targets, .int .i64 c.Routers, .int .i64 c.Observers, .sl false 1 (List.map (eInt .i64) c.Tiers), .int .i64 c.Every, .int .i64 c.Wait, .int .i64 c.Rise, .int .i64 c.Fall, .int .i64 c.Fresh, .int .i64 c.L_, .int .i64 c.M_, .int .i64 c.Dwell, .int .i64 c.D_, .int .i64 c.W_, .int .i64 c.B_, .int .i64 c.Hit, .int .i64 c.Suppress, .int .i64 c.Reuse, .int .i64 c.Half, .int .i64 c.First, .int .i64 c.Step, .int .i64 c.StepTime, .int .i64 c.S_, .int .i64 c.Cap, .int .i64 c.Span, .int .i64 c.Room, .int .i64 c.Tries, .int .i64 c.Retry], .sl false 29 (List.map Op.enc l_)] []
 | .s1 up => ⟨[.code (law15_AcceptorLeads_c [1, 1, 1])], [(1, .sl false 29 (List.map Op.enc l_)), (2, .ptr 0 0 0), (5, .bool up), (6, .nilp)], [some ⟨30, false, [[.int .i64 c.F_, .int .i64 c.Deciders, .int .i64 c.Targets, .int .i64 c.Routers, .int .i64 c.Observers, .sl false 1 (List.map (eInt .i64) c.Tiers), .int .i64 c.Every, .int .i64 c.Wait, .int .i64 c.Rise, .int .i64 c.Fall, .int .i64 c.Fresh, .int .i64 c.L_, .int .i64 c.M_, .int .i64 c.Dwell, .int .i64 c.D_, .int .i64 c.W_, .int .i64 c.B_, .int .i64 c.Hit, .int .i64 c.Suppress, .int .i64 c.Reuse, .int .i64 c.Half, .int .i64 c.First, .int .i64 c.Step, .int .i64 c.StepTime, .int .i64 c.S_, .int .i64 c.Cap, .int .i64 c.Span, .int .i64 c.Room, .int .i64 c.Tries, .int .i64 c.Retry]]⟩]⟩
 | .s2 up kept node fuse down b3 b4 => ⟨[.code (law15_AcceptorLeads_c [1, 1, 1])], [(1, .sl false 29 (List.map Op.enc l_)), (2, .ptr 0 0 0), (5, .bool up), (6, .ptr 1 0 0)], [some ⟨30, false, [[.int .i64 c.F_, .int .i64 c.Deciders, .int .i64 c.Targets, .int .i64 c.Routers, .int .i64 c.Observers, .sl false 1 (List.map (eInt .i64) c.Tiers), .int .i64 c.Every, .int .i64 c.Wait, .int .i64 c.Rise, .int .i64 c.Fall, .int .i64 c.Fresh, .int .i64 c.L_, .int .i64 c.M_, .int .i64 c.Dwell, .int .i64 c.D_, .int .i64 c.W_, .int .i64 c.B_, .int .i64 c.Hit, .int .i64 c.Suppress, .int .i64 c.Reuse, .int .i64 c.Half, .int .i64 c.First, .int .i64 c.Step, .int .i64 c.StepTime, .int .i64 c.S_, .int .i64 c.Cap, .int .i64 c.Span, .int .i64 c.Room, .int .i64 c.Tries, .int .i64 c.Retry]]⟩, some ⟨67, true, [[.int .i64 kept.epoch, .int .i64 kept.known.Epoch, .int .i64 kept.known.Target, .int .i64 kept.known.Prev, .int .i64 kept.known.Spill, .int .i64 kept.known.Percent, .int .i64 kept.known.Stamp, .int .i64 kept.known.Since, .int .i64 kept.known.Ramped, .int .u64 kept.known.Up, .int .u64 kept.known.Sup, .sl false 1 (List.map (eInt .i64) kept.known.Pen), .sl false 1 (List.map (eInt .i64) kept.known.Changes), .int .i64 kept.promised, .int .i64 kept.accepted, .int .i64 kept.plan.Epoch, .int .i64 kept.plan.Target, .int .i64 kept.plan.Prev, .int .i64 kept.plan.Spill, .int .i64 kept.plan.Percent, .int .i64 kept.plan.Stamp, .int .i64 kept.plan.Since, .int .i64 kept.plan.Ramped, .int .u64 kept.plan.Up, .int .u64 kept.plan.Sup, .sl false 1 (List.map (eInt .i64) kept.plan.Pen), .sl false 1 (List.map (eInt .i64) kept.plan.Changes), .int .i64 kept.writes.low, .int .i64 kept.writes.high, .int .i64 kept.writes.at_, .int .i64 kept.wish, .int .i64 kept.wishAt, .bool kept.lead.is_, .int .i64 kept.lead.who, .int .i64 kept.lead.at_, .int .i64 c.F_, .int .i64 c.Deciders, .int .i64 c.Targets, .int .i64 c.Routers, .int .i64 c.Observers, .sl false 1 (List.map (eInt .i64) c.Tiers), .int .i64 c.Every, .int .i64 c.Wait, .int .i64 c.Rise, .int .i64 c.Fall, .int .i64 c.Fresh, .int .i64 c.L_, .int .i64 c.M_, .int .i64 c.Dwell, .int .i64 c.D_, .int .i64 c.W_, .int .i64 c.B_, .int .i64 c.Hit, .int .i64 c.Suppress, .int .i64 c.Reuse, .int .i64 c.Half, .int .i64 c.First, .int .i64 c.Step, .int .i64 c.StepTime, .int .i64 c.S_, .int .i64 c.Cap, .int .i64 c.Span, .int .i64 c.Room, .int .i64 c.Tries, .int .i64 c.Retry, .int .i64 node, .ptr 2 0 0]]⟩, some ⟨4, true, [[.msl 3 0 ((List.map (eInt .u8) b3).length) ((List.map (eInt .u8) b3).length) false, .msl 4 0 ((List.map (eInt .u8) b4).length) ((List.map (eInt .u8) b4).length) false, .int .i64 fuse, .bool down]]⟩, some ⟨1, false, (List.map (eInt .u8) b3)⟩, some ⟨1, false, (List.map (eInt .u8) b4)⟩]⟩
 | .s3 up at_ who now i kept node fuse down b3 b4 => ⟨[.lpc (law15_AcceptorLeads_c [1, 1, 1, 1, 1, 1, 1, 0, 1, 0, 0]) 2022, .blk 0, .code (law15_AcceptorLeads_c [1, 1, 1, 1, 1, 1, 1, 1])], [(1, .sl false 29 (List.map Op.enc l_)), (2, .ptr 0 0 0), (5, .bool up), (6, .ptr 1 0 0), (7, .int .i64 at_), (8, .int .i64 who), (9, .int .i64 now), (10, .int .i64 i)], [some ⟨30, false, [[.int .i64 c.F_, .int .i64 c.Deciders, .int .i64 c.Targets, .int .i64 c.Routers, .int .i64 c.Observers, .sl false 1 (List.map (eInt .i64) c.Tiers), .int .i64 c.Every, .int .i64 c.Wait, .int .i64 c.Rise, .int .i64 c.Fall, .int .i64 c.Fresh, .int .i64 c.L_, .int .i64 c.M_, .int .i64 c.Dwell, .int .i64 c.D_, .int .i64 c.W_, .int .i64 c.B_, .int .i64 c.Hit, .int .i64 c.Suppress, .int .i64 c.Reuse, .int .i64 c.Half, .int .i64 c.First, .int .i64 c.Step, .int .i64 c.StepTime, .int .i64 c.S_, .int .i64 c.Cap, .int .i64 c.Span, .int .i64 c.Room, .int .i64 c.Tries, .int .i64 c.Retry]]⟩, some ⟨67, true, [[.int .i64 kept.epoch, .int .i64 kept.known.Epoch, .int .i64 kept.known.Target, .int .i64 kept.known.Prev, .int .i64 kept.known.Spill, .int .i64 kept.known.Percent, .int .i64 kept.known.Stamp, .int .i64 kept.known.Since, .int .i64 kept.known.Ramped, .int .u64 kept.known.Up, .int .u64 kept.known.Sup, .sl false 1 (List.map (eInt .i64) kept.known.Pen), .sl false 1 (List.map (eInt .i64) kept.known.Changes), .int .i64 kept.promised, .int .i64 kept.accepted, .int .i64 kept.plan.Epoch, .int .i64 kept.plan.Target, .int .i64 kept.plan.Prev, .int .i64 kept.plan.Spill, .int .i64 kept.plan.Percent, .int .i64 kept.plan.Stamp, .int .i64 kept.plan.Since, .int .i64 kept.plan.Ramped, .int .u64 kept.plan.Up, .int .u64 kept.plan.Sup, .sl false 1 (List.map (eInt .i64) kept.plan.Pen), .sl false 1 (List.map (eInt .i64) kept.plan.Changes), .int .i64 kept.writes.low, .int .i64 kept.writes.high, .int .i64 kept.writes.at_, .int .i64 kept.wish, .int .i64 kept.wishAt, .bool kept.lead.is_, .int .i64 kept.lead.who, .int .i64 kept.lead.at_, .int .i64 c.F_, .int .i64 c.Deciders, .int .i64 c.Targets, .int .i64 c.Routers, .int .i64 c.Observers, .sl false 1 (List.map (eInt .i64) c.Tiers), .int .i64 c.Every, .int .i64 c.Wait, .int .i64 c.Rise, .int .i64 c.Fall, .int .i64 c.Fresh, .int .i64 c.L_, .int .i64 c.M_, .int .i64 c.Dwell, .int .i64 c.D_, .int .i64 c.W_, .int .i64 c.B_, .int .i64 c.Hit, .int .i64 c.Suppress, .int .i64 c.Reuse, .int .i64 c.Half, .int .i64 c.First, .int .i64 c.Step, .int .i64 c.StepTime, .int .i64 c.S_, .int .i64 c.Cap, .int .i64 c.Span, .int .i64 c.Room, .int .i64 c.Tries, .int .i64 c.Retry, .int .i64 node, .ptr 2 0 0]]⟩, some ⟨4, true, [[.msl 3 0 ((List.map (eInt .u8) b3).length) ((List.map (eInt .u8) b3).length) false, .msl 4 0 ((List.map (eInt .u8) b4).length) ((List.map (eInt .u8) b4).length) false, .int .i64 fuse, .bool down]]⟩, some ⟨1, false, (List.map (eInt .u8) b3)⟩, some ⟨1, false, (List.map (eInt .u8) b4)⟩]⟩
 | .s5 up at_ who now i kept node o fuse down b4 b5 => ⟨[.code (law15_AcceptorLeads_c [1, 1, 1, 1, 1, 1, 1, 0, 1, 0, 0, 1, 0, 0, 1, 1, 1]), .blk 1, .code (law15_AcceptorLeads_c [1, 1, 1, 1, 1, 1, 1, 0, 1, 0, 0, 1, 1]), .lp (law15_AcceptorLeads_c [1, 1, 1, 1, 1, 1, 1, 0, 1, 0, 0]) 2022, .blk 0, .code (law15_AcceptorLeads_c [1, 1, 1, 1, 1, 1, 1, 1])], [(1, .sl false 29 (List.map Op.enc l_)), (2, .ptr 0 0 0), (5, .bool up), (6, .ptr 1 0 0), (7, .int .i64 at_), (8, .int .i64 who), (9, .int .i64 now), (10, .int .i64 i), (11, .ptr 2 0 0)], [some ⟨30, false, [[.int .i64 c.F_, .int .i64 c.Deciders, .int .i64 c.Targets, .int .i64 c.Routers, .int .i64 c.Observers, .sl false 1 (List.map (eInt .i64) c.Tiers), .int .i64 c.Every, .int .i64 c.Wait, .int .i64 c.Rise, .int .i64 c.Fall, .int .i64 c.Fresh, .int .i64 c.L_, .int .i64 c.M_, .int .i64 c.Dwell, .int .i64 c.D_, .int .i64 c.W_, .int .i64 c.B_, .int .i64 c.Hit, .int .i64 c.Suppress, .int .i64 c.Reuse, .int .i64 c.Half, .int .i64 c.First, .int .i64 c.Step, .int .i64 c.StepTime, .int .i64 c.S_, .int .i64 c.Cap, .int .i64 c.Span, .int .i64 c.Room, .int .i64 c.Tries, .int .i64 c.Retry]]⟩, some ⟨67, true, [[.int .i64 kept.epoch, .int .i64 kept.known.Epoch, .int .i64 kept.known.Target, .int .i64 kept.known.Prev, .int .i64 kept.known.Spill, .int .i64 kept.known.Percent, .int .i64 kept.known.Stamp, .int .i64 kept.known.Since, .int .i64 kept.known.Ramped, .int .u64 kept.known.Up, .int .u64 kept.known.Sup, .sl false 1 (List.map (eInt .i64) kept.known.Pen), .sl false 1 (List.map (eInt .i64) kept.known.Changes), .int .i64 kept.promised, .int .i64 kept.accepted, .int .i64 kept.plan.Epoch, .int .i64 kept.plan.Target, .int .i64 kept.plan.Prev, .int .i64 kept.plan.Spill, .int .i64 kept.plan.Percent, .int .i64 kept.plan.Stamp, .int .i64 kept.plan.Since, .int .i64 kept.plan.Ramped, .int .u64 kept.plan.Up, .int .u64 kept.plan.Sup, .sl false 1 (List.map (eInt .i64) kept.plan.Pen), .sl false 1 (List.map (eInt .i64) kept.plan.Changes), .int .i64 kept.writes.low, .int .i64 kept.writes.high, .int .i64 kept.writes.at_, .int .i64 kept.wish, .int .i64 kept.wishAt, .bool kept.lead.is_, .int .i64 kept.lead.who, .int .i64 kept.lead.at_, .int .i64 c.F_, .int .i64 c.Deciders, .int .i64 c.Targets, .int .i64 c.Routers, .int .i64 c.Observers, .sl false 1 (List.map (eInt .i64) c.Tiers), .int .i64 c.Every, .int .i64 c.Wait, .int .i64 c.Rise, .int .i64 c.Fall, .int .i64 c.Fresh, .int .i64 c.L_, .int .i64 c.M_, .int .i64 c.Dwell, .int .i64 c.D_, .int .i64 c.W_, .int .i64 c.B_, .int .i64 c.Hit, .int .i64 c.Suppress, .int .i64 c.Reuse, .int .i64 c.Half, .int .i64 c.First, .int .i64 c.Step, .int .i64 c.StepTime, .int .i64 c.S_, .int .i64 c.Cap, .int .i64 c.Span, .int .i64 c.Room, .int .i64 c.Tries, .int .i64 c.Retry, .int .i64 node, .ptr 3 0 0]]⟩, some ⟨29, false, [[.int .i64 o.What, .int .i64 o.M_.Kind, .int .i64 o.M_.From, .int .i64 o.M_.To, .int .i64 o.M_.Epoch, .int .i64 o.M_.Ballot, .int .i64 o.M_.Accepted, .int .i64 o.M_.Nonce, .int .i64 o.M_.Time, .int .u64 o.M_.Up, .int .i64 o.M_.Code, .bool o.M_.HasPlan, .int .i64 o.M_.Plan.Epoch, .int .i64 o.M_.Plan.Target, .int .i64 o.M_.Plan.Prev, .int .i64 o.M_.Plan.Spill, .int .i64 o.M_.Plan.Percent, .int .i64 o.M_.Plan.Stamp, .int .i64 o.M_.Plan.Since, .int .i64 o.M_.Plan.Ramped, .int .u64 o.M_.Plan.Up, .int .u64 o.M_.Plan.Sup, .sl false 1 (List.map (eInt .i64) o.M_.Plan.Pen), .sl false 1 (List.map (eInt .i64) o.M_.Plan.Changes), .sl false 1 (List.map (eInt .i64) o.M_.ID), .sl false 1 (List.map (eInt .u8) o.M_.Session), .sl false 1 (List.map (eInt .u8) o.M_.Payload), .int .i64 o.Now, .int .i64 o.N_]]⟩, some ⟨4, true, [[.msl 4 0 ((List.map (eInt .u8) b4).length) ((List.map (eInt .u8) b4).length) false, .msl 5 0 ((List.map (eInt .u8) b5).length) ((List.map (eInt .u8) b5).length) false, .int .i64 fuse, .bool down]]⟩, some ⟨1, false, (List.map (eInt .u8) b4)⟩, some ⟨1, false, (List.map (eInt .u8) b5)⟩]⟩
 | .s4 up at_ who now i x_ k kept node fuse down b3 b4 => ⟨[.lpc (law15_AcceptorLeads_c [1, 1, 1, 1, 1, 1, 1, 0, 1, 0, 0, 1, 0, 0, 1, 1, 1, 1, 1, 1, 0, 0]) 14310, .blk 3, .blk 1, .code (law15_AcceptorLeads_c [1, 1, 1, 1, 1, 1, 1, 0, 1, 0, 0, 1, 1]), .lp (law15_AcceptorLeads_c [1, 1, 1, 1, 1, 1, 1, 0, 1, 0, 0]) 2022, .blk 0, .code (law15_AcceptorLeads_c [1, 1, 1, 1, 1, 1, 1, 1])], [(1, .sl false 29 (List.map Op.enc l_)), (2, .ptr 0 0 0), (5, .bool up), (6, .ptr 1 0 0), (7, .int .i64 at_), (8, .int .i64 who), (9, .int .i64 now), (10, .int .i64 i), (12, .sl false 26 (List.map Msg.enc x_)), (13, .int .i64 k)], [some ⟨30, false, [[.int .i64 c.F_, .int .i64 c.Deciders, .int .i64 c.Targets, .int .i64 c.Routers, .int .i64 c.Observers, .sl false 1 (List.map (eInt .i64) c.Tiers), .int .i64 c.Every, .int .i64 c.Wait, .int .i64 c.Rise, .int .i64 c.Fall, .int .i64 c.Fresh, .int .i64 c.L_, .int .i64 c.M_, .int .i64 c.Dwell, .int .i64 c.D_, .int .i64 c.W_, .int .i64 c.B_, .int .i64 c.Hit, .int .i64 c.Suppress, .int .i64 c.Reuse, .int .i64 c.Half, .int .i64 c.First, .int .i64 c.Step, .int .i64 c.StepTime, .int .i64 c.S_, .int .i64 c.Cap, .int .i64 c.Span, .int .i64 c.Room, .int .i64 c.Tries, .int .i64 c.Retry]]⟩, some ⟨67, true, [[.int .i64 kept.epoch, .int .i64 kept.known.Epoch, .int .i64 kept.known.Target, .int .i64 kept.known.Prev, .int .i64 kept.known.Spill, .int .i64 kept.known.Percent, .int .i64 kept.known.Stamp, .int .i64 kept.known.Since, .int .i64 kept.known.Ramped, .int .u64 kept.known.Up, .int .u64 kept.known.Sup, .sl false 1 (List.map (eInt .i64) kept.known.Pen), .sl false 1 (List.map (eInt .i64) kept.known.Changes), .int .i64 kept.promised, .int .i64 kept.accepted, .int .i64 kept.plan.Epoch, .int .i64 kept.plan.Target, .int .i64 kept.plan.Prev, .int .i64 kept.plan.Spill, .int .i64 kept.plan.Percent, .int .i64 kept.plan.Stamp, .int .i64 kept.plan.Since, .int .i64 kept.plan.Ramped, .int .u64 kept.plan.Up, .int .u64 kept.plan.Sup, .sl false 1 (List.map (eInt .i64) kept.plan.Pen), .sl false 1 (List.map (eInt .i64) kept.plan.Changes), .int .i64 kept.writes.low, .int .i64 kept.writes.high, .int .i64 kept.writes.at_, .int .i64 kept.wish, .int .i64 kept.wishAt, .bool kept.lead.is_, .int .i64 kept.lead.who, .int .i64 kept.lead.at_, .int .i64 c.F_, .int .i64 c.Deciders, .int .i64 c.Targets, .int .i64 c.Routers, .int .i64 c.Observers, .sl false 1 (List.map (eInt .i64) c.Tiers), .int .i64 c.Every, .int .i64 c.Wait, .int .i64 c.Rise, .int .i64 c.Fall, .int .i64 c.Fresh, .int .i64 c.L_, .int .i64 c.M_, .int .i64 c.Dwell, .int .i64 c.D_, .int .i64 c.W_, .int .i64 c.B_, .int .i64 c.Hit, .int .i64 c.Suppress, .int .i64 c.Reuse, .int .i64 c.Half, .int .i64 c.First, .int .i64 c.Step, .int .i64 c.StepTime, .int .i64 c.S_, .int .i64 c.Cap, .int .i64 c.Span, .int .i64 c.Room, .int .i64 c.Tries, .int .i64 c.Retry, .int .i64 node, .ptr 2 0 0]]⟩, some ⟨4, true, [[.msl 3 0 ((List.map (eInt .u8) b3).length) ((List.map (eInt .u8) b3).length) false, .msl 4 0 ((List.map (eInt .u8) b4).length) ((List.map (eInt .u8) b4).length) false, .int .i64 fuse, .bool down]]⟩, some ⟨1, false, (List.map (eInt .u8) b3)⟩, some ⟨1, false, (List.map (eInt .u8) b4)⟩]⟩
 | .s6 up at_ who now i x_ k t89 kept node fuse down b3 b4 => ⟨[.code (law15_AcceptorLeads_c [1, 1, 1, 1, 1, 1, 1, 0, 1, 0, 0, 1, 0, 0, 1, 1, 1, 1, 1, 1, 0, 0, 1, 0, 0, 0, 1]), .code (law15_AcceptorLeads_c [1, 1, 1, 1, 1, 1, 1, 0, 1, 0, 0, 1, 0, 0, 1, 1, 1, 1, 1, 1, 0, 0, 1, 0, 0, 1]), .blk 4, .code (law15_AcceptorLeads_c [1, 1, 1, 1, 1, 1, 1, 0, 1, 0, 0, 1, 0, 0, 1, 1, 1, 1, 1, 1, 0, 0, 1, 1]), .lp (law15_AcceptorLeads_c [1, 1, 1, 1, 1, 1, 1, 0, 1, 0, 0, 1, 0, 0, 1, 1, 1, 1, 1, 1, 0, 0]) 14310, .blk 3, .blk 1, .code (law15_AcceptorLeads_c [1, 1, 1, 1, 1, 1, 1, 0, 1, 0, 0, 1, 1]), .lp (law15_AcceptorLeads_c [1, 1, 1, 1, 1, 1, 1, 0, 1, 0, 0]) 2022, .blk 0, .code (law15_AcceptorLeads_c [1, 1, 1, 1, 1, 1, 1, 1])], [(1, .sl false 29 (List.map Op.enc l_)), (2, .ptr 0 0 0), (5, .bool up), (6, .ptr 1 0 0), (7, .int .i64 at_), (8, .int .i64 who), (9, .int .i64 now), (10, .int .i64 i), (12, .sl false 26 (List.map Msg.enc x_)), (13, .int .i64 k), (89, .bool t89)], [some ⟨30, false, [[.int .i64 c.F_, .int .i64 c.Deciders, .int .i64 c.Targets, .int .i64 c.Routers, .int .i64 c.Observers, .sl false 1 (List.map (eInt .i64) c.Tiers), .int .i64 c.Every, .int .i64 c.Wait, .int .i64 c.Rise, .int .i64 c.Fall, .int .i64 c.Fresh, .int .i64 c.L_, .int .i64 c.M_, .int .i64 c.Dwell, .int .i64 c.D_, .int .i64 c.W_, .int .i64 c.B_, .int .i64 c.Hit, .int .i64 c.Suppress, .int .i64 c.Reuse, .int .i64 c.Half, .int .i64 c.First, .int .i64 c.Step, .int .i64 c.StepTime, .int .i64 c.S_, .int .i64 c.Cap, .int .i64 c.Span, .int .i64 c.Room, .int .i64 c.Tries, .int .i64 c.Retry]]⟩, some ⟨67, true, [[.int .i64 kept.epoch, .int .i64 kept.known.Epoch, .int .i64 kept.known.Target, .int .i64 kept.known.Prev, .int .i64 kept.known.Spill, .int .i64 kept.known.Percent, .int .i64 kept.known.Stamp, .int .i64 kept.known.Since, .int .i64 kept.known.Ramped, .int .u64 kept.known.Up, .int .u64 kept.known.Sup, .sl false 1 (List.map (eInt .i64) kept.known.Pen), .sl false 1 (List.map (eInt .i64) kept.known.Changes), .int .i64 kept.promised, .int .i64 kept.accepted, .int .i64 kept.plan.Epoch, .int .i64 kept.plan.Target, .int .i64 kept.plan.Prev, .int .i64 kept.plan.Spill, .int .i64 kept.plan.Percent, .int .i64 kept.plan.Stamp, .int .i64 kept.plan.Since, .int .i64 kept.plan.Ramped, .int .u64 kept.plan.Up, .int .u64 kept.plan.Sup, .sl false 1 (List.map (eInt .i64) kept.plan.Pen), .sl false 1 (List.map (eInt .i64) kept.plan.Changes), .int .i64 kept.writes.low, .int .i64 kept.writes.high, .int .i64 kept.writes.at_, .int .i64 kept.wish, .int .i64 kept.wishAt, .bool kept.lead.is_, .int .i64 kept.lead.who, .int .i64 kept.lead.at_, .int .i64 c.F_, .int .i64 c.Deciders, .int .i64 c.Targets, .int .i64 c.Routers, .int .i64 c.Observers, .sl false 1 (List.map (eInt .i64) c.Tiers), .int .i64 c.Every, .int .i64 c.Wait, .int .i64 c.Rise, .int .i64 c.Fall, .int .i64 c.Fresh, .int .i64 c.L_, .int .i64 c.M_, .int .i64 c.Dwell, .int .i64 c.D_, .int .i64 c.W_, .int .i64 c.B_, .int .i64 c.Hit, .int .i64 c.Suppress, .int .i64 c.Reuse, .int .i64 c.Half, .int .i64 c.First, .int .i64 c.Step, .int .i64 c.StepTime, .int .i64 c.S_, .int .i64 c.Cap, .int .i64 c.Span, .int .i64 c.Room, .int .i64 c.Tries, .int .i64 c.Retry, .int .i64 node, .ptr 2 0 0]]⟩, some ⟨4, true, [[.msl 3 0 ((List.map (eInt .u8) b3).length) ((List.map (eInt .u8) b3).length) false, .msl 4 0 ((List.map (eInt .u8) b4).length) ((List.map (eInt .u8) b4).length) false, .int .i64 fuse, .bool down]]⟩, some ⟨1, false, (List.map (eInt .u8) b3)⟩, some ⟨1, false, (List.map (eInt .u8) b4)⟩]⟩
 | .s7 up now i x_ k t111 kept node fuse down b3 b4 => ⟨[.code (law15_AcceptorLeads_c [1, 1, 1, 1, 1, 1, 1, 0, 1, 0, 0, 1, 0, 0, 1, 1, 1, 1, 1, 1, 0, 0, 1, 0, 0, 1, 0, 1]), .code (law15_AcceptorLeads_c [1, 1, 1, 1, 1, 1, 1, 0, 1, 0, 0, 1, 0, 0, 1, 1, 1, 1, 1, 1, 0, 0, 1, 0, 0, 1, 1]), .blk 4, .code (law15_AcceptorLeads_c [1, 1, 1, 1, 1, 1, 1, 0, 1, 0, 0, 1, 0, 0, 1, 1, 1, 1, 1, 1, 0, 0, 1, 1]), .lp (law15_AcceptorLeads_c [1, 1, 1, 1, 1, 1, 1, 0, 1, 0, 0, 1, 0, 0, 1, 1, 1, 1, 1, 1, 0, 0]) 14310, .blk 3, .blk 1, .code (law15_AcceptorLeads_c [1, 1, 1, 1, 1, 1, 1, 0, 1, 0, 0, 1, 1]), .lp (law15_AcceptorLeads_c [1, 1, 1, 1, 1, 1, 1, 0, 1, 0, 0]) 2022, .blk 0, .code (law15_AcceptorLeads_c [1, 1, 1, 1, 1, 1, 1, 1])], [(1, .sl false 29 (List.map Op.enc l_)), (2, .ptr 0 0 0), (5, .bool up), (6, .ptr 1 0 0), (9, .int .i64 now), (10, .int .i64 i), (12, .sl false 26 (List.map Msg.enc x_)), (13, .int .i64 k), (111, .bool t111)], [some ⟨30, false, [[.int .i64 c.F_, .int .i64 c.Deciders, .int .i64 c.Targets, .int .i64 c.Routers, .int .i64 c.Observers, .sl false 1 (List.map (eInt .i64) c.Tiers), .int .i64 c.Every, .int .i64 c.Wait, .int .i64 c.Rise, .int .i64 c.Fall, .int .i64 c.Fresh, .int .i64 c.L_, .int .i64 c.M_, .int .i64 c.Dwell, .int .i64 c.D_, .int .i64 c.W_, .int .i64 c.B_, .int .i64 c.Hit, .int .i64 c.Suppress, .int .i64 c.Reuse, .int .i64 c.Half, .int .i64 c.First, .int .i64 c.Step, .int .i64 c.StepTime, .int .i64 c.S_, .int .i64 c.Cap, .int .i64 c.Span, .int .i64 c.Room, .int .i64 c.Tries, .int .i64 c.Retry]]⟩, some ⟨67, true, [[.int .i64 kept.epoch, .int .i64 kept.known.Epoch, .int .i64 kept.known.Target, .int .i64 kept.known.Prev, .int .i64 kept.known.Spill, .int .i64 kept.known.Percent, .int .i64 kept.known.Stamp, .int .i64 kept.known.Since, .int .i64 kept.known.Ramped, .int .u64 kept.known.Up, .int .u64 kept.known.Sup, .sl false 1 (List.map (eInt .i64) kept.known.Pen), .sl false 1 (List.map (eInt .i64) kept.known.Changes), .int .i64 kept.promised, .int .i64 kept.accepted, .int .i64 kept.plan.Epoch, .int .i64 kept.plan.Target, .int .i64 kept.plan.Prev, .int .i64 kept.plan.Spill, .int .i64 kept.plan.Percent, .int .i64 kept.plan.Stamp, .int .i64 kept.plan.Since, .int .i64 kept.plan.Ramped, .int .u64 kept.plan.Up, .int .u64 kept.plan.Sup, .sl false 1 (List.map (eInt .i64) kept.plan.Pen), .sl false 1 (List.map (eInt .i64) kept.plan.Changes), .int .i64 kept.writes.low, .int .i64 kept.writes.high, .int .i64 kept.writes.at_, .int .i64 kept.wish, .int .i64 kept.wishAt, .bool kept.lead.is_, .int .i64 kept.lead.who, .int .i64 kept.lead.at_, .int .i64 c.F_, .int .i64 c.Deciders, .int .i64 c.Targets, .int .i64 c.Routers, .int .i64 c.Observers, .sl false 1 (List.map (eInt .i64) c.Tiers), .int .i64 c.Every, .int .i64 c.Wait, .int .i64 c.Rise, .int .i64 c.Fall, .int .i64 c.Fresh, .int .i64 c.L_, .int .i64 c.M_, .int .i64 c.Dwell, .int .i64 c.D_, .int .i64 c.W_, .int .i64 c.B_, .int .i64 c.Hit, .int .i64 c.Suppress, .int .i64 c.Reuse, .int .i64 c.Half, .int .i64 c.First, .int .i64 c.Step, .int .i64 c.StepTime, .int .i64 c.S_, .int .i64 c.Cap, .int .i64 c.Span, .int .i64 c.Room, .int .i64 c.Tries, .int .i64 c.Retry, .int .i64 node, .ptr 2 0 0]]⟩, some ⟨4, true, [[.msl 3 0 ((List.map (eInt .u8) b3).length) ((List.map (eInt .u8) b3).length) false, .msl 4 0 ((List.map (eInt .u8) b4).length) ((List.map (eInt .u8) b4).length) false, .int .i64 fuse, .bool down]]⟩, some ⟨1, false, (List.map (eInt .u8) b3)⟩, some ⟨1, false, (List.map (eInt .u8) b4)⟩]⟩
abbrev law15_AcceptorLeads_W (c : Config) (l_ : List Op) := SOk E (Cx.of Tryd.f6 false 0) law15_AcceptorLeads_e (law15_AcceptorLeads_M c l_)
noncomputable def law15_AcceptorLeads_0 (c : Config) (l_ : List Op) : Option (law15_AcceptorLeads_S ⊕ Bool) := ((law15_head ).bind fun y1 => ((acceptor_New c 1).bind fun y2 => match y2 with | .r0 => (some (.inl (.s1 y1))) | .r1 y2a0 y2a1 y2a2 y2a3 y2a4 => (some (.inl (.s2 y1 y2a0 1 y2a1 y2a2 y2a3 y2a4)))))
noncomputable def law15_AcceptorLeads_1 (c : Config) (l_ : List Op) (up : Bool) : Option (law15_AcceptorLeads_S ⊕ Bool) := (some (.inr up))
noncomputable def law15_AcceptorLeads_2 (c : Config) (l_ : List Op) (up : Bool) (kept : keptT) (node : Int) (fuse : Int) (down : Bool) (b3 : List Int) (b4 : List Int) : Option (law15_AcceptorLeads_S ⊕ Bool) := ((law15_Great l_).bind fun y1 => (bif y1 then (some (.inr up)) else (some (.inl (.s3 up (-1) (-1) 0 0 kept node fuse down b3 b4)))))
noncomputable def law15_AcceptorLeads_3 (c : Config) (l_ : List Op) (up : Bool) (at_ : Int) (who : Int) (now : Int) (i : Int) (kept : keptT) (node : Int) (fuse : Int) (down : Bool) (b3 : List Int) (b4 : List Int) : Option (law15_AcceptorLeads_S ⊕ Bool) := (bif (decide ((i : Int) < (((List.map Op.enc l_).length : Nat) : Int))) then (bif ((decide ((0 : Int) ≤ i)) && (decide ((i : Int) < (((List.map Op.enc l_).length : Nat) : Int)))) then (((l_)[i.toNat]?).bind fun y3 => (bif (((andI .i64 y3.What 3) : Int) == 1) then ((Acceptor_Journal kept c node fuse down b3 b4).bind fun y6 => ((Journal_Fuse y3.N_ fuse down b3 b4).bind fun y7 => (some (.inl (.s5 up at_ who (mxI now (mnI y3.Now 1099511627776)) i kept node y3 y7 down b3 b4))))) else (bif (((andI .i64 y3.What 3) : Int) == 2) then ((Acceptor_Journal kept c node fuse down b3 b4).bind fun y9 => ((Journal_Crash y3.N_ fuse down b3 b4).bind fun y10 => (some (.inl (.s5 up at_ who (mxI now (mnI y3.Now 1099511627776)) i kept node y3 y10.1 y10.2.1 y10.2.2.1 y10.2.2.2))))) else (bif (((andI .i64 y3.What 3) : Int) == 3) then ((Acceptor_Restart (mxI now (mnI y3.Now 1099511627776)) kept c node fuse down b3 b4).bind fun y12 => (some (.inl (.s5 up at_ who (mxI now (mnI y3.Now 1099511627776)) i y12.2.1 node y3 y12.2.2.1 y12.2.2.2.1 y12.2.2.2.2.1 y12.2.2.2.2.2)))) else (some (.inl (.s5 up at_ who (mxI now (mnI y3.Now 1099511627776)) i kept node y3 fuse down b3 b4))))))) else none) else (some (.inr up)))
noncomputable def law15_AcceptorLeads_5 (c : Config) (l_ : List Op) (up : Bool) (at_ : Int) (who : Int) (now : Int) (i : Int) (kept : keptT) (node : Int) (o : Op) (fuse : Int) (down : Bool) (b4 : List Int) (b5 : List Int) : Option (law15_AcceptorLeads_S ⊕ Bool) := (bif (((andI .i64 o.What 3) : Int) != 0) then (some (.inl (.s3 up at_ who now (IntKind.i64.wrap (i + 1)) kept node fuse down b4 b5))) else ((Acceptor_Handle o.M_ now kept c node fuse down b4 b5).bind fun y2 => (some (.inl (.s4 up at_ who now i y2.1 0 y2.2.1 node y2.2.2.1 y2.2.2.2.1 y2.2.2.2.2.1 y2.2.2.2.2.2)))))
noncomputable def law15_AcceptorLeads_4 (c : Config) (l_ : List Op) (up : Bool) (at_ : Int) (who : Int) (now : Int) (i : Int) (x_ : List Msg) (k : Int) (kept : keptT) (node : Int) (fuse : Int) (down : Bool) (b3 : List Int) (b4 : List Int) : Option (law15_AcceptorLeads_S ⊕ Bool) := (bif (decide ((k : Int) < (((List.map Msg.enc x_).length : Nat) : Int))) then (bif ((decide ((0 : Int) ≤ k)) && (decide ((k : Int) < (((List.map Msg.enc x_).length : Nat) : Int)))) then (((x_)[k.toNat]?).bind fun y3 => (bif ((y3.Kind : Int) != 11) then (some (.inl (.s6 up at_ who now i x_ k true kept node fuse down b3 b4))) else (bif ((decide ((0 : Int) ≤ k)) && (decide ((k : Int) < (((List.map Msg.enc x_).length : Nat) : Int)))) then (((x_)[k.toNat]?).bind fun y7 => (some (.inl (.s6 up at_ who now i x_ k ((y7.Code : Int) != 2) kept node fuse down b3 b4)))) else none))) else none) else (some (.inl (.s3 up at_ who now (IntKind.i64.wrap (i + 1)) kept node fuse down b3 b4))))
noncomputable def law15_AcceptorLeads_6 (c : Config) (l_ : List Op) (up : Bool) (at_ : Int) (who : Int) (now : Int) (i : Int) (x_ : List Msg) (k : Int) (t89 : Bool) (kept : keptT) (node : Int) (fuse : Int) (down : Bool) (b3 : List Int) (b4 : List Int) : Option (law15_AcceptorLeads_S ⊕ Bool) := (bif t89 then (some (.inl (.s4 up at_ who now i x_ (IntKind.i64.wrap (k + 1)) kept node fuse down b3 b4))) else (bif (decide ((at_ : Int) ≥ 0)) then (bif ((decide ((0 : Int) ≤ k)) && (decide ((k : Int) < (((List.map Msg.enc x_).length : Nat) : Int)))) then (((x_)[k.toNat]?).bind fun y4 => (bif ((who : Int) != y4.To) then (some (.inl (.s7 up now i x_ k (decide (((IntKind.i64.wrap (now - at_)) : Int) < (IntKind.i64.wrap (c.L_ + c.M_)))) kept node fuse down b3 b4))) else (some (.inl (.s7 up now i x_ k false kept node fuse down b3 b4))))) else none) else (some (.inl (.s7 up now i x_ k false kept node fuse down b3 b4)))))
noncomputable def law15_AcceptorLeads_7 (c : Config) (l_ : List Op) (up : Bool) (now : Int) (i : Int) (x_ : List Msg) (k : Int) (t111 : Bool) (kept : keptT) (node : Int) (fuse : Int) (down : Bool) (b3 : List Int) (b4 : List Int) : Option (law15_AcceptorLeads_S ⊕ Bool) := (bif t111 then (some (.inr false)) else (bif ((decide ((0 : Int) ≤ k)) && (decide ((k : Int) < (((List.map Msg.enc x_).length : Nat) : Int)))) then (((x_)[k.toNat]?).bind fun y3 => (some (.inl (.s4 up now y3.To now i x_ (IntKind.i64.wrap (k + 1)) kept node fuse down b3 b4)))) else none))
noncomputable def law15_AcceptorLeads_step (c : Config) (l_ : List Op) : law15_AcceptorLeads_S → Option (law15_AcceptorLeads_S ⊕ Bool)
 | .s0 => law15_AcceptorLeads_0 c l_
 | .s1 up => law15_AcceptorLeads_1 c l_ up
 | .s2 up kept node fuse down b3 b4 => law15_AcceptorLeads_2 c l_ up kept node fuse down b3 b4
 | .s3 up at_ who now i kept node fuse down b3 b4 => law15_AcceptorLeads_3 c l_ up at_ who now i kept node fuse down b3 b4
 | .s5 up at_ who now i kept node o fuse down b4 b5 => law15_AcceptorLeads_5 c l_ up at_ who now i kept node o fuse down b4 b5
 | .s4 up at_ who now i x_ k kept node fuse down b3 b4 => law15_AcceptorLeads_4 c l_ up at_ who now i x_ k kept node fuse down b3 b4
 | .s6 up at_ who now i x_ k t89 kept node fuse down b3 b4 => law15_AcceptorLeads_6 c l_ up at_ who now i x_ k t89 kept node fuse down b3 b4
 | .s7 up now i x_ k t111 kept node fuse down b3 b4 => law15_AcceptorLeads_7 c l_ up now i x_ k t111 kept node fuse down b3 b4
theorem law15_AcceptorLeads_0_ok {c l_} : law15_AcceptorLeads_W c l_ .s0 (law15_AcceptorLeads_0 c l_) := by
 intro r x h ha; unfold law15_AcceptorLeads_0 at h
 refine zc 8 [] h (fun _ => law15_head_ok) fun y1 h => ?_
 refine zc 7 [] h (fun _ => acceptor_New_ok) fun y2 h => ?_
 cases y2 with
 | r0 =>
  dsimp only at h
  exact zk 2 h ha
 | r1 y2a0 y2a1 y2a2 y2a3 y2a4 =>
  dsimp only at h
  exact zk 2 h ha
theorem law15_AcceptorLeads_1_ok {c l_ up} : law15_AcceptorLeads_W c l_ (.s1 up) (law15_AcceptorLeads_1 c l_ up) := by
 intro r x h ha; unfold law15_AcceptorLeads_1 at h
 exact zt 21 h ha
theorem law15_AcceptorLeads_2_ok {c l_ up kept node fuse down b3 b4} : law15_AcceptorLeads_W c l_ (.s2 up kept node fuse down b3 b4) (law15_AcceptorLeads_2 c l_ up kept node fuse down b3 b4) := by
 intro r x h ha; unfold law15_AcceptorLeads_2 at h
 refine zc 10 [] h (fun _ => law15_Great_ok) fun y1 h => ?_
 refine zs 4 h (fun h => ?_) fun h => ?_
 ·
  exact zt 6 h ha
 exact zj 21 h ha
theorem law15_AcceptorLeads_3_ok {c l_ up at_ who now i kept node fuse down b3 b4} : law15_AcceptorLeads_W c l_ (.s3 up at_ who now i kept node fuse down b3 b4) (law15_AcceptorLeads_3 c l_ up at_ who now i kept node fuse down b3 b4) := by
 intro r x h ha; unfold law15_AcceptorLeads_3 at h
 refine zs 10 h (fun h => ?_) fun h => ?_
 ·
  refine zn 8 h fun h => ?_
  refine zr 1 Op.enc h fun y3 h => ?_
  refine zs 30 h (fun h => ?_) fun h => ?_
  ·
   refine zdR 1 [] h (fun _ => Acceptor_Journal_ok) fun y6 h => ?_
   refine zc 1 [] h (fun _ => Journal_Fuse_ok) fun y7 h => ?_
   exact zk 1 h ha
  refine zs 6 h (fun h => ?_) fun h => ?_
  ·
   refine zdR 1 [] h (fun _ => Acceptor_Journal_ok) fun y9 h => ?_
   refine zc 1 [] h (fun _ => Journal_Crash_ok) fun y10 h => ?_
   exact zk 1 h ha
  refine zs 6 h (fun h => ?_) fun h => ?_
  ·
   refine zc 4 [] h (fun _ => Acceptor_Restart_ok) fun y12 h => ?_
   exact zk 2 h ha
  exact zk 2 h ha
 exact zt 7 h ha
theorem law15_AcceptorLeads_5_ok {c l_ up at_ who now i kept node o fuse down b4 b5} : law15_AcceptorLeads_W c l_ (.s5 up at_ who now i kept node o fuse down b4 b5) (law15_AcceptorLeads_5 c l_ up at_ who now i kept node o fuse down b4 b5) := by
 intro r x h ha; unfold law15_AcceptorLeads_5 at h
 refine zs 10 h (fun h => ?_) fun h => ?_
 ·
  exact zj 7 h ha
 refine zc 9 [] h (fun _ => Acceptor_Handle_ok) fun y2 h => ?_
 exact zj 9 h ha
theorem law15_AcceptorLeads_4_ok {c l_ up at_ who now i x_ k kept node fuse down b3 b4} : law15_AcceptorLeads_W c l_ (.s4 up at_ who now i x_ k kept node fuse down b3 b4) (law15_AcceptorLeads_4 c l_ up at_ who now i x_ k kept node fuse down b3 b4) := by
 intro r x h ha; unfold law15_AcceptorLeads_4 at h
 refine zs 10 h (fun h => ?_) fun h => ?_
 ·
  refine zn 9 h fun h => ?_
  refine zr 2 Msg.enc h fun y3 h => ?_
  refine zs 3 h (fun h => ?_) fun h => ?_
  ·
   exact zk 13 h ha
  refine zn 4 h fun h => ?_
  refine zr 4 Msg.enc h fun y7 h => ?_
  exact zk 5 h ha
 exact zj 8 h ha
theorem law15_AcceptorLeads_6_ok {c l_ up at_ who now i x_ k t89 kept node fuse down b3 b4} : law15_AcceptorLeads_W c l_ (.s6 up at_ who now i x_ k t89 kept node fuse down b3 b4) (law15_AcceptorLeads_6 c l_ up at_ who now i x_ k t89 kept node fuse down b3 b4) := by
 intro r x h ha; unfold law15_AcceptorLeads_6 at h
 refine zs 1 h (fun h => ?_) fun h => ?_
 ·
  exact zj 7 h ha
 refine zs 8 h (fun h => ?_) fun h => ?_
 ·
  refine zn 6 h fun h => ?_
  refine zr 4 Msg.enc h fun y4 h => ?_
  refine zs 6 h (fun h => ?_) fun h => ?_
  ·
   exact zk 21 h ha
  exact zk 19 h ha
 exact zk 36 h ha
theorem law15_AcceptorLeads_7_ok {c l_ up now i x_ k t111 kept node fuse down b3 b4} : law15_AcceptorLeads_W c l_ (.s7 up now i x_ k t111 kept node fuse down b3 b4) (law15_AcceptorLeads_7 c l_ up now i x_ k t111 kept node fuse down b3 b4) := by
 intro r x h ha; unfold law15_AcceptorLeads_7 at h
 refine zs 1 h (fun h => ?_) fun h => ?_
 ·
  exact zt 5 h ha
 refine zn 10 h fun h => ?_
 refine zr 2 Msg.enc h fun y3 h => ?_
 exact zj 9 h ha
noncomputable def law15_AcceptorLeads (c : Config) (l_ : List Op) : Option Bool := evf (law15_AcceptorLeads_step c l_) (.s0)
theorem law15_AcceptorLeads_ok {c : Config} {l_ : List Op} {r : Bool} (h : law15_AcceptorLeads c l_ = some r) : Sound E 6 [.agg [.int .i64 c.F_, .int .i64 c.Deciders, .int .i64 c.Targets, .int .i64 c.Routers, .int .i64 c.Observers, .sl false 1 (List.map (eInt .i64) c.Tiers), .int .i64 c.Every, .int .i64 c.Wait, .int .i64 c.Rise, .int .i64 c.Fall, .int .i64 c.Fresh, .int .i64 c.L_, .int .i64 c.M_, .int .i64 c.Dwell, .int .i64 c.D_, .int .i64 c.W_, .int .i64 c.B_, .int .i64 c.Hit, .int .i64 c.Suppress, .int .i64 c.Reuse, .int .i64 c.Half, .int .i64 c.First, .int .i64 c.Step, .int .i64 c.StepTime, .int .i64 c.S_, .int .i64 c.Cap, .int .i64 c.Span, .int .i64 c.Room, .int .i64 c.Tries, .int .i64 c.Retry], .sl false 29 (List.map Op.enc l_)] [] (Rs law15_AcceptorLeads_e r) := sc (fn := Tryd.f6) (k := false) (m := 0) (stM := (law15_AcceptorLeads_M c l_)) h fun s => by
 cases s with
 | s0 => exact law15_AcceptorLeads_0_ok
 | s1 => exact law15_AcceptorLeads_1_ok
 | s2 => exact law15_AcceptorLeads_2_ok
 | s3 => exact law15_AcceptorLeads_3_ok
 | s5 => exact law15_AcceptorLeads_5_ok
 | s4 => exact law15_AcceptorLeads_4_ok
 | s6 => exact law15_AcceptorLeads_6_ok
 | s7 => exact law15_AcceptorLeads_7_ok
end Go.RX.L

set_option linter.unusedSimpArgs false
set_option linter.unusedVariables false
set_option maxRecDepth 100000
namespace Go.RX.L
open Go Go.RX Go.Proofs
theorem law15_AcceptorLeads_of_t3 {n : Nat} {ds : List D} (h : wtF Tryd.prog (n + 1) 3 ds) : ∃ x : Int, ds = (eInt .i64) x ∧ inK .i64 x := by
  obtain ⟨m, rfl, o⟩ := wt_int (k := .i64) (by kernel_rfl) h
  exact ⟨m, rfl, o⟩
theorem law15_AcceptorLeads_of_t22 {n : Nat} {ds : List D} (h : wtF Tryd.prog (n + 2) 22 ds) : ∃ x : List Int, ds = (eSl 1 (eInt .i64)) x ∧ (x.length * 8 ≤ reachBytes ∧ ∀ y ∈ x, inK .i64 y) := by
  obtain ⟨rows, rfl, o, w⟩ := wt_slice (n := n + 1) (e := 3) (sz := 1) (by_ := 8) (by kernel_rfl) (by kernel_rfl) (by kernel_rfl) h
  obtain ⟨l, rfl, q⟩ := wt_rows (en := (eInt .i64)) (Ok := fun y => inK .i64 y) (fun r hr => law15_AcceptorLeads_of_t3 (n := n + 0) hr) rows w
  exact ⟨l, rfl, by simpa using o, q⟩
theorem law15_AcceptorLeads_of_t2 {n : Nat} {ds : List D} (h : wtF Tryd.prog (n + 1) 2 ds) : ∃ x : Int, ds = (eInt .i64) x ∧ inK .i64 x := by
  obtain ⟨m, rfl, o⟩ := wt_int (k := .i64) (by kernel_rfl) h
  exact ⟨m, rfl, o⟩
theorem law15_AcceptorLeads_of_t24 {n : Nat} {ds : List D} (h : wtF Tryd.prog (n + 3) 24 ds) : ∃ x : Config, ds = Config.enc x ∧ x.Ok := by
  have h0 := wt_struct (n := n + 2) (ts := [3, 3, 3, 3, 3, 22, 2, 2, 3, 3, 2, 2, 2, 2, 2, 2, 3, 3, 3, 3, 2, 3, 3, 2, 2, 3, 2, 3, 3, 2]) (by kernel_rfl) h
  obtain ⟨a0, b0, rfl, w0, h1⟩ := wtL_cons h0
  obtain ⟨x0, rfl, o0⟩ := law15_AcceptorLeads_of_t3 (n := n + 1) w0
  obtain ⟨a1, b1, rfl, w1, h2⟩ := wtL_cons h1
  obtain ⟨x1, rfl, o1⟩ := law15_AcceptorLeads_of_t3 (n := n + 1) w1
  obtain ⟨a2, b2, rfl, w2, h3⟩ := wtL_cons h2
  obtain ⟨x2, rfl, o2⟩ := law15_AcceptorLeads_of_t3 (n := n + 1) w2
  obtain ⟨a3, b3, rfl, w3, h4⟩ := wtL_cons h3
  obtain ⟨x3, rfl, o3⟩ := law15_AcceptorLeads_of_t3 (n := n + 1) w3
  obtain ⟨a4, b4, rfl, w4, h5⟩ := wtL_cons h4
  obtain ⟨x4, rfl, o4⟩ := law15_AcceptorLeads_of_t3 (n := n + 1) w4
  obtain ⟨a5, b5, rfl, w5, h6⟩ := wtL_cons h5
  obtain ⟨x5, rfl, o5⟩ := law15_AcceptorLeads_of_t22 (n := n + 0) w5
  obtain ⟨a6, b6, rfl, w6, h7⟩ := wtL_cons h6
  obtain ⟨x6, rfl, o6⟩ := law15_AcceptorLeads_of_t2 (n := n + 1) w6
  obtain ⟨a7, b7, rfl, w7, h8⟩ := wtL_cons h7
  obtain ⟨x7, rfl, o7⟩ := law15_AcceptorLeads_of_t2 (n := n + 1) w7
  obtain ⟨a8, b8, rfl, w8, h9⟩ := wtL_cons h8
  obtain ⟨x8, rfl, o8⟩ := law15_AcceptorLeads_of_t3 (n := n + 1) w8
  obtain ⟨a9, b9, rfl, w9, h10⟩ := wtL_cons h9
  obtain ⟨x9, rfl, o9⟩ := law15_AcceptorLeads_of_t3 (n := n + 1) w9
  obtain ⟨a10, b10, rfl, w10, h11⟩ := wtL_cons h10
  obtain ⟨x10, rfl, o10⟩ := law15_AcceptorLeads_of_t2 (n := n + 1) w10
  obtain ⟨a11, b11, rfl, w11, h12⟩ := wtL_cons h11
  obtain ⟨x11, rfl, o11⟩ := law15_AcceptorLeads_of_t2 (n := n + 1) w11
  obtain ⟨a12, b12, rfl, w12, h13⟩ := wtL_cons h12
  obtain ⟨x12, rfl, o12⟩ := law15_AcceptorLeads_of_t2 (n := n + 1) w12
  obtain ⟨a13, b13, rfl, w13, h14⟩ := wtL_cons h13
  obtain ⟨x13, rfl, o13⟩ := law15_AcceptorLeads_of_t2 (n := n + 1) w13
  obtain ⟨a14, b14, rfl, w14, h15⟩ := wtL_cons h14
  obtain ⟨x14, rfl, o14⟩ := law15_AcceptorLeads_of_t2 (n := n + 1) w14
  obtain ⟨a15, b15, rfl, w15, h16⟩ := wtL_cons h15
  obtain ⟨x15, rfl, o15⟩ := law15_AcceptorLeads_of_t2 (n := n + 1) w15
  obtain ⟨a16, b16, rfl, w16, h17⟩ := wtL_cons h16
  obtain ⟨x16, rfl, o16⟩ := law15_AcceptorLeads_of_t3 (n := n + 1) w16
  obtain ⟨a17, b17, rfl, w17, h18⟩ := wtL_cons h17
  obtain ⟨x17, rfl, o17⟩ := law15_AcceptorLeads_of_t3 (n := n + 1) w17
  obtain ⟨a18, b18, rfl, w18, h19⟩ := wtL_cons h18
  obtain ⟨x18, rfl, o18⟩ := law15_AcceptorLeads_of_t3 (n := n + 1) w18
  obtain ⟨a19, b19, rfl, w19, h20⟩ := wtL_cons h19
  obtain ⟨x19, rfl, o19⟩ := law15_AcceptorLeads_of_t3 (n := n + 1) w19
  obtain ⟨a20, b20, rfl, w20, h21⟩ := wtL_cons h20
  obtain ⟨x20, rfl, o20⟩ := law15_AcceptorLeads_of_t2 (n := n + 1) w20
  obtain ⟨a21, b21, rfl, w21, h22⟩ := wtL_cons h21
  obtain ⟨x21, rfl, o21⟩ := law15_AcceptorLeads_of_t3 (n := n + 1) w21
  obtain ⟨a22, b22, rfl, w22, h23⟩ := wtL_cons h22
  obtain ⟨x22, rfl, o22⟩ := law15_AcceptorLeads_of_t3 (n := n + 1) w22
  obtain ⟨a23, b23, rfl, w23, h24⟩ := wtL_cons h23
  obtain ⟨x23, rfl, o23⟩ := law15_AcceptorLeads_of_t2 (n := n + 1) w23
  obtain ⟨a24, b24, rfl, w24, h25⟩ := wtL_cons h24
  obtain ⟨x24, rfl, o24⟩ := law15_AcceptorLeads_of_t2 (n := n + 1) w24
  obtain ⟨a25, b25, rfl, w25, h26⟩ := wtL_cons h25
  obtain ⟨x25, rfl, o25⟩ := law15_AcceptorLeads_of_t3 (n := n + 1) w25
  obtain ⟨a26, b26, rfl, w26, h27⟩ := wtL_cons h26
  obtain ⟨x26, rfl, o26⟩ := law15_AcceptorLeads_of_t2 (n := n + 1) w26
  obtain ⟨a27, b27, rfl, w27, h28⟩ := wtL_cons h27
  obtain ⟨x27, rfl, o27⟩ := law15_AcceptorLeads_of_t3 (n := n + 1) w27
  obtain ⟨a28, b28, rfl, w28, h29⟩ := wtL_cons h28
  obtain ⟨x28, rfl, o28⟩ := law15_AcceptorLeads_of_t3 (n := n + 1) w28
  obtain ⟨a29, b29, rfl, w29, h30⟩ := wtL_cons h29
  obtain ⟨x29, rfl, o29⟩ := law15_AcceptorLeads_of_t2 (n := n + 1) w29
  obtain rfl := wtL_nil h30
  exact ⟨⟨x0, x1, x2, x3, x4, x5, x6, x7, x8, x9, x10, x11, x12, x13, x14, x15, x16, x17, x18, x19, x20, x21, x22, x23, x24, x25, x26, x27, x28, x29⟩, rfl, o0, o1, o2, o3, o4, o5, o6, o7, o8, o9, o10, o11, o12, o13, o14, o15, o16, o17, o18, o19, o20, o21, o22, o23, o24, o25, o26, o27, o28, o29⟩
theorem law15_AcceptorLeads_of_t32 {n : Nat} {ds : List D} (h : wtF Tryd.prog (n + 1) 32 ds) : ∃ x : Int, ds = (eInt .i64) x ∧ inK .i64 x := by
  obtain ⟨m, rfl, o⟩ := wt_int (k := .i64) (by kernel_rfl) h
  exact ⟨m, rfl, o⟩
theorem law15_AcceptorLeads_of_t33 {n : Nat} {ds : List D} (h : wtF Tryd.prog (n + 1) 33 ds) : ∃ x : Int, ds = (eInt .u64) x ∧ inK .u64 x := by
  obtain ⟨m, rfl, o⟩ := wt_int (k := .u64) (by kernel_rfl) h
  exact ⟨m, rfl, o⟩
theorem law15_AcceptorLeads_of_t4 {n : Nat} {ds : List D} (h : wtF Tryd.prog (n + 1) 4 ds) : ∃ x : Bool, ds = eBool x ∧ True := by
  obtain ⟨m, rfl⟩ := wt_bool (by kernel_rfl) h
  exact ⟨m, rfl, trivial⟩
theorem law15_AcceptorLeads_of_t34 {n : Nat} {ds : List D} (h : wtF Tryd.prog (n + 2) 34 ds) : ∃ x : List Int, ds = (eSl 1 (eInt .i64)) x ∧ (x.length * 8 ≤ reachBytes ∧ ∀ y ∈ x, inK .i64 y) := by
  obtain ⟨rows, rfl, o, w⟩ := wt_slice (n := n + 1) (e := 2) (sz := 1) (by_ := 8) (by kernel_rfl) (by kernel_rfl) (by kernel_rfl) h
  obtain ⟨l, rfl, q⟩ := wt_rows (en := (eInt .i64)) (Ok := fun y => inK .i64 y) (fun r hr => law15_AcceptorLeads_of_t2 (n := n + 0) hr) rows w
  exact ⟨l, rfl, by simpa using o, q⟩
theorem law15_AcceptorLeads_of_t36 {n : Nat} {ds : List D} (h : wtF Tryd.prog (n + 3) 36 ds) : ∃ x : Plan, ds = Plan.enc x ∧ x.Ok := by
  have h0 := wt_struct (n := n + 2) (ts := [2, 3, 3, 3, 3, 2, 2, 2, 33, 33, 22, 34]) (by kernel_rfl) h
  obtain ⟨a0, b0, rfl, w0, h1⟩ := wtL_cons h0
  obtain ⟨x0, rfl, o0⟩ := law15_AcceptorLeads_of_t2 (n := n + 1) w0
  obtain ⟨a1, b1, rfl, w1, h2⟩ := wtL_cons h1
  obtain ⟨x1, rfl, o1⟩ := law15_AcceptorLeads_of_t3 (n := n + 1) w1
  obtain ⟨a2, b2, rfl, w2, h3⟩ := wtL_cons h2
  obtain ⟨x2, rfl, o2⟩ := law15_AcceptorLeads_of_t3 (n := n + 1) w2
  obtain ⟨a3, b3, rfl, w3, h4⟩ := wtL_cons h3
  obtain ⟨x3, rfl, o3⟩ := law15_AcceptorLeads_of_t3 (n := n + 1) w3
  obtain ⟨a4, b4, rfl, w4, h5⟩ := wtL_cons h4
  obtain ⟨x4, rfl, o4⟩ := law15_AcceptorLeads_of_t3 (n := n + 1) w4
  obtain ⟨a5, b5, rfl, w5, h6⟩ := wtL_cons h5
  obtain ⟨x5, rfl, o5⟩ := law15_AcceptorLeads_of_t2 (n := n + 1) w5
  obtain ⟨a6, b6, rfl, w6, h7⟩ := wtL_cons h6
  obtain ⟨x6, rfl, o6⟩ := law15_AcceptorLeads_of_t2 (n := n + 1) w6
  obtain ⟨a7, b7, rfl, w7, h8⟩ := wtL_cons h7
  obtain ⟨x7, rfl, o7⟩ := law15_AcceptorLeads_of_t2 (n := n + 1) w7
  obtain ⟨a8, b8, rfl, w8, h9⟩ := wtL_cons h8
  obtain ⟨x8, rfl, o8⟩ := law15_AcceptorLeads_of_t33 (n := n + 1) w8
  obtain ⟨a9, b9, rfl, w9, h10⟩ := wtL_cons h9
  obtain ⟨x9, rfl, o9⟩ := law15_AcceptorLeads_of_t33 (n := n + 1) w9
  obtain ⟨a10, b10, rfl, w10, h11⟩ := wtL_cons h10
  obtain ⟨x10, rfl, o10⟩ := law15_AcceptorLeads_of_t22 (n := n + 0) w10
  obtain ⟨a11, b11, rfl, w11, h12⟩ := wtL_cons h11
  obtain ⟨x11, rfl, o11⟩ := law15_AcceptorLeads_of_t34 (n := n + 0) w11
  obtain rfl := wtL_nil h12
  exact ⟨⟨x0, x1, x2, x3, x4, x5, x6, x7, x8, x9, x10, x11⟩, rfl, o0, o1, o2, o3, o4, o5, o6, o7, o8, o9, o10, o11⟩
theorem law15_AcceptorLeads_of_t5 {n : Nat} {ds : List D} (h : wtF Tryd.prog (n + 1) 5 ds) : ∃ x : Int, ds = (eInt .u8) x ∧ inK .u8 x := by
  obtain ⟨m, rfl, o⟩ := wt_int (k := .u8) (by kernel_rfl) h
  exact ⟨m, rfl, o⟩
theorem law15_AcceptorLeads_of_t37 {n : Nat} {ds : List D} (h : wtF Tryd.prog (n + 2) 37 ds) : ∃ x : List Int, ds = (eSl 1 (eInt .u8)) x ∧ (x.length * 1 ≤ reachBytes ∧ ∀ y ∈ x, inK .u8 y) := by
  obtain ⟨rows, rfl, o, w⟩ := wt_slice (n := n + 1) (e := 5) (sz := 1) (by_ := 1) (by kernel_rfl) (by kernel_rfl) (by kernel_rfl) h
  obtain ⟨l, rfl, q⟩ := wt_rows (en := (eInt .u8)) (Ok := fun y => inK .u8 y) (fun r hr => law15_AcceptorLeads_of_t5 (n := n + 0) hr) rows w
  exact ⟨l, rfl, by simpa using o, q⟩
theorem law15_AcceptorLeads_of_t39 {n : Nat} {ds : List D} (h : wtF Tryd.prog (n + 4) 39 ds) : ∃ x : Msg, ds = Msg.enc x ∧ x.Ok := by
  have h0 := wt_struct (n := n + 3) (ts := [32, 3, 3, 2, 2, 2, 2, 2, 33, 3, 4, 36, 34, 37, 37]) (by kernel_rfl) h
  obtain ⟨a0, b0, rfl, w0, h1⟩ := wtL_cons h0
  obtain ⟨x0, rfl, o0⟩ := law15_AcceptorLeads_of_t32 (n := n + 2) w0
  obtain ⟨a1, b1, rfl, w1, h2⟩ := wtL_cons h1
  obtain ⟨x1, rfl, o1⟩ := law15_AcceptorLeads_of_t3 (n := n + 2) w1
  obtain ⟨a2, b2, rfl, w2, h3⟩ := wtL_cons h2
  obtain ⟨x2, rfl, o2⟩ := law15_AcceptorLeads_of_t3 (n := n + 2) w2
  obtain ⟨a3, b3, rfl, w3, h4⟩ := wtL_cons h3
  obtain ⟨x3, rfl, o3⟩ := law15_AcceptorLeads_of_t2 (n := n + 2) w3
  obtain ⟨a4, b4, rfl, w4, h5⟩ := wtL_cons h4
  obtain ⟨x4, rfl, o4⟩ := law15_AcceptorLeads_of_t2 (n := n + 2) w4
  obtain ⟨a5, b5, rfl, w5, h6⟩ := wtL_cons h5
  obtain ⟨x5, rfl, o5⟩ := law15_AcceptorLeads_of_t2 (n := n + 2) w5
  obtain ⟨a6, b6, rfl, w6, h7⟩ := wtL_cons h6
  obtain ⟨x6, rfl, o6⟩ := law15_AcceptorLeads_of_t2 (n := n + 2) w6
  obtain ⟨a7, b7, rfl, w7, h8⟩ := wtL_cons h7
  obtain ⟨x7, rfl, o7⟩ := law15_AcceptorLeads_of_t2 (n := n + 2) w7
  obtain ⟨a8, b8, rfl, w8, h9⟩ := wtL_cons h8
  obtain ⟨x8, rfl, o8⟩ := law15_AcceptorLeads_of_t33 (n := n + 2) w8
  obtain ⟨a9, b9, rfl, w9, h10⟩ := wtL_cons h9
  obtain ⟨x9, rfl, o9⟩ := law15_AcceptorLeads_of_t3 (n := n + 2) w9
  obtain ⟨a10, b10, rfl, w10, h11⟩ := wtL_cons h10
  obtain ⟨x10, rfl, o10⟩ := law15_AcceptorLeads_of_t4 (n := n + 2) w10
  obtain ⟨a11, b11, rfl, w11, h12⟩ := wtL_cons h11
  obtain ⟨x11, rfl, o11⟩ := law15_AcceptorLeads_of_t36 (n := n + 0) w11
  obtain ⟨a12, b12, rfl, w12, h13⟩ := wtL_cons h12
  obtain ⟨x12, rfl, o12⟩ := law15_AcceptorLeads_of_t34 (n := n + 1) w12
  obtain ⟨a13, b13, rfl, w13, h14⟩ := wtL_cons h13
  obtain ⟨x13, rfl, o13⟩ := law15_AcceptorLeads_of_t37 (n := n + 1) w13
  obtain ⟨a14, b14, rfl, w14, h15⟩ := wtL_cons h14
  obtain ⟨x14, rfl, o14⟩ := law15_AcceptorLeads_of_t37 (n := n + 1) w14
  obtain rfl := wtL_nil h15
  exact ⟨⟨x0, x1, x2, x3, x4, x5, x6, x7, x8, x9, x10, x11, x12, x13, x14⟩, rfl, o0, o1, o2, o3, o4, o5, o6, o7, o8, o9, o10, o11, o12, o13, o14⟩
theorem law15_AcceptorLeads_of_t41 {n : Nat} {ds : List D} (h : wtF Tryd.prog (n + 5) 41 ds) : ∃ x : Op, ds = Op.enc x ∧ x.Ok := by
  have h0 := wt_struct (n := n + 4) (ts := [3, 39, 2, 3]) (by kernel_rfl) h
  obtain ⟨a0, b0, rfl, w0, h1⟩ := wtL_cons h0
  obtain ⟨x0, rfl, o0⟩ := law15_AcceptorLeads_of_t3 (n := n + 3) w0
  obtain ⟨a1, b1, rfl, w1, h2⟩ := wtL_cons h1
  obtain ⟨x1, rfl, o1⟩ := law15_AcceptorLeads_of_t39 (n := n + 0) w1
  obtain ⟨a2, b2, rfl, w2, h3⟩ := wtL_cons h2
  obtain ⟨x2, rfl, o2⟩ := law15_AcceptorLeads_of_t2 (n := n + 3) w2
  obtain ⟨a3, b3, rfl, w3, h4⟩ := wtL_cons h3
  obtain ⟨x3, rfl, o3⟩ := law15_AcceptorLeads_of_t3 (n := n + 3) w3
  obtain rfl := wtL_nil h4
  exact ⟨⟨x0, x1, x2, x3⟩, rfl, o0, o1, o2, o3⟩
theorem law15_AcceptorLeads_of_t25 {n : Nat} {ds : List D} (h : wtF Tryd.prog (n + 6) 25 ds) : ∃ x : List Op, ds = (eSl 29 Op.enc) x ∧ (x.length * 312 ≤ reachBytes ∧ ∀ y ∈ x, y.Ok) := by
  obtain ⟨rows, rfl, o, w⟩ := wt_slice (n := n + 5) (e := 41) (sz := 29) (by_ := 312) (by kernel_rfl) (by kernel_rfl) (by kernel_rfl) h
  obtain ⟨l, rfl, q⟩ := wt_rows (en := Op.enc) (Ok := fun y => y.Ok) (fun r hr => law15_AcceptorLeads_of_t41 (n := n + 0) hr) rows w
  exact ⟨l, rfl, by simpa using o, q⟩
theorem law15_AcceptorLeads_sound (H : ∀ (c : Config) (l_ : List Op), c.Ok → (l_.length * 312 ≤ reachBytes ∧ ∀ y ∈ l_, y.Ok) → law15_AcceptorLeads c l_ = some true) : ∀ xs, wtA Tryd.prog Tryd.f6.params.toList xs → Sound E 6 xs [] fun d _ => d = .bool true := by
  intro xs h
  have h0 : wtA Tryd.prog [24, 25] xs := h
  obtain ⟨d0, r0, rfl, w0, h1⟩ := wtA_cons h0
  obtain ⟨c0, rfl, v0⟩ := wtP_agg (by kernel_rfl) w0
  obtain ⟨x0, rfl, o0⟩ := law15_AcceptorLeads_of_t24 (n := 3) v0
  obtain ⟨d1, r1, rfl, w1, h2⟩ := wtA_cons h1
  have v1 := wtP_flat (by kernel_rfl) w1
  obtain ⟨x1, e1, o1⟩ := law15_AcceptorLeads_of_t25 (n := 0) v1
  obtain ⟨rfl, -⟩ := List.cons.inj e1
  obtain rfl := wtA_nil h2
  exact (law15_AcceptorLeads_ok (H x0 x1 o0 o1)).mono fun d s h => h.1
end Go.RX.L

set_option linter.unusedSimpArgs false
set_option linter.unusedVariables false
set_option maxRecDepth 100000
namespace Go.RX.L
open Go Go.RX
theorem lead_mono {k : keptT} (h : k.lead.is_ = true) (m : Msg) : (takeK k m).lead.is_ = true := by
  unfold takeK
  split
  · split <;> exact h
  · split
    · exact h
    · split
      · split
        · rfl
        · exact h
      · exact h
theorem replay_who (c : Config) (rs : List Msg) : (replay c rs).lead.who = -1 := by
  have key : ∀ (rs : List Msg) (k : keptT), k.lead.who = -1 → (rs.foldl takeK k).lead.who = -1 := by
    intro rs
    induction rs with
    | nil => exact fun k h => h
    | cons m l ih =>
      intro k h
      refine ih _ ?_
      unfold takeK
      split
      · split <;> exact h
      · split
        · exact h
        · split
          · split
            · rfl
            · exact h
          · exact h
  exact key rs _ rfl
/-- Who leads, of whom it is told. -/
structure LInv (c : Config) (a : AS) (at_ who now : Int) : Prop where
  nn : 0 ≤ now ∧ now ≤ 1099511627776
  ka : a.down = false → 0 ≤ a.k.lead.at_ ∧ a.k.lead.at_ ≤ now
  g : at_ = -1 ∨ (0 ≤ at_ ∧ at_ ≤ now ∧ (replay c a.rs).lead.is_ = true ∧ (a.down = false → at_ ≤ a.k.lead.at_ ∧ (a.k.lead.who = who ∨ a.k.lead.who = -1)))
theorem LInv.later {c : Config} {a : AS} {at_ who now now' : Int} (h : LInv c a at_ who now) (hn : now ≤ now' ∧ now' ≤ 1099511627776) : LInv c a at_ who now' := by
  obtain ⟨h1, h2, h3⟩ := h
  refine ⟨by omega, fun hd => ?_, ?_⟩
  · have := h2 hd; omega
  · rcases h3 with h | ⟨g1, g2, g3, g4⟩
    · exact .inl h
    · exact .inr ⟨g1, by omega, g3, g4⟩
theorem LInv.keep {c : Config} {a a' : AS} {at_ who now : Int} (h : LInv c a at_ who now) (hd : a'.down = false → a.down = false ∧ a'.k.lead = a.k.lead) (hr : (replay c a.rs).lead.is_ = true → (replay c a'.rs).lead.is_ = true) : LInv c a' at_ who now := by
  obtain ⟨h1, h2, h3⟩ := h
  refine ⟨h1, fun hh => ?_, ?_⟩
  · obtain ⟨e1, e2⟩ := hd hh
    rw [e2]; exact h2 e1
  · rcases h3 with h | ⟨g1, g2, g3, g4⟩
    · exact .inl h
    · refine .inr ⟨g1, g2, hr g3, fun hh => ?_⟩
      obtain ⟨e1, e2⟩ := hd hh
      rw [e2]; exact g4 e1
theorem linv_c {c : Config} {a a' : AS} {at_ who now : Int} (h : LInv c a at_ who now) (hd : a'.down = true) (hs : CStep a a') : LInv c a' at_ who now := by
  refine h.keep (fun h => by rw [hd] at h; cases h) (fun h => ?_)
  cases hs with
  | none => exact h
  | one hp => rw [replay_app]; exact lead_mono h _
theorem linv_r {c : Config} {a a' : AS} {at_ who now : Int} (h : LInv c a at_ who now) (hs : RStep c a now a') : LInv c a' at_ who now := by
  cases hs with
  | up =>
    obtain ⟨h1, h2, h3⟩ := h
    refine ⟨h1, fun _ => ⟨h1.1, Int.le_refl _⟩, ?_⟩
    rcases h3 with h | ⟨g1, g2, g3, g4⟩
    · exact .inl h
    · exact .inr ⟨g1, g2, g3, fun _ => ⟨g2, .inr (replay_who c a.rs)⟩⟩
  | fail => exact h.keep (fun h => by cases h) (fun h => h)
theorem linv_nil {c : Config} {node : Int} {a a' : AS} {m : Msg} {t : Int} {at_ who now : Int} (h : LInv c a at_ who now) (hs : HStep c node a m t [] a') : LInv c a' at_ who now := by
  rcases hnil hs with rfl | ⟨hd, hd', hk, -⟩ | ⟨hd, -, hk, -, w, v, e⟩
  · exact h
  · exact h.keep (fun h => by rw [hd'] at h; cases h) (fun h => by rw [hk]; exact h)
  · exact h.keep (fun _ => ⟨hd, by rw [e]⟩) (fun h => by rw [hk]; exact h)
theorem takeP_lead (k : keptT) (m : Msg) (p : Plan) : (takeK k (recP m p)).lead = k.lead := by
  unfold takeK recP
  simp only [if_true]
  split <;> rfl
theorem takeA_lead (k : keptT) (m : Msg) : (takeK k (recA m)).lead = k.lead := by
  unfold takeK recA
  simp
theorem takeL_lead {k : keptT} {m : Msg} (h : m.Code = 1) : (takeK k (recL m)).lead = k.lead := by
  unfold takeK recL
  simp [h]
theorem said_l {c : Config} (hr : rightC c = true) {node : Int} {a a' : AS} {m y : Msg} {at_ who now : Int} (hv : hval m now) (hd : a.down = false) (sim : Sim a.k (replay c a.rs)) (hi : LInv c a at_ who now) (h : Said c node a m now y a') :
    ((y.Kind ≠ 11 ∨ y.Code ≠ 2) ∧ LInv c a' at_ who now) ∨ (y.Kind = 11 ∧ y.Code = 2 ∧ LInv c a' now y.To now ∧ (at_ ≥ 0 → who ≠ y.To → ¬ IntKind.i64.wrap (now - at_) < IntKind.i64.wrap (c.L_ + c.M_))) := by
  cases h with
  | dec h => exact .inl ⟨.inl (by simp [dec_]), hi.keep (fun _ => ⟨hd, rfl⟩) (fun h => h)⟩
  | nack h e => exact .inl ⟨.inl (by simp [nack_]), hi.keep (fun _ => ⟨hd, rfl⟩) (fun h => h)⟩
  | prom p h4 h1 h2 h3 h5 => exact .inl ⟨.inl (by simp [prom_]), hi.keep (fun _ => ⟨hd, takeP_lead _ _ _⟩) (fun h => by rw [replay_app]; exact lead_mono h _)⟩
  | acc h7 h1 h2 h3 h4 h5 h6 => exact .inl ⟨.inl (by simp [acc_]), hi.keep (fun _ => ⟨hd, takeA_lead _ _⟩) (fun h => by rw [replay_app]; exact lead_mono h _)⟩
  | write k' rs' h10 hc1 h1 h2 h3 =>
    refine .inl ⟨.inr (by simp [lease_, hc1]), ?_⟩
    rcases h3 with ⟨-, rfl, rfl⟩ | ⟨-, rfl, rfl⟩
    · exact hi.keep (fun _ => ⟨hd, rfl⟩) (fun h => h)
    · exact hi.keep (fun _ => ⟨hd, takeL_lead hc1⟩) (fun h => by rw [replay_app]; exact lead_mono h _)
  | lead k' rs' h10 hc1 h3 =>
    refine .inr ⟨rfl, hc1, ?_, ?_⟩
    · refine ⟨hi.nn, fun _ => ⟨hi.nn.1, Int.le_refl _⟩, .inr ⟨hi.nn.1, Int.le_refl _, ?_, fun _ => ⟨Int.le_refl _, .inl rfl⟩⟩⟩
      rcases h3 with ⟨hh, -, rfl, rfl⟩ | ⟨-, -, rfl, rfl⟩
      · show (replay c a.rs).lead.is_ = true
        rw [← sim.is_]; exact hh
      · show (replay c (a.rs ++ [recL m])).lead.is_ = true
        rw [replay_app]
        unfold takeK recL
        simp [hc1]
    · intro hat hw
      have hto : (lease_ node m).To = m.From := rfl
      rw [hto] at hw
      obtain ⟨-, ⟨l1, l2⟩, ⟨l3, l4⟩, -⟩ := rightC_b hr
      obtain ⟨hn1, hn2⟩ := hi.nn
      obtain ⟨ka1, ka2⟩ := hi.ka hd
      rcases hi.g with h | ⟨g1, g2, g3, g4⟩
      · omega
      obtain ⟨g5, g6⟩ := g4 hd
      rw [wI64 (n := now - at_) (by omega) (by omega), wI64 (n := c.L_ + c.M_) (by omega) (by omega)]
      have hf : 0 ≤ m.From := by
        obtain ⟨hr, -⟩ := hv
        have hd : hdM m := by simp only [rightM, Bool.and_eq_true, decide_eq_true_eq] at hr; exact hr.1
        unfold hdM at hd
        omega
      rcases h3 with ⟨-, hwho, -, -⟩ | ⟨-, hne, -, -⟩
      · exfalso
        rcases g6 with h | h
        · exact hw (by rw [← h, hwho])
        · rw [hwho] at h; omega
      · have hne : earlyB c a.k.lead.at_ now = false := by
          cases he : earlyB c a.k.lead.at_ now with
          | false => rfl
          | true => exact absurd ⟨by rw [sim.is_]; exact g3, he⟩ hne
        unfold earlyB at hne
        rw [wI64 (n := now - a.k.lead.at_) (by omega) (by omega), wI64 (n := c.L_ + c.M_) (by omega) (by omega)] at hne
        have := of_decide_eq_false hne
        omega
theorem mxmn {now x : Int} (h : 0 ≤ now ∧ now ≤ 1099511627776) : now ≤ mxI now (mnI x 1099511627776) ∧ mxI now (mnI x 1099511627776) ≤ 1099511627776 := by
  unfold mxI mnI; split <;> split <;> omega
theorem acceptorLeads (c : Config) (l_ : List Op) (hc : c.Ok) (hl : l_.length * 312 ≤ reachBytes ∧ ∀ y ∈ l_, y.Ok) : law15_AcceptorLeads c l_ = some true := by
  have ht := cfg_len hc
  have hnew := new_ok (c := c) (node := 1) ht
  by_cases hr : ¬ rightC c = true
  · rw [if_neg (fun h => hr h.1)] at hnew
    exact evf_of (.next (s' := .s1 true) (by simp only [law15_AcceptorLeads_step, law15_AcceptorLeads_0, head15_ok, hnew, Option.bind_some]) (.done rfl))
  rw [Classical.not_not] at hr
  rw [if_pos ⟨hr, by decide, by decide⟩] at hnew
  refine evf_of (.next (s' := .s2 true (kept0 c) 1 (-1) false [] []) (by simp only [law15_AcceptorLeads_step, law15_AcceptorLeads_0, head15_ok, hnew, Option.bind_some]) ?_)
  by_cases hg : ¬ l_.length ≤ 150
  · exact .done (by simp only [law15_AcceptorLeads_step, law15_AcceptorLeads_2, great_ok, great_b, Option.bind_some, hg, decide_false, Bool.not_false, cond_true])
  rw [Classical.not_not] at hg
  refine .next (s' := .s3 true (-1) (-1) 0 ((0 : Nat) : Int) (kept0 c) 1 (-1) false [] []) (by simp only [law15_AcceptorLeads_step, law15_AcceptorLeads_2, great_ok, great_b, Option.bind_some, hg, decide_true, Bool.not_true, cond_false]; rfl) ?_
  have g1 : ∀ y : Msg, decide ((0 : Int) < (((List.map Msg.enc [y]).length : Nat) : Int)) = true := fun y => rfl
  have g2 : ∀ y : Msg, decide ((1 : Int) < (((List.map Msg.enc [y]).length : Nat) : Int)) = false := fun y => rfl
  have g3 : decide ((0 : Int) < (((List.map Msg.enc []).length : Nat) : Int)) = false := rfl
  have g4 : decide ((0 : Int) ≤ 0) = true := rfl
  have g5 : ∀ y : Msg, ([y])[(0 : Int).toNat]? = some y := fun y => rfl
  have loop : ∀ (j i : Nat) (a : AS) (fuse : Int) (s t : List Int) (at_ who now : Int), i + j = l_.length → Rep c a fuse s t (4408 * i) → LInv c a at_ who now → Ev (law15_AcceptorLeads_step c l_) (.s3 true at_ who now (i : Int) a.k 1 fuse a.down s t) true := by
    intro j
    induction j with
    | zero =>
      intro i a fuse s t at_ who now hi h hx
      exact .done (by simp only [law15_AcceptorLeads_step, law15_AcceptorLeads_3, nlt (show l_.length ≤ i by omega), cond_false])
    | succ j ih =>
      intro i a fuse s t at_ who now hi h hx
      have hlt : i < l_.length := by omega
      have o := hl.2 _ (List.getElem_mem hlt)
      obtain ⟨-, om, -, oN⟩ := o
      have fm := om.fine
      have w := wS1 (show i ≤ 150 by omega)
      have hx := hx.later (mxmn (x := (l_[i]).Now) hx.nn)
      generalize hN : mxI now (mnI (l_[i]).Now 1099511627776) = nw at hx
      by_cases h1 : andI .i64 (l_[i]).What 3 = 1
      · obtain ⟨he, hrep⟩ := rep_fuse h oN
        refine .next (s' := .s5 true at_ who nw (i : Int) a.k 1 (l_[i]) (mxI (l_[i]).N_ (-1)) a.down s t) ?_ (.next (s' := .s3 true at_ who nw ((i + 1 : Nat) : Int) a.k 1 (mxI (l_[i]).N_ (-1)) a.down s t) ?_ (ih (i + 1) a _ s t at_ who nw (by omega) (hrep.mono (by omega)) hx))
        · simp only [law15_AcceptorLeads_step, law15_AcceptorLeads_3, olt hlt, cond_true, cond_false, le0, Bool.and_self, Int.toNat_natCast, List.getE hlt, Option.bind_some, h1, b10, beq_self_eq_true, Acceptor_Journal, he, hN]
        · simp only [law15_AcceptorLeads_step, law15_AcceptorLeads_5, h1, n10, cond_true, w]
      by_cases h2 : andI .i64 (l_[i]).What 3 = 2
      · obtain ⟨a', s', he, hd, hk, hrep, hst⟩ := rep_crash (keep := (l_[i]).N_) h (by omega)
        refine .next (s' := .s5 true at_ who nw (i : Int) a'.k 1 (l_[i]) (-1) a'.down s' []) ?_ (.next (s' := .s3 true at_ who nw ((i + 1 : Nat) : Int) a'.k 1 (-1) a'.down s' []) ?_ (ih (i + 1) a' _ s' [] at_ who nw (by omega) (hrep.mono (by omega)) (linv_c hx hd hst)))
        · simp only [law15_AcceptorLeads_step, law15_AcceptorLeads_3, olt hlt, cond_true, cond_false, le0, Bool.and_self, Int.toNat_natCast, List.getE hlt, Option.bind_some, h2, b20, b21, beq_self_eq_true, Acceptor_Journal, he, hd, hk, hN]
        · simp only [law15_AcceptorLeads_step, law15_AcceptorLeads_5, h2, n20, cond_true, w]
      by_cases h3 : andI .i64 (l_[i]).What 3 = 3
      · obtain ⟨e0, a', fuse', s', he, hrep, hst, -⟩ := rep_restart (node := 1) (now := nw) h hr ht (by omega)
        refine .next (s' := .s5 true at_ who nw (i : Int) a'.k 1 (l_[i]) fuse' a'.down s' []) ?_ (.next (s' := .s3 true at_ who nw ((i + 1 : Nat) : Int) a'.k 1 fuse' a'.down s' []) ?_ (ih (i + 1) a' _ s' [] at_ who nw (by omega) (hrep.mono (by omega)) (linv_r hx hst)))
        · simp only [law15_AcceptorLeads_step, law15_AcceptorLeads_3, olt hlt, cond_true, cond_false, le0, Bool.and_self, Int.toNat_natCast, List.getE hlt, Option.bind_some, h3, b30, b31, b32, beq_self_eq_true, hN, he]
        · simp only [law15_AcceptorLeads_step, law15_AcceptorLeads_5, h3, n30, cond_true, w]
      refine .next (s' := .s5 true at_ who nw (i : Int) a.k 1 (l_[i]) fuse a.down s t) (by simp only [law15_AcceptorLeads_step, law15_AcceptorLeads_3, olt hlt, cond_true, cond_false, le0, Bool.and_self, Int.toNat_natCast, List.getE hlt, Option.bind_some, beqF h1, beqF h2, beqF h3, hN]) ?_
      by_cases h0 : ¬ andI .i64 (l_[i]).What 3 = 0
      · exact .next (s' := .s3 true at_ who nw ((i + 1 : Nat) : Int) a.k 1 fuse a.down s t) (by simp only [law15_AcceptorLeads_step, law15_AcceptorLeads_5, bneT h0, cond_true, w]) (ih (i + 1) a _ s t at_ who nw (by omega) (h.mono (by omega)) hx)
      rw [Classical.not_not] at h0
      obtain ⟨out, a', fuse', s', t', he, hrep, hst⟩ := rep_handle (node := 1) (now := nw) h fm (by omega)
      refine .next (s' := .s4 true at_ who nw (i : Int) out 0 a'.k 1 fuse' a'.down s' t') (by simp only [law15_AcceptorLeads_step, law15_AcceptorLeads_5, h0, bne_self_eq_false, cond_false, he, Option.bind_some]) ?_
      have rest := fun at_ who hx' => ih (i + 1) a' fuse' s' t' at_ who nw (by omega) (hrep.mono (by omega)) hx'
      rcases hsaid hst with ⟨rfl, h2⟩ | ⟨y, rfl, hd, hv, hs⟩
      · exact .next (s' := .s3 true at_ who nw ((i + 1 : Nat) : Int) a'.k 1 fuse' a'.down s' t') (by simp only [law15_AcceptorLeads_step, law15_AcceptorLeads_4, g3, cond_false, w]) (rest at_ who (linv_nil hx h2))
      have sim := h.ok.up hd
      have last : ∀ at_ who, LInv c a' at_ who nw → Ev (law15_AcceptorLeads_step c l_) (.s4 true at_ who nw (i : Int) [y] 1 a'.k 1 fuse' a'.down s' t') true := fun at_ who hx' =>
        .next (s' := .s3 true at_ who nw ((i + 1 : Nat) : Int) a'.k 1 fuse' a'.down s' t') (by simp only [law15_AcceptorLeads_step, law15_AcceptorLeads_4, g2, cond_false, w]) (rest at_ who hx')
      rcases said_l hr hv hd sim hx hs with ⟨hk, hx'⟩ | ⟨hk, hk2, hx', hwait⟩
      · refine .next (s' := .s6 true at_ who nw (i : Int) [y] 0 true a'.k 1 fuse' a'.down s' t') ?_ ?_
        · simp only [law15_AcceptorLeads_step, law15_AcceptorLeads_4, g1, g4, g5, cond_true, Bool.and_self, Option.bind_some]
          by_cases h11 : y.Kind = 11
          · rw [h11]
            have : y.Code ≠ 2 := by rcases hk with h | h; exact absurd h11 h; exact h
            simp only [bne_self_eq_false, cond_false, bneT this]
          · simp only [bneT h11, cond_true]
        · exact .next (s' := .s4 true at_ who nw (i : Int) [y] 1 a'.k 1 fuse' a'.down s' t') (by simp only [law15_AcceptorLeads_step, law15_AcceptorLeads_6, cond_true, w01]) (last at_ who hx')
      · refine .next (s' := .s6 true at_ who nw (i : Int) [y] 0 false a'.k 1 fuse' a'.down s' t') (by simp only [law15_AcceptorLeads_step, law15_AcceptorLeads_4, g1, g4, g5, cond_true, cond_false, Bool.and_self, Option.bind_some, hk, hk2, bne_self_eq_false]) ?_
        refine .next (s' := .s7 true nw (i : Int) [y] 0 false a'.k 1 fuse' a'.down s' t') ?_ ?_
        · simp only [law15_AcceptorLeads_step, law15_AcceptorLeads_6, g1, g4, g5, cond_true, cond_false, Bool.and_self, Option.bind_some]
          by_cases ha : at_ ≥ 0
          · by_cases hw : who = y.To
            · rw [hw]; simp only [decide_eq_true ha, cond_true, bne_self_eq_false, cond_false]
            · simp only [decide_eq_true ha, cond_true, bneT hw, decide_eq_false (hwait ha hw)]
          · simp only [decide_eq_false ha, cond_false]
        · exact .next (s' := .s4 true nw y.To nw (i : Int) [y] 1 a'.k 1 fuse' a'.down s' t') (by simp only [law15_AcceptorLeads_step, law15_AcceptorLeads_7, g1, g4, g5, cond_true, cond_false, Bool.and_self, Option.bind_some, w01]) (last nw y.To hx')
  exact loop l_.length 0 (a0 c) (-1) [] [] (-1) (-1) 0 (by omega) (rep_new hr) ⟨by decide, fun _ => by simp [a0, kept0], .inl rfl⟩
end Go.RX.L
