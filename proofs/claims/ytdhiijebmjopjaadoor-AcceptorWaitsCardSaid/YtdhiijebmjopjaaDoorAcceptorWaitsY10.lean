/-
  Words and walks for AcceptorWaits. No condition.
-/
import Derived.Test.YtdhiijebmjopjaaDoorAcceptorWaitsY9
set_option linter.unusedSectionVars false
set_option linter.unnecessarySimpa false
set_option linter.unusedSimpArgs false
set_option linter.unusedVariables false
set_option maxRecDepth 100000
set_option maxHeartbeats 4000000
namespace Go.RX.L
open Go Go.RX Go.Proofs
attribute [local irreducible] FinQ
noncomputable def law15_AcceptorWaits_c := codeAt (bodyOf Tryd.f7)
noncomputable def law15_AcceptorWaits_e (y : Bool) : D × Sto := (.bool y, [])
inductive law15_AcceptorWaits_S where
 | s0
 | s1 (up : Bool)
 | s2 (up : Bool) (kept : keptT) (node : Int) (fuse : Int) (down : Bool) (b3 : List Int) (b4 : List Int)
 | s3 (up : Bool) (now : Int) (epoch : Int) (i : Int) (kept : keptT) (node : Int) (of_ : List Int) (at_ : List Int) (fuse : Int) (down : Bool) (b5 : List Int) (b6 : List Int)
 | s5 (up : Bool) (now : Int) (epoch : Int) (i : Int) (kept : keptT) (node : Int) (of_ : List Int) (at_ : List Int) (o : Op) (fuse : Int) (down : Bool) (b6 : List Int) (b7 : List Int)
 | s4 (up : Bool) (now : Int) (epoch : Int) (i : Int) (x_ : List Msg) (k : Int) (kept : keptT) (node : Int) (of_ : List Int) (at_ : List Int) (o : Op) (fuse : Int) (down : Bool) (b6 : List Int) (b7 : List Int)
 | s8 (up : Bool) (now : Int) (epoch : Int) (i : Int) (x_ : List Msg) (k : Int) (t105 : Bool) (kept : keptT) (node : Int) (of_ : List Int) (at_ : List Int) (o : Op) (fuse : Int) (down : Bool) (b6 : List Int) (b7 : List Int)
 | s7 (up : Bool) (now : Int) (epoch : Int) (i : Int) (x_ : List Msg) (k : Int) (kept : keptT) (node : Int) (of_ : List Int) (at_ : List Int) (o : Op) (fuse : Int) (down : Bool) (b6 : List Int) (b7 : List Int)
 | s6 (up : Bool) (now : Int) (epoch : Int) (i : Int) (x_ : List Msg) (k : Int) (t132 : Bool) (kept : keptT) (node : Int) (of_ : List Int) (at_ : List Int) (o : Op) (fuse : Int) (down : Bool) (b6 : List Int) (b7 : List Int)
 | s9 (up : Bool) (now : Int) (epoch : Int) (i : Int) (x_ : List Msg) (k : Int) (n : Int) (kept : keptT) (node : Int) (of_ : List Int) (at_ : List Int) (o : Op) (fuse : Int) (down : Bool) (b6 : List Int) (b7 : List Int)
noncomputable def law15_AcceptorWaits_M (c : Config) (l_ : List Op) : law15_AcceptorWaits_S → M
 | .s0 => startM Tryd.f7 [.agg (Config.enc c), .sl false 29 (List.map Op.enc l_)] []
 | .s1 up => ⟨[.code (law15_AcceptorWaits_c [1, 1, 1])], [(1, .sl false 29 (List.map Op.enc l_)), (2, .ptr 0 0 0), (5, .bool up), (6, .nilp)], [some ⟨30, false, [(Config.enc c)]⟩]⟩
 | .s2 up kept node fuse down b3 b4 => ⟨[.code (law15_AcceptorWaits_c [1, 1, 1])], [(1, .sl false 29 (List.map Op.enc l_)), (2, .ptr 0 0 0), (5, .bool up), (6, .ptr 1 0 0)], [some ⟨30, false, [(Config.enc c)]⟩, some ⟨67, true, [[.int .i64 kept.epoch, .int .i64 kept.known.Epoch, .int .i64 kept.known.Target, .int .i64 kept.known.Prev, .int .i64 kept.known.Spill, .int .i64 kept.known.Percent, .int .i64 kept.known.Stamp, .int .i64 kept.known.Since, .int .i64 kept.known.Ramped, .int .u64 kept.known.Up, .int .u64 kept.known.Sup, .sl false 1 (List.map (eInt .i64) kept.known.Pen), .sl false 1 (List.map (eInt .i64) kept.known.Changes), .int .i64 kept.promised, .int .i64 kept.accepted, .int .i64 kept.plan.Epoch, .int .i64 kept.plan.Target, .int .i64 kept.plan.Prev, .int .i64 kept.plan.Spill, .int .i64 kept.plan.Percent, .int .i64 kept.plan.Stamp, .int .i64 kept.plan.Since, .int .i64 kept.plan.Ramped, .int .u64 kept.plan.Up, .int .u64 kept.plan.Sup, .sl false 1 (List.map (eInt .i64) kept.plan.Pen), .sl false 1 (List.map (eInt .i64) kept.plan.Changes), .int .i64 kept.writes.low, .int .i64 kept.writes.high, .int .i64 kept.writes.at_, .int .i64 kept.wish, .int .i64 kept.wishAt, .bool kept.lead.is_, .int .i64 kept.lead.who, .int .i64 kept.lead.at_, .int .i64 c.F_, .int .i64 c.Deciders, .int .i64 c.Targets, .int .i64 c.Routers, .int .i64 c.Observers, .sl false 1 (List.map (eInt .i64) c.Tiers), .int .i64 c.Every, .int .i64 c.Wait, .int .i64 c.Rise, .int .i64 c.Fall, .int .i64 c.Fresh, .int .i64 c.L_, .int .i64 c.M_, .int .i64 c.Dwell, .int .i64 c.D_, .int .i64 c.W_, .int .i64 c.B_, .int .i64 c.Hit, .int .i64 c.Suppress, .int .i64 c.Reuse, .int .i64 c.Half, .int .i64 c.First, .int .i64 c.Step, .int .i64 c.StepTime, .int .i64 c.S_, .int .i64 c.Cap, .int .i64 c.Span, .int .i64 c.Room, .int .i64 c.Tries, .int .i64 c.Retry, .int .i64 node, .ptr 2 0 0]]⟩, some ⟨4, true, [[.msl 3 0 ((List.map (eInt .u8) b3).length) ((List.map (eInt .u8) b3).length) false, .msl 4 0 ((List.map (eInt .u8) b4).length) ((List.map (eInt .u8) b4).length) false, .int .i64 fuse, .bool down]]⟩, some ⟨1, false, (List.map (eInt .u8) b3)⟩, some ⟨1, false, (List.map (eInt .u8) b4)⟩]⟩
 | .s3 up now epoch i kept node of_ at_ fuse down b5 b6 => ⟨[.lpc (law15_AcceptorWaits_c [1, 1, 1, 1, 1, 1, 1, 1, 0, 1, 0, 0]) 4070, .blk 0, .code (law15_AcceptorWaits_c [1, 1, 1, 1, 1, 1, 1, 1, 1])], [(1, .sl false 29 (List.map Op.enc l_)), (2, .ptr 0 0 0), (5, .bool up), (6, .ptr 1 0 0), (7, .msl 2 0 ((List.map (eInt .i64) of_).length) ((List.map (eInt .i64) of_).length) false), (8, .msl 3 0 ((List.map (eInt .i64) at_).length) ((List.map (eInt .i64) at_).length) false), (9, .int .i64 now), (10, .int .i64 epoch), (11, .int .i64 i)], [some ⟨30, false, [(Config.enc c)]⟩, some ⟨67, true, [[.int .i64 kept.epoch, .int .i64 kept.known.Epoch, .int .i64 kept.known.Target, .int .i64 kept.known.Prev, .int .i64 kept.known.Spill, .int .i64 kept.known.Percent, .int .i64 kept.known.Stamp, .int .i64 kept.known.Since, .int .i64 kept.known.Ramped, .int .u64 kept.known.Up, .int .u64 kept.known.Sup, .sl false 1 (List.map (eInt .i64) kept.known.Pen), .sl false 1 (List.map (eInt .i64) kept.known.Changes), .int .i64 kept.promised, .int .i64 kept.accepted, .int .i64 kept.plan.Epoch, .int .i64 kept.plan.Target, .int .i64 kept.plan.Prev, .int .i64 kept.plan.Spill, .int .i64 kept.plan.Percent, .int .i64 kept.plan.Stamp, .int .i64 kept.plan.Since, .int .i64 kept.plan.Ramped, .int .u64 kept.plan.Up, .int .u64 kept.plan.Sup, .sl false 1 (List.map (eInt .i64) kept.plan.Pen), .sl false 1 (List.map (eInt .i64) kept.plan.Changes), .int .i64 kept.writes.low, .int .i64 kept.writes.high, .int .i64 kept.writes.at_, .int .i64 kept.wish, .int .i64 kept.wishAt, .bool kept.lead.is_, .int .i64 kept.lead.who, .int .i64 kept.lead.at_, .int .i64 c.F_, .int .i64 c.Deciders, .int .i64 c.Targets, .int .i64 c.Routers, .int .i64 c.Observers, .sl false 1 (List.map (eInt .i64) c.Tiers), .int .i64 c.Every, .int .i64 c.Wait, .int .i64 c.Rise, .int .i64 c.Fall, .int .i64 c.Fresh, .int .i64 c.L_, .int .i64 c.M_, .int .i64 c.Dwell, .int .i64 c.D_, .int .i64 c.W_, .int .i64 c.B_, .int .i64 c.Hit, .int .i64 c.Suppress, .int .i64 c.Reuse, .int .i64 c.Half, .int .i64 c.First, .int .i64 c.Step, .int .i64 c.StepTime, .int .i64 c.S_, .int .i64 c.Cap, .int .i64 c.Span, .int .i64 c.Room, .int .i64 c.Tries, .int .i64 c.Retry, .int .i64 node, .ptr 4 0 0]]⟩, some ⟨1, false, (List.map (eInt .i64) of_)⟩, some ⟨1, false, (List.map (eInt .i64) at_)⟩, some ⟨4, true, [[.msl 5 0 ((List.map (eInt .u8) b5).length) ((List.map (eInt .u8) b5).length) false, .msl 6 0 ((List.map (eInt .u8) b6).length) ((List.map (eInt .u8) b6).length) false, .int .i64 fuse, .bool down]]⟩, some ⟨1, false, (List.map (eInt .u8) b5)⟩, some ⟨1, false, (List.map (eInt .u8) b6)⟩]⟩
 | .s5 up now epoch i kept node of_ at_ o fuse down b6 b7 => ⟨[.code (law15_AcceptorWaits_c [1, 1, 1, 1, 1, 1, 1, 1, 0, 1, 0, 0, 1, 0, 0, 1, 1, 1]), .blk 1, .code (law15_AcceptorWaits_c [1, 1, 1, 1, 1, 1, 1, 1, 0, 1, 0, 0, 1, 1]), .lp (law15_AcceptorWaits_c [1, 1, 1, 1, 1, 1, 1, 1, 0, 1, 0, 0]) 4070, .blk 0, .code (law15_AcceptorWaits_c [1, 1, 1, 1, 1, 1, 1, 1, 1])], [(1, .sl false 29 (List.map Op.enc l_)), (2, .ptr 0 0 0), (5, .bool up), (6, .ptr 1 0 0), (7, .msl 2 0 ((List.map (eInt .i64) of_).length) ((List.map (eInt .i64) of_).length) false), (8, .msl 3 0 ((List.map (eInt .i64) at_).length) ((List.map (eInt .i64) at_).length) false), (9, .int .i64 now), (10, .int .i64 epoch), (11, .int .i64 i), (12, .ptr 4 0 0)], [some ⟨30, false, [(Config.enc c)]⟩, some ⟨67, true, [[.int .i64 kept.epoch, .int .i64 kept.known.Epoch, .int .i64 kept.known.Target, .int .i64 kept.known.Prev, .int .i64 kept.known.Spill, .int .i64 kept.known.Percent, .int .i64 kept.known.Stamp, .int .i64 kept.known.Since, .int .i64 kept.known.Ramped, .int .u64 kept.known.Up, .int .u64 kept.known.Sup, .sl false 1 (List.map (eInt .i64) kept.known.Pen), .sl false 1 (List.map (eInt .i64) kept.known.Changes), .int .i64 kept.promised, .int .i64 kept.accepted, .int .i64 kept.plan.Epoch, .int .i64 kept.plan.Target, .int .i64 kept.plan.Prev, .int .i64 kept.plan.Spill, .int .i64 kept.plan.Percent, .int .i64 kept.plan.Stamp, .int .i64 kept.plan.Since, .int .i64 kept.plan.Ramped, .int .u64 kept.plan.Up, .int .u64 kept.plan.Sup, .sl false 1 (List.map (eInt .i64) kept.plan.Pen), .sl false 1 (List.map (eInt .i64) kept.plan.Changes), .int .i64 kept.writes.low, .int .i64 kept.writes.high, .int .i64 kept.writes.at_, .int .i64 kept.wish, .int .i64 kept.wishAt, .bool kept.lead.is_, .int .i64 kept.lead.who, .int .i64 kept.lead.at_, .int .i64 c.F_, .int .i64 c.Deciders, .int .i64 c.Targets, .int .i64 c.Routers, .int .i64 c.Observers, .sl false 1 (List.map (eInt .i64) c.Tiers), .int .i64 c.Every, .int .i64 c.Wait, .int .i64 c.Rise, .int .i64 c.Fall, .int .i64 c.Fresh, .int .i64 c.L_, .int .i64 c.M_, .int .i64 c.Dwell, .int .i64 c.D_, .int .i64 c.W_, .int .i64 c.B_, .int .i64 c.Hit, .int .i64 c.Suppress, .int .i64 c.Reuse, .int .i64 c.Half, .int .i64 c.First, .int .i64 c.Step, .int .i64 c.StepTime, .int .i64 c.S_, .int .i64 c.Cap, .int .i64 c.Span, .int .i64 c.Room, .int .i64 c.Tries, .int .i64 c.Retry, .int .i64 node, .ptr 5 0 0]]⟩, some ⟨1, false, (List.map (eInt .i64) of_)⟩, some ⟨1, false, (List.map (eInt .i64) at_)⟩, some ⟨29, false, [(Op.enc o)]⟩, some ⟨4, true, [[.msl 6 0 ((List.map (eInt .u8) b6).length) ((List.map (eInt .u8) b6).length) false, .msl 7 0 ((List.map (eInt .u8) b7).length) ((List.map (eInt .u8) b7).length) false, .int .i64 fuse, .bool down]]⟩, some ⟨1, false, (List.map (eInt .u8) b6)⟩, some ⟨1, false, (List.map (eInt .u8) b7)⟩]⟩
 | .s4 up now epoch i x_ k kept node of_ at_ o fuse down b6 b7 => ⟨[.lpc (law15_AcceptorWaits_c [1, 1, 1, 1, 1, 1, 1, 1, 0, 1, 0, 0, 1, 0, 0, 1, 1, 1, 1, 1, 1, 0, 0]) 401382, .blk 3, .blk 1, .code (law15_AcceptorWaits_c [1, 1, 1, 1, 1, 1, 1, 1, 0, 1, 0, 0, 1, 1]), .lp (law15_AcceptorWaits_c [1, 1, 1, 1, 1, 1, 1, 1, 0, 1, 0, 0]) 4070, .blk 0, .code (law15_AcceptorWaits_c [1, 1, 1, 1, 1, 1, 1, 1, 1])], [(1, .sl false 29 (List.map Op.enc l_)), (2, .ptr 0 0 0), (5, .bool up), (6, .ptr 1 0 0), (7, .msl 2 0 ((List.map (eInt .i64) of_).length) ((List.map (eInt .i64) of_).length) false), (8, .msl 3 0 ((List.map (eInt .i64) at_).length) ((List.map (eInt .i64) at_).length) false), (9, .int .i64 now), (10, .int .i64 epoch), (11, .int .i64 i), (12, .ptr 4 0 0), (17, .sl false 26 (List.map Msg.enc x_)), (18, .int .i64 k)], [some ⟨30, false, [(Config.enc c)]⟩, some ⟨67, true, [[.int .i64 kept.epoch, .int .i64 kept.known.Epoch, .int .i64 kept.known.Target, .int .i64 kept.known.Prev, .int .i64 kept.known.Spill, .int .i64 kept.known.Percent, .int .i64 kept.known.Stamp, .int .i64 kept.known.Since, .int .i64 kept.known.Ramped, .int .u64 kept.known.Up, .int .u64 kept.known.Sup, .sl false 1 (List.map (eInt .i64) kept.known.Pen), .sl false 1 (List.map (eInt .i64) kept.known.Changes), .int .i64 kept.promised, .int .i64 kept.accepted, .int .i64 kept.plan.Epoch, .int .i64 kept.plan.Target, .int .i64 kept.plan.Prev, .int .i64 kept.plan.Spill, .int .i64 kept.plan.Percent, .int .i64 kept.plan.Stamp, .int .i64 kept.plan.Since, .int .i64 kept.plan.Ramped, .int .u64 kept.plan.Up, .int .u64 kept.plan.Sup, .sl false 1 (List.map (eInt .i64) kept.plan.Pen), .sl false 1 (List.map (eInt .i64) kept.plan.Changes), .int .i64 kept.writes.low, .int .i64 kept.writes.high, .int .i64 kept.writes.at_, .int .i64 kept.wish, .int .i64 kept.wishAt, .bool kept.lead.is_, .int .i64 kept.lead.who, .int .i64 kept.lead.at_, .int .i64 c.F_, .int .i64 c.Deciders, .int .i64 c.Targets, .int .i64 c.Routers, .int .i64 c.Observers, .sl false 1 (List.map (eInt .i64) c.Tiers), .int .i64 c.Every, .int .i64 c.Wait, .int .i64 c.Rise, .int .i64 c.Fall, .int .i64 c.Fresh, .int .i64 c.L_, .int .i64 c.M_, .int .i64 c.Dwell, .int .i64 c.D_, .int .i64 c.W_, .int .i64 c.B_, .int .i64 c.Hit, .int .i64 c.Suppress, .int .i64 c.Reuse, .int .i64 c.Half, .int .i64 c.First, .int .i64 c.Step, .int .i64 c.StepTime, .int .i64 c.S_, .int .i64 c.Cap, .int .i64 c.Span, .int .i64 c.Room, .int .i64 c.Tries, .int .i64 c.Retry, .int .i64 node, .ptr 5 0 0]]⟩, some ⟨1, false, (List.map (eInt .i64) of_)⟩, some ⟨1, false, (List.map (eInt .i64) at_)⟩, some ⟨29, false, [(Op.enc o)]⟩, some ⟨4, true, [[.msl 6 0 ((List.map (eInt .u8) b6).length) ((List.map (eInt .u8) b6).length) false, .msl 7 0 ((List.map (eInt .u8) b7).length) ((List.map (eInt .u8) b7).length) false, .int .i64 fuse, .bool down]]⟩, some ⟨1, false, (List.map (eInt .u8) b6)⟩, some ⟨1, false, (List.map (eInt .u8) b7)⟩]⟩
 | .s8 up now epoch i x_ k t105 kept node of_ at_ o fuse down b6 b7 => ⟨[.code (law15_AcceptorWaits_c [1, 1, 1, 1, 1, 1, 1, 1, 0, 1, 0, 0, 1, 0, 0, 1, 1, 1, 1, 1, 1, 0, 0, 1, 0, 0, 0, 1]), .code (law15_AcceptorWaits_c [1, 1, 1, 1, 1, 1, 1, 1, 0, 1, 0, 0, 1, 0, 0, 1, 1, 1, 1, 1, 1, 0, 0, 1, 0, 0, 1]), .blk 4, .code (law15_AcceptorWaits_c [1, 1, 1, 1, 1, 1, 1, 1, 0, 1, 0, 0, 1, 0, 0, 1, 1, 1, 1, 1, 1, 0, 0, 1, 1]), .lp (law15_AcceptorWaits_c [1, 1, 1, 1, 1, 1, 1, 1, 0, 1, 0, 0, 1, 0, 0, 1, 1, 1, 1, 1, 1, 0, 0]) 401382, .blk 3, .blk 1, .code (law15_AcceptorWaits_c [1, 1, 1, 1, 1, 1, 1, 1, 0, 1, 0, 0, 1, 1]), .lp (law15_AcceptorWaits_c [1, 1, 1, 1, 1, 1, 1, 1, 0, 1, 0, 0]) 4070, .blk 0, .code (law15_AcceptorWaits_c [1, 1, 1, 1, 1, 1, 1, 1, 1])], [(1, .sl false 29 (List.map Op.enc l_)), (2, .ptr 0 0 0), (5, .bool up), (6, .ptr 1 0 0), (7, .msl 2 0 ((List.map (eInt .i64) of_).length) ((List.map (eInt .i64) of_).length) false), (8, .msl 3 0 ((List.map (eInt .i64) at_).length) ((List.map (eInt .i64) at_).length) false), (9, .int .i64 now), (10, .int .i64 epoch), (11, .int .i64 i), (12, .ptr 4 0 0), (17, .sl false 26 (List.map Msg.enc x_)), (18, .int .i64 k), (105, .bool t105)], [some ⟨30, false, [(Config.enc c)]⟩, some ⟨67, true, [[.int .i64 kept.epoch, .int .i64 kept.known.Epoch, .int .i64 kept.known.Target, .int .i64 kept.known.Prev, .int .i64 kept.known.Spill, .int .i64 kept.known.Percent, .int .i64 kept.known.Stamp, .int .i64 kept.known.Since, .int .i64 kept.known.Ramped, .int .u64 kept.known.Up, .int .u64 kept.known.Sup, .sl false 1 (List.map (eInt .i64) kept.known.Pen), .sl false 1 (List.map (eInt .i64) kept.known.Changes), .int .i64 kept.promised, .int .i64 kept.accepted, .int .i64 kept.plan.Epoch, .int .i64 kept.plan.Target, .int .i64 kept.plan.Prev, .int .i64 kept.plan.Spill, .int .i64 kept.plan.Percent, .int .i64 kept.plan.Stamp, .int .i64 kept.plan.Since, .int .i64 kept.plan.Ramped, .int .u64 kept.plan.Up, .int .u64 kept.plan.Sup, .sl false 1 (List.map (eInt .i64) kept.plan.Pen), .sl false 1 (List.map (eInt .i64) kept.plan.Changes), .int .i64 kept.writes.low, .int .i64 kept.writes.high, .int .i64 kept.writes.at_, .int .i64 kept.wish, .int .i64 kept.wishAt, .bool kept.lead.is_, .int .i64 kept.lead.who, .int .i64 kept.lead.at_, .int .i64 c.F_, .int .i64 c.Deciders, .int .i64 c.Targets, .int .i64 c.Routers, .int .i64 c.Observers, .sl false 1 (List.map (eInt .i64) c.Tiers), .int .i64 c.Every, .int .i64 c.Wait, .int .i64 c.Rise, .int .i64 c.Fall, .int .i64 c.Fresh, .int .i64 c.L_, .int .i64 c.M_, .int .i64 c.Dwell, .int .i64 c.D_, .int .i64 c.W_, .int .i64 c.B_, .int .i64 c.Hit, .int .i64 c.Suppress, .int .i64 c.Reuse, .int .i64 c.Half, .int .i64 c.First, .int .i64 c.Step, .int .i64 c.StepTime, .int .i64 c.S_, .int .i64 c.Cap, .int .i64 c.Span, .int .i64 c.Room, .int .i64 c.Tries, .int .i64 c.Retry, .int .i64 node, .ptr 5 0 0]]⟩, some ⟨1, false, (List.map (eInt .i64) of_)⟩, some ⟨1, false, (List.map (eInt .i64) at_)⟩, some ⟨29, false, [(Op.enc o)]⟩, some ⟨4, true, [[.msl 6 0 ((List.map (eInt .u8) b6).length) ((List.map (eInt .u8) b6).length) false, .msl 7 0 ((List.map (eInt .u8) b7).length) ((List.map (eInt .u8) b7).length) false, .int .i64 fuse, .bool down]]⟩, some ⟨1, false, (List.map (eInt .u8) b6)⟩, some ⟨1, false, (List.map (eInt .u8) b7)⟩]⟩
 | .s7 up now epoch i x_ k kept node of_ at_ o fuse down b6 b7 => ⟨[.code (law15_AcceptorWaits_c [1, 1, 1, 1, 1, 1, 1, 1, 0, 1, 0, 0, 1, 0, 0, 1, 1, 1, 1, 1, 1, 0, 0, 1, 0, 0, 1]), .blk 4, .code (law15_AcceptorWaits_c [1, 1, 1, 1, 1, 1, 1, 1, 0, 1, 0, 0, 1, 0, 0, 1, 1, 1, 1, 1, 1, 0, 0, 1, 1]), .lp (law15_AcceptorWaits_c [1, 1, 1, 1, 1, 1, 1, 1, 0, 1, 0, 0, 1, 0, 0, 1, 1, 1, 1, 1, 1, 0, 0]) 401382, .blk 3, .blk 1, .code (law15_AcceptorWaits_c [1, 1, 1, 1, 1, 1, 1, 1, 0, 1, 0, 0, 1, 1]), .lp (law15_AcceptorWaits_c [1, 1, 1, 1, 1, 1, 1, 1, 0, 1, 0, 0]) 4070, .blk 0, .code (law15_AcceptorWaits_c [1, 1, 1, 1, 1, 1, 1, 1, 1])], [(1, .sl false 29 (List.map Op.enc l_)), (2, .ptr 0 0 0), (5, .bool up), (6, .ptr 1 0 0), (7, .msl 2 0 ((List.map (eInt .i64) of_).length) ((List.map (eInt .i64) of_).length) false), (8, .msl 3 0 ((List.map (eInt .i64) at_).length) ((List.map (eInt .i64) at_).length) false), (9, .int .i64 now), (10, .int .i64 epoch), (11, .int .i64 i), (12, .ptr 4 0 0), (17, .sl false 26 (List.map Msg.enc x_)), (18, .int .i64 k)], [some ⟨30, false, [(Config.enc c)]⟩, some ⟨67, true, [[.int .i64 kept.epoch, .int .i64 kept.known.Epoch, .int .i64 kept.known.Target, .int .i64 kept.known.Prev, .int .i64 kept.known.Spill, .int .i64 kept.known.Percent, .int .i64 kept.known.Stamp, .int .i64 kept.known.Since, .int .i64 kept.known.Ramped, .int .u64 kept.known.Up, .int .u64 kept.known.Sup, .sl false 1 (List.map (eInt .i64) kept.known.Pen), .sl false 1 (List.map (eInt .i64) kept.known.Changes), .int .i64 kept.promised, .int .i64 kept.accepted, .int .i64 kept.plan.Epoch, .int .i64 kept.plan.Target, .int .i64 kept.plan.Prev, .int .i64 kept.plan.Spill, .int .i64 kept.plan.Percent, .int .i64 kept.plan.Stamp, .int .i64 kept.plan.Since, .int .i64 kept.plan.Ramped, .int .u64 kept.plan.Up, .int .u64 kept.plan.Sup, .sl false 1 (List.map (eInt .i64) kept.plan.Pen), .sl false 1 (List.map (eInt .i64) kept.plan.Changes), .int .i64 kept.writes.low, .int .i64 kept.writes.high, .int .i64 kept.writes.at_, .int .i64 kept.wish, .int .i64 kept.wishAt, .bool kept.lead.is_, .int .i64 kept.lead.who, .int .i64 kept.lead.at_, .int .i64 c.F_, .int .i64 c.Deciders, .int .i64 c.Targets, .int .i64 c.Routers, .int .i64 c.Observers, .sl false 1 (List.map (eInt .i64) c.Tiers), .int .i64 c.Every, .int .i64 c.Wait, .int .i64 c.Rise, .int .i64 c.Fall, .int .i64 c.Fresh, .int .i64 c.L_, .int .i64 c.M_, .int .i64 c.Dwell, .int .i64 c.D_, .int .i64 c.W_, .int .i64 c.B_, .int .i64 c.Hit, .int .i64 c.Suppress, .int .i64 c.Reuse, .int .i64 c.Half, .int .i64 c.First, .int .i64 c.Step, .int .i64 c.StepTime, .int .i64 c.S_, .int .i64 c.Cap, .int .i64 c.Span, .int .i64 c.Room, .int .i64 c.Tries, .int .i64 c.Retry, .int .i64 node, .ptr 5 0 0]]⟩, some ⟨1, false, (List.map (eInt .i64) of_)⟩, some ⟨1, false, (List.map (eInt .i64) at_)⟩, some ⟨29, false, [(Op.enc o)]⟩, some ⟨4, true, [[.msl 6 0 ((List.map (eInt .u8) b6).length) ((List.map (eInt .u8) b6).length) false, .msl 7 0 ((List.map (eInt .u8) b7).length) ((List.map (eInt .u8) b7).length) false, .int .i64 fuse, .bool down]]⟩, some ⟨1, false, (List.map (eInt .u8) b6)⟩, some ⟨1, false, (List.map (eInt .u8) b7)⟩]⟩
 | .s6 up now epoch i x_ k t132 kept node of_ at_ o fuse down b6 b7 => ⟨[.code (law15_AcceptorWaits_c [1, 1, 1, 1, 1, 1, 1, 1, 0, 1, 0, 0, 1, 0, 0, 1, 1, 1, 1, 1, 1, 0, 0, 1, 0, 0, 1, 0, 1]), .code (law15_AcceptorWaits_c [1, 1, 1, 1, 1, 1, 1, 1, 0, 1, 0, 0, 1, 0, 0, 1, 1, 1, 1, 1, 1, 0, 0, 1, 0, 0, 1, 1]), .blk 4, .code (law15_AcceptorWaits_c [1, 1, 1, 1, 1, 1, 1, 1, 0, 1, 0, 0, 1, 0, 0, 1, 1, 1, 1, 1, 1, 0, 0, 1, 1]), .lp (law15_AcceptorWaits_c [1, 1, 1, 1, 1, 1, 1, 1, 0, 1, 0, 0, 1, 0, 0, 1, 1, 1, 1, 1, 1, 0, 0]) 401382, .blk 3, .blk 1, .code (law15_AcceptorWaits_c [1, 1, 1, 1, 1, 1, 1, 1, 0, 1, 0, 0, 1, 1]), .lp (law15_AcceptorWaits_c [1, 1, 1, 1, 1, 1, 1, 1, 0, 1, 0, 0]) 4070, .blk 0, .code (law15_AcceptorWaits_c [1, 1, 1, 1, 1, 1, 1, 1, 1])], [(1, .sl false 29 (List.map Op.enc l_)), (2, .ptr 0 0 0), (5, .bool up), (6, .ptr 1 0 0), (7, .msl 2 0 ((List.map (eInt .i64) of_).length) ((List.map (eInt .i64) of_).length) false), (8, .msl 3 0 ((List.map (eInt .i64) at_).length) ((List.map (eInt .i64) at_).length) false), (9, .int .i64 now), (10, .int .i64 epoch), (11, .int .i64 i), (12, .ptr 4 0 0), (17, .sl false 26 (List.map Msg.enc x_)), (18, .int .i64 k), (132, .bool t132)], [some ⟨30, false, [(Config.enc c)]⟩, some ⟨67, true, [[.int .i64 kept.epoch, .int .i64 kept.known.Epoch, .int .i64 kept.known.Target, .int .i64 kept.known.Prev, .int .i64 kept.known.Spill, .int .i64 kept.known.Percent, .int .i64 kept.known.Stamp, .int .i64 kept.known.Since, .int .i64 kept.known.Ramped, .int .u64 kept.known.Up, .int .u64 kept.known.Sup, .sl false 1 (List.map (eInt .i64) kept.known.Pen), .sl false 1 (List.map (eInt .i64) kept.known.Changes), .int .i64 kept.promised, .int .i64 kept.accepted, .int .i64 kept.plan.Epoch, .int .i64 kept.plan.Target, .int .i64 kept.plan.Prev, .int .i64 kept.plan.Spill, .int .i64 kept.plan.Percent, .int .i64 kept.plan.Stamp, .int .i64 kept.plan.Since, .int .i64 kept.plan.Ramped, .int .u64 kept.plan.Up, .int .u64 kept.plan.Sup, .sl false 1 (List.map (eInt .i64) kept.plan.Pen), .sl false 1 (List.map (eInt .i64) kept.plan.Changes), .int .i64 kept.writes.low, .int .i64 kept.writes.high, .int .i64 kept.writes.at_, .int .i64 kept.wish, .int .i64 kept.wishAt, .bool kept.lead.is_, .int .i64 kept.lead.who, .int .i64 kept.lead.at_, .int .i64 c.F_, .int .i64 c.Deciders, .int .i64 c.Targets, .int .i64 c.Routers, .int .i64 c.Observers, .sl false 1 (List.map (eInt .i64) c.Tiers), .int .i64 c.Every, .int .i64 c.Wait, .int .i64 c.Rise, .int .i64 c.Fall, .int .i64 c.Fresh, .int .i64 c.L_, .int .i64 c.M_, .int .i64 c.Dwell, .int .i64 c.D_, .int .i64 c.W_, .int .i64 c.B_, .int .i64 c.Hit, .int .i64 c.Suppress, .int .i64 c.Reuse, .int .i64 c.Half, .int .i64 c.First, .int .i64 c.Step, .int .i64 c.StepTime, .int .i64 c.S_, .int .i64 c.Cap, .int .i64 c.Span, .int .i64 c.Room, .int .i64 c.Tries, .int .i64 c.Retry, .int .i64 node, .ptr 5 0 0]]⟩, some ⟨1, false, (List.map (eInt .i64) of_)⟩, some ⟨1, false, (List.map (eInt .i64) at_)⟩, some ⟨29, false, [(Op.enc o)]⟩, some ⟨4, true, [[.msl 6 0 ((List.map (eInt .u8) b6).length) ((List.map (eInt .u8) b6).length) false, .msl 7 0 ((List.map (eInt .u8) b7).length) ((List.map (eInt .u8) b7).length) false, .int .i64 fuse, .bool down]]⟩, some ⟨1, false, (List.map (eInt .u8) b6)⟩, some ⟨1, false, (List.map (eInt .u8) b7)⟩]⟩
 | .s9 up now epoch i x_ k n kept node of_ at_ o fuse down b6 b7 => ⟨[.lpc (law15_AcceptorWaits_c [1, 1, 1, 1, 1, 1, 1, 1, 0, 1, 0, 0, 1, 0, 0, 1, 1, 1, 1, 1, 1, 0, 0, 1, 0, 0, 1, 1, 0, 1, 0, 0]) 925670, .blk 5, .code (law15_AcceptorWaits_c [1, 1, 1, 1, 1, 1, 1, 1, 0, 1, 0, 0, 1, 0, 0, 1, 1, 1, 1, 1, 1, 0, 0, 1, 0, 0, 1, 1, 1]), .blk 4, .code (law15_AcceptorWaits_c [1, 1, 1, 1, 1, 1, 1, 1, 0, 1, 0, 0, 1, 0, 0, 1, 1, 1, 1, 1, 1, 0, 0, 1, 1]), .lp (law15_AcceptorWaits_c [1, 1, 1, 1, 1, 1, 1, 1, 0, 1, 0, 0, 1, 0, 0, 1, 1, 1, 1, 1, 1, 0, 0]) 401382, .blk 3, .blk 1, .code (law15_AcceptorWaits_c [1, 1, 1, 1, 1, 1, 1, 1, 0, 1, 0, 0, 1, 1]), .lp (law15_AcceptorWaits_c [1, 1, 1, 1, 1, 1, 1, 1, 0, 1, 0, 0]) 4070, .blk 0, .code (law15_AcceptorWaits_c [1, 1, 1, 1, 1, 1, 1, 1, 1])], [(1, .sl false 29 (List.map Op.enc l_)), (2, .ptr 0 0 0), (5, .bool up), (6, .ptr 1 0 0), (7, .msl 2 0 ((List.map (eInt .i64) of_).length) ((List.map (eInt .i64) of_).length) false), (8, .msl 3 0 ((List.map (eInt .i64) at_).length) ((List.map (eInt .i64) at_).length) false), (9, .int .i64 now), (10, .int .i64 epoch), (11, .int .i64 i), (12, .ptr 4 0 0), (17, .sl false 26 (List.map Msg.enc x_)), (18, .int .i64 k), (19, .int .i64 n)], [some ⟨30, false, [(Config.enc c)]⟩, some ⟨67, true, [[.int .i64 kept.epoch, .int .i64 kept.known.Epoch, .int .i64 kept.known.Target, .int .i64 kept.known.Prev, .int .i64 kept.known.Spill, .int .i64 kept.known.Percent, .int .i64 kept.known.Stamp, .int .i64 kept.known.Since, .int .i64 kept.known.Ramped, .int .u64 kept.known.Up, .int .u64 kept.known.Sup, .sl false 1 (List.map (eInt .i64) kept.known.Pen), .sl false 1 (List.map (eInt .i64) kept.known.Changes), .int .i64 kept.promised, .int .i64 kept.accepted, .int .i64 kept.plan.Epoch, .int .i64 kept.plan.Target, .int .i64 kept.plan.Prev, .int .i64 kept.plan.Spill, .int .i64 kept.plan.Percent, .int .i64 kept.plan.Stamp, .int .i64 kept.plan.Since, .int .i64 kept.plan.Ramped, .int .u64 kept.plan.Up, .int .u64 kept.plan.Sup, .sl false 1 (List.map (eInt .i64) kept.plan.Pen), .sl false 1 (List.map (eInt .i64) kept.plan.Changes), .int .i64 kept.writes.low, .int .i64 kept.writes.high, .int .i64 kept.writes.at_, .int .i64 kept.wish, .int .i64 kept.wishAt, .bool kept.lead.is_, .int .i64 kept.lead.who, .int .i64 kept.lead.at_, .int .i64 c.F_, .int .i64 c.Deciders, .int .i64 c.Targets, .int .i64 c.Routers, .int .i64 c.Observers, .sl false 1 (List.map (eInt .i64) c.Tiers), .int .i64 c.Every, .int .i64 c.Wait, .int .i64 c.Rise, .int .i64 c.Fall, .int .i64 c.Fresh, .int .i64 c.L_, .int .i64 c.M_, .int .i64 c.Dwell, .int .i64 c.D_, .int .i64 c.W_, .int .i64 c.B_, .int .i64 c.Hit, .int .i64 c.Suppress, .int .i64 c.Reuse, .int .i64 c.Half, .int .i64 c.First, .int .i64 c.Step, .int .i64 c.StepTime, .int .i64 c.S_, .int .i64 c.Cap, .int .i64 c.Span, .int .i64 c.Room, .int .i64 c.Tries, .int .i64 c.Retry, .int .i64 node, .ptr 5 0 0]]⟩, some ⟨1, false, (List.map (eInt .i64) of_)⟩, some ⟨1, false, (List.map (eInt .i64) at_)⟩, some ⟨29, false, [(Op.enc o)]⟩, some ⟨4, true, [[.msl 6 0 ((List.map (eInt .u8) b6).length) ((List.map (eInt .u8) b6).length) false, .msl 7 0 ((List.map (eInt .u8) b7).length) ((List.map (eInt .u8) b7).length) false, .int .i64 fuse, .bool down]]⟩, some ⟨1, false, (List.map (eInt .u8) b6)⟩, some ⟨1, false, (List.map (eInt .u8) b7)⟩]⟩
abbrev law15_AcceptorWaits_W (c : Config) (l_ : List Op) := SOk E (Cx.of Tryd.f7 false 0) law15_AcceptorWaits_e (law15_AcceptorWaits_M c l_)
noncomputable def law15_AcceptorWaits_0 (c : Config) (l_ : List Op) : Option (law15_AcceptorWaits_S ⊕ Bool) := ((law15_head ).bind fun y1 => ((acceptor_New c 1).bind fun y2 => match y2 with | .r0 => (some (.inl (.s1 y1))) | .r1 y2a0 y2a1 y2a2 y2a3 y2a4 => (some (.inl (.s2 y1 y2a0 1 y2a1 y2a2 y2a3 y2a4)))))
noncomputable def law15_AcceptorWaits_1 (c : Config) (l_ : List Op) (up : Bool) : Option (law15_AcceptorWaits_S ⊕ Bool) := (some (.inr up))
noncomputable def law15_AcceptorWaits_2 (c : Config) (l_ : List Op) (up : Bool) (kept : keptT) (node : Int) (fuse : Int) (down : Bool) (b3 : List Int) (b4 : List Int) : Option (law15_AcceptorWaits_S ⊕ Bool) := ((law15_Great l_).bind fun y1 => (bif y1 then (some (.inr up)) else (some (.inl (.s3 up 0 0 0 kept node ([]) ([]) fuse down b3 b4)))))
noncomputable def law15_AcceptorWaits_3 (c : Config) (l_ : List Op) (up : Bool) (now : Int) (epoch : Int) (i : Int) (kept : keptT) (node : Int) (of_ : List Int) (at_ : List Int) (fuse : Int) (down : Bool) (b5 : List Int) (b6 : List Int) : Option (law15_AcceptorWaits_S ⊕ Bool) := (bif (decide ((i : Int) < (((List.map Op.enc l_).length : Nat) : Int))) then (bif ((decide ((0 : Int) ≤ i)) && (decide ((i : Int) < (((List.map Op.enc l_).length : Nat) : Int)))) then (((l_)[i.toNat]?).bind fun y3 => (bif (((andI .i64 y3.What 3) : Int) == 1) then ((Acceptor_Journal kept c node fuse down b5 b6).bind fun y6 => ((Journal_Fuse y3.N_ fuse down b5 b6).bind fun y7 => (some (.inl (.s5 up (mxI now (mnI y3.Now 1099511627776)) epoch i kept node of_ at_ y3 y7 down b5 b6))))) else (bif (((andI .i64 y3.What 3) : Int) == 2) then ((Acceptor_Journal kept c node fuse down b5 b6).bind fun y9 => ((Journal_Crash y3.N_ fuse down b5 b6).bind fun y10 => (some (.inl (.s5 up (mxI now (mnI y3.Now 1099511627776)) epoch i kept node of_ at_ y3 y10.1 y10.2.1 y10.2.2.1 y10.2.2.2))))) else (bif (((andI .i64 y3.What 3) : Int) == 3) then ((Acceptor_Restart (mxI now (mnI y3.Now 1099511627776)) kept c node fuse down b5 b6).bind fun y12 => ((Acceptor_State y12.2.1 c node y12.2.2.1 y12.2.2.2.1 y12.2.2.2.2.1 y12.2.2.2.2.2).bind fun y13 => (some (.inl (.s5 up (mxI now (mnI y3.Now 1099511627776)) (mxI epoch y13.1) i y12.2.1 node of_ at_ y3 y12.2.2.1 y12.2.2.2.1 y12.2.2.2.2.1 y12.2.2.2.2.2))))) else (some (.inl (.s5 up (mxI now (mnI y3.Now 1099511627776)) epoch i kept node of_ at_ y3 fuse down b5 b6))))))) else none) else (some (.inr up)))
noncomputable def law15_AcceptorWaits_5 (c : Config) (l_ : List Op) (up : Bool) (now : Int) (epoch : Int) (i : Int) (kept : keptT) (node : Int) (of_ : List Int) (at_ : List Int) (o : Op) (fuse : Int) (down : Bool) (b6 : List Int) (b7 : List Int) : Option (law15_AcceptorWaits_S ⊕ Bool) := (bif (((andI .i64 o.What 3) : Int) != 0) then (some (.inl (.s3 up now epoch (IntKind.i64.wrap (i + 1)) kept node of_ at_ fuse down b6 b7))) else ((Acceptor_Handle o.M_ now kept c node fuse down b6 b7).bind fun y2 => (some (.inl (.s4 up now epoch i y2.1 0 y2.2.1 node of_ at_ o y2.2.2.1 y2.2.2.2.1 y2.2.2.2.2.1 y2.2.2.2.2.2)))))
noncomputable def law15_AcceptorWaits_4 (c : Config) (l_ : List Op) (up : Bool) (now : Int) (epoch : Int) (i : Int) (x_ : List Msg) (k : Int) (kept : keptT) (node : Int) (of_ : List Int) (at_ : List Int) (o : Op) (fuse : Int) (down : Bool) (b6 : List Int) (b7 : List Int) : Option (law15_AcceptorWaits_S ⊕ Bool) := (bif (decide ((k : Int) < (((List.map Msg.enc x_).length : Nat) : Int))) then (bif ((decide ((0 : Int) ≤ k)) && (decide ((k : Int) < (((List.map Msg.enc x_).length : Nat) : Int)))) then (((x_)[k.toNat]?).bind fun y3 => (bif ((y3.Kind : Int) == 11) then (bif ((decide ((0 : Int) ≤ k)) && (decide ((k : Int) < (((List.map Msg.enc x_).length : Nat) : Int)))) then (((x_)[k.toNat]?).bind fun y7 => (some (.inl (.s8 up now epoch i x_ k ((y7.Code : Int) == 1) kept node of_ at_ o fuse down b6 b7)))) else none) else (some (.inl (.s8 up now epoch i x_ k false kept node of_ at_ o fuse down b6 b7))))) else none) else (some (.inl (.s3 up now epoch (IntKind.i64.wrap (i + 1)) kept node of_ at_ fuse down b6 b7))))
noncomputable def law15_AcceptorWaits_8 (c : Config) (l_ : List Op) (up : Bool) (now : Int) (epoch : Int) (i : Int) (x_ : List Msg) (k : Int) (t105 : Bool) (kept : keptT) (node : Int) (of_ : List Int) (at_ : List Int) (o : Op) (fuse : Int) (down : Bool) (b6 : List Int) (b7 : List Int) : Option (law15_AcceptorWaits_S ⊕ Bool) := (bif t105 then (bif ((decide ((0 : Int) ≤ k)) && (decide ((k : Int) < (((List.map Msg.enc x_).length : Nat) : Int)))) then (((x_)[k.toNat]?).bind fun y3 => (bif (decide (((List.map (eInt .i64) of_).length + 1) * 8 ≤ bytesLim)) then (bif (decide (((List.map (eInt .i64) at_).length + 1) * 8 ≤ bytesLim)) then (some (.inl (.s7 up now epoch i x_ k kept node (of_ ++ [y3.Epoch]) (at_ ++ [now]) o fuse down b6 b7))) else none) else none)) else none) else (some (.inl (.s7 up now epoch i x_ k kept node of_ at_ o fuse down b6 b7))))
noncomputable def law15_AcceptorWaits_7 (c : Config) (l_ : List Op) (up : Bool) (now : Int) (epoch : Int) (i : Int) (x_ : List Msg) (k : Int) (kept : keptT) (node : Int) (of_ : List Int) (at_ : List Int) (o : Op) (fuse : Int) (down : Bool) (b6 : List Int) (b7 : List Int) : Option (law15_AcceptorWaits_S ⊕ Bool) := (bif ((decide ((0 : Int) ≤ k)) && (decide ((k : Int) < (((List.map Msg.enc x_).length : Nat) : Int)))) then (((x_)[k.toNat]?).bind fun y2 => (bif ((y2.Kind : Int) != 5) then (some (.inl (.s6 up now epoch i x_ k true kept node of_ at_ o fuse down b6 b7))) else (bif ((decide ((0 : Int) ≤ k)) && (decide ((k : Int) < (((List.map Msg.enc x_).length : Nat) : Int)))) then (((x_)[k.toNat]?).bind fun y6 => (some (.inl (.s6 up now epoch i x_ k (decide ((y6.Epoch : Int) ≤ epoch)) kept node of_ at_ o fuse down b6 b7)))) else none))) else none)
noncomputable def law15_AcceptorWaits_6 (c : Config) (l_ : List Op) (up : Bool) (now : Int) (epoch : Int) (i : Int) (x_ : List Msg) (k : Int) (t132 : Bool) (kept : keptT) (node : Int) (of_ : List Int) (at_ : List Int) (o : Op) (fuse : Int) (down : Bool) (b6 : List Int) (b7 : List Int) : Option (law15_AcceptorWaits_S ⊕ Bool) := (bif t132 then (some (.inl (.s4 up now epoch i x_ (IntKind.i64.wrap (k + 1)) kept node of_ at_ o fuse down b6 b7))) else (some (.inl (.s9 up now epoch i x_ k 0 kept node of_ at_ o fuse down b6 b7))))
noncomputable def law15_AcceptorWaits_9 (c : Config) (l_ : List Op) (up : Bool) (now : Int) (epoch : Int) (i : Int) (x_ : List Msg) (k : Int) (n : Int) (kept : keptT) (node : Int) (of_ : List Int) (at_ : List Int) (o : Op) (fuse : Int) (down : Bool) (b6 : List Int) (b7 : List Int) : Option (law15_AcceptorWaits_S ⊕ Bool) := (bif (decide ((n : Int) < (((List.map (eInt .i64) of_).length : Nat) : Int))) then (bif ((decide ((0 : Int) ≤ n)) && (decide ((n : Int) < (((List.map (eInt .i64) of_).length : Nat) : Int)))) then (((of_)[(0 + n.toNat)]?).bind fun y3 => (bif (decide ((y3 : Int) ≥ epoch)) then (bif ((decide ((0 : Int) ≤ n)) && (decide ((n : Int) < (((List.map (eInt .i64) of_).length : Nat) : Int)))) then (((of_)[(0 + n.toNat)]?).bind fun y7 => (bif ((decide ((0 : Int) ≤ k)) && (decide ((k : Int) < (((List.map Msg.enc x_).length : Nat) : Int)))) then (((x_)[k.toNat]?).bind fun y10 => (bif (decide ((y7 : Int) < y10.Epoch)) then (bif ((decide ((0 : Int) ≤ n)) && (decide ((n : Int) < (((List.map (eInt .i64) at_).length : Nat) : Int)))) then (((at_)[(0 + n.toNat)]?).bind fun y14 => (bif (decide (((IntKind.i64.wrap (now - y14)) : Int) < (IntKind.i64.wrap (c.L_ + c.M_)))) then (bif ((o.M_.Code : Int) != 1) then (some (.inr false)) else (some (.inl (.s9 up now epoch i x_ k (IntKind.i64.wrap (n + 1)) kept node of_ at_ o fuse down b6 b7)))) else (some (.inl (.s9 up now epoch i x_ k (IntKind.i64.wrap (n + 1)) kept node of_ at_ o fuse down b6 b7))))) else none) else (some (.inl (.s9 up now epoch i x_ k (IntKind.i64.wrap (n + 1)) kept node of_ at_ o fuse down b6 b7))))) else none)) else none) else (some (.inl (.s9 up now epoch i x_ k (IntKind.i64.wrap (n + 1)) kept node of_ at_ o fuse down b6 b7))))) else none) else (bif ((decide ((0 : Int) ≤ k)) && (decide ((k : Int) < (((List.map Msg.enc x_).length : Nat) : Int)))) then (((x_)[k.toNat]?).bind fun y19 => (some (.inl (.s4 up now y19.Epoch i x_ (IntKind.i64.wrap (k + 1)) kept node of_ at_ o fuse down b6 b7)))) else none))
noncomputable def law15_AcceptorWaits_step (c : Config) (l_ : List Op) : law15_AcceptorWaits_S → Option (law15_AcceptorWaits_S ⊕ Bool)
 | .s0 => law15_AcceptorWaits_0 c l_
 | .s1 up => law15_AcceptorWaits_1 c l_ up
 | .s2 up kept node fuse down b3 b4 => law15_AcceptorWaits_2 c l_ up kept node fuse down b3 b4
 | .s3 up now epoch i kept node of_ at_ fuse down b5 b6 => law15_AcceptorWaits_3 c l_ up now epoch i kept node of_ at_ fuse down b5 b6
 | .s5 up now epoch i kept node of_ at_ o fuse down b6 b7 => law15_AcceptorWaits_5 c l_ up now epoch i kept node of_ at_ o fuse down b6 b7
 | .s4 up now epoch i x_ k kept node of_ at_ o fuse down b6 b7 => law15_AcceptorWaits_4 c l_ up now epoch i x_ k kept node of_ at_ o fuse down b6 b7
 | .s8 up now epoch i x_ k t105 kept node of_ at_ o fuse down b6 b7 => law15_AcceptorWaits_8 c l_ up now epoch i x_ k t105 kept node of_ at_ o fuse down b6 b7
 | .s7 up now epoch i x_ k kept node of_ at_ o fuse down b6 b7 => law15_AcceptorWaits_7 c l_ up now epoch i x_ k kept node of_ at_ o fuse down b6 b7
 | .s6 up now epoch i x_ k t132 kept node of_ at_ o fuse down b6 b7 => law15_AcceptorWaits_6 c l_ up now epoch i x_ k t132 kept node of_ at_ o fuse down b6 b7
 | .s9 up now epoch i x_ k n kept node of_ at_ o fuse down b6 b7 => law15_AcceptorWaits_9 c l_ up now epoch i x_ k n kept node of_ at_ o fuse down b6 b7
theorem law15_AcceptorWaits_0_ok {c l_} : law15_AcceptorWaits_W c l_ .s0 (law15_AcceptorWaits_0 c l_) := by
 intro r x h ha; unfold law15_AcceptorWaits_0 at h
 refine zc 8 [] h (fun _ => law15_head_ok) fun y1 h => ?_
 refine zc 7 [] h (fun _ => acceptor_New_ok) fun y2 h => ?_
 cases y2 with
 | r0 =>
  dsimp only at h
  exact zk 2 h ha
 | r1 y2a0 y2a1 y2a2 y2a3 y2a4 =>
  dsimp only at h
  exact zk 2 h ha
theorem law15_AcceptorWaits_1_ok {c l_ up} : law15_AcceptorWaits_W c l_ (.s1 up) (law15_AcceptorWaits_1 c l_ up) := by
 intro r x h ha; unfold law15_AcceptorWaits_1 at h
 exact zt 21 h ha
theorem law15_AcceptorWaits_2_ok {c l_ up kept node fuse down b3 b4} : law15_AcceptorWaits_W c l_ (.s2 up kept node fuse down b3 b4) (law15_AcceptorWaits_2 c l_ up kept node fuse down b3 b4) := by
 intro r x h ha; unfold law15_AcceptorWaits_2 at h
 refine zc 10 [] h (fun _ => law15_Great_ok) fun y1 h => ?_
 refine zs 4 h (fun h => ?_) fun h => ?_
 ·
  exact zt 6 h ha
 refine adv_ok hm 25 _ ?_
 obtain rfl := Option.some.inj h
 refine r_cut 4070 [.mat 7 1, .mat 8 1] (m' := ⟨[.lpc (law15_AcceptorWaits_c [1, 1, 1, 1, 1, 1, 1, 1, 0, 1, 0, 0]) 4070, .blk 0, .code (law15_AcceptorWaits_c [1, 1, 1, 1, 1, 1, 1, 1, 1])], [(1, .sl false 29 (List.map Op.enc l_)), (2, .ptr 0 0 0), (5, .bool up), (6, .ptr 1 0 0), (7, .msl 2 0 0 0 false), (8, .msl 3 0 0 0 false), (9, .int .i64 0), (10, .int .i64 0), (11, .int .i64 0)], [some ⟨30, false, [(Config.enc c)]⟩, some ⟨67, true, [[.int .i64 kept.epoch, .int .i64 kept.known.Epoch, .int .i64 kept.known.Target, .int .i64 kept.known.Prev, .int .i64 kept.known.Spill, .int .i64 kept.known.Percent, .int .i64 kept.known.Stamp, .int .i64 kept.known.Since, .int .i64 kept.known.Ramped, .int .u64 kept.known.Up, .int .u64 kept.known.Sup, .sl false 1 (List.map (eInt .i64) kept.known.Pen), .sl false 1 (List.map (eInt .i64) kept.known.Changes), .int .i64 kept.promised, .int .i64 kept.accepted, .int .i64 kept.plan.Epoch, .int .i64 kept.plan.Target, .int .i64 kept.plan.Prev, .int .i64 kept.plan.Spill, .int .i64 kept.plan.Percent, .int .i64 kept.plan.Stamp, .int .i64 kept.plan.Since, .int .i64 kept.plan.Ramped, .int .u64 kept.plan.Up, .int .u64 kept.plan.Sup, .sl false 1 (List.map (eInt .i64) kept.plan.Pen), .sl false 1 (List.map (eInt .i64) kept.plan.Changes), .int .i64 kept.writes.low, .int .i64 kept.writes.high, .int .i64 kept.writes.at_, .int .i64 kept.wish, .int .i64 kept.wishAt, .bool kept.lead.is_, .int .i64 kept.lead.who, .int .i64 kept.lead.at_, .int .i64 c.F_, .int .i64 c.Deciders, .int .i64 c.Targets, .int .i64 c.Routers, .int .i64 c.Observers, .sl false 1 (List.map (eInt .i64) c.Tiers), .int .i64 c.Every, .int .i64 c.Wait, .int .i64 c.Rise, .int .i64 c.Fall, .int .i64 c.Fresh, .int .i64 c.L_, .int .i64 c.M_, .int .i64 c.Dwell, .int .i64 c.D_, .int .i64 c.W_, .int .i64 c.B_, .int .i64 c.Hit, .int .i64 c.Suppress, .int .i64 c.Reuse, .int .i64 c.Half, .int .i64 c.First, .int .i64 c.Step, .int .i64 c.StepTime, .int .i64 c.S_, .int .i64 c.Cap, .int .i64 c.Span, .int .i64 c.Room, .int .i64 c.Tries, .int .i64 c.Retry, .int .i64 node, .ptr 4 0 0]]⟩, some ⟨1, false, []⟩, some ⟨1, false, []⟩, some ⟨4, true, [[.msl 5 0 ((List.map (eInt .u8) b3).length) ((List.map (eInt .u8) b3).length) false, .msl 6 0 ((List.map (eInt .u8) b4).length) ((List.map (eInt .u8) b4).length) false, .int .i64 fuse, .bool down]]⟩, some ⟨1, false, (List.map (eInt .u8) b3)⟩, some ⟨1, false, (List.map (eInt .u8) b4)⟩]⟩) (by kernel_rfl) ?_
 refine r_len (n1 := 0) (n2 := (List.map (eInt .i64) ([])).length) (fun n_len => .go ⟨[.lpc (law15_AcceptorWaits_c [1, 1, 1, 1, 1, 1, 1, 1, 0, 1, 0, 0]) 4070, .blk 0, .code (law15_AcceptorWaits_c [1, 1, 1, 1, 1, 1, 1, 1, 1])], [(1, .sl false 29 (List.map Op.enc l_)), (2, .ptr 0 0 0), (5, .bool up), (6, .ptr 1 0 0), (7, .msl 2 0 n_len n_len false), (8, .msl 3 0 0 0 false), (9, .int .i64 0), (10, .int .i64 0), (11, .int .i64 0)], [some ⟨30, false, [(Config.enc c)]⟩, some ⟨67, true, [[.int .i64 kept.epoch, .int .i64 kept.known.Epoch, .int .i64 kept.known.Target, .int .i64 kept.known.Prev, .int .i64 kept.known.Spill, .int .i64 kept.known.Percent, .int .i64 kept.known.Stamp, .int .i64 kept.known.Since, .int .i64 kept.known.Ramped, .int .u64 kept.known.Up, .int .u64 kept.known.Sup, .sl false 1 (List.map (eInt .i64) kept.known.Pen), .sl false 1 (List.map (eInt .i64) kept.known.Changes), .int .i64 kept.promised, .int .i64 kept.accepted, .int .i64 kept.plan.Epoch, .int .i64 kept.plan.Target, .int .i64 kept.plan.Prev, .int .i64 kept.plan.Spill, .int .i64 kept.plan.Percent, .int .i64 kept.plan.Stamp, .int .i64 kept.plan.Since, .int .i64 kept.plan.Ramped, .int .u64 kept.plan.Up, .int .u64 kept.plan.Sup, .sl false 1 (List.map (eInt .i64) kept.plan.Pen), .sl false 1 (List.map (eInt .i64) kept.plan.Changes), .int .i64 kept.writes.low, .int .i64 kept.writes.high, .int .i64 kept.writes.at_, .int .i64 kept.wish, .int .i64 kept.wishAt, .bool kept.lead.is_, .int .i64 kept.lead.who, .int .i64 kept.lead.at_, .int .i64 c.F_, .int .i64 c.Deciders, .int .i64 c.Targets, .int .i64 c.Routers, .int .i64 c.Observers, .sl false 1 (List.map (eInt .i64) c.Tiers), .int .i64 c.Every, .int .i64 c.Wait, .int .i64 c.Rise, .int .i64 c.Fall, .int .i64 c.Fresh, .int .i64 c.L_, .int .i64 c.M_, .int .i64 c.Dwell, .int .i64 c.D_, .int .i64 c.W_, .int .i64 c.B_, .int .i64 c.Hit, .int .i64 c.Suppress, .int .i64 c.Reuse, .int .i64 c.Half, .int .i64 c.First, .int .i64 c.Step, .int .i64 c.StepTime, .int .i64 c.S_, .int .i64 c.Cap, .int .i64 c.Span, .int .i64 c.Room, .int .i64 c.Tries, .int .i64 c.Retry, .int .i64 node, .ptr 4 0 0]]⟩, some ⟨1, false, []⟩, some ⟨1, false, []⟩, some ⟨4, true, [[.msl 5 0 ((List.map (eInt .u8) b3).length) ((List.map (eInt .u8) b3).length) false, .msl 6 0 ((List.map (eInt .u8) b4).length) ((List.map (eInt .u8) b4).length) false, .int .i64 fuse, .bool down]]⟩, some ⟨1, false, (List.map (eInt .u8) b3)⟩, some ⟨1, false, (List.map (eInt .u8) b4)⟩]⟩) (by simp) ?_
 refine r_len (n1 := 0) (n2 := (List.map (eInt .i64) ([])).length) (fun n_len => .go ⟨[.lpc (law15_AcceptorWaits_c [1, 1, 1, 1, 1, 1, 1, 1, 0, 1, 0, 0]) 4070, .blk 0, .code (law15_AcceptorWaits_c [1, 1, 1, 1, 1, 1, 1, 1, 1])], [(1, .sl false 29 (List.map Op.enc l_)), (2, .ptr 0 0 0), (5, .bool up), (6, .ptr 1 0 0), (7, .msl 2 0 ((List.map (eInt .i64) ([])).length) ((List.map (eInt .i64) ([])).length) false), (8, .msl 3 0 n_len n_len false), (9, .int .i64 0), (10, .int .i64 0), (11, .int .i64 0)], [some ⟨30, false, [(Config.enc c)]⟩, some ⟨67, true, [[.int .i64 kept.epoch, .int .i64 kept.known.Epoch, .int .i64 kept.known.Target, .int .i64 kept.known.Prev, .int .i64 kept.known.Spill, .int .i64 kept.known.Percent, .int .i64 kept.known.Stamp, .int .i64 kept.known.Since, .int .i64 kept.known.Ramped, .int .u64 kept.known.Up, .int .u64 kept.known.Sup, .sl false 1 (List.map (eInt .i64) kept.known.Pen), .sl false 1 (List.map (eInt .i64) kept.known.Changes), .int .i64 kept.promised, .int .i64 kept.accepted, .int .i64 kept.plan.Epoch, .int .i64 kept.plan.Target, .int .i64 kept.plan.Prev, .int .i64 kept.plan.Spill, .int .i64 kept.plan.Percent, .int .i64 kept.plan.Stamp, .int .i64 kept.plan.Since, .int .i64 kept.plan.Ramped, .int .u64 kept.plan.Up, .int .u64 kept.plan.Sup, .sl false 1 (List.map (eInt .i64) kept.plan.Pen), .sl false 1 (List.map (eInt .i64) kept.plan.Changes), .int .i64 kept.writes.low, .int .i64 kept.writes.high, .int .i64 kept.writes.at_, .int .i64 kept.wish, .int .i64 kept.wishAt, .bool kept.lead.is_, .int .i64 kept.lead.who, .int .i64 kept.lead.at_, .int .i64 c.F_, .int .i64 c.Deciders, .int .i64 c.Targets, .int .i64 c.Routers, .int .i64 c.Observers, .sl false 1 (List.map (eInt .i64) c.Tiers), .int .i64 c.Every, .int .i64 c.Wait, .int .i64 c.Rise, .int .i64 c.Fall, .int .i64 c.Fresh, .int .i64 c.L_, .int .i64 c.M_, .int .i64 c.Dwell, .int .i64 c.D_, .int .i64 c.W_, .int .i64 c.B_, .int .i64 c.Hit, .int .i64 c.Suppress, .int .i64 c.Reuse, .int .i64 c.Half, .int .i64 c.First, .int .i64 c.Step, .int .i64 c.StepTime, .int .i64 c.S_, .int .i64 c.Cap, .int .i64 c.Span, .int .i64 c.Room, .int .i64 c.Tries, .int .i64 c.Retry, .int .i64 node, .ptr 4 0 0]]⟩, some ⟨1, false, []⟩, some ⟨1, false, []⟩, some ⟨4, true, [[.msl 5 0 ((List.map (eInt .u8) b3).length) ((List.map (eInt .u8) b3).length) false, .msl 6 0 ((List.map (eInt .u8) b4).length) ((List.map (eInt .u8) b4).length) false, .int .i64 fuse, .bool down]]⟩, some ⟨1, false, (List.map (eInt .u8) b3)⟩, some ⟨1, false, (List.map (eInt .u8) b4)⟩]⟩) (by simp) ?_
 exact ha
theorem law15_AcceptorWaits_3_ok {c l_ up now epoch i kept node of_ at_ fuse down b5 b6} : law15_AcceptorWaits_W c l_ (.s3 up now epoch i kept node of_ at_ fuse down b5 b6) (law15_AcceptorWaits_3 c l_ up now epoch i kept node of_ at_ fuse down b5 b6) := by
 intro r x h ha; unfold law15_AcceptorWaits_3 at h
 refine zs 10 h (fun h => ?_) fun h => ?_
 ·
  refine zn 8 h fun h => ?_
  refine zr 1 Op.enc h fun y3 h => ?_
  refine zs 30 h (fun h => ?_) fun h => ?_
  ·
   refine zdR 1 [] h (fun _ => Acceptor_Journal_ok) fun y6 h => ?_
   refine zc 1 [] h (fun _ => Journal_Fuse_ok) fun y7 h => ?_
   exact zk 1 h ha
  refine zs 6 h (fun h => ?_) fun h => ?_
  ·
   refine zdR 1 [] h (fun _ => Acceptor_Journal_ok) fun y9 h => ?_
   refine zc 1 [] h (fun _ => Journal_Crash_ok) fun y10 h => ?_
   exact zk 1 h ha
  refine zs 6 h (fun h => ?_) fun h => ?_
  ·
   refine zc 5 [] h (fun _ => Acceptor_Restart_ok) fun y12 h => ?_
   refine zc 5 [] h (fun _ => Acceptor_State_ok) fun y13 h => ?_
   exact zk 20 h ha
  exact zk 2 h ha
 exact zt 7 h ha
theorem law15_AcceptorWaits_5_ok {c l_ up now epoch i kept node of_ at_ o fuse down b6 b7} : law15_AcceptorWaits_W c l_ (.s5 up now epoch i kept node of_ at_ o fuse down b6 b7) (law15_AcceptorWaits_5 c l_ up now epoch i kept node of_ at_ o fuse down b6 b7) := by
 intro r x h ha; unfold law15_AcceptorWaits_5 at h
 refine zs 10 h (fun h => ?_) fun h => ?_
 ·
  exact zj 7 h ha
 refine zc 9 [] h (fun _ => Acceptor_Handle_ok) fun y2 h => ?_
 exact zj 9 h ha
theorem law15_AcceptorWaits_4_ok {c l_ up now epoch i x_ k kept node of_ at_ o fuse down b6 b7} : law15_AcceptorWaits_W c l_ (.s4 up now epoch i x_ k kept node of_ at_ o fuse down b6 b7) (law15_AcceptorWaits_4 c l_ up now epoch i x_ k kept node of_ at_ o fuse down b6 b7) := by
 intro r x h ha; unfold law15_AcceptorWaits_4 at h
 refine zs 10 h (fun h => ?_) fun h => ?_
 ·
  refine zn 9 h fun h => ?_
  refine zr 2 Msg.enc h fun y3 h => ?_
  refine zs 3 h (fun h => ?_) fun h => ?_
  ·
   refine zn 4 h fun h => ?_
   refine zr 4 Msg.enc h fun y7 h => ?_
   exact zk 5 h ha
  exact zk 13 h ha
 exact zj 8 h ha
theorem law15_AcceptorWaits_8_ok {c l_ up now epoch i x_ k t105 kept node of_ at_ o fuse down b6 b7} : law15_AcceptorWaits_W c l_ (.s8 up now epoch i x_ k t105 kept node of_ at_ o fuse down b6 b7) (law15_AcceptorWaits_8 c l_ up now epoch i x_ k t105 kept node of_ at_ o fuse down b6 b7) := by
 intro r x h ha; unfold law15_AcceptorWaits_8 at h
 refine zs 1 h (fun h => ?_) fun h => ?_
 ·
  refine zn 6 h fun h => ?_
  refine zr 2 Msg.enc h fun y3 h => ?_
  refine zn 3 h fun h => ?_
  refine za 0 (eInt .i64) of_ ([y3.Epoch]) ?_
  refine zn 8 h fun h => ?_
  refine za 0 (eInt .i64) at_ ([now]) ?_
  exact zk 2 h ha
 exact zk 1 h ha
theorem law15_AcceptorWaits_7_ok {c l_ up now epoch i x_ k kept node of_ at_ o fuse down b6 b7} : law15_AcceptorWaits_W c l_ (.s7 up now epoch i x_ k kept node of_ at_ o fuse down b6 b7) (law15_AcceptorWaits_7 c l_ up now epoch i x_ k kept node of_ at_ o fuse down b6 b7) := by
 intro r x h ha; unfold law15_AcceptorWaits_7 at h
 refine zn 6 h fun h => ?_
 refine zr 2 Msg.enc h fun y2 h => ?_
 refine zs 3 h (fun h => ?_) fun h => ?_
 ·
  exact zk 15 h ha
 refine zn 4 h fun h => ?_
 refine zr 4 Msg.enc h fun y6 h => ?_
 exact zk 7 h ha
theorem law15_AcceptorWaits_6_ok {c l_ up now epoch i x_ k t132 kept node of_ at_ o fuse down b6 b7} : law15_AcceptorWaits_W c l_ (.s6 up now epoch i x_ k t132 kept node of_ at_ o fuse down b6 b7) (law15_AcceptorWaits_6 c l_ up now epoch i x_ k t132 kept node of_ at_ o fuse down b6 b7) := by
 intro r x h ha; unfold law15_AcceptorWaits_6 at h
 refine zs 1 h (fun h => ?_) fun h => ?_
 ·
  exact zj 7 h ha
 exact zj 9 h ha
theorem law15_AcceptorWaits_9_ok {c l_ up now epoch i x_ k n kept node of_ at_ o fuse down b6 b7} : law15_AcceptorWaits_W c l_ (.s9 up now epoch i x_ k n kept node of_ at_ o fuse down b6 b7) (law15_AcceptorWaits_9 c l_ up now epoch i x_ k n kept node of_ at_ o fuse down b6 b7) := by
 intro r x h ha; unfold law15_AcceptorWaits_9 at h
 refine zs 10 h (fun h => ?_) fun h => ?_
 ·
  refine zn 5 h fun h => ?_
  refine zr 0 (eInt .i64) h fun y3 h => ?_
  refine zs 0 h (fun h => ?_) fun h => ?_
  ·
   refine zn 2 h fun h => ?_
   refine zr 1 (eInt .i64) h fun y7 h => ?_
   refine zn 3 h fun h => ?_
   refine zr 2 Msg.enc h fun y10 h => ?_
   refine zs 2 h (fun h => ?_) fun h => ?_
   ·
    refine zn 3 h fun h => ?_
    refine zr 1 (eInt .i64) h fun y14 h => ?_
    refine zs 10 h (fun h => ?_) fun h => ?_
    ·
     refine zs 6 h (fun h => ?_) fun h => ?_
     ·
      exact zt 5 h ha
     exact zj 8 h ha
    exact zj 14 h ha
   exact zj 27 h ha
  exact zj 38 h ha
 refine zn 5 h fun h => ?_
 refine zr 2 Msg.enc h fun y19 h => ?_
 exact zj 9 h ha
noncomputable def law15_AcceptorWaits (c : Config) (l_ : List Op) : Option Bool := evf (law15_AcceptorWaits_step c l_) (.s0)
theorem law15_AcceptorWaits_ok {c : Config} {l_ : List Op} {r : Bool} (h : law15_AcceptorWaits c l_ = some r) : Sound E 7 [.agg (Config.enc c), .sl false 29 (List.map Op.enc l_)] [] (Rs law15_AcceptorWaits_e r) := sc (fn := Tryd.f7) (k := false) (m := 0) (stM := (law15_AcceptorWaits_M c l_)) h fun s => by
 cases s with
 | s0 => exact law15_AcceptorWaits_0_ok
 | s1 => exact law15_AcceptorWaits_1_ok
 | s2 => exact law15_AcceptorWaits_2_ok
 | s3 => exact law15_AcceptorWaits_3_ok
 | s5 => exact law15_AcceptorWaits_5_ok
 | s4 => exact law15_AcceptorWaits_4_ok
 | s8 => exact law15_AcceptorWaits_8_ok
 | s7 => exact law15_AcceptorWaits_7_ok
 | s6 => exact law15_AcceptorWaits_6_ok
 | s9 => exact law15_AcceptorWaits_9_ok
end Go.RX.L

set_option linter.unusedSimpArgs false
set_option linter.unusedVariables false
set_option maxRecDepth 100000
namespace Go.RX.L
open Go Go.RX Go.Proofs
theorem law15_AcceptorWaits_of_t3 {n : Nat} {ds : List D} (h : wtF Tryd.prog (n + 1) 3 ds) : ∃ x : Int, ds = (eInt .i64) x ∧ inK .i64 x := by
  obtain ⟨m, rfl, o⟩ := wt_int (k := .i64) (by kernel_rfl) h
  exact ⟨m, rfl, o⟩
theorem law15_AcceptorWaits_of_t22 {n : Nat} {ds : List D} (h : wtF Tryd.prog (n + 2) 22 ds) : ∃ x : List Int, ds = (eSl 1 (eInt .i64)) x ∧ (x.length * 8 ≤ reachBytes ∧ ∀ y ∈ x, inK .i64 y) := by
  obtain ⟨rows, rfl, o, w⟩ := wt_slice (n := n + 1) (e := 3) (sz := 1) (by_ := 8) (by kernel_rfl) (by kernel_rfl) (by kernel_rfl) h
  obtain ⟨l, rfl, q⟩ := wt_rows (en := (eInt .i64)) (Ok := fun y => inK .i64 y) (fun r hr => law15_AcceptorWaits_of_t3 (n := n + 0) hr) rows w
  exact ⟨l, rfl, by simpa using o, q⟩
theorem law15_AcceptorWaits_of_t2 {n : Nat} {ds : List D} (h : wtF Tryd.prog (n + 1) 2 ds) : ∃ x : Int, ds = (eInt .i64) x ∧ inK .i64 x := by
  obtain ⟨m, rfl, o⟩ := wt_int (k := .i64) (by kernel_rfl) h
  exact ⟨m, rfl, o⟩
theorem law15_AcceptorWaits_of_t24 {n : Nat} {ds : List D} (h : wtF Tryd.prog (n + 3) 24 ds) : ∃ x : Config, ds = Config.enc x ∧ x.Ok := by
  have h0 := wt_struct (n := n + 2) (ts := [3, 3, 3, 3, 3, 22, 2, 2, 3, 3, 2, 2, 2, 2, 2, 2, 3, 3, 3, 3, 2, 3, 3, 2, 2, 3, 2, 3, 3, 2]) (by kernel_rfl) h
  obtain ⟨a0, b0, rfl, w0, h1⟩ := wtL_cons h0
  obtain ⟨x0, rfl, o0⟩ := law15_AcceptorWaits_of_t3 (n := n + 1) w0
  obtain ⟨a1, b1, rfl, w1, h2⟩ := wtL_cons h1
  obtain ⟨x1, rfl, o1⟩ := law15_AcceptorWaits_of_t3 (n := n + 1) w1
  obtain ⟨a2, b2, rfl, w2, h3⟩ := wtL_cons h2
  obtain ⟨x2, rfl, o2⟩ := law15_AcceptorWaits_of_t3 (n := n + 1) w2
  obtain ⟨a3, b3, rfl, w3, h4⟩ := wtL_cons h3
  obtain ⟨x3, rfl, o3⟩ := law15_AcceptorWaits_of_t3 (n := n + 1) w3
  obtain ⟨a4, b4, rfl, w4, h5⟩ := wtL_cons h4
  obtain ⟨x4, rfl, o4⟩ := law15_AcceptorWaits_of_t3 (n := n + 1) w4
  obtain ⟨a5, b5, rfl, w5, h6⟩ := wtL_cons h5
  obtain ⟨x5, rfl, o5⟩ := law15_AcceptorWaits_of_t22 (n := n + 0) w5
  obtain ⟨a6, b6, rfl, w6, h7⟩ := wtL_cons h6
  obtain ⟨x6, rfl, o6⟩ := law15_AcceptorWaits_of_t2 (n := n + 1) w6
  obtain ⟨a7, b7, rfl, w7, h8⟩ := wtL_cons h7
  obtain ⟨x7, rfl, o7⟩ := law15_AcceptorWaits_of_t2 (n := n + 1) w7
  obtain ⟨a8, b8, rfl, w8, h9⟩ := wtL_cons h8
  obtain ⟨x8, rfl, o8⟩ := law15_AcceptorWaits_of_t3 (n := n + 1) w8
  obtain ⟨a9, b9, rfl, w9, h10⟩ := wtL_cons h9
  obtain ⟨x9, rfl, o9⟩ := law15_AcceptorWaits_of_t3 (n := n + 1) w9
  obtain ⟨a10, b10, rfl, w10, h11⟩ := wtL_cons h10
  obtain ⟨x10, rfl, o10⟩ := law15_AcceptorWaits_of_t2 (n := n + 1) w10
  obtain ⟨a11, b11, rfl, w11, h12⟩ := wtL_cons h11
  obtain ⟨x11, rfl, o11⟩ := law15_AcceptorWaits_of_t2 (n := n + 1) w11
  obtain ⟨a12, b12, rfl, w12, h13⟩ := wtL_cons h12
  obtain ⟨x12, rfl, o12⟩ := law15_AcceptorWaits_of_t2 (n := n + 1) w12
  obtain ⟨a13, b13, rfl, w13, h14⟩ := wtL_cons h13
  obtain ⟨x13, rfl, o13⟩ := law15_AcceptorWaits_of_t2 (n := n + 1) w13
  obtain ⟨a14, b14, rfl, w14, h15⟩ := wtL_cons h14
  obtain ⟨x14, rfl, o14⟩ := law15_AcceptorWaits_of_t2 (n := n + 1) w14
  obtain ⟨a15, b15, rfl, w15, h16⟩ := wtL_cons h15
  obtain ⟨x15, rfl, o15⟩ := law15_AcceptorWaits_of_t2 (n := n + 1) w15
  obtain ⟨a16, b16, rfl, w16, h17⟩ := wtL_cons h16
  obtain ⟨x16, rfl, o16⟩ := law15_AcceptorWaits_of_t3 (n := n + 1) w16
  obtain ⟨a17, b17, rfl, w17, h18⟩ := wtL_cons h17
  obtain ⟨x17, rfl, o17⟩ := law15_AcceptorWaits_of_t3 (n := n + 1) w17
  obtain ⟨a18, b18, rfl, w18, h19⟩ := wtL_cons h18
  obtain ⟨x18, rfl, o18⟩ := law15_AcceptorWaits_of_t3 (n := n + 1) w18
  obtain ⟨a19, b19, rfl, w19, h20⟩ := wtL_cons h19
  obtain ⟨x19, rfl, o19⟩ := law15_AcceptorWaits_of_t3 (n := n + 1) w19
  obtain ⟨a20, b20, rfl, w20, h21⟩ := wtL_cons h20
  obtain ⟨x20, rfl, o20⟩ := law15_AcceptorWaits_of_t2 (n := n + 1) w20
  obtain ⟨a21, b21, rfl, w21, h22⟩ := wtL_cons h21
  obtain ⟨x21, rfl, o21⟩ := law15_AcceptorWaits_of_t3 (n := n + 1) w21
  obtain ⟨a22, b22, rfl, w22, h23⟩ := wtL_cons h22
  obtain ⟨x22, rfl, o22⟩ := law15_AcceptorWaits_of_t3 (n := n + 1) w22
  obtain ⟨a23, b23, rfl, w23, h24⟩ := wtL_cons h23
  obtain ⟨x23, rfl, o23⟩ := law15_AcceptorWaits_of_t2 (n := n + 1) w23
  obtain ⟨a24, b24, rfl, w24, h25⟩ := wtL_cons h24
  obtain ⟨x24, rfl, o24⟩ := law15_AcceptorWaits_of_t2 (n := n + 1) w24
  obtain ⟨a25, b25, rfl, w25, h26⟩ := wtL_cons h25
  obtain ⟨x25, rfl, o25⟩ := law15_AcceptorWaits_of_t3 (n := n + 1) w25
  obtain ⟨a26, b26, rfl, w26, h27⟩ := wtL_cons h26
  obtain ⟨x26, rfl, o26⟩ := law15_AcceptorWaits_of_t2 (n := n + 1) w26
  obtain ⟨a27, b27, rfl, w27, h28⟩ := wtL_cons h27
  obtain ⟨x27, rfl, o27⟩ := law15_AcceptorWaits_of_t3 (n := n + 1) w27
  obtain ⟨a28, b28, rfl, w28, h29⟩ := wtL_cons h28
  obtain ⟨x28, rfl, o28⟩ := law15_AcceptorWaits_of_t3 (n := n + 1) w28
  obtain ⟨a29, b29, rfl, w29, h30⟩ := wtL_cons h29
  obtain ⟨x29, rfl, o29⟩ := law15_AcceptorWaits_of_t2 (n := n + 1) w29
  obtain rfl := wtL_nil h30
  exact ⟨⟨x0, x1, x2, x3, x4, x5, x6, x7, x8, x9, x10, x11, x12, x13, x14, x15, x16, x17, x18, x19, x20, x21, x22, x23, x24, x25, x26, x27, x28, x29⟩, rfl, o0, o1, o2, o3, o4, o5, o6, o7, o8, o9, o10, o11, o12, o13, o14, o15, o16, o17, o18, o19, o20, o21, o22, o23, o24, o25, o26, o27, o28, o29⟩
theorem law15_AcceptorWaits_of_t32 {n : Nat} {ds : List D} (h : wtF Tryd.prog (n + 1) 32 ds) : ∃ x : Int, ds = (eInt .i64) x ∧ inK .i64 x := by
  obtain ⟨m, rfl, o⟩ := wt_int (k := .i64) (by kernel_rfl) h
  exact ⟨m, rfl, o⟩
theorem law15_AcceptorWaits_of_t33 {n : Nat} {ds : List D} (h : wtF Tryd.prog (n + 1) 33 ds) : ∃ x : Int, ds = (eInt .u64) x ∧ inK .u64 x := by
  obtain ⟨m, rfl, o⟩ := wt_int (k := .u64) (by kernel_rfl) h
  exact ⟨m, rfl, o⟩
theorem law15_AcceptorWaits_of_t4 {n : Nat} {ds : List D} (h : wtF Tryd.prog (n + 1) 4 ds) : ∃ x : Bool, ds = eBool x ∧ True := by
  obtain ⟨m, rfl⟩ := wt_bool (by kernel_rfl) h
  exact ⟨m, rfl, trivial⟩
theorem law15_AcceptorWaits_of_t34 {n : Nat} {ds : List D} (h : wtF Tryd.prog (n + 2) 34 ds) : ∃ x : List Int, ds = (eSl 1 (eInt .i64)) x ∧ (x.length * 8 ≤ reachBytes ∧ ∀ y ∈ x, inK .i64 y) := by
  obtain ⟨rows, rfl, o, w⟩ := wt_slice (n := n + 1) (e := 2) (sz := 1) (by_ := 8) (by kernel_rfl) (by kernel_rfl) (by kernel_rfl) h
  obtain ⟨l, rfl, q⟩ := wt_rows (en := (eInt .i64)) (Ok := fun y => inK .i64 y) (fun r hr => law15_AcceptorWaits_of_t2 (n := n + 0) hr) rows w
  exact ⟨l, rfl, by simpa using o, q⟩
theorem law15_AcceptorWaits_of_t36 {n : Nat} {ds : List D} (h : wtF Tryd.prog (n + 3) 36 ds) : ∃ x : Plan, ds = Plan.enc x ∧ x.Ok := by
  have h0 := wt_struct (n := n + 2) (ts := [2, 3, 3, 3, 3, 2, 2, 2, 33, 33, 22, 34]) (by kernel_rfl) h
  obtain ⟨a0, b0, rfl, w0, h1⟩ := wtL_cons h0
  obtain ⟨x0, rfl, o0⟩ := law15_AcceptorWaits_of_t2 (n := n + 1) w0
  obtain ⟨a1, b1, rfl, w1, h2⟩ := wtL_cons h1
  obtain ⟨x1, rfl, o1⟩ := law15_AcceptorWaits_of_t3 (n := n + 1) w1
  obtain ⟨a2, b2, rfl, w2, h3⟩ := wtL_cons h2
  obtain ⟨x2, rfl, o2⟩ := law15_AcceptorWaits_of_t3 (n := n + 1) w2
  obtain ⟨a3, b3, rfl, w3, h4⟩ := wtL_cons h3
  obtain ⟨x3, rfl, o3⟩ := law15_AcceptorWaits_of_t3 (n := n + 1) w3
  obtain ⟨a4, b4, rfl, w4, h5⟩ := wtL_cons h4
  obtain ⟨x4, rfl, o4⟩ := law15_AcceptorWaits_of_t3 (n := n + 1) w4
  obtain ⟨a5, b5, rfl, w5, h6⟩ := wtL_cons h5
  obtain ⟨x5, rfl, o5⟩ := law15_AcceptorWaits_of_t2 (n := n + 1) w5
  obtain ⟨a6, b6, rfl, w6, h7⟩ := wtL_cons h6
  obtain ⟨x6, rfl, o6⟩ := law15_AcceptorWaits_of_t2 (n := n + 1) w6
  obtain ⟨a7, b7, rfl, w7, h8⟩ := wtL_cons h7
  obtain ⟨x7, rfl, o7⟩ := law15_AcceptorWaits_of_t2 (n := n + 1) w7
  obtain ⟨a8, b8, rfl, w8, h9⟩ := wtL_cons h8
  obtain ⟨x8, rfl, o8⟩ := law15_AcceptorWaits_of_t33 (n := n + 1) w8
  obtain ⟨a9, b9, rfl, w9, h10⟩ := wtL_cons h9
  obtain ⟨x9, rfl, o9⟩ := law15_AcceptorWaits_of_t33 (n := n + 1) w9
  obtain ⟨a10, b10, rfl, w10, h11⟩ := wtL_cons h10
  obtain ⟨x10, rfl, o10⟩ := law15_AcceptorWaits_of_t22 (n := n + 0) w10
  obtain ⟨a11, b11, rfl, w11, h12⟩ := wtL_cons h11
  obtain ⟨x11, rfl, o11⟩ := law15_AcceptorWaits_of_t34 (n := n + 0) w11
  obtain rfl := wtL_nil h12
  exact ⟨⟨x0, x1, x2, x3, x4, x5, x6, x7, x8, x9, x10, x11⟩, rfl, o0, o1, o2, o3, o4, o5, o6, o7, o8, o9, o10, o11⟩
theorem law15_AcceptorWaits_of_t5 {n : Nat} {ds : List D} (h : wtF Tryd.prog (n + 1) 5 ds) : ∃ x : Int, ds = (eInt .u8) x ∧ inK .u8 x := by
  obtain ⟨m, rfl, o⟩ := wt_int (k := .u8) (by kernel_rfl) h
  exact ⟨m, rfl, o⟩
theorem law15_AcceptorWaits_of_t37 {n : Nat} {ds : List D} (h : wtF Tryd.prog (n + 2) 37 ds) : ∃ x : List Int, ds = (eSl 1 (eInt .u8)) x ∧ (x.length * 1 ≤ reachBytes ∧ ∀ y ∈ x, inK .u8 y) := by
  obtain ⟨rows, rfl, o, w⟩ := wt_slice (n := n + 1) (e := 5) (sz := 1) (by_ := 1) (by kernel_rfl) (by kernel_rfl) (by kernel_rfl) h
  obtain ⟨l, rfl, q⟩ := wt_rows (en := (eInt .u8)) (Ok := fun y => inK .u8 y) (fun r hr => law15_AcceptorWaits_of_t5 (n := n + 0) hr) rows w
  exact ⟨l, rfl, by simpa using o, q⟩
theorem law15_AcceptorWaits_of_t39 {n : Nat} {ds : List D} (h : wtF Tryd.prog (n + 4) 39 ds) : ∃ x : Msg, ds = Msg.enc x ∧ x.Ok := by
  have h0 := wt_struct (n := n + 3) (ts := [32, 3, 3, 2, 2, 2, 2, 2, 33, 3, 4, 36, 34, 37, 37]) (by kernel_rfl) h
  obtain ⟨a0, b0, rfl, w0, h1⟩ := wtL_cons h0
  obtain ⟨x0, rfl, o0⟩ := law15_AcceptorWaits_of_t32 (n := n + 2) w0
  obtain ⟨a1, b1, rfl, w1, h2⟩ := wtL_cons h1
  obtain ⟨x1, rfl, o1⟩ := law15_AcceptorWaits_of_t3 (n := n + 2) w1
  obtain ⟨a2, b2, rfl, w2, h3⟩ := wtL_cons h2
  obtain ⟨x2, rfl, o2⟩ := law15_AcceptorWaits_of_t3 (n := n + 2) w2
  obtain ⟨a3, b3, rfl, w3, h4⟩ := wtL_cons h3
  obtain ⟨x3, rfl, o3⟩ := law15_AcceptorWaits_of_t2 (n := n + 2) w3
  obtain ⟨a4, b4, rfl, w4, h5⟩ := wtL_cons h4
  obtain ⟨x4, rfl, o4⟩ := law15_AcceptorWaits_of_t2 (n := n + 2) w4
  obtain ⟨a5, b5, rfl, w5, h6⟩ := wtL_cons h5
  obtain ⟨x5, rfl, o5⟩ := law15_AcceptorWaits_of_t2 (n := n + 2) w5
  obtain ⟨a6, b6, rfl, w6, h7⟩ := wtL_cons h6
  obtain ⟨x6, rfl, o6⟩ := law15_AcceptorWaits_of_t2 (n := n + 2) w6
  obtain ⟨a7, b7, rfl, w7, h8⟩ := wtL_cons h7
  obtain ⟨x7, rfl, o7⟩ := law15_AcceptorWaits_of_t2 (n := n + 2) w7
  obtain ⟨a8, b8, rfl, w8, h9⟩ := wtL_cons h8
  obtain ⟨x8, rfl, o8⟩ := law15_AcceptorWaits_of_t33 (n := n + 2) w8
  obtain ⟨a9, b9, rfl, w9, h10⟩ := wtL_cons h9
  obtain ⟨x9, rfl, o9⟩ := law15_AcceptorWaits_of_t3 (n := n + 2) w9
  obtain ⟨a10, b10, rfl, w10, h11⟩ := wtL_cons h10
  obtain ⟨x10, rfl, o10⟩ := law15_AcceptorWaits_of_t4 (n := n + 2) w10
  obtain ⟨a11, b11, rfl, w11, h12⟩ := wtL_cons h11
  obtain ⟨x11, rfl, o11⟩ := law15_AcceptorWaits_of_t36 (n := n + 0) w11
  obtain ⟨a12, b12, rfl, w12, h13⟩ := wtL_cons h12
  obtain ⟨x12, rfl, o12⟩ := law15_AcceptorWaits_of_t34 (n := n + 1) w12
  obtain ⟨a13, b13, rfl, w13, h14⟩ := wtL_cons h13
  obtain ⟨x13, rfl, o13⟩ := law15_AcceptorWaits_of_t37 (n := n + 1) w13
  obtain ⟨a14, b14, rfl, w14, h15⟩ := wtL_cons h14
  obtain ⟨x14, rfl, o14⟩ := law15_AcceptorWaits_of_t37 (n := n + 1) w14
  obtain rfl := wtL_nil h15
  exact ⟨⟨x0, x1, x2, x3, x4, x5, x6, x7, x8, x9, x10, x11, x12, x13, x14⟩, rfl, o0, o1, o2, o3, o4, o5, o6, o7, o8, o9, o10, o11, o12, o13, o14⟩
theorem law15_AcceptorWaits_of_t41 {n : Nat} {ds : List D} (h : wtF Tryd.prog (n + 5) 41 ds) : ∃ x : Op, ds = Op.enc x ∧ x.Ok := by
  have h0 := wt_struct (n := n + 4) (ts := [3, 39, 2, 3]) (by kernel_rfl) h
  obtain ⟨a0, b0, rfl, w0, h1⟩ := wtL_cons h0
  obtain ⟨x0, rfl, o0⟩ := law15_AcceptorWaits_of_t3 (n := n + 3) w0
  obtain ⟨a1, b1, rfl, w1, h2⟩ := wtL_cons h1
  obtain ⟨x1, rfl, o1⟩ := law15_AcceptorWaits_of_t39 (n := n + 0) w1
  obtain ⟨a2, b2, rfl, w2, h3⟩ := wtL_cons h2
  obtain ⟨x2, rfl, o2⟩ := law15_AcceptorWaits_of_t2 (n := n + 3) w2
  obtain ⟨a3, b3, rfl, w3, h4⟩ := wtL_cons h3
  obtain ⟨x3, rfl, o3⟩ := law15_AcceptorWaits_of_t3 (n := n + 3) w3
  obtain rfl := wtL_nil h4
  exact ⟨⟨x0, x1, x2, x3⟩, rfl, o0, o1, o2, o3⟩
theorem law15_AcceptorWaits_of_t25 {n : Nat} {ds : List D} (h : wtF Tryd.prog (n + 6) 25 ds) : ∃ x : List Op, ds = (eSl 29 Op.enc) x ∧ (x.length * 312 ≤ reachBytes ∧ ∀ y ∈ x, y.Ok) := by
  obtain ⟨rows, rfl, o, w⟩ := wt_slice (n := n + 5) (e := 41) (sz := 29) (by_ := 312) (by kernel_rfl) (by kernel_rfl) (by kernel_rfl) h
  obtain ⟨l, rfl, q⟩ := wt_rows (en := Op.enc) (Ok := fun y => y.Ok) (fun r hr => law15_AcceptorWaits_of_t41 (n := n + 0) hr) rows w
  exact ⟨l, rfl, by simpa using o, q⟩
theorem law15_AcceptorWaits_sound (H : ∀ (c : Config) (l_ : List Op), c.Ok → (l_.length * 312 ≤ reachBytes ∧ ∀ y ∈ l_, y.Ok) → law15_AcceptorWaits c l_ = some true) : ∀ xs, wtA Tryd.prog Tryd.f7.params.toList xs → Sound E 7 xs [] fun d _ => d = .bool true := by
  intro xs h
  have h0 : wtA Tryd.prog [24, 25] xs := h
  obtain ⟨d0, r0, rfl, w0, h1⟩ := wtA_cons h0
  obtain ⟨c0, rfl, v0⟩ := wtP_agg (by kernel_rfl) w0
  obtain ⟨x0, rfl, o0⟩ := law15_AcceptorWaits_of_t24 (n := 3) v0
  obtain ⟨d1, r1, rfl, w1, h2⟩ := wtA_cons h1
  have v1 := wtP_flat (by kernel_rfl) w1
  obtain ⟨x1, e1, o1⟩ := law15_AcceptorWaits_of_t25 (n := 0) v1
  obtain ⟨rfl, -⟩ := List.cons.inj e1
  obtain rfl := wtA_nil h2
  exact (law15_AcceptorWaits_ok (H x0 x1 o0 o1)).mono fun d s h => h.1
end Go.RX.L

set_option linter.unusedSimpArgs false
set_option linter.unusedVariables false
set_option maxRecDepth 100000
namespace Go.RX.L
open Go Go.RX
def wk (k : keptT) (m : Msg) : Prop := (m.Kind = 5 ∧ k.epoch ≤ m.Epoch ∧ 1 ≤ m.Epoch) ∨ m.Kind = 8 ∨ (m.Kind = 11 ∧ ((m.Code = 1 ∧ k.epoch ≤ m.Epoch ∧ 1 ≤ m.Epoch) ∨ m.Code = 2))
theorem fits.wk {k : keptT} {m : Msg} (h : fits k m) : wk k m := by
  rcases h with ⟨a1, a2, a3, a4, a5⟩ | ⟨a1, -⟩ | ⟨a1, a2⟩
  · exact .inl ⟨a1, by omega, a3⟩
  · exact .inr (.inl a1)
  · exact .inr (.inr ⟨a1, a2⟩)
theorem wk_epoch {k : keptT} {m : Msg} (h : wk k m) : k.epoch ≤ (takeK k m).epoch := by
  unfold takeK
  rcases h with ⟨a1, a2, a3⟩ | a1 | ⟨a1, a2⟩
  · rw [if_pos a1]; split <;> exact a2
  · rw [if_neg (by omega), if_pos a1]; exact Int.le_refl _
  · rw [if_neg (by omega), if_neg (by omega), if_pos a1]; split <;> exact Int.le_refl _
theorem wk_has {k : keptT} {m : Msg} (h : wk k m) (hk : KOk k) {v : Int} (hv : (takeK k m).epoch ≤ v) (hh : k.epoch ≤ v → hasS k.writes v) : hasS (takeK k m).writes v := by
  have he := wk_epoch h
  obtain ⟨b1, b2, b3⟩ := hh (by omega)
  have lo := hk.lo
  revert hv
  unfold takeK
  rcases h with ⟨a1, a2, a3⟩ | a1 | ⟨a1, a2⟩
  · rw [if_pos a1]
    split
    · exact fun _ => ⟨b1, b2, b3⟩
    · intro hv
      simp only at hv
      simp only [fromS]
      rw [if_neg (by omega)]
      unfold hasS
      simp only [mxI]
      split <;> omega
  · rw [if_neg (by omega), if_pos a1]; exact fun _ => ⟨b1, b2, b3⟩
  · rw [if_neg (by omega), if_neg (by omega), if_pos a1]
    split
    · exact fun _ => ⟨b1, b2, b3⟩
    · rename_i hc
      obtain ⟨-, c1, c2⟩ := a2.resolve_right hc
      intro _
      simp only [withS, if_neg b1]
      unfold hasS
      simp only [mnI, mxI]
      split <;> split <;> omega
theorem with_has {k : keptT} (hk : KOk k) {v : Int} (hv : 1 ≤ v) : hasS (withS k.writes v) v := by
  have lo := hk.lo
  unfold withS hasS
  split
  · simp only; omega
  · simp only [mnI, mxI]
    split <;> split <;> omega
/-- What was granted. -/
structure WInv (c : Config) (a : AS) (now ep : Int) (of_ at_ : List Int) (i : Nat) : Prop where
  nn : 0 ≤ now ∧ now ≤ 1099511627776
  len : of_.length = at_.length
  li : of_.length ≤ i
  e0 : 0 ≤ ep
  er : ep ≤ (replay c a.rs).epoch
  eu : a.down = false → ep = a.k.epoch
  wa : a.down = false → 0 ≤ a.k.writes.at_ ∧ a.k.writes.at_ ≤ now
  gr : ∀ p ∈ of_.zip at_, 0 ≤ p.2 ∧ p.2 ≤ now ∧ ((replay c a.rs).epoch ≤ p.1 → hasS (replay c a.rs).writes p.1) ∧ (a.down = false → p.2 ≤ a.k.writes.at_)
section
variable {c : Config} {a a' : AS} {now now' ep : Int} {of_ at_ : List Int} {i j : Nat}
theorem WInv.later (h : WInv c a now ep of_ at_ i) (hn : now ≤ now' ∧ now' ≤ 1099511627776) : WInv c a now' ep of_ at_ i := by
  obtain ⟨h1, h2, h3, h4, h5, h6, h7, h8⟩ := h
  refine ⟨by omega, h2, h3, h4, h5, h6, fun hd => ?_, fun p hp => ?_⟩
  · have := h7 hd; omega
  · obtain ⟨g1, g2, g3, g4⟩ := h8 p hp
    exact ⟨g1, by omega, g3, g4⟩
theorem WInv.more (h : WInv c a now ep of_ at_ i) (hn : i ≤ j) : WInv c a now ep of_ at_ j := { h with li := by have := h.li; omega }
theorem WInv.fall (h : WInv c a now ep of_ at_ i) (ok : AOk_ c a) (hd : a'.down = true) (hs : a'.rs = a.rs ∨ ∃ m, fits (replay c a.rs) m ∧ a'.rs = a.rs ++ [m]) : WInv c a' now ep of_ at_ i := by
  have nd : a'.down = false → False := fun h => by rw [hd] at h; cases h
  obtain ⟨h1, h2, h3, h4, h5, h6, h7, h8⟩ := h
  rcases hs with e | ⟨m, hm, e⟩
  · exact ⟨h1, h2, h3, h4, by rw [e]; exact h5, fun h => (nd h).elim, fun h => (nd h).elim, fun p hp => by
      obtain ⟨g1, g2, g3, g4⟩ := h8 p hp
      exact ⟨g1, g2, by rw [e]; exact g3, fun h => (nd h).elim⟩⟩
  · have hw := hm.wk
    have he := wk_epoch hw
    exact ⟨h1, h2, h3, h4, by rw [e, replay_app]; omega, fun h => (nd h).elim, fun h => (nd h).elim, fun p hp => by
      obtain ⟨g1, g2, g3, g4⟩ := h8 p hp
      exact ⟨g1, g2, by rw [e, replay_app]; exact fun hv => wk_has hw ok.r hv g3, fun h => (nd h).elim⟩⟩
theorem WInv.grow (h : WInv c a now ep of_ at_ i) (ok : AOk_ c a) (hd : a.down = false) {m : Msg} (hm : wk (replay c a.rs) m) (e : a'.rs = a.rs ++ [m]) {ep' : Int} (he : ep' = a'.k.epoch) (he' : a'.k.epoch = (takeK (replay c a.rs) m).epoch) (hw : a'.k.writes.at_ = a.k.writes.at_ ∨ a'.k.writes.at_ = now) : WInv c a' now ep' of_ at_ i := by
  obtain ⟨h1, h2, h3, h4, h5, h6, h7, h8⟩ := h
  have hwe := wk_epoch hm
  have h7' := h7 hd
  refine ⟨h1, h2, h3, by omega, by rw [e, replay_app]; omega, fun _ => he, fun _ => by omega, fun p hp => ?_⟩
  obtain ⟨g1, g2, g3, g4⟩ := h8 p hp
  have g4 := g4 hd
  exact ⟨g1, g2, by rw [e, replay_app]; exact fun hv => wk_has hm ok.r hv g3, fun _ => by omega⟩
theorem WInv.same (h : WInv c a now ep of_ at_ i) (hd : a.down = false) (e : a'.rs = a.rs) (he : a'.k.epoch = a.k.epoch) (hw : a'.k.writes.at_ = a.k.writes.at_ ∨ a'.k.writes.at_ = now) : WInv c a' now ep of_ at_ i := by
  obtain ⟨h1, h2, h3, h4, h5, h6, h7, h8⟩ := h
  have h7' := h7 hd
  refine ⟨h1, h2, h3, h4, by rw [e]; exact h5, fun _ => by rw [he]; exact h6 hd, fun _ => by omega, fun p hp => ?_⟩
  obtain ⟨g1, g2, g3, g4⟩ := h8 p hp
  have g4 := g4 hd
  exact ⟨g1, g2, by rw [e]; exact g3, fun _ => by omega⟩
theorem WInv.grant (h : WInv c a now ep of_ at_ i) (hd : a.down = false) (hw : a.k.writes.at_ = now) {v : Int} (hv : hasS (replay c a.rs).writes v) : WInv c a now ep (of_ ++ [v]) (at_ ++ [now]) (i + 1) := by
  obtain ⟨h1, h2, h3, h4, h5, h6, h7, h8⟩ := h
  refine ⟨h1, by simp [h2], by simp; omega, h4, h5, h6, h7, fun p hp => ?_⟩
  rw [List.zip_append h2] at hp
  rcases List.mem_append.1 hp with hp | hp
  · exact h8 p hp
  · simp only [List.zip_cons_cons, List.zip_nil_right, List.mem_singleton] at hp
    subst hp
    exact ⟨h1.1, Int.le_refl _, fun _ => hv, fun _ => by rw [hw]; exact Int.le_refl _⟩
theorem winv_c (h : WInv c a now ep of_ at_ i) (ok : AOk_ c a) (hd : a'.down = true) (hs : CStep a a') : WInv c a' now ep of_ at_ i := by
  refine h.fall ok hd ?_
  cases hs with
  | none => exact .inl rfl
  | one hp => exact .inr ⟨_, (ok.pd _ hp).2, rfl⟩
theorem winv_r (h : WInv c a now ep of_ at_ i) (ok : AOk_ c a) (hs : RStep c a now a') : WInv c a' now (mxI ep a'.k.epoch) of_ at_ i := by
  cases hs with
  | up =>
    obtain ⟨h1, h2, h3, h4, h5, h6, h7, h8⟩ := h
    have e : mxI ep (upAt now (replay c a.rs)).epoch = (replay c a.rs).epoch := by
      have : (upAt now (replay c a.rs)).epoch = (replay c a.rs).epoch := rfl
      rw [this]; unfold mxI; split <;> omega
    refine ⟨h1, h2, h3, ?_, ?_, fun _ => e, fun _ => ⟨h1.1, Int.le_refl _⟩, fun p hp => ?_⟩
    · simp only [e]; omega
    · simp only [e]; exact Int.le_refl _
    · obtain ⟨g1, g2, g3, g4⟩ := h8 p hp
      exact ⟨g1, g2, g3, fun _ => g2⟩
  | fail =>
    have e : mxI ep (kept0 c).epoch = ep := by
      have : (kept0 c).epoch = 0 := rfl
      have := h.e0
      unfold mxI; split <;> omega
    simp only [e]
    exact h.fall ok rfl (.inl rfl)
theorem winv_nil {node : Int} {m : Msg} {t : Int} (h : WInv c a now ep of_ at_ i) (ok : AOk_ c a) (hs : HStep c node a m t [] a') : WInv c a' now ep of_ at_ i := by
  rcases hnil hs with rfl | ⟨hd, hd', hk, -⟩ | ⟨hd, -, hk, -, w, v, e⟩
  · exact h
  · exact h.fall ok hd' (.inl hk)
  · exact h.same hd hk (by rw [e]) (.inl (by rw [e]))
theorem takeP_at (k : keptT) (m : Msg) (p : Plan) : (takeK k (recP m p)).writes.at_ = k.writes.at_ := by
  unfold takeK recP
  simp only [if_true]
  split
  · rfl
  · unfold fromS; split <;> rfl
/-- What is told of an answer. -/
inductive WSaid (c : Config) (a : AS) (m y : Msg) (a' : AS) (now ep : Int) (of_ at_ : List Int) (i : Nat) : Prop
  | skip : (y.Kind ≠ 11 ∨ y.Code ≠ 1) → y.Kind ≠ 5 → WInv c a' now ep of_ at_ i → WSaid c a m y a' now ep of_ at_ i
  | write : y.Kind = 11 → y.Code = 1 → WInv c a' now ep (of_ ++ [y.Epoch]) (at_ ++ [now]) (i + 1) → WSaid c a m y a' now ep of_ at_ i
  | old : y.Kind = 5 → y.Epoch ≤ ep → WInv c a' now ep of_ at_ i → WSaid c a m y a' now ep of_ at_ i
  | prom : y.Kind = 5 → ep < y.Epoch → WInv c a' now y.Epoch of_ at_ i → (∀ p ∈ of_.zip at_, ep ≤ p.1 → p.1 < y.Epoch → IntKind.i64.wrap (now - p.2) < IntKind.i64.wrap (c.L_ + c.M_) → m.Code = 1) → WSaid c a m y a' now ep of_ at_ i
theorem said_w (hr : rightC c = true) {node : Int} {m y : Msg} (hd : a.down = false) (ok : AOk_ c a) (hi : WInv c a now ep of_ at_ i) (h : Said c node a m now y a') : WSaid c a m y a' now ep of_ at_ i := by
  have sim := ok.up hd
  have hep := hi.eu hd
  cases h with
  | dec h => exact .skip (.inl (by simp [dec_])) (by simp [dec_]) (hi.same hd rfl rfl (.inl rfl))
  | nack h e => exact .skip (.inl (by simp [nack_])) (by simp [nack_]) (hi.same hd rfl rfl (.inl rfl))
  | prom p h4 h1 h2 h3 h5 =>
    have hw : wk (replay c a.rs) (recP m p) := by
      refine .inl ⟨rfl, ?_, h1⟩
      rw [← sim.epoch]
      show a.k.epoch ≤ m.Epoch
      rcases h5 with h | h <;> omega
    have g : WInv c ⟨a.rs ++ [recP m p], none, takeK a.k (recP m p), false⟩ now m.Epoch of_ at_ i := hi.grow ok hd hw rfl promT.1.symm (by rw [promT.1, promT.1]) (.inl (takeP_at _ _ _))
    by_cases hlt : ep < m.Epoch
    · refine .prom rfl hlt g fun p' hp h6 h7 h8 => ?_
      rcases h5 with ⟨h9, -, hne⟩ | ⟨h9, -⟩
      · have he : (replay c a.rs).epoch = a.k.epoch := sim.epoch.symm
        obtain ⟨b1, b2, b3, b4⟩ := hi.gr p' hp
        obtain ⟨c1, c2, c3⟩ := b3 (by omega)
        rw [← sim.low] at c1 c2
        have b4 := b4 hd
        obtain ⟨w1, w2⟩ := hi.wa hd
        obtain ⟨n1, n2⟩ := hi.nn
        obtain ⟨-, ⟨l1, l2⟩, ⟨l3, l4⟩, -⟩ := rightC_b hr
        rw [wI64 (n := now - p'.2) (by omega) (by omega), wI64 (n := c.L_ + c.M_) (by omega) (by omega)] at h8
        have hE : earlyB c a.k.writes.at_ now = true := by
          unfold earlyB
          rw [wI64 (n := now - a.k.writes.at_) (by omega) (by omega), wI64 (n := c.L_ + c.M_) (by omega) (by omega)]
          exact decide_eq_true (by omega)
        have h7' : p'.1 < m.Epoch := h7
        by_cases hc : m.Code = 1
        · exact hc
        · exact absurd ⟨c1, by omega, hE, hc⟩ hne
      · omega
    · have e : ep = m.Epoch := by rcases h5 with h | h <;> omega
      exact .old rfl (by show m.Epoch ≤ ep; omega) (by rw [e]; exact g)
  | acc h7 h1 h2 h3 h4 h5 h6 =>
    exact .skip (.inl (by simp [acc_])) (by simp [acc_]) (hi.grow ok hd (.inr (.inl rfl)) rfl (by rw [accT.1]; exact hep) (by rw [accT.1, accT.1]; exact sim.epoch) (.inl (by unfold takeK recA; simp)))
  | write k' rs' h10 hc1 h1 h2 h3 =>
    have key : WInv c ⟨rs', none, atW now k', false⟩ now ep of_ at_ i ∧ hasS (replay c rs').writes m.Epoch := by
      rcases h3 with ⟨hh, rfl, rfl⟩ | ⟨hh, rfl, rfl⟩
      · refine ⟨hi.same hd rfl rfl (.inr rfl), ?_⟩
        obtain ⟨x1, x2, x3⟩ := hh
        exact ⟨by rw [← sim.low]; exact x1, by rw [← sim.low]; exact x2, by rw [← sim.high]; exact x3⟩
      · have hw : wk (replay c a.rs) (recL m) := .inr (.inr ⟨rfl, .inl ⟨hc1, by rw [← sim.epoch]; simp only [recL, if_pos hc1]; exact h1, by simp only [recL, if_pos hc1]; exact h2⟩⟩)
        have he : ∀ k : keptT, (takeK k (recL m)).epoch = k.epoch ∧ (takeK k (recL m)).writes = withS k.writes m.Epoch := fun k => by
          unfold takeK recL
          simp [hc1]
        refine ⟨hi.grow ok hd hw rfl (by show ep = (takeK a.k (recL m)).epoch; rw [(he _).1]; exact hep) (by show (takeK a.k (recL m)).epoch = _; rw [(he _).1, (he _).1]; exact sim.epoch) (.inr rfl), ?_⟩
        rw [replay_app, (he _).2]
        exact with_has ok.r h2
    exact .write rfl hc1 (key.1.grant rfl rfl key.2)
  | lead k' rs' h10 hc1 h3 =>
    refine .skip (.inr (by simp [lease_, hc1])) (by simp [lease_]) ?_
    rcases h3 with ⟨-, -, rfl, rfl⟩ | ⟨-, -, rfl, rfl⟩
    · exact hi.same hd rfl rfl (.inl rfl)
    · have he : ∀ k : keptT, (takeK k (recL m)).epoch = k.epoch ∧ (takeK k (recL m)).writes = k.writes := fun k => by
        unfold takeK recL
        simp [hc1]
      exact hi.grow (m := recL m) ok hd (.inr (.inr ⟨rfl, .inr hc1⟩)) rfl (by show ep = (takeK a.k (recL m)).epoch; rw [(he _).1]; exact hep) (by show (takeK a.k (recL m)).epoch = _; rw [(he _).1, (he _).1]; exact sim.epoch) (.inl (by show (takeK a.k (recL m)).writes.at_ = _; rw [(he _).2]))
end
theorem mxmnW {now x : Int} (h : 0 ≤ now ∧ now ≤ 1099511627776) : now ≤ mxI now (mnI x 1099511627776) ∧ mxI now (mnI x 1099511627776) ≤ 1099511627776 := by
  unfold mxI mnI; split <;> split <;> omega
theorem acceptorWaits (c : Config) (l_ : List Op) (hc : c.Ok) (hl : l_.length * 312 ≤ reachBytes ∧ ∀ y ∈ l_, y.Ok) : law15_AcceptorWaits c l_ = some true := by
  have ht := cfg_len hc
  have hnew := new_ok (c := c) (node := 1) ht
  by_cases hr : ¬ rightC c = true
  · rw [if_neg (fun h => hr h.1)] at hnew
    exact evf_of (.next (s' := .s1 true) (by simp only [law15_AcceptorWaits_step, law15_AcceptorWaits_0, head15_ok, hnew, Option.bind_some]) (.done rfl))
  rw [Classical.not_not] at hr
  rw [if_pos ⟨hr, by decide, by decide⟩] at hnew
  refine evf_of (.next (s' := .s2 true (kept0 c) 1 (-1) false [] []) (by simp only [law15_AcceptorWaits_step, law15_AcceptorWaits_0, head15_ok, hnew, Option.bind_some]) ?_)
  by_cases hg : ¬ l_.length ≤ 150
  · exact .done (by simp only [law15_AcceptorWaits_step, law15_AcceptorWaits_2, great_ok, great_b, Option.bind_some, hg, decide_false, Bool.not_false, cond_true])
  rw [Classical.not_not] at hg
  refine .next (s' := .s3 true 0 0 ((0 : Nat) : Int) (kept0 c) 1 [] [] (-1) false [] []) (by simp only [law15_AcceptorWaits_step, law15_AcceptorWaits_2, great_ok, great_b, Option.bind_some, hg, decide_true, Bool.not_true, cond_false]; rfl) ?_
  have g1 : ∀ y : Msg, decide ((0 : Int) < (((List.map Msg.enc [y]).length : Nat) : Int)) = true := fun y => rfl
  have g6 : ∀ y : Msg, decide ((0 : Int) < ((([y]).length : Nat) : Int)) = true := fun y => rfl
  have g2 : ∀ y : Msg, decide ((1 : Int) < (((List.map Msg.enc [y]).length : Nat) : Int)) = false := fun y => rfl
  have g3 : decide ((0 : Int) < (((List.map Msg.enc []).length : Nat) : Int)) = false := rfl
  have g4 : decide ((0 : Int) ≤ 0) = true := rfl
  have g5 : ∀ y : Msg, ([y])[(0 : Int).toNat]? = some y := fun y => rfl
  have loop : ∀ (j i : Nat) (a : AS) (fuse : Int) (s t : List Int) (now ep : Int) (of_ at_ : List Int), i + j = l_.length → Rep c a fuse s t (4408 * i) → WInv c a now ep of_ at_ i → Ev (law15_AcceptorWaits_step c l_) (.s3 true now ep (i : Int) a.k 1 of_ at_ fuse a.down s t) true := by
    intro j
    induction j with
    | zero =>
      intro i a fuse s t now ep of_ at_ hi h hx
      exact .done (by simp only [law15_AcceptorWaits_step, law15_AcceptorWaits_3, nlt (show l_.length ≤ i by omega), cond_false])
    | succ j ih =>
      intro i a fuse s t now ep of_ at_ hi h hx
      have hlt : i < l_.length := by omega
      have o := hl.2 _ (List.getElem_mem hlt)
      obtain ⟨-, om, -, oN⟩ := o
      have fm := om.fine
      have w := wS1 (show i ≤ 150 by omega)
      have hx := hx.later (mxmnW (x := (l_[i]).Now) hx.nn)
      generalize hN : mxI now (mnI (l_[i]).Now 1099511627776) = nw at hx
      by_cases h1 : andI .i64 (l_[i]).What 3 = 1
      · obtain ⟨he, hrep⟩ := rep_fuse h oN
        refine .next (s' := .s5 true nw ep (i : Int) a.k 1 of_ at_ (l_[i]) (mxI (l_[i]).N_ (-1)) a.down s t) ?_ (.next (s' := .s3 true nw ep ((i + 1 : Nat) : Int) a.k 1 of_ at_ (mxI (l_[i]).N_ (-1)) a.down s t) ?_ (ih (i + 1) a _ s t nw ep of_ at_ (by omega) (hrep.mono (by omega)) (hx.more (by omega))))
        · simp only [law15_AcceptorWaits_step, law15_AcceptorWaits_3, olt hlt, cond_true, cond_false, le0, Bool.and_self, Int.toNat_natCast, List.getE hlt, Option.bind_some, h1, b10, beq_self_eq_true, Acceptor_Journal, he, hN]
        · simp only [law15_AcceptorWaits_step, law15_AcceptorWaits_5, h1, n10, cond_true, w]
      by_cases h2 : andI .i64 (l_[i]).What 3 = 2
      · obtain ⟨a', s', he, hd, hk, hrep, hst⟩ := rep_crash (keep := (l_[i]).N_) h (by omega)
        refine .next (s' := .s5 true nw ep (i : Int) a'.k 1 of_ at_ (l_[i]) (-1) a'.down s' []) ?_ (.next (s' := .s3 true nw ep ((i + 1 : Nat) : Int) a'.k 1 of_ at_ (-1) a'.down s' []) ?_ (ih (i + 1) a' _ s' [] nw ep of_ at_ (by omega) (hrep.mono (by omega)) ((winv_c hx h.ok hd hst).more (by omega))))
        · simp only [law15_AcceptorWaits_step, law15_AcceptorWaits_3, olt hlt, cond_true, cond_false, le0, Bool.and_self, Int.toNat_natCast, List.getE hlt, Option.bind_some, h2, b20, b21, beq_self_eq_true, Acceptor_Journal, he, hd, hk, hN]
        · simp only [law15_AcceptorWaits_step, law15_AcceptorWaits_5, h2, n20, cond_true, w]
      by_cases h3 : andI .i64 (l_[i]).What 3 = 3
      · obtain ⟨e0, a', fuse', s', he, hrep, hst, -⟩ := rep_restart (node := 1) (now := nw) h hr ht (by omega)
        refine .next (s' := .s5 true nw (mxI ep a'.k.epoch) (i : Int) a'.k 1 of_ at_ (l_[i]) fuse' a'.down s' []) ?_ (.next (s' := .s3 true nw (mxI ep a'.k.epoch) ((i + 1 : Nat) : Int) a'.k 1 of_ at_ fuse' a'.down s' []) ?_ (ih (i + 1) a' _ s' [] nw _ of_ at_ (by omega) (hrep.mono (by omega)) ((winv_r hx h.ok hst).more (by omega))))
        · simp only [law15_AcceptorWaits_step, law15_AcceptorWaits_3, olt hlt, cond_true, cond_false, le0, Bool.and_self, Int.toNat_natCast, List.getE hlt, Option.bind_some, h3, b30, b31, b32, beq_self_eq_true, hN, he, Acceptor_State]
        · simp only [law15_AcceptorWaits_step, law15_AcceptorWaits_5, h3, n30, cond_true, w]
      refine .next (s' := .s5 true nw ep (i : Int) a.k 1 of_ at_ (l_[i]) fuse a.down s t) (by simp only [law15_AcceptorWaits_step, law15_AcceptorWaits_3, olt hlt, cond_true, cond_false, le0, Bool.and_self, Int.toNat_natCast, List.getE hlt, Option.bind_some, beqF h1, beqF h2, beqF h3, hN]) ?_
      by_cases h0 : ¬ andI .i64 (l_[i]).What 3 = 0
      · exact .next (s' := .s3 true nw ep ((i + 1 : Nat) : Int) a.k 1 of_ at_ fuse a.down s t) (by simp only [law15_AcceptorWaits_step, law15_AcceptorWaits_5, bneT h0, cond_true, w]) (ih (i + 1) a _ s t nw ep of_ at_ (by omega) (h.mono (by omega)) (hx.more (by omega)))
      rw [Classical.not_not] at h0
      obtain ⟨out, a', fuse', s', t', he, hrep, hst⟩ := rep_handle (node := 1) (now := nw) h fm (by omega)
      refine .next (s' := .s4 true nw ep (i : Int) out 0 a'.k 1 of_ at_ (l_[i]) fuse' a'.down s' t') (by simp only [law15_AcceptorWaits_step, law15_AcceptorWaits_5, h0, bne_self_eq_false, cond_false, he, Option.bind_some]) ?_
      have rest := fun ep of_ at_ hx' => ih (i + 1) a' fuse' s' t' nw ep of_ at_ (by omega) (hrep.mono (by omega)) hx'
      rcases hsaid hst with ⟨rfl, h2⟩ | ⟨y, rfl, hd, hv, hs⟩
      · exact .next (s' := .s3 true nw ep ((i + 1 : Nat) : Int) a'.k 1 of_ at_ fuse' a'.down s' t') (by simp only [law15_AcceptorWaits_step, law15_AcceptorWaits_4, g3, cond_false, w]) (rest ep of_ at_ ((winv_nil hx h.ok h2).more (by omega)))
      have last : ∀ ep of_ at_, WInv c a' nw ep of_ at_ (i + 1) → Ev (law15_AcceptorWaits_step c l_) (.s4 true nw ep (i : Int) [y] 1 a'.k 1 of_ at_ (l_[i]) fuse' a'.down s' t') true := fun ep of_ at_ hx' =>
        .next (s' := .s3 true nw ep ((i + 1 : Nat) : Int) a'.k 1 of_ at_ fuse' a'.down s' t') (by simp only [law15_AcceptorWaits_step, law15_AcceptorWaits_4, g2, cond_false, w]) (rest ep of_ at_ hx')
      have skip7 : ∀ of_ at_, (y.Kind ≠ 5 ∨ y.Epoch ≤ ep) → WInv c a' nw ep of_ at_ (i + 1) → Ev (law15_AcceptorWaits_step c l_) (.s7 true nw ep (i : Int) [y] 0 a'.k 1 of_ at_ (l_[i]) fuse' a'.down s' t') true := fun of_ at_ hk hx' => by
        refine .next (s' := .s6 true nw ep (i : Int) [y] 0 true a'.k 1 of_ at_ (l_[i]) fuse' a'.down s' t') ?_ (.next (s' := .s4 true nw ep (i : Int) [y] 1 a'.k 1 of_ at_ (l_[i]) fuse' a'.down s' t') (by simp only [law15_AcceptorWaits_step, law15_AcceptorWaits_6, cond_true, w01]) (last ep of_ at_ hx'))
        simp only [law15_AcceptorWaits_step, law15_AcceptorWaits_7, g1, g6, g4, g5, cond_true, cond_false, Bool.and_self, Option.bind_some]
        by_cases h5 : y.Kind = 5
        · have := hk.resolve_left (fun h => h h5)
          rw [h5]
          simp only [bne_self_eq_false, cond_false, decide_eq_true this]
        · simp only [bneT h5, cond_true]
      have skip8 : (y.Kind ≠ 11 ∨ y.Code ≠ 1) → Ev (law15_AcceptorWaits_step c l_) (.s7 true nw ep (i : Int) [y] 0 a'.k 1 of_ at_ (l_[i]) fuse' a'.down s' t') true → Ev (law15_AcceptorWaits_step c l_) (.s4 true nw ep (i : Int) [y] 0 a'.k 1 of_ at_ (l_[i]) fuse' a'.down s' t') true := fun hk hE => by
        refine .next (s' := .s8 true nw ep (i : Int) [y] 0 false a'.k 1 of_ at_ (l_[i]) fuse' a'.down s' t') ?_ (.next (s' := .s7 true nw ep (i : Int) [y] 0 a'.k 1 of_ at_ (l_[i]) fuse' a'.down s' t') (by simp only [law15_AcceptorWaits_step, law15_AcceptorWaits_8, cond_false]) hE)
        simp only [law15_AcceptorWaits_step, law15_AcceptorWaits_4, g1, g6, g4, g5, cond_true, cond_false, Bool.and_self, Option.bind_some]
        by_cases h11 : y.Kind = 11
        · have := hk.resolve_left (fun h => h h11)
          rw [h11]
          simp only [beq_self_eq_true, cond_true, beqF this]
        · simp only [beqF h11, cond_false]
      rcases said_w hr hd h.ok hx hs with ⟨k1, k5, hx'⟩ | ⟨k11, kc, hx'⟩ | ⟨k5, hle, hx'⟩ | ⟨k5, hgt, hx', hall⟩
      · exact skip8 k1 (skip7 of_ at_ (.inl k5) (hx'.more (by omega)))
      · refine .next (s' := .s8 true nw ep (i : Int) [y] 0 true a'.k 1 of_ at_ (l_[i]) fuse' a'.down s' t') (by simp only [law15_AcceptorWaits_step, law15_AcceptorWaits_4, g1, g6, g4, g5, cond_true, cond_false, Bool.and_self, Option.bind_some, k11, kc, beq_self_eq_true]) ?_
        refine .next (s' := .s7 true nw ep (i : Int) [y] 0 a'.k 1 (of_ ++ [y.Epoch]) (at_ ++ [nw]) (l_[i]) fuse' a'.down s' t') ?_ (skip7 _ _ (.inl (by rw [k11]; decide)) hx')
        have li := hx.li
        have len := hx.len
        have m1 : decide ((of_.length + 1) * 8 ≤ bytesLim) = true := limOk (by omega)
        have m2 : decide ((at_.length + 1) * 8 ≤ bytesLim) = true := limOk (by omega)
        simp only [law15_AcceptorWaits_step, law15_AcceptorWaits_8, g1, g6, g4, g5, cond_true, cond_false, Bool.and_self, Option.bind_some, List.length_map, m1, m2]
      · exact skip8 (.inl (by rw [k5]; decide)) (skip7 of_ at_ (.inr hle) (hx'.more (by omega)))
      · refine skip8 (.inl (by rw [k5]; decide)) ?_
        refine .next (s' := .s6 true nw ep (i : Int) [y] 0 false a'.k 1 of_ at_ (l_[i]) fuse' a'.down s' t') (by simp only [law15_AcceptorWaits_step, law15_AcceptorWaits_7, g1, g6, g4, g5, cond_true, cond_false, Bool.and_self, Option.bind_some, k5, bne_self_eq_false, decide_eq_false (show ¬ y.Epoch ≤ ep by omega)]) ?_
        refine .next (s' := .s9 true nw ep (i : Int) [y] 0 ((0 : Nat) : Int) a'.k 1 of_ at_ (l_[i]) fuse' a'.down s' t') (by simp only [law15_AcceptorWaits_step, law15_AcceptorWaits_6, cond_false]; rfl) ?_
        have inner : ∀ (q n : Nat), n + q = of_.length → Ev (law15_AcceptorWaits_step c l_) (.s9 true nw ep (i : Int) [y] 0 (n : Int) a'.k 1 of_ at_ (l_[i]) fuse' a'.down s' t') true := by
          intro q
          induction q with
          | zero =>
            intro n hn
            have : decide ((n : Int) < ((of_.length : Nat) : Int)) = false := by simp; omega
            exact .next (s' := .s4 true nw y.Epoch (i : Int) [y] 1 a'.k 1 of_ at_ (l_[i]) fuse' a'.down s' t') (by simp only [law15_AcceptorWaits_step, law15_AcceptorWaits_9, List.length_map, this, g1, g6, g4, g5, cond_true, cond_false, Bool.and_self, Option.bind_some, w01]) (last y.Epoch of_ at_ (hx'.more (by omega)))
          | succ q ihq =>
            intro n hn
            have hlo : n < of_.length := by omega
            have hla : n < at_.length := by have := hx.len; omega
            have li := hx.li
            have wn : IntKind.i64.wrap ((n : Int) + 1) = ((n + 1 : Nat) : Int) := wS1 (by omega)
            have hmem : (of_[n], at_[n]) ∈ of_.zip at_ := by
              have : (of_.zip at_)[n]'(by simp; omega) = (of_[n], at_[n]) := by simp
              rw [← this]; exact List.getElem_mem _
            have hc1 := hall _ hmem
            simp only at hc1
            refine .next (s' := .s9 true nw ep (i : Int) [y] 0 ((n + 1 : Nat) : Int) a'.k 1 of_ at_ (l_[i]) fuse' a'.down s' t') ?_ (ihq (n + 1) (by omega))
            simp only [law15_AcceptorWaits_step, law15_AcceptorWaits_9, List.length_map, ltB hlo, ltB hla, le0, g1, g6, g4, g5, cond_true, cond_false, Bool.and_self, Option.bind_some, Int.toNat_natCast, Nat.zero_add, List.getE hlo, List.getE hla, wn]
            by_cases q1 : of_[n] ≥ ep
            · by_cases q2 : of_[n] < y.Epoch
              · by_cases q3 : IntKind.i64.wrap (nw - at_[n]) < IntKind.i64.wrap (c.L_ + c.M_)
                · have := hc1 q1 q2 q3
                  simp only [decide_eq_true q1, decide_eq_true q2, decide_eq_true q3, cond_true, this, bne_self_eq_false, cond_false]
                · simp only [decide_eq_true q1, decide_eq_true q2, decide_eq_false q3, cond_true, cond_false]
              · simp only [decide_eq_true q1, decide_eq_false q2, cond_true, cond_false]
            · simp only [decide_eq_false q1, cond_false]
        exact inner of_.length 0 (by omega)
  exact loop l_.length 0 (a0 c) (-1) [] [] 0 0 [] [] (by omega) (rep_new hr) ⟨by decide, rfl, by simp, by decide, by simp [a0, replay, kept0], fun _ => rfl, fun _ => by simp [a0, kept0], fun p hp => by simp at hp⟩
end Go.RX.L
