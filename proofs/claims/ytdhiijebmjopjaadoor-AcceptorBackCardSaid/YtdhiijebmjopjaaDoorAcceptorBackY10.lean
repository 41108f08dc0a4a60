/-
  Words and walks for AcceptorBack. No condition.
-/
import Derived.Test.YtdhiijebmjopjaaDoorAcceptorBackY9
set_option linter.unusedSectionVars false
set_option linter.unnecessarySimpa false
set_option linter.unusedSimpArgs false
set_option linter.unusedVariables false
set_option maxRecDepth 100000
set_option maxHeartbeats 4000000
namespace Go.RX.L
open Go Go.RX Go.Proofs
attribute [local irreducible] FinQ
noncomputable def law15_AcceptorBack_c := codeAt (bodyOf Tryd.f8)
noncomputable def law15_AcceptorBack_e (y : Bool) : D × Sto := (.bool y, [])
inductive law15_AcceptorBack_S where
 | s0
 | s1 (up : Bool)
 | s2 (up : Bool) (kept : keptT) (node : Int) (fuse : Int) (down : Bool) (b2 : List Int) (b3 : List Int)
 | s3 (up : Bool) (i : Int) (kept : keptT) (node : Int) (fuse : Int) (down : Bool) (b2 : List Int) (b3 : List Int)
 | s4 (up : Bool) (e : Int) (p_ : Int) (q : Int) (t95 : Bool) (kept : keptT) (node : Int) (x_ : Plan) (fuse : Int) (down : Bool) (b3 : List Int) (b4 : List Int)
noncomputable def law15_AcceptorBack_M (c : Config) (l_ : List Op) (now : Int) : law15_AcceptorBack_S → M
 | .s0 => startM Tryd.f8 [.agg [.int .i64 c.F_, .int .i64 c.Deciders, .int .i64 c.Targets, .int .i64 c.Routers, .int .i64 c.Observers, .sl false 1 (List.map (eInt .i64) c.Tiers), .int .i64 c.Every, .int .i64 c.Wait, .int .i64 c.Rise, .int .i64 c.Fall, .int .i64 c.Fresh, .int .i64 c.L_, .int .i64 c.M_, .int .i64 c.Dwell, .int .i64 c.D_, .int .i64 c.W_, .int .i64 c.B_, .int .i64 c.Hit, .int .i64 c.Suppress, .int .i64 c.Reuse, .int .i64 c.Half, .int .i64 c.First, .int .i64 c.Step, .int .i64 c.StepTime, .int .i64 c.S_, .int .i64 c.Cap, .int .i64 c.Span, .int .i64 c.Room, .int .i64 c.Tries, .int .i64 c.Retry], .sl false 29 (List.map Op.enc l_), .int .i64 now] []
 | .s1 up => ⟨[.code (law15_AcceptorBack_c [1, 1, 1])], [(1, .sl false 29 (List.map Op.enc l_)), (2, .int .i64 now), (7, .bool up), (8, .nilp)], []⟩
 | .s2 up kept node fuse down b2 b3 => ⟨[.code (law15_AcceptorBack_c [1, 1, 1])], [(1, .sl false 29 (List.map Op.enc l_)), (2, .int .i64 now), (7, .bool up), (8, .ptr 0 0 0)], [some ⟨67, true, [[.int .i64 kept.epoch, .int .i64 kept.known.Epoch, .int .i64 kept.known.Target, .int .i64 kept.known.Prev, .int .i64 kept.known.Spill, .int .i64 kept.known.Percent, .int .i64 kept.known.Stamp, .int .i64 kept.known.Since, .int .i64 kept.known.Ramped, .int .u64 kept.known.Up, .int .u64 kept.known.Sup, .sl false 1 (List.map (eInt .i64) kept.known.Pen), .sl false 1 (List.map (eInt .i64) kept.known.Changes), .int .i64 kept.promised, .int .i64 kept.accepted, .int .i64 kept.plan.Epoch, .int .i64 kept.plan.Target, .int .i64 kept.plan.Prev, .int .i64 kept.plan.Spill, .int .i64 kept.plan.Percent, .int .i64 kept.plan.Stamp, .int .i64 kept.plan.Since, .int .i64 kept.plan.Ramped, .int .u64 kept.plan.Up, .int .u64 kept.plan.Sup, .sl false 1 (List.map (eInt .i64) kept.plan.Pen), .sl false 1 (List.map (eInt .i64) kept.plan.Changes), .int .i64 kept.writes.low, .int .i64 kept.writes.high, .int .i64 kept.writes.at_, .int .i64 kept.wish, .int .i64 kept.wishAt, .bool kept.lead.is_, .int .i64 kept.lead.who, .int .i64 kept.lead.at_, .int .i64 c.F_, .int .i64 c.Deciders, .int .i64 c.Targets, .int .i64 c.Routers, .int .i64 c.Observers, .sl false 1 (List.map (eInt .i64) c.Tiers), .int .i64 c.Every, .int .i64 c.Wait, .int .i64 c.Rise, .int .i64 c.Fall, .int .i64 c.Fresh, .int .i64 c.L_, .int .i64 c.M_, .int .i64 c.Dwell, .int .i64 c.D_, .int .i64 c.W_, .int .i64 c.B_, .int .i64 c.Hit, .int .i64 c.Suppress, .int .i64 c.Reuse, .int .i64 c.Half, .int .i64 c.First, .int .i64 c.Step, .int .i64 c.StepTime, .int .i64 c.S_, .int .i64 c.Cap, .int .i64 c.Span, .int .i64 c.Room, .int .i64 c.Tries, .int .i64 c.Retry, .int .i64 node, .ptr 1 0 0]]⟩, some ⟨4, true, [[.msl 2 0 ((List.map (eInt .u8) b2).length) ((List.map (eInt .u8) b2).length) false, .msl 3 0 ((List.map (eInt .u8) b3).length) ((List.map (eInt .u8) b3).length) false, .int .i64 fuse, .bool down]]⟩, some ⟨1, false, (List.map (eInt .u8) b2)⟩, some ⟨1, false, (List.map (eInt .u8) b3)⟩]⟩
 | .s3 up i kept node fuse down b2 b3 => ⟨[.lpc (law15_AcceptorBack_c [1, 1, 1, 1, 0, 1, 0, 0]) 902, .blk 0, .code (law15_AcceptorBack_c [1, 1, 1, 1, 1])], [(1, .sl false 29 (List.map Op.enc l_)), (2, .int .i64 now), (7, .bool up), (8, .ptr 0 0 0), (9, .int .i64 i)], [some ⟨67, true, [[.int .i64 kept.epoch, .int .i64 kept.known.Epoch, .int .i64 kept.known.Target, .int .i64 kept.known.Prev, .int .i64 kept.known.Spill, .int .i64 kept.known.Percent, .int .i64 kept.known.Stamp, .int .i64 kept.known.Since, .int .i64 kept.known.Ramped, .int .u64 kept.known.Up, .int .u64 kept.known.Sup, .sl false 1 (List.map (eInt .i64) kept.known.Pen), .sl false 1 (List.map (eInt .i64) kept.known.Changes), .int .i64 kept.promised, .int .i64 kept.accepted, .int .i64 kept.plan.Epoch, .int .i64 kept.plan.Target, .int .i64 kept.plan.Prev, .int .i64 kept.plan.Spill, .int .i64 kept.plan.Percent, .int .i64 kept.plan.Stamp, .int .i64 kept.plan.Since, .int .i64 kept.plan.Ramped, .int .u64 kept.plan.Up, .int .u64 kept.plan.Sup, .sl false 1 (List.map (eInt .i64) kept.plan.Pen), .sl false 1 (List.map (eInt .i64) kept.plan.Changes), .int .i64 kept.writes.low, .int .i64 kept.writes.high, .int .i64 kept.writes.at_, .int .i64 kept.wish, .int .i64 kept.wishAt, .bool kept.lead.is_, .int .i64 kept.lead.who, .int .i64 kept.lead.at_, .int .i64 c.F_, .int .i64 c.Deciders, .int .i64 c.Targets, .int .i64 c.Routers, .int .i64 c.Observers, .sl false 1 (List.map (eInt .i64) c.Tiers), .int .i64 c.Every, .int .i64 c.Wait, .int .i64 c.Rise, .int .i64 c.Fall, .int .i64 c.Fresh, .int .i64 c.L_, .int .i64 c.M_, .int .i64 c.Dwell, .int .i64 c.D_, .int .i64 c.W_, .int .i64 c.B_, .int .i64 c.Hit, .int .i64 c.Suppress, .int .i64 c.Reuse, .int .i64 c.Half, .int .i64 c.First, .int .i64 c.Step, .int .i64 c.StepTime, .int .i64 c.S_, .int .i64 c.Cap, .int .i64 c.Span, .int .i64 c.Room, .int .i64 c.Tries, .int .i64 c.Retry, .int .i64 node, .ptr 1 0 0]]⟩, some ⟨4, true, [[.msl 2 0 ((List.map (eInt .u8) b2).length) ((List.map (eInt .u8) b2).length) false, .msl 3 0 ((List.map (eInt .u8) b3).length) ((List.map (eInt .u8) b3).length) false, .int .i64 fuse, .bool down]]⟩, some ⟨1, false, (List.map (eInt .u8) b2)⟩, some ⟨1, false, (List.map (eInt .u8) b3)⟩]⟩
 | .s4 up e p_ q t95 kept node x_ fuse down b3 b4 => ⟨[.code (law15_AcceptorBack_c [1, 1, 1, 1, 1, 1, 1, 1, 0, 1]), .code (law15_AcceptorBack_c [1, 1, 1, 1, 1, 1, 1, 1, 1])], [(7, .bool up), (8, .ptr 0 0 0), (11, .int .i64 e), (12, .int .i64 p_), (13, .int .i64 q), (14, .ptr 1 0 0), (95, .bool t95)], [some ⟨67, true, [[.int .i64 kept.epoch, .int .i64 kept.known.Epoch, .int .i64 kept.known.Target, .int .i64 kept.known.Prev, .int .i64 kept.known.Spill, .int .i64 kept.known.Percent, .int .i64 kept.known.Stamp, .int .i64 kept.known.Since, .int .i64 kept.known.Ramped, .int .u64 kept.known.Up, .int .u64 kept.known.Sup, .sl false 1 (List.map (eInt .i64) kept.known.Pen), .sl false 1 (List.map (eInt .i64) kept.known.Changes), .int .i64 kept.promised, .int .i64 kept.accepted, .int .i64 kept.plan.Epoch, .int .i64 kept.plan.Target, .int .i64 kept.plan.Prev, .int .i64 kept.plan.Spill, .int .i64 kept.plan.Percent, .int .i64 kept.plan.Stamp, .int .i64 kept.plan.Since, .int .i64 kept.plan.Ramped, .int .u64 kept.plan.Up, .int .u64 kept.plan.Sup, .sl false 1 (List.map (eInt .i64) kept.plan.Pen), .sl false 1 (List.map (eInt .i64) kept.plan.Changes), .int .i64 kept.writes.low, .int .i64 kept.writes.high, .int .i64 kept.writes.at_, .int .i64 kept.wish, .int .i64 kept.wishAt, .bool kept.lead.is_, .int .i64 kept.lead.who, .int .i64 kept.lead.at_, .int .i64 c.F_, .int .i64 c.Deciders, .int .i64 c.Targets, .int .i64 c.Routers, .int .i64 c.Observers, .sl false 1 (List.map (eInt .i64) c.Tiers), .int .i64 c.Every, .int .i64 c.Wait, .int .i64 c.Rise, .int .i64 c.Fall, .int .i64 c.Fresh, .int .i64 c.L_, .int .i64 c.M_, .int .i64 c.Dwell, .int .i64 c.D_, .int .i64 c.W_, .int .i64 c.B_, .int .i64 c.Hit, .int .i64 c.Suppress, .int .i64 c.Reuse, .int .i64 c.Half, .int .i64 c.First, .int .i64 c.Step, .int .i64 c.StepTime, .int .i64 c.S_, .int .i64 c.Cap, .int .i64 c.Span, .int .i64 c.Room, .int .i64 c.Tries, .int .i64 c.Retry, .int .i64 node, .ptr 2 0 0]]⟩, some ⟨12, false, [[.int .i64 x_.Epoch, .int .i64 x_.Target, .int .i64 x_.Prev, .int .i64 x_.Spill, .int .i64 x_.Percent, .int .i64 x_.Stamp, .int .i64 x_.Since, .int .i64 x_.Ramped, .int .u64 x_.Up, .int .u64 x_.Sup, .sl false 1 (List.map (eInt .i64) x_.Pen), .sl false 1 (List.map (eInt .i64) x_.Changes)]]⟩, some ⟨4, true, [[.msl 3 0 ((List.map (eInt .u8) b3).length) ((List.map (eInt .u8) b3).length) false, .msl 4 0 ((List.map (eInt .u8) b4).length) ((List.map (eInt .u8) b4).length) false, .int .i64 fuse, .bool down]]⟩, some ⟨1, false, (List.map (eInt .u8) b3)⟩, some ⟨1, false, (List.map (eInt .u8) b4)⟩]⟩
abbrev law15_AcceptorBack_W (c : Config) (l_ : List Op) (now : Int) := SOk E (Cx.of Tryd.f8 false 0) law15_AcceptorBack_e (law15_AcceptorBack_M c l_ now)
noncomputable def law15_AcceptorBack_0 (c : Config) (l_ : List Op) (now : Int) : Option (law15_AcceptorBack_S ⊕ Bool) := ((law15_head ).bind fun y1 => ((acceptor_New c 1).bind fun y2 => match y2 with | .r0 => (some (.inl (.s1 y1))) | .r1 y2a0 y2a1 y2a2 y2a3 y2a4 => (some (.inl (.s2 y1 y2a0 1 y2a1 y2a2 y2a3 y2a4)))))
noncomputable def law15_AcceptorBack_1 (c : Config) (l_ : List Op) (now : Int) (up : Bool) : Option (law15_AcceptorBack_S ⊕ Bool) := (some (.inr up))
noncomputable def law15_AcceptorBack_2 (c : Config) (l_ : List Op) (now : Int) (up : Bool) (kept : keptT) (node : Int) (fuse : Int) (down : Bool) (b2 : List Int) (b3 : List Int) : Option (law15_AcceptorBack_S ⊕ Bool) := ((law15_Great l_).bind fun y1 => (bif y1 then (some (.inr up)) else (some (.inl (.s3 up 0 kept node fuse down b2 b3)))))
noncomputable def law15_AcceptorBack_3 (c : Config) (l_ : List Op) (now : Int) (up : Bool) (i : Int) (kept : keptT) (node : Int) (fuse : Int) (down : Bool) (b2 : List Int) (b3 : List Int) : Option (law15_AcceptorBack_S ⊕ Bool) := (bif (decide ((i : Int) < (((List.map Op.enc l_).length : Nat) : Int))) then (bif ((decide ((0 : Int) ≤ i)) && (decide ((i : Int) < (((List.map Op.enc l_).length : Nat) : Int)))) then (((l_)[i.toNat]?).bind fun y3 => (bif (((andI .i64 y3.What 3) : Int) == 0) then ((Acceptor_Handle y3.M_ y3.Now kept c node fuse down b2 b3).bind fun y6 => (some (.inl (.s3 up (IntKind.i64.wrap (i + 1)) y6.2.1 node y6.2.2.1 y6.2.2.2.1 y6.2.2.2.2.1 y6.2.2.2.2.2)))) else (bif (((andI .i64 y3.What 3) : Int) == 1) then ((Acceptor_Journal kept c node fuse down b2 b3).bind fun y8 => ((Journal_Fuse y3.N_ fuse down b2 b3).bind fun y9 => (some (.inl (.s3 up (IntKind.i64.wrap (i + 1)) kept node y9 down b2 b3))))) else (bif (((andI .i64 y3.What 3) : Int) == 2) then ((Acceptor_Journal kept c node fuse down b2 b3).bind fun y11 => ((Journal_Crash y3.N_ fuse down b2 b3).bind fun y12 => (some (.inl (.s3 up (IntKind.i64.wrap (i + 1)) kept node y12.1 y12.2.1 y12.2.2.1 y12.2.2.2))))) else (bif (((andI .i64 y3.What 3) : Int) == 3) then ((law15_time y3.Now).bind fun y14 => ((Acceptor_Restart y14 kept c node fuse down b2 b3).bind fun y15 => (some (.inl (.s3 up (IntKind.i64.wrap (i + 1)) y15.2.1 node y15.2.2.1 y15.2.2.2.1 y15.2.2.2.2.1 y15.2.2.2.2.2))))) else (some (.inl (.s3 up (IntKind.i64.wrap (i + 1)) kept node fuse down b2 b3)))))))) else none) else ((Acceptor_Journal kept c node fuse down b2 b3).bind fun y16 => ((Journal_Down (⟨b2, b3, fuse, down⟩ : Journal)).bind fun y17 => (bif y17 then (some (.inr up)) else ((Acceptor_State kept c node fuse down b2 b3).bind fun y19 => ((Acceptor_Journal kept c node fuse down b2 b3).bind fun y20 => ((Journal_Crash 0 fuse down b2 b3).bind fun y21 => ((Acceptor_Handle (⟨10, 0, 0, 1099511627776, 0, 0, 0, 0, 0, 1, false, (⟨0, 0, 0, 0, 0, 0, 0, 0, 0, 0, [], []⟩ : Plan), [], [], []⟩ : Msg) 5 kept c node y21.1 y21.2.1 y21.2.2.1 y21.2.2.2).bind fun y22 => (bif (((((List.map Msg.enc y22.1).length : Nat) : Int) : Int) != 0) then (some (.inl (.s4 up y19.1 y19.2.1 y19.2.2.1 true y22.2.1 node y19.2.2.2 y22.2.2.1 y22.2.2.2.1 y22.2.2.2.2.1 y22.2.2.2.2.2))) else ((Acceptor_Restart now y22.2.1 c node y22.2.2.1 y22.2.2.2.1 y22.2.2.2.2.1 y22.2.2.2.2.2).bind fun y24 => (some (.inl (.s4 up y19.1 y19.2.1 y19.2.2.1 ((y24.1 : Int) != 0) y24.2.1 node y19.2.2.2 y24.2.2.1 y24.2.2.2.1 y24.2.2.2.2.1 y24.2.2.2.2.2)))))))))))))
noncomputable def law15_AcceptorBack_4 (c : Config) (l_ : List Op) (now : Int) (up : Bool) (e : Int) (p_ : Int) (q : Int) (t95 : Bool) (kept : keptT) (node : Int) (x_ : Plan) (fuse : Int) (down : Bool) (b3 : List Int) (b4 : List Int) : Option (law15_AcceptorBack_S ⊕ Bool) := (bif t95 then (some (.inr false)) else ((Acceptor_State kept c node fuse down b3 b4).bind fun y2 => (bif up then (bif ((e : Int) == y2.1) then (bif ((p_ : Int) == y2.2.1) then (bif ((q : Int) == y2.2.2.1) then ((ref04_Same x_ y2.2.2.2).bind fun y7 => (some (.inr y7))) else (some (.inr false))) else (some (.inr false))) else (some (.inr false))) else (some (.inr false)))))
noncomputable def law15_AcceptorBack_step (c : Config) (l_ : List Op) (now : Int) : law15_AcceptorBack_S → Option (law15_AcceptorBack_S ⊕ Bool)
 | .s0 => law15_AcceptorBack_0 c l_ now
 | .s1 up => law15_AcceptorBack_1 c l_ now up
 | .s2 up kept node fuse down b2 b3 => law15_AcceptorBack_2 c l_ now up kept node fuse down b2 b3
 | .s3 up i kept node fuse down b2 b3 => law15_AcceptorBack_3 c l_ now up i kept node fuse down b2 b3
 | .s4 up e p_ q t95 kept node x_ fuse down b3 b4 => law15_AcceptorBack_4 c l_ now up e p_ q t95 kept node x_ fuse down b3 b4
theorem law15_AcceptorBack_0_ok {c l_ now} : law15_AcceptorBack_W c l_ now .s0 (law15_AcceptorBack_0 c l_ now) := by
 intro r x h ha; unfold law15_AcceptorBack_0 at h
 refine zc 8 [] h (fun _ => law15_head_ok) fun y1 h => ?_
 refine zc 7 [] h (fun _ => acceptor_New_ok) fun y2 h => ?_
 cases y2 with
 | r0 =>
  dsimp only at h
  exact zk 2 h ha
 | r1 y2a0 y2a1 y2a2 y2a3 y2a4 =>
  dsimp only at h
  exact zk 2 h ha
theorem law15_AcceptorBack_1_ok {c l_ now up} : law15_AcceptorBack_W c l_ now (.s1 up) (law15_AcceptorBack_1 c l_ now up) := by
 intro r x h ha; unfold law15_AcceptorBack_1 at h
 exact zt 21 h ha
theorem law15_AcceptorBack_2_ok {c l_ now up kept node fuse down b2 b3} : law15_AcceptorBack_W c l_ now (.s2 up kept node fuse down b2 b3) (law15_AcceptorBack_2 c l_ now up kept node fuse down b2 b3) := by
 intro r x h ha; unfold law15_AcceptorBack_2 at h
 refine zc 10 [] h (fun _ => law15_Great_ok) fun y1 h => ?_
 refine zs 4 h (fun h => ?_) fun h => ?_
 ·
  exact zt 6 h ha
 exact zj 9 h ha
theorem law15_AcceptorBack_3_ok {c l_ now up i kept node fuse down b2 b3} : law15_AcceptorBack_W c l_ now (.s3 up i kept node fuse down b2 b3) (law15_AcceptorBack_3 c l_ now up i kept node fuse down b2 b3) := by
 intro r x h ha; unfold law15_AcceptorBack_3 at h
 refine zs 10 h (fun h => ?_) fun h => ?_
 ·
  refine zn 8 h fun h => ?_
  refine zr 1 Op.enc h fun y3 h => ?_
  refine zs 19 h (fun h => ?_) fun h => ?_
  ·
   refine zc 9 [] h (fun _ => Acceptor_Handle_ok) fun y6 h => ?_
   exact zj 9 h ha
  refine zs 6 h (fun h => ?_) fun h => ?_
  ·
   refine zdR 1 [] h (fun _ => Acceptor_Journal_ok) fun y8 h => ?_
   refine zc 1 [] h (fun _ => Journal_Fuse_ok) fun y9 h => ?_
   exact zj 8 h ha
  refine zs 6 h (fun h => ?_) fun h => ?_
  ·
   refine zdR 1 [] h (fun _ => Acceptor_Journal_ok) fun y11 h => ?_
   refine zc 1 [] h (fun _ => Journal_Crash_ok) fun y12 h => ?_
   exact zj 8 h ha
  refine zs 6 h (fun h => ?_) fun h => ?_
  ·
   refine zc 6 [] h (fun _ => law15_time_ok) fun y14 h => ?_
   refine zc 1 [] h (fun _ => Acceptor_Restart_ok) fun y15 h => ?_
   exact zj 9 h ha
  exact zj 9 h ha
 refine zc 6 [] h (fun _ => Acceptor_Journal_ok) fun y16 h => ?_
 refine zm 1 (b := (Nat.ble (0 + (List.map (eInt .u8) b2).length) ((List.map (eInt .u8) b2).length))) (ble_full _) ?_
 refine zm 0 (b := (Nat.ble (0 + (List.map (eInt .u8) b3).length) ((List.map (eInt .u8) b3).length))) (ble_full _) ?_
 refine zcE 0 [] (args1 := [.iptr 4 [[.sl false 1 (List.take ((List.map (eInt .u8) b2).length) (List.drop 0 (List.map (eInt .u8) b2))), .sl false 1 (List.take ((List.map (eInt .u8) b3).length) (List.drop 0 (List.map (eInt .u8) b3))), .int .i64 fuse, .bool down]] 0 0]) h (fun _ => Journal_Down_ok) ⟨by simp [List.take_of_length_le, List.map_take, List.map_drop], rfl⟩ fun y17 h => ?_
 refine zs 2 h (fun h => ?_) fun h => ?_
 ·
  exact zt 6 h ha
 refine zc 5 [] h (fun _ => Acceptor_State_ok) fun y19 h => ?_
 refine zc 17 [] h (fun _ => Acceptor_Journal_ok) fun y20 h => ?_
 refine zc 1 [] h (fun _ => Journal_Crash_ok) fun y21 h => ?_
 refine zc 7 [some 1, some 1, some 1, some 1, some 1] h (fun _ => Acceptor_Handle_ok) fun y22 h => ?_
 refine zs 4 h (fun h => ?_) fun h => ?_
 ·
  exact zk 9 h ha
 refine zc 4 [] h (fun _ => Acceptor_Restart_ok) fun y24 h => ?_
 exact zk 5 h ha
theorem law15_AcceptorBack_4_ok {c l_ now up e p_ q t95 kept node x_ fuse down b3 b4} : law15_AcceptorBack_W c l_ now (.s4 up e p_ q t95 kept node x_ fuse down b3 b4) (law15_AcceptorBack_4 c l_ now up e p_ q t95 kept node x_ fuse down b3 b4) := by
 intro r x h ha; unfold law15_AcceptorBack_4 at h
 refine zs 1 h (fun h => ?_) fun h => ?_
 ·
  exact zt 5 h ha
 refine zc 5 [] h (fun _ => Acceptor_State_ok) fun y2 h => ?_
 refine zs 18 h (fun h => ?_) fun h => ?_
 ·
  refine zs 8 h (fun h => ?_) fun h => ?_
  ·
   refine zs 8 h (fun h => ?_) fun h => ?_
   ·
    refine zs 8 h (fun h => ?_) fun h => ?_
    ·
     refine zc 6 [] h (fun _ => ref04_Same_ok) fun y7 h => ?_
     exact zt 5 h ha
    exact zt 9 h ha
   exact zt 18 h ha
  exact zt 27 h ha
 exact zt 36 h ha
noncomputable def law15_AcceptorBack (c : Config) (l_ : List Op) (now : Int) : Option Bool := evf (law15_AcceptorBack_step c l_ now) (.s0)
theorem law15_AcceptorBack_ok {c : Config} {l_ : List Op} {now : Int} {r : Bool} (h : law15_AcceptorBack c l_ now = some r) : Sound E 8 [.agg [.int .i64 c.F_, .int .i64 c.Deciders, .int .i64 c.Targets, .int .i64 c.Routers, .int .i64 c.Observers, .sl false 1 (List.map (eInt .i64) c.Tiers), .int .i64 c.Every, .int .i64 c.Wait, .int .i64 c.Rise, .int .i64 c.Fall, .int .i64 c.Fresh, .int .i64 c.L_, .int .i64 c.M_, .int .i64 c.Dwell, .int .i64 c.D_, .int .i64 c.W_, .int .i64 c.B_, .int .i64 c.Hit, .int .i64 c.Suppress, .int .i64 c.Reuse, .int .i64 c.Half, .int .i64 c.First, .int .i64 c.Step, .int .i64 c.StepTime, .int .i64 c.S_, .int .i64 c.Cap, .int .i64 c.Span, .int .i64 c.Room, .int .i64 c.Tries, .int .i64 c.Retry], .sl false 29 (List.map Op.enc l_), .int .i64 now] [] (Rs law15_AcceptorBack_e r) := sc (fn := Tryd.f8) (k := false) (m := 0) (stM := (law15_AcceptorBack_M c l_ now)) h fun s => by
 cases s with
 | s0 => exact law15_AcceptorBack_0_ok
 | s1 => exact law15_AcceptorBack_1_ok
 | s2 => exact law15_AcceptorBack_2_ok
 | s3 => exact law15_AcceptorBack_3_ok
 | s4 => exact law15_AcceptorBack_4_ok
end Go.RX.L

set_option linter.unusedSimpArgs false
set_option linter.unusedVariables false
set_option maxRecDepth 100000
namespace Go.RX.L
open Go Go.RX Go.Proofs
theorem law15_AcceptorBack_of_t3 {n : Nat} {ds : List D} (h : wtF Tryd.prog (n + 1) 3 ds) : ∃ x : Int, ds = (eInt .i64) x ∧ inK .i64 x := by
  obtain ⟨m, rfl, o⟩ := wt_int (k := .i64) (by kernel_rfl) h
  exact ⟨m, rfl, o⟩
theorem law15_AcceptorBack_of_t22 {n : Nat} {ds : List D} (h : wtF Tryd.prog (n + 2) 22 ds) : ∃ x : List Int, ds = (eSl 1 (eInt .i64)) x ∧ (x.length * 8 ≤ reachBytes ∧ ∀ y ∈ x, inK .i64 y) := by
  obtain ⟨rows, rfl, o, w⟩ := wt_slice (n := n + 1) (e := 3) (sz := 1) (by_ := 8) (by kernel_rfl) (by kernel_rfl) (by kernel_rfl) h
  obtain ⟨l, rfl, q⟩ := wt_rows (en := (eInt .i64)) (Ok := fun y => inK .i64 y) (fun r hr => law15_AcceptorBack_of_t3 (n := n + 0) hr) rows w
  exact ⟨l, rfl, by simpa using o, q⟩
theorem law15_AcceptorBack_of_t2 {n : Nat} {ds : List D} (h : wtF Tryd.prog (n + 1) 2 ds) : ∃ x : Int, ds = (eInt .i64) x ∧ inK .i64 x := by
  obtain ⟨m, rfl, o⟩ := wt_int (k := .i64) (by kernel_rfl) h
  exact ⟨m, rfl, o⟩
theorem law15_AcceptorBack_of_t24 {n : Nat} {ds : List D} (h : wtF Tryd.prog (n + 3) 24 ds) : ∃ x : Config, ds = Config.enc x ∧ x.Ok := by
  have h0 := wt_struct (n := n + 2) (ts := [3, 3, 3, 3, 3, 22, 2, 2, 3, 3, 2, 2, 2, 2, 2, 2, 3, 3, 3, 3, 2, 3, 3, 2, 2, 3, 2, 3, 3, 2]) (by kernel_rfl) h
  obtain ⟨a0, b0, rfl, w0, h1⟩ := wtL_cons h0
  obtain ⟨x0, rfl, o0⟩ := law15_AcceptorBack_of_t3 (n := n + 1) w0
  obtain ⟨a1, b1, rfl, w1, h2⟩ := wtL_cons h1
  obtain ⟨x1, rfl, o1⟩ := law15_AcceptorBack_of_t3 (n := n + 1) w1
  obtain ⟨a2, b2, rfl, w2, h3⟩ := wtL_cons h2
  obtain ⟨x2, rfl, o2⟩ := law15_AcceptorBack_of_t3 (n := n + 1) w2
  obtain ⟨a3, b3, rfl, w3, h4⟩ := wtL_cons h3
  obtain ⟨x3, rfl, o3⟩ := law15_AcceptorBack_of_t3 (n := n + 1) w3
  obtain ⟨a4, b4, rfl, w4, h5⟩ := wtL_cons h4
  obtain ⟨x4, rfl, o4⟩ := law15_AcceptorBack_of_t3 (n := n + 1) w4
  obtain ⟨a5, b5, rfl, w5, h6⟩ := wtL_cons h5
  obtain ⟨x5, rfl, o5⟩ := law15_AcceptorBack_of_t22 (n := n + 0) w5
  obtain ⟨a6, b6, rfl, w6, h7⟩ := wtL_cons h6
  obtain ⟨x6, rfl, o6⟩ := law15_AcceptorBack_of_t2 (n := n + 1) w6
  obtain ⟨a7, b7, rfl, w7, h8⟩ := wtL_cons h7
  obtain ⟨x7, rfl, o7⟩ := law15_AcceptorBack_of_t2 (n := n + 1) w7
  obtain ⟨a8, b8, rfl, w8, h9⟩ := wtL_cons h8
  obtain ⟨x8, rfl, o8⟩ := law15_AcceptorBack_of_t3 (n := n + 1) w8
  obtain ⟨a9, b9, rfl, w9, h10⟩ := wtL_cons h9
  obtain ⟨x9, rfl, o9⟩ := law15_AcceptorBack_of_t3 (n := n + 1) w9
  obtain ⟨a10, b10, rfl, w10, h11⟩ := wtL_cons h10
  obtain ⟨x10, rfl, o10⟩ := law15_AcceptorBack_of_t2 (n := n + 1) w10
  obtain ⟨a11, b11, rfl, w11, h12⟩ := wtL_cons h11
  obtain ⟨x11, rfl, o11⟩ := law15_AcceptorBack_of_t2 (n := n + 1) w11
  obtain ⟨a12, b12, rfl, w12, h13⟩ := wtL_cons h12
  obtain ⟨x12, rfl, o12⟩ := law15_AcceptorBack_of_t2 (n := n + 1) w12
  obtain ⟨a13, b13, rfl, w13, h14⟩ := wtL_cons h13
  obtain ⟨x13, rfl, o13⟩ := law15_AcceptorBack_of_t2 (n := n + 1) w13
  obtain ⟨a14, b14, rfl, w14, h15⟩ := wtL_cons h14
  obtain ⟨x14, rfl, o14⟩ := law15_AcceptorBack_of_t2 (n := n + 1) w14
  obtain ⟨a15, b15, rfl, w15, h16⟩ := wtL_cons h15
  obtain ⟨x15, rfl, o15⟩ := law15_AcceptorBack_of_t2 (n := n + 1) w15
  obtain ⟨a16, b16, rfl, w16, h17⟩ := wtL_cons h16
  obtain ⟨x16, rfl, o16⟩ := law15_AcceptorBack_of_t3 (n := n + 1) w16
  obtain ⟨a17, b17, rfl, w17, h18⟩ := wtL_cons h17
  obtain ⟨x17, rfl, o17⟩ := law15_AcceptorBack_of_t3 (n := n + 1) w17
  obtain ⟨a18, b18, rfl, w18, h19⟩ := wtL_cons h18
  obtain ⟨x18, rfl, o18⟩ := law15_AcceptorBack_of_t3 (n := n + 1) w18
  obtain ⟨a19, b19, rfl, w19, h20⟩ := wtL_cons h19
  obtain ⟨x19, rfl, o19⟩ := law15_AcceptorBack_of_t3 (n := n + 1) w19
  obtain ⟨a20, b20, rfl, w20, h21⟩ := wtL_cons h20
  obtain ⟨x20, rfl, o20⟩ := law15_AcceptorBack_of_t2 (n := n + 1) w20
  obtain ⟨a21, b21, rfl, w21, h22⟩ := wtL_cons h21
  obtain ⟨x21, rfl, o21⟩ := law15_AcceptorBack_of_t3 (n := n + 1) w21
  obtain ⟨a22, b22, rfl, w22, h23⟩ := wtL_cons h22
  obtain ⟨x22, rfl, o22⟩ := law15_AcceptorBack_of_t3 (n := n + 1) w22
  obtain ⟨a23, b23, rfl, w23, h24⟩ := wtL_cons h23
  obtain ⟨x23, rfl, o23⟩ := law15_AcceptorBack_of_t2 (n := n + 1) w23
  obtain ⟨a24, b24, rfl, w24, h25⟩ := wtL_cons h24
  obtain ⟨x24, rfl, o24⟩ := law15_AcceptorBack_of_t2 (n := n + 1) w24
  obtain ⟨a25, b25, rfl, w25, h26⟩ := wtL_cons h25
  obtain ⟨x25, rfl, o25⟩ := law15_AcceptorBack_of_t3 (n := n + 1) w25
  obtain ⟨a26, b26, rfl, w26, h27⟩ := wtL_cons h26
  obtain ⟨x26, rfl, o26⟩ := law15_AcceptorBack_of_t2 (n := n + 1) w26
  obtain ⟨a27, b27, rfl, w27, h28⟩ := wtL_cons h27
  obtain ⟨x27, rfl, o27⟩ := law15_AcceptorBack_of_t3 (n := n + 1) w27
  obtain ⟨a28, b28, rfl, w28, h29⟩ := wtL_cons h28
  obtain ⟨x28, rfl, o28⟩ := law15_AcceptorBack_of_t3 (n := n + 1) w28
  obtain ⟨a29, b29, rfl, w29, h30⟩ := wtL_cons h29
  obtain ⟨x29, rfl, o29⟩ := law15_AcceptorBack_of_t2 (n := n + 1) w29
  obtain rfl := wtL_nil h30
  exact ⟨⟨x0, x1, x2, x3, x4, x5, x6, x7, x8, x9, x10, x11, x12, x13, x14, x15, x16, x17, x18, x19, x20, x21, x22, x23, x24, x25, x26, x27, x28, x29⟩, rfl, o0, o1, o2, o3, o4, o5, o6, o7, o8, o9, o10, o11, o12, o13, o14, o15, o16, o17, o18, o19, o20, o21, o22, o23, o24, o25, o26, o27, o28, o29⟩
theorem law15_AcceptorBack_of_t32 {n : Nat} {ds : List D} (h : wtF Tryd.prog (n + 1) 32 ds) : ∃ x : Int, ds = (eInt .i64) x ∧ inK .i64 x := by
  obtain ⟨m, rfl, o⟩ := wt_int (k := .i64) (by kernel_rfl) h
  exact ⟨m, rfl, o⟩
theorem law15_AcceptorBack_of_t33 {n : Nat} {ds : List D} (h : wtF Tryd.prog (n + 1) 33 ds) : ∃ x : Int, ds = (eInt .u64) x ∧ inK .u64 x := by
  obtain ⟨m, rfl, o⟩ := wt_int (k := .u64) (by kernel_rfl) h
  exact ⟨m, rfl, o⟩
theorem law15_AcceptorBack_of_t4 {n : Nat} {ds : List D} (h : wtF Tryd.prog (n + 1) 4 ds) : ∃ x : Bool, ds = eBool x ∧ True := by
  obtain ⟨m, rfl⟩ := wt_bool (by kernel_rfl) h
  exact ⟨m, rfl, trivial⟩
theorem law15_AcceptorBack_of_t34 {n : Nat} {ds : List D} (h : wtF Tryd.prog (n + 2) 34 ds) : ∃ x : List Int, ds = (eSl 1 (eInt .i64)) x ∧ (x.length * 8 ≤ reachBytes ∧ ∀ y ∈ x, inK .i64 y) := by
  obtain ⟨rows, rfl, o, w⟩ := wt_slice (n := n + 1) (e := 2) (sz := 1) (by_ := 8) (by kernel_rfl) (by kernel_rfl) (by kernel_rfl) h
  obtain ⟨l, rfl, q⟩ := wt_rows (en := (eInt .i64)) (Ok := fun y => inK .i64 y) (fun r hr => law15_AcceptorBack_of_t2 (n := n + 0) hr) rows w
  exact ⟨l, rfl, by simpa using o, q⟩
theorem law15_AcceptorBack_of_t36 {n : Nat} {ds : List D} (h : wtF Tryd.prog (n + 3) 36 ds) : ∃ x : Plan, ds = Plan.enc x ∧ x.Ok := by
  have h0 := wt_struct (n := n + 2) (ts := [2, 3, 3, 3, 3, 2, 2, 2, 33, 33, 22, 34]) (by kernel_rfl) h
  obtain ⟨a0, b0, rfl, w0, h1⟩ := wtL_cons h0
  obtain ⟨x0, rfl, o0⟩ := law15_AcceptorBack_of_t2 (n := n + 1) w0
  obtain ⟨a1, b1, rfl, w1, h2⟩ := wtL_cons h1
  obtain ⟨x1, rfl, o1⟩ := law15_AcceptorBack_of_t3 (n := n + 1) w1
  obtain ⟨a2, b2, rfl, w2, h3⟩ := wtL_cons h2
  obtain ⟨x2, rfl, o2⟩ := law15_AcceptorBack_of_t3 (n := n + 1) w2
  obtain ⟨a3, b3, rfl, w3, h4⟩ := wtL_cons h3
  obtain ⟨x3, rfl, o3⟩ := law15_AcceptorBack_of_t3 (n := n + 1) w3
  obtain ⟨a4, b4, rfl, w4, h5⟩ := wtL_cons h4
  obtain ⟨x4, rfl, o4⟩ := law15_AcceptorBack_of_t3 (n := n + 1) w4
  obtain ⟨a5, b5, rfl, w5, h6⟩ := wtL_cons h5
  obtain ⟨x5, rfl, o5⟩ := law15_AcceptorBack_of_t2 (n := n + 1) w5
  obtain ⟨a6, b6, rfl, w6, h7⟩ := wtL_cons h6
  obtain ⟨x6, rfl, o6⟩ := law15_AcceptorBack_of_t2 (n := n + 1) w6
  obtain ⟨a7, b7, rfl, w7, h8⟩ := wtL_cons h7
  obtain ⟨x7, rfl, o7⟩ := law15_AcceptorBack_of_t2 (n := n + 1) w7
  obtain ⟨a8, b8, rfl, w8, h9⟩ := wtL_cons h8
  obtain ⟨x8, rfl, o8⟩ := law15_AcceptorBack_of_t33 (n := n + 1) w8
  obtain ⟨a9, b9, rfl, w9, h10⟩ := wtL_cons h9
  obtain ⟨x9, rfl, o9⟩ := law15_AcceptorBack_of_t33 (n := n + 1) w9
  obtain ⟨a10, b10, rfl, w10, h11⟩ := wtL_cons h10
  obtain ⟨x10, rfl, o10⟩ := law15_AcceptorBack_of_t22 (n := n + 0) w10
  obtain ⟨a11, b11, rfl, w11, h12⟩ := wtL_cons h11
  obtain ⟨x11, rfl, o11⟩ := law15_AcceptorBack_of_t34 (n := n + 0) w11
  obtain rfl := wtL_nil h12
  exact ⟨⟨x0, x1, x2, x3, x4, x5, x6, x7, x8, x9, x10, x11⟩, rfl, o0, o1, o2, o3, o4, o5, o6, o7, o8, o9, o10, o11⟩
theorem law15_AcceptorBack_of_t5 {n : Nat} {ds : List D} (h : wtF Tryd.prog (n + 1) 5 ds) : ∃ x : Int, ds = (eInt .u8) x ∧ inK .u8 x := by
  obtain ⟨m, rfl, o⟩ := wt_int (k := .u8) (by kernel_rfl) h
  exact ⟨m, rfl, o⟩
theorem law15_AcceptorBack_of_t37 {n : Nat} {ds : List D} (h : wtF Tryd.prog (n + 2) 37 ds) : ∃ x : List Int, ds = (eSl 1 (eInt .u8)) x ∧ (x.length * 1 ≤ reachBytes ∧ ∀ y ∈ x, inK .u8 y) := by
  obtain ⟨rows, rfl, o, w⟩ := wt_slice (n := n + 1) (e := 5) (sz := 1) (by_ := 1) (by kernel_rfl) (by kernel_rfl) (by kernel_rfl) h
  obtain ⟨l, rfl, q⟩ := wt_rows (en := (eInt .u8)) (Ok := fun y => inK .u8 y) (fun r hr => law15_AcceptorBack_of_t5 (n := n + 0) hr) rows w
  exact ⟨l, rfl, by simpa using o, q⟩
theorem law15_AcceptorBack_of_t39 {n : Nat} {ds : List D} (h : wtF Tryd.prog (n + 4) 39 ds) : ∃ x : Msg, ds = Msg.enc x ∧ x.Ok := by
  have h0 := wt_struct (n := n + 3) (ts := [32, 3, 3, 2, 2, 2, 2, 2, 33, 3, 4, 36, 34, 37, 37]) (by kernel_rfl) h
  obtain ⟨a0, b0, rfl, w0, h1⟩ := wtL_cons h0
  obtain ⟨x0, rfl, o0⟩ := law15_AcceptorBack_of_t32 (n := n + 2) w0
  obtain ⟨a1, b1, rfl, w1, h2⟩ := wtL_cons h1
  obtain ⟨x1, rfl, o1⟩ := law15_AcceptorBack_of_t3 (n := n + 2) w1
  obtain ⟨a2, b2, rfl, w2, h3⟩ := wtL_cons h2
  obtain ⟨x2, rfl, o2⟩ := law15_AcceptorBack_of_t3 (n := n + 2) w2
  obtain ⟨a3, b3, rfl, w3, h4⟩ := wtL_cons h3
  obtain ⟨x3, rfl, o3⟩ := law15_AcceptorBack_of_t2 (n := n + 2) w3
  obtain ⟨a4, b4, rfl, w4, h5⟩ := wtL_cons h4
  obtain ⟨x4, rfl, o4⟩ := law15_AcceptorBack_of_t2 (n := n + 2) w4
  obtain ⟨a5, b5, rfl, w5, h6⟩ := wtL_cons h5
  obtain ⟨x5, rfl, o5⟩ := law15_AcceptorBack_of_t2 (n := n + 2) w5
  obtain ⟨a6, b6, rfl, w6, h7⟩ := wtL_cons h6
  obtain ⟨x6, rfl, o6⟩ := law15_AcceptorBack_of_t2 (n := n + 2) w6
  obtain ⟨a7, b7, rfl, w7, h8⟩ := wtL_cons h7
  obtain ⟨x7, rfl, o7⟩ := law15_AcceptorBack_of_t2 (n := n + 2) w7
  obtain ⟨a8, b8, rfl, w8, h9⟩ := wtL_cons h8
  obtain ⟨x8, rfl, o8⟩ := law15_AcceptorBack_of_t33 (n := n + 2) w8
  obtain ⟨a9, b9, rfl, w9, h10⟩ := wtL_cons h9
  obtain ⟨x9, rfl, o9⟩ := law15_AcceptorBack_of_t3 (n := n + 2) w9
  obtain ⟨a10, b10, rfl, w10, h11⟩ := wtL_cons h10
  obtain ⟨x10, rfl, o10⟩ := law15_AcceptorBack_of_t4 (n := n + 2) w10
  obtain ⟨a11, b11, rfl, w11, h12⟩ := wtL_cons h11
  obtain ⟨x11, rfl, o11⟩ := law15_AcceptorBack_of_t36 (n := n + 0) w11
  obtain ⟨a12, b12, rfl, w12, h13⟩ := wtL_cons h12
  obtain ⟨x12, rfl, o12⟩ := law15_AcceptorBack_of_t34 (n := n + 1) w12
  obtain ⟨a13, b13, rfl, w13, h14⟩ := wtL_cons h13
  obtain ⟨x13, rfl, o13⟩ := law15_AcceptorBack_of_t37 (n := n + 1) w13
  obtain ⟨a14, b14, rfl, w14, h15⟩ := wtL_cons h14
  obtain ⟨x14, rfl, o14⟩ := law15_AcceptorBack_of_t37 (n := n + 1) w14
  obtain rfl := wtL_nil h15
  exact ⟨⟨x0, x1, x2, x3, x4, x5, x6, x7, x8, x9, x10, x11, x12, x13, x14⟩, rfl, o0, o1, o2, o3, o4, o5, o6, o7, o8, o9, o10, o11, o12, o13, o14⟩
theorem law15_AcceptorBack_of_t41 {n : Nat} {ds : List D} (h : wtF Tryd.prog (n + 5) 41 ds) : ∃ x : Op, ds = Op.enc x ∧ x.Ok := by
  have h0 := wt_struct (n := n + 4) (ts := [3, 39, 2, 3]) (by kernel_rfl) h
  obtain ⟨a0, b0, rfl, w0, h1⟩ := wtL_cons h0
  obtain ⟨x0, rfl, o0⟩ := law15_AcceptorBack_of_t3 (n := n + 3) w0
  obtain ⟨a1, b1, rfl, w1, h2⟩ := wtL_cons h1
  obtain ⟨x1, rfl, o1⟩ := law15_AcceptorBack_of_t39 (n := n + 0) w1
  obtain ⟨a2, b2, rfl, w2, h3⟩ := wtL_cons h2
  obtain ⟨x2, rfl, o2⟩ := law15_AcceptorBack_of_t2 (n := n + 3) w2
  obtain ⟨a3, b3, rfl, w3, h4⟩ := wtL_cons h3
  obtain ⟨x3, rfl, o3⟩ := law15_AcceptorBack_of_t3 (n := n + 3) w3
  obtain rfl := wtL_nil h4
  exact ⟨⟨x0, x1, x2, x3⟩, rfl, o0, o1, o2, o3⟩
theorem law15_AcceptorBack_of_t25 {n : Nat} {ds : List D} (h : wtF Tryd.prog (n + 6) 25 ds) : ∃ x : List Op, ds = (eSl 29 Op.enc) x ∧ (x.length * 312 ≤ reachBytes ∧ ∀ y ∈ x, y.Ok) := by
  obtain ⟨rows, rfl, o, w⟩ := wt_slice (n := n + 5) (e := 41) (sz := 29) (by_ := 312) (by kernel_rfl) (by kernel_rfl) (by kernel_rfl) h
  obtain ⟨l, rfl, q⟩ := wt_rows (en := Op.enc) (Ok := fun y => y.Ok) (fun r hr => law15_AcceptorBack_of_t41 (n := n + 0) hr) rows w
  exact ⟨l, rfl, by simpa using o, q⟩
theorem law15_AcceptorBack_sound (H : ∀ (c : Config) (l_ : List Op) (now : Int), c.Ok → (l_.length * 312 ≤ reachBytes ∧ ∀ y ∈ l_, y.Ok) → inK .i64 now → law15_AcceptorBack c l_ now = some true) : ∀ xs, wtA Tryd.prog Tryd.f8.params.toList xs → Sound E 8 xs [] fun d _ => d = .bool true := by
  intro xs h
  have h0 : wtA Tryd.prog [24, 25, 2] xs := h
  obtain ⟨d0, r0, rfl, w0, h1⟩ := wtA_cons h0
  obtain ⟨c0, rfl, v0⟩ := wtP_agg (by kernel_rfl) w0
  obtain ⟨x0, rfl, o0⟩ := law15_AcceptorBack_of_t24 (n := 3) v0
  obtain ⟨d1, r1, rfl, w1, h2⟩ := wtA_cons h1
  have v1 := wtP_flat (by kernel_rfl) w1
  obtain ⟨x1, e1, o1⟩ := law15_AcceptorBack_of_t25 (n := 0) v1
  obtain ⟨rfl, -⟩ := List.cons.inj e1
  obtain ⟨d2, r2, rfl, w2, h3⟩ := wtA_cons h2
  have v2 := wtP_flat (by kernel_rfl) w2
  obtain ⟨x2, e2, o2⟩ := law15_AcceptorBack_of_t2 (n := 5) v2
  obtain ⟨rfl, -⟩ := List.cons.inj e2
  obtain rfl := wtA_nil h3
  exact (law15_AcceptorBack_ok (H x0 x1 x2 o0 o1 o2)).mono fun d s h => h.1
end Go.RX.L

set_option linter.unusedSimpArgs false
set_option linter.unusedVariables false
set_option maxRecDepth 100000
namespace Go.RX.L
open Go Go.RX

theorem restart_clean {c : Config} (hc : rightC c = true) (ht : c.Tiers.length < 9223372036854775807) {rs : List Msg} {s : List Int} (dk : Disk rs [] s) (hs : s.length ≤ 900000) (now : Int) (k : keptT) (node : Int) {fuse : Int} (fu : okFuse fuse) (d : Bool) (t : List Int) :
    Acceptor_Restart now k c node fuse d s t = some (0, upAt now (replay c rs), fuse, false, s, []) := by
  obtain ⟨e0, hcut⟩ := dk.cut
  have hz := polzero_ok ht hc
  have hcl : Acceptor_clear k c node fuse d s t = some (kept0 c) := by simp [Acceptor_clear, hz, kept0, zeroPl]
  have heq := dk.eq
  rw [List.append_nil] at heq
  have ho := jopen (fuse := fuse) (down := d) (t := t) (okFrs dk.ok) hcut dk.jb (by rw [List.append_nil]; unfold log at heq; rw [← heq]; omega) fu
  have hl : frs (rs.map rec1) = s := heq.symm
  rw [hl, List.append_nil, if_pos rfl] at ho
  have m1 : (rs.map rec1).map (·.1) = rs.map (·.Kind) := by simp [rec1]
  have m2 : (rs.map rec1).map (·.2) = rs.map encB := by simp [rec1]
  rw [m1, m2] at ho
  have hlr : rs.length ≤ 1000000 := by
    have : rs.length ≤ (frs (rs.map rec1)).length := by
      generalize rs = rs
      induction rs with
      | nil => simp [frs]
      | cons x l ih => simp [frs, encF_len]; omega
    rw [hl] at this
    omega
  simp only [Acceptor_Restart, hcl, Option.bind_some, ho, bne_self_eq_false, cond_false, each_ok dk.ok hlr]
  rfl
theorem acceptorBack (c : Config) (l_ : List Op) (now : Int) (hc : c.Ok) (hl : l_.length * 312 ≤ reachBytes ∧ ∀ y ∈ l_, y.Ok) (hn : inK .i64 now) : law15_AcceptorBack c l_ now = some true := by
  have ht := cfg_len hc
  have hnew := new_ok (c := c) (node := 1) ht
  by_cases hr : ¬ rightC c = true
  · rw [if_neg (fun h => hr h.1)] at hnew
    exact evf_of (.next (s' := .s1 true) (by simp only [law15_AcceptorBack_step, law15_AcceptorBack_0, head15_ok, hnew, Option.bind_some]) (.done rfl))
  rw [Classical.not_not] at hr
  rw [if_pos ⟨hr, by decide, by decide⟩] at hnew
  refine evf_of (.next (s' := .s2 true (kept0 c) 1 (-1) false [] []) (by simp only [law15_AcceptorBack_step, law15_AcceptorBack_0, head15_ok, hnew, Option.bind_some]) ?_)
  by_cases hg : ¬ l_.length ≤ 150
  · exact .done (by simp only [law15_AcceptorBack_step, law15_AcceptorBack_2, great_ok, great_b, Option.bind_some, hg, decide_false, Bool.not_false, cond_true])
  rw [Classical.not_not] at hg
  refine .next (s' := .s3 true ((0 : Nat) : Int) (kept0 c) 1 (-1) false [] []) (by simp only [law15_AcceptorBack_step, law15_AcceptorBack_2, great_ok, great_b, Option.bind_some, hg, decide_true, Bool.not_true, cond_false]; rfl) ?_
  have loop : ∀ (j i : Nat) (a : AS) (fuse : Int) (s t : List Int), i + j = l_.length → Rep c a fuse s t (4408 * i) → Ev (law15_AcceptorBack_step c l_ now) (.s3 true (i : Int) a.k 1 fuse a.down s t) true := by
    intro j
    induction j with
    | zero =>
      intro i a fuse s t hi h
      cases hd : a.down with
      | true =>
        refine .done ?_
        simp only [law15_AcceptorBack_step, law15_AcceptorBack_3, nlt (show l_.length ≤ i by omega), cond_false, Acceptor_Journal, Option.bind_some, Journal_Down, cond_true]
      | false =>
        obtain ⟨ok, fu, ⟨J, dk, dj, dp⟩, tl, len⟩ := h
        have hJ := dj hd
        subst hJ
        rw [ok.pn hd] at tl
        have tl : t = [] := tl
        subst tl
        have hs : s.length ≤ 661200 := by simp at len; omega
        have cr := jcrash (keep := 0) (fuse := fuse) (down := false) (s := s) (t := []) (by simp; omega)
        have hk0 : s ++ kept_ 0 [] = s := by simp [kept_]
        rw [hk0] at cr
        have f0 : okFuse (-1) := by unfold okFuse; omega
        have fq : FineM ⟨10, 0, 0, 1099511627776, 0, 0, 0, 0, 0, 1, false, zeroPl, [], [], []⟩ := ⟨⟨⟨by decide, by decide⟩, inU64.2 (by decide), inU64.2 (by decide)⟩, ⟨inI64.2 (by decide), by decide, by decide, ⟨by decide, by decide⟩⟩, fun x hx => by
          have hx' : x ∈ [(1099511627776 : Int), 0, 0, 0, 0] := hx
          simp only [List.mem_cons, List.not_mem_nil, or_false] at hx'
          rcases hx' with rfl | rfl | rfl | rfl | rfl <;> exact inI64.2 (by decide), by decide, fun x hx => (by cases hx), fun x hx => (by cases hx), fun x hx => (by cases hx)⟩
        have ho := handle_off (c := c) (node := 1) (k := a.k) (now := 5) (fuse := -1) (s := s) (t := []) (d := true) fq (.inl rfl)
        have rs := restart_clean hr ht dk (by omega) now a.k 1 f0 true []
        have sim := ok.up hd
        refine .next (s' := .s4 true a.k.epoch a.k.promised a.k.accepted false (upAt now (replay c a.rs)) 1 a.k.plan (-1) false s []) ?_ ?_
        · unfold zeroPl at ho
          simp only [law15_AcceptorBack_step, law15_AcceptorBack_3, nlt (show l_.length ≤ i by omega), cond_false, Acceptor_Journal, Option.bind_some, Journal_Down, Acceptor_State, cr, ho, List.map_nil, List.length_nil, rs]
          rfl
        · refine .done ?_
          have sp := rsame_ok (a := a.k.plan) (b := a.k.plan) (sim.kok ok.r).plan.f.s
          have sp2 : sameP a.k.plan a.k.plan = true := by rw [sameP_iff]
          have sp3 : (upAt now (replay c a.rs)).plan = a.k.plan := sim.plan.symm
          have e1 : (upAt now (replay c a.rs)).epoch = a.k.epoch := sim.epoch.symm
          have e2 : (upAt now (replay c a.rs)).promised = a.k.promised := sim.promised.symm
          have e3 : (upAt now (replay c a.rs)).accepted = a.k.accepted := sim.accepted.symm
          simp only [law15_AcceptorBack_step, law15_AcceptorBack_4, cond_false, Acceptor_State, Option.bind_some, cond_true, e1, e2, e3, sp3, beq_self_eq_true, sp, sp2]
    | succ j ih =>
      intro i a fuse s t hi h
      have hlt : i < l_.length := by omega
      have o := hl.2 _ (List.getElem_mem hlt)
      obtain ⟨-, om, -, oN⟩ := o
      have fm := om.fine
      have w := wS1 (show i ≤ 150 by omega)
      by_cases h0 : andI .i64 (l_[i]).What 3 = 0
      · obtain ⟨out, a', fuse', s', t', he, hrep, hst⟩ := rep_handle (node := 1) (now := (l_[i]).Now) h fm (by omega)
        refine .next (s' := .s3 true ((i + 1 : Nat) : Int) a'.k 1 fuse' a'.down s' t') ?_ (ih (i + 1) a' fuse' s' t' (by omega) (hrep.mono (by omega)))
        simp only [law15_AcceptorBack_step, law15_AcceptorBack_3, olt hlt, cond_true, le0, Bool.and_self, Int.toNat_natCast, List.getE hlt, Option.bind_some, h0, beq_self_eq_true, he, w]
      by_cases h1 : andI .i64 (l_[i]).What 3 = 1
      · obtain ⟨he, hrep⟩ := rep_fuse h oN
        refine .next (s' := .s3 true ((i + 1 : Nat) : Int) a.k 1 (mxI (l_[i]).N_ (-1)) a.down s t) ?_ (ih (i + 1) a _ s t (by omega) (hrep.mono (by omega)))
        simp only [law15_AcceptorBack_step, law15_AcceptorBack_3, olt hlt, cond_true, cond_false, le0, Bool.and_self, Int.toNat_natCast, List.getE hlt, Option.bind_some, h1, b10, beq_self_eq_true, Acceptor_Journal, he, w]
      by_cases h2 : andI .i64 (l_[i]).What 3 = 2
      · obtain ⟨a', s', he, hd, hk, hrep, -⟩ := rep_crash (keep := (l_[i]).N_) h (by omega)
        refine .next (s' := .s3 true ((i + 1 : Nat) : Int) a'.k 1 (-1) a'.down s' []) ?_ (ih (i + 1) a' _ s' [] (by omega) (hrep.mono (by omega)))
        simp only [law15_AcceptorBack_step, law15_AcceptorBack_3, olt hlt, cond_true, cond_false, le0, Bool.and_self, Int.toNat_natCast, List.getE hlt, Option.bind_some, h2, b20, b21, beq_self_eq_true, Acceptor_Journal, he, hd, hk, w]
      by_cases h3 : andI .i64 (l_[i]).What 3 = 3
      · obtain ⟨e, a', fuse', s', he, hrep, -⟩ := rep_restart (node := 1) (now := mxI 0 (mnI (l_[i]).Now 1099511627776)) h hr ht (by omega)
        refine .next (s' := .s3 true ((i + 1 : Nat) : Int) a'.k 1 fuse' a'.down s' []) ?_ (ih (i + 1) a' _ s' [] (by omega) (hrep.mono (by omega)))
        simp only [law15_AcceptorBack_step, law15_AcceptorBack_3, olt hlt, cond_true, cond_false, le0, Bool.and_self, Int.toNat_natCast, List.getE hlt, Option.bind_some, h3, b30, b31, b32, beq_self_eq_true, time_ok, he, w]
      · refine .next (s' := .s3 true ((i + 1 : Nat) : Int) a.k 1 fuse a.down s t) ?_ (ih (i + 1) a _ s t (by omega) (h.mono (by omega)))
        simp only [law15_AcceptorBack_step, law15_AcceptorBack_3, olt hlt, cond_true, cond_false, le0, Bool.and_self, Int.toNat_natCast, List.getE hlt, Option.bind_some, beqF h0, beqF h1, beqF h2, beqF h3, w]
  exact loop l_.length 0 (a0 c) (-1) [] [] (by omega) (rep_new hr)
end Go.RX.L
