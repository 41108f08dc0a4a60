/-
  Words and walks for AcceptorWaits. No condition.
-/
import Derived.Test.YtdhiijebmjopjaaDoorAcceptorWaitsY8
set_option linter.unusedSectionVars false
set_option linter.unnecessarySimpa false
set_option linter.unusedSimpArgs false
set_option linter.unusedVariables false
set_option maxRecDepth 100000
set_option maxHeartbeats 4000000
namespace Go.RX.L
open Go Go.RX Go.Proofs
attribute [local irreducible] FinQ
noncomputable def slices_ContainsFunc__policy_all_1_v2_e (y : Bool) : D × Sto := (.bool y, [])
noncomputable def slices_ContainsFunc__policy_all_1_v2 (s_ : List Int) (f : Int) (f2 : Int) : Option Bool := ((slices_IndexFunc__policy_all_1_v2 s_ f f2).bind fun y1 => (some (decide ((y1 : Int) ≥ 0))))
theorem slices_ContainsFunc__policy_all_1_v2_ok {s_ : List Int} {f : Int} {f2 : Int} {r : Bool} (h : slices_ContainsFunc__policy_all_1_v2 s_ f f2 = some r) : Sound E 60 [.sl false 1 (List.map (eInt .i64) s_), .fn 61 [] [.iptr 1 [[.int .i64 f]] 0 0, .iptr 1 [[.int .i64 f2]] 0 0]] [] (Rs slices_ContainsFunc__policy_all_1_v2_e r) := so (fn := Tryd.f60) (k := false) (m := 0) h <| by
 intro r h; unfold slices_ContainsFunc__policy_all_1_v2 at h
 refine zc 9 [] h (fun _ => slices_IndexFunc__policy_all_1_v2_ok) fun y1 h => ?_
 exact zu 4 h
end Go.RX.L

set_option linter.unusedSimpArgs false
set_option linter.unusedVariables false
set_option maxRecDepth 100000
set_option maxHeartbeats 4000000
namespace Go.RX.L
open Go Go.RX Go.Proofs
attribute [local irreducible] FinQ
noncomputable def policy_all_v2_e (y : Bool) : D × Sto := (.bool y, [])
noncomputable def policy_all_v2 (low : Int) (high : Int) (l_ : List Int) : Option Bool := ((slices_ContainsFunc__policy_all_1_v2 l_ low high).bind fun y1 => (some (!y1)))
theorem policy_all_v2_ok {low : Int} {high : Int} {l_ : List Int} {r : Bool} (h : policy_all_v2 low high l_ = some r) : Sound E 38 [.int .i64 low, .int .i64 high, .sl false 1 (List.map (eInt .i64) l_)] [] (Rs policy_all_v2_e r) := so (fn := Tryd.f38) (k := false) (m := 0) h <| by
 intro r h; unfold policy_all_v2 at h
 refine zc 11 [] h (fun _ => slices_ContainsFunc__policy_all_1_v2_ok) fun y1 h => ?_
 exact zu 4 h
end Go.RX.L

set_option linter.unusedSimpArgs false
set_option linter.unusedVariables false
set_option maxRecDepth 100000
set_option maxHeartbeats 4000000
namespace Go.RX.L
open Go Go.RX Go.Proofs
attribute [local irreducible] FinQ
noncomputable def policy_Right_e (y : Bool) : D × Sto := (.bool y, [])
noncomputable def policy_Right (c : Config) : Option Bool := ((policy_all 0 3 ([c.F_])).bind fun y1 => (bif y1 then ((policy_all 1 4 ([c.Deciders, c.Routers])).bind fun y3 => (bif y3 then ((policy_all 1 16 ([c.Targets])).bind fun y5 => (bif y5 then ((policy_all 1 7 ([c.Observers])).bind fun y7 => (bif y7 then (bif (((((List.map (eInt .i64) c.Tiers).length : Nat) : Int) : Int) == c.Targets) then ((policy_all 0 15 c.Tiers).bind fun y10 => (bif y10 then ((policy_all_v2 1 1048576 ([c.Every, c.Wait, c.Fresh, c.L_, c.Dwell, c.D_, c.W_, c.Half, c.StepTime, c.S_, c.Span, c.Retry])).bind fun y12 => (bif y12 then ((policy_all_v2 0 1048576 ([c.M_])).bind fun y14 => (bif y14 then ((policy_all 1 100 ([c.Rise, c.Fall, c.First, c.Step])).bind fun y16 => (bif y16 then ((policy_all 1 8 ([c.B_])).bind fun y18 => (bif y18 then ((policy_all 0 1000000 ([c.Hit])).bind fun y20 => (bif y20 then ((policy_all 1 1000000 ([c.Suppress])).bind fun y22 => (bif y22 then ((policy_all 0 (IntKind.i64.wrap (c.Suppress - 1)) ([c.Reuse])).bind fun y24 => (bif y24 then ((policy_all 1 1000 ([c.Cap])).bind fun y26 => (bif y26 then ((policy_all 1 64 ([c.Room])).bind fun y28 => (bif y28 then ((policy_all 1 20 ([c.Tries])).bind fun y30 => (some y30)) else (some false))) else (some false))) else (some false))) else (some false))) else (some false))) else (some false))) else (some false))) else (some false))) else (some false))) else (some false))) else (some false)) else (some false))) else (some false))) else (some false))) else (some false)))
theorem policy_Right_ok {c : Config} {r : Bool} (h : policy_Right c = some r) : Sound E 24 [.agg (Config.enc c)] [] (Rs policy_Right_e r) := so (fn := Tryd.f24) (k := false) (m := 0) h <| by
 intro r h; unfold policy_Right at h
 refine zc 13 [] h (fun _ => policy_all_ok) fun y1 h => ?_
 refine zs 2 h (fun h => ?_) fun h => ?_
 ·
  refine zc 13 [] h (fun _ => policy_all_ok) fun y3 h => ?_
  refine zs 4 h (fun h => ?_) fun h => ?_
  ·
   refine zc 8 [] h (fun _ => policy_all_ok) fun y5 h => ?_
   refine zs 4 h (fun h => ?_) fun h => ?_
   ·
    refine zc 8 [] h (fun _ => policy_all_ok) fun y7 h => ?_
    refine zs 4 h (fun h => ?_) fun h => ?_
    ·
     refine zs 16 h (fun h => ?_) fun h => ?_
     ·
      refine zc 5 [] h (fun _ => policy_all_ok) fun y10 h => ?_
      refine zs 4 h (fun h => ?_) fun h => ?_
      ·
       refine zc 63 [] h (fun _ => policy_all_v2_ok) fun y12 h => ?_
       refine zs 4 h (fun h => ?_) fun h => ?_
       ·
        refine zc 8 [] h (fun _ => policy_all_v2_ok) fun y14 h => ?_
        refine zs 4 h (fun h => ?_) fun h => ?_
        ·
         refine zc 23 [] h (fun _ => policy_all_ok) fun y16 h => ?_
         refine zs 4 h (fun h => ?_) fun h => ?_
         ·
          refine zc 8 [] h (fun _ => policy_all_ok) fun y18 h => ?_
          refine zs 4 h (fun h => ?_) fun h => ?_
          ·
           refine zc 8 [] h (fun _ => policy_all_ok) fun y20 h => ?_
           refine zs 4 h (fun h => ?_) fun h => ?_
           ·
            refine zc 8 [] h (fun _ => policy_all_ok) fun y22 h => ?_
            refine zs 4 h (fun h => ?_) fun h => ?_
            ·
             refine zc 15 [] h (fun _ => policy_all_ok) fun y24 h => ?_
             refine zs 4 h (fun h => ?_) fun h => ?_
             ·
              refine zc 8 [] h (fun _ => policy_all_ok) fun y26 h => ?_
              refine zs 4 h (fun h => ?_) fun h => ?_
              ·
               refine zc 8 [] h (fun _ => policy_all_ok) fun y28 h => ?_
               refine zs 4 h (fun h => ?_) fun h => ?_
               ·
                refine zc 8 [] h (fun _ => policy_all_ok) fun y30 h => ?_
                exact zu 5 h
               exact zu 11 h
              exact zu 22 h
             exact zu 33 h
            exact zu 50 h
           exact zu 61 h
          exact zu 72 h
         exact zu 83 h
        exact zu 106 h
       exact zu 117 h
      exact zu 172 h
     exact zu 181 h
    exact zu 196 h
   exact zu 207 h
  exact zu 218 h
 exact zu 233 h
end Go.RX.L

set_option linter.unusedSimpArgs false
set_option linter.unusedVariables false
set_option maxRecDepth 100000
set_option maxHeartbeats 4000000
namespace Go.RX.L
open Go Go.RX Go.Proofs
attribute [local irreducible] FinQ
noncomputable def policy_Zero_e (y : Plan) : D × Sto := (.agg [.int .i64 y.Epoch, .int .i64 y.Target, .int .i64 y.Prev, .int .i64 y.Spill, .int .i64 y.Percent, .int .i64 y.Stamp, .int .i64 y.Since, .int .i64 y.Ramped, .int .u64 y.Up, .int .u64 y.Sup, .sl false 1 (List.map (eInt .i64) y.Pen), .sl false 1 (List.map (eInt .i64) y.Changes)], [])
noncomputable def policy_Zero (c : Config) : Option Plan := ((policy_Right c).bind fun y1 => (bif (!y1) then (some (⟨0, 0, 0, 0, 0, 0, 0, 0, 0, 0, [], []⟩ : Plan)) else (bif (decide ((0 : Int) ≤ c.Targets) && (decide ((c.Targets : Int) ≤ c.Targets) && (decide ((c.Targets : Int) ≤ 9223372036854775807) && decide (c.Targets.toNat * 8 ≤ bytesLim)))) then (some (⟨0, (-1), (-1), (-1), 0, 0, 0, 0, 0, 0, (List.replicate c.Targets.toNat 0), []⟩ : Plan)) else none)))
theorem policy_Zero_ok {c : Config} {r : Plan} (h : policy_Zero c = some r) : Sound E 39 [.agg (Config.enc c)] [] (Rs policy_Zero_e r) := so (fn := Tryd.f39) (k := false) (m := 0) h <| by
 intro r h; unfold policy_Zero at h
 refine zc 11 [] h (fun _ => policy_Right_ok) fun y1 h => ?_
 refine zs 3 h (fun h => ?_) fun h => ?_
 ·
  exact zu 9 h [.slot 0 [some 1, some 1]]
 refine zn 7 h fun h => ?_
 refine zw 0 (a := (List.replicate c.Targets.toNat ((eInt .i64) 0))) (b := (List.map (eInt .i64) (List.replicate c.Targets.toNat 0))) (rows_rep _ _ _) ?_
 refine zm 7 (b := (Nat.ble (0 + (List.map (eInt .i64) (List.replicate c.Targets.toNat 0)).length) ((List.map (eInt .i64) (List.replicate c.Targets.toNat 0)).length))) (ble_full _) ?_
 obtain rfl := Option.some.inj h
 exact r_retE [.slot 0 [some 1]] (d1 := .agg [.int .i64 0, .int .i64 (-1), .int .i64 (-1), .int .i64 (-1), .int .i64 0, .int .i64 0, .int .i64 0, .int .i64 0, .int .u64 0, .int .u64 0, .sl false 1 (List.take ((List.map (eInt .i64) (List.replicate c.Targets.toNat 0)).length) (List.drop 0 (List.map (eInt .i64) (List.replicate c.Targets.toNat 0)))), .sl false 1 []]) (d := .agg [.int .i64 0, .int .i64 (-1), .int .i64 (-1), .int .i64 (-1), .int .i64 0, .int .i64 0, .int .i64 0, .int .i64 0, .int .u64 0, .int .u64 0, .sl false 1 (List.map (eInt .i64) (List.replicate c.Targets.toNat 0)), .sl false 1 []]) (s1 := []) (s := []) (by kernel_rfl) ⟨by simp [List.take_of_length_le, List.map_take, List.map_drop], rfl⟩ ⟨rfl, rfl⟩ Cx.fin_of
end Go.RX.L

set_option linter.unusedSimpArgs false
set_option linter.unusedVariables false
set_option maxRecDepth 100000
set_option maxHeartbeats 4000000
namespace Go.RX.L
open Go Go.RX Go.Proofs
attribute [local irreducible] FinQ
noncomputable def Acceptor_clear_e (c : Config) (node : Int) (fuse : Int) (down : Bool) (b2 : List Int) (b3 : List Int) (y : keptT) : D × Sto := (.tup [], [some ⟨67, true, [[.int .i64 y.epoch, .int .i64 y.known.Epoch, .int .i64 y.known.Target, .int .i64 y.known.Prev, .int .i64 y.known.Spill, .int .i64 y.known.Percent, .int .i64 y.known.Stamp, .int .i64 y.known.Since, .int .i64 y.known.Ramped, .int .u64 y.known.Up, .int .u64 y.known.Sup, .sl false 1 (List.map (eInt .i64) y.known.Pen), .sl false 1 (List.map (eInt .i64) y.known.Changes), .int .i64 y.promised, .int .i64 y.accepted, .int .i64 y.plan.Epoch, .int .i64 y.plan.Target, .int .i64 y.plan.Prev, .int .i64 y.plan.Spill, .int .i64 y.plan.Percent, .int .i64 y.plan.Stamp, .int .i64 y.plan.Since, .int .i64 y.plan.Ramped, .int .u64 y.plan.Up, .int .u64 y.plan.Sup, .sl false 1 (List.map (eInt .i64) y.plan.Pen), .sl false 1 (List.map (eInt .i64) y.plan.Changes), .int .i64 y.writes.low, .int .i64 y.writes.high, .int .i64 y.writes.at_, .int .i64 y.wish, .int .i64 y.wishAt, .bool y.lead.is_, .int .i64 y.lead.who, .int .i64 y.lead.at_, .int .i64 c.F_, .int .i64 c.Deciders, .int .i64 c.Targets, .int .i64 c.Routers, .int .i64 c.Observers, .sl false 1 (List.map (eInt .i64) c.Tiers), .int .i64 c.Every, .int .i64 c.Wait, .int .i64 c.Rise, .int .i64 c.Fall, .int .i64 c.Fresh, .int .i64 c.L_, .int .i64 c.M_, .int .i64 c.Dwell, .int .i64 c.D_, .int .i64 c.W_, .int .i64 c.B_, .int .i64 c.Hit, .int .i64 c.Suppress, .int .i64 c.Reuse, .int .i64 c.Half, .int .i64 c.First, .int .i64 c.Step, .int .i64 c.StepTime, .int .i64 c.S_, .int .i64 c.Cap, .int .i64 c.Span, .int .i64 c.Room, .int .i64 c.Tries, .int .i64 c.Retry, .int .i64 node, .ptr 1 0 0]]⟩, some ⟨4, true, [[.msl 2 0 ((List.map (eInt .u8) b2).length) ((List.map (eInt .u8) b2).length) false, .msl 3 0 ((List.map (eInt .u8) b3).length) ((List.map (eInt .u8) b3).length) false, .int .i64 fuse, .bool down]]⟩, some ⟨1, false, (List.map (eInt .u8) b2)⟩, some ⟨1, false, (List.map (eInt .u8) b3)⟩])
noncomputable def Acceptor_clear (kept : keptT) (c : Config) (node : Int) (fuse : Int) (down : Bool) (b2 : List Int) (b3 : List Int) : Option keptT := ((policy_Zero c).bind fun y1 => (some (⟨0, y1, 0, 0, (⟨0, 0, 0, 0, 0, 0, 0, 0, 0, 0, [], []⟩ : Plan), (⟨0, 0, 0⟩ : spanT), 0, 0, (⟨false, (-1), 0⟩ : leaderT)⟩ : keptT)))
theorem Acceptor_clear_ok {kept : keptT} {c : Config} {node : Int} {fuse : Int} {down : Bool} {b2 : List Int} {b3 : List Int} {r : keptT} (h : Acceptor_clear kept c node fuse down b2 b3 = some r) : Sound E 26 [.ptr 0 0 0] [some ⟨67, true, [[.int .i64 kept.epoch, .int .i64 kept.known.Epoch, .int .i64 kept.known.Target, .int .i64 kept.known.Prev, .int .i64 kept.known.Spill, .int .i64 kept.known.Percent, .int .i64 kept.known.Stamp, .int .i64 kept.known.Since, .int .i64 kept.known.Ramped, .int .u64 kept.known.Up, .int .u64 kept.known.Sup, .sl false 1 (List.map (eInt .i64) kept.known.Pen), .sl false 1 (List.map (eInt .i64) kept.known.Changes), .int .i64 kept.promised, .int .i64 kept.accepted, .int .i64 kept.plan.Epoch, .int .i64 kept.plan.Target, .int .i64 kept.plan.Prev, .int .i64 kept.plan.Spill, .int .i64 kept.plan.Percent, .int .i64 kept.plan.Stamp, .int .i64 kept.plan.Since, .int .i64 kept.plan.Ramped, .int .u64 kept.plan.Up, .int .u64 kept.plan.Sup, .sl false 1 (List.map (eInt .i64) kept.plan.Pen), .sl false 1 (List.map (eInt .i64) kept.plan.Changes), .int .i64 kept.writes.low, .int .i64 kept.writes.high, .int .i64 kept.writes.at_, .int .i64 kept.wish, .int .i64 kept.wishAt, .bool kept.lead.is_, .int .i64 kept.lead.who, .int .i64 kept.lead.at_, .int .i64 c.F_, .int .i64 c.Deciders, .int .i64 c.Targets, .int .i64 c.Routers, .int .i64 c.Observers, .sl false 1 (List.map (eInt .i64) c.Tiers), .int .i64 c.Every, .int .i64 c.Wait, .int .i64 c.Rise, .int .i64 c.Fall, .int .i64 c.Fresh, .int .i64 c.L_, .int .i64 c.M_, .int .i64 c.Dwell, .int .i64 c.D_, .int .i64 c.W_, .int .i64 c.B_, .int .i64 c.Hit, .int .i64 c.Suppress, .int .i64 c.Reuse, .int .i64 c.Half, .int .i64 c.First, .int .i64 c.Step, .int .i64 c.StepTime, .int .i64 c.S_, .int .i64 c.Cap, .int .i64 c.Span, .int .i64 c.Room, .int .i64 c.Tries, .int .i64 c.Retry, .int .i64 node, .ptr 1 0 0]]⟩, some ⟨4, true, [[.msl 2 0 ((List.map (eInt .u8) b2).length) ((List.map (eInt .u8) b2).length) false, .msl 3 0 ((List.map (eInt .u8) b3).length) ((List.map (eInt .u8) b3).length) false, .int .i64 fuse, .bool down]]⟩, some ⟨1, false, (List.map (eInt .u8) b2)⟩, some ⟨1, false, (List.map (eInt .u8) b3)⟩] (Rs (Acceptor_clear_e c node fuse down b2 b3) r) := so (fn := Tryd.f26) (k := false) (m := 4) h <| by
 intro r h; unfold Acceptor_clear at h
 refine zc 8 [] h (fun _ => policy_Zero_ok) fun y1 h => ?_
 refine zf 8 [.blk 0 [some 1, some 1]] ?_
 exact zu 1 h
end Go.RX.L

set_option linter.unusedSimpArgs false
set_option linter.unusedVariables false
set_option maxRecDepth 100000
set_option maxHeartbeats 4000000
namespace Go.RX.L
open Go Go.RX Go.Proofs
attribute [local irreducible] FinQ
noncomputable def acceptor_each__take_c := codeAt (bodyOf Tryd.f34)
noncomputable def acceptor_each__take_e (c : Config) (node : Int) (fuse : Int) (down : Bool) (b2 : List Int) (b3 : List Int) (y : keptT) : D × Sto := (.tup [], [some ⟨67, true, [[.int .i64 y.epoch, .int .i64 y.known.Epoch, .int .i64 y.known.Target, .int .i64 y.known.Prev, .int .i64 y.known.Spill, .int .i64 y.known.Percent, .int .i64 y.known.Stamp, .int .i64 y.known.Since, .int .i64 y.known.Ramped, .int .u64 y.known.Up, .int .u64 y.known.Sup, .sl false 1 (List.map (eInt .i64) y.known.Pen), .sl false 1 (List.map (eInt .i64) y.known.Changes), .int .i64 y.promised, .int .i64 y.accepted, .int .i64 y.plan.Epoch, .int .i64 y.plan.Target, .int .i64 y.plan.Prev, .int .i64 y.plan.Spill, .int .i64 y.plan.Percent, .int .i64 y.plan.Stamp, .int .i64 y.plan.Since, .int .i64 y.plan.Ramped, .int .u64 y.plan.Up, .int .u64 y.plan.Sup, .sl false 1 (List.map (eInt .i64) y.plan.Pen), .sl false 1 (List.map (eInt .i64) y.plan.Changes), .int .i64 y.writes.low, .int .i64 y.writes.high, .int .i64 y.writes.at_, .int .i64 y.wish, .int .i64 y.wishAt, .bool y.lead.is_, .int .i64 y.lead.who, .int .i64 y.lead.at_, .int .i64 c.F_, .int .i64 c.Deciders, .int .i64 c.Targets, .int .i64 c.Routers, .int .i64 c.Observers, .sl false 1 (List.map (eInt .i64) c.Tiers), .int .i64 c.Every, .int .i64 c.Wait, .int .i64 c.Rise, .int .i64 c.Fall, .int .i64 c.Fresh, .int .i64 c.L_, .int .i64 c.M_, .int .i64 c.Dwell, .int .i64 c.D_, .int .i64 c.W_, .int .i64 c.B_, .int .i64 c.Hit, .int .i64 c.Suppress, .int .i64 c.Reuse, .int .i64 c.Half, .int .i64 c.First, .int .i64 c.Step, .int .i64 c.StepTime, .int .i64 c.S_, .int .i64 c.Cap, .int .i64 c.Span, .int .i64 c.Room, .int .i64 c.Tries, .int .i64 c.Retry, .int .i64 node, .ptr 1 0 0]]⟩, some ⟨4, true, [[.msl 2 0 ((List.map (eInt .u8) b2).length) ((List.map (eInt .u8) b2).length) false, .msl 3 0 ((List.map (eInt .u8) b3).length) ((List.map (eInt .u8) b3).length) false, .int .i64 fuse, .bool down]]⟩, some ⟨1, false, (List.map (eInt .u8) b2)⟩, some ⟨1, false, (List.map (eInt .u8) b3)⟩])
inductive acceptor_each__take_S where
 | s0 (kept : keptT)
 | s1 (t11 : Int) (t12 : Int) (kept2 : keptT)
noncomputable def acceptor_each__take_M (kinds : List Int) (bodies : List (List Int)) (c : Config) (node : Int) (fuse : Int) (down : Bool) (b2 : List Int) (b3 : List Int) : acceptor_each__take_S → M
 | .s0 kept => startM Tryd.f34 [.sl false 1 (List.map (eInt .u8) kinds), .sl false 1 (List.map (eSl 1 (eInt .u8)) bodies), .fn 35 [.ptr 0 0 0] []] [some ⟨67, true, [[.int .i64 kept.epoch, .int .i64 kept.known.Epoch, .int .i64 kept.known.Target, .int .i64 kept.known.Prev, .int .i64 kept.known.Spill, .int .i64 kept.known.Percent, .int .i64 kept.known.Stamp, .int .i64 kept.known.Since, .int .i64 kept.known.Ramped, .int .u64 kept.known.Up, .int .u64 kept.known.Sup, .sl false 1 (List.map (eInt .i64) kept.known.Pen), .sl false 1 (List.map (eInt .i64) kept.known.Changes), .int .i64 kept.promised, .int .i64 kept.accepted, .int .i64 kept.plan.Epoch, .int .i64 kept.plan.Target, .int .i64 kept.plan.Prev, .int .i64 kept.plan.Spill, .int .i64 kept.plan.Percent, .int .i64 kept.plan.Stamp, .int .i64 kept.plan.Since, .int .i64 kept.plan.Ramped, .int .u64 kept.plan.Up, .int .u64 kept.plan.Sup, .sl false 1 (List.map (eInt .i64) kept.plan.Pen), .sl false 1 (List.map (eInt .i64) kept.plan.Changes), .int .i64 kept.writes.low, .int .i64 kept.writes.high, .int .i64 kept.writes.at_, .int .i64 kept.wish, .int .i64 kept.wishAt, .bool kept.lead.is_, .int .i64 kept.lead.who, .int .i64 kept.lead.at_, .int .i64 c.F_, .int .i64 c.Deciders, .int .i64 c.Targets, .int .i64 c.Routers, .int .i64 c.Observers, .sl false 1 (List.map (eInt .i64) c.Tiers), .int .i64 c.Every, .int .i64 c.Wait, .int .i64 c.Rise, .int .i64 c.Fall, .int .i64 c.Fresh, .int .i64 c.L_, .int .i64 c.M_, .int .i64 c.Dwell, .int .i64 c.D_, .int .i64 c.W_, .int .i64 c.B_, .int .i64 c.Hit, .int .i64 c.Suppress, .int .i64 c.Reuse, .int .i64 c.Half, .int .i64 c.First, .int .i64 c.Step, .int .i64 c.StepTime, .int .i64 c.S_, .int .i64 c.Cap, .int .i64 c.Span, .int .i64 c.Room, .int .i64 c.Tries, .int .i64 c.Retry, .int .i64 node, .ptr 1 0 0]]⟩, some ⟨4, true, [[.msl 2 0 ((List.map (eInt .u8) b2).length) ((List.map (eInt .u8) b2).length) false, .msl 3 0 ((List.map (eInt .u8) b3).length) ((List.map (eInt .u8) b3).length) false, .int .i64 fuse, .bool down]]⟩, some ⟨1, false, (List.map (eInt .u8) b2)⟩, some ⟨1, false, (List.map (eInt .u8) b3)⟩]
 | .s1 t11 t12 kept2 => ⟨[.lpc (acceptor_each__take_c [1, 0, 0]) 7174, .blk 0], [(1, .sl false 1 (List.map (eSl 1 (eInt .u8)) bodies)), (2, .fn 35 [.ptr 0 0 0] []), (10, .sl false 1 (List.map (eInt .u8) kinds)), (11, .int .i64 t11), (12, .int .i64 t12)], [some ⟨67, true, [[.int .i64 kept2.epoch, .int .i64 kept2.known.Epoch, .int .i64 kept2.known.Target, .int .i64 kept2.known.Prev, .int .i64 kept2.known.Spill, .int .i64 kept2.known.Percent, .int .i64 kept2.known.Stamp, .int .i64 kept2.known.Since, .int .i64 kept2.known.Ramped, .int .u64 kept2.known.Up, .int .u64 kept2.known.Sup, .sl false 1 (List.map (eInt .i64) kept2.known.Pen), .sl false 1 (List.map (eInt .i64) kept2.known.Changes), .int .i64 kept2.promised, .int .i64 kept2.accepted, .int .i64 kept2.plan.Epoch, .int .i64 kept2.plan.Target, .int .i64 kept2.plan.Prev, .int .i64 kept2.plan.Spill, .int .i64 kept2.plan.Percent, .int .i64 kept2.plan.Stamp, .int .i64 kept2.plan.Since, .int .i64 kept2.plan.Ramped, .int .u64 kept2.plan.Up, .int .u64 kept2.plan.Sup, .sl false 1 (List.map (eInt .i64) kept2.plan.Pen), .sl false 1 (List.map (eInt .i64) kept2.plan.Changes), .int .i64 kept2.writes.low, .int .i64 kept2.writes.high, .int .i64 kept2.writes.at_, .int .i64 kept2.wish, .int .i64 kept2.wishAt, .bool kept2.lead.is_, .int .i64 kept2.lead.who, .int .i64 kept2.lead.at_, .int .i64 c.F_, .int .i64 c.Deciders, .int .i64 c.Targets, .int .i64 c.Routers, .int .i64 c.Observers, .sl false 1 (List.map (eInt .i64) c.Tiers), .int .i64 c.Every, .int .i64 c.Wait, .int .i64 c.Rise, .int .i64 c.Fall, .int .i64 c.Fresh, .int .i64 c.L_, .int .i64 c.M_, .int .i64 c.Dwell, .int .i64 c.D_, .int .i64 c.W_, .int .i64 c.B_, .int .i64 c.Hit, .int .i64 c.Suppress, .int .i64 c.Reuse, .int .i64 c.Half, .int .i64 c.First, .int .i64 c.Step, .int .i64 c.StepTime, .int .i64 c.S_, .int .i64 c.Cap, .int .i64 c.Span, .int .i64 c.Room, .int .i64 c.Tries, .int .i64 c.Retry, .int .i64 node, .ptr 1 0 0]]⟩, some ⟨4, true, [[.msl 2 0 ((List.map (eInt .u8) b2).length) ((List.map (eInt .u8) b2).length) false, .msl 3 0 ((List.map (eInt .u8) b3).length) ((List.map (eInt .u8) b3).length) false, .int .i64 fuse, .bool down]]⟩, some ⟨1, false, (List.map (eInt .u8) b2)⟩, some ⟨1, false, (List.map (eInt .u8) b3)⟩]⟩
abbrev acceptor_each__take_W (kinds : List Int) (bodies : List (List Int)) (c : Config) (node : Int) (fuse : Int) (down : Bool) (b2 : List Int) (b3 : List Int) := SOk E (Cx.of Tryd.f34 false 4) (acceptor_each__take_e c node fuse down b2 b3) (acceptor_each__take_M kinds bodies c node fuse down b2 b3)
noncomputable def acceptor_each__take_0 (kinds : List Int) (bodies : List (List Int)) (c : Config) (node : Int) (fuse : Int) (down : Bool) (b2 : List Int) (b3 : List Int) (kept : keptT) : Option (acceptor_each__take_S ⊕ keptT) := (some (.inl (.s1 (((List.map (eInt .u8) kinds).length : Nat) : Int) 0 kept)))
noncomputable def acceptor_each__take_1 (kinds : List Int) (bodies : List (List Int)) (c : Config) (node : Int) (fuse : Int) (down : Bool) (b2 : List Int) (b3 : List Int) (t11 : Int) (t12 : Int) (kept2 : keptT) : Option (acceptor_each__take_S ⊕ keptT) := (bif (decide ((t12 : Int) < t11)) then (bif ((decide ((0 : Int) ≤ t12)) && (decide ((t12 : Int) < (((List.map (eInt .u8) kinds).length : Nat) : Int)))) then (((kinds)[t12.toNat]?).bind fun y3 => (bif ((decide ((0 : Int) ≤ t12)) && (decide ((t12 : Int) < (((List.map (eSl 1 (eInt .u8)) bodies).length : Nat) : Int)))) then (((bodies)[t12.toNat]?).bind fun y6 => ((msg_Of y3 y6).bind fun y8 => (bif ((y8.2 : Int) == 0) then ((Acceptor_take y8.1 kept2 c node fuse down b2 b3).bind fun y10 => (some (.inl (.s1 t11 (IntKind.i64.wrap (t12 + 1)) y10)))) else (some (.inl (.s1 t11 (IntKind.i64.wrap (t12 + 1)) kept2)))))) else none)) else none) else (some (.inr kept2)))
noncomputable def acceptor_each__take_step (kinds : List Int) (bodies : List (List Int)) (c : Config) (node : Int) (fuse : Int) (down : Bool) (b2 : List Int) (b3 : List Int) : acceptor_each__take_S → Option (acceptor_each__take_S ⊕ keptT)
 | .s0 kept => acceptor_each__take_0 kinds bodies c node fuse down b2 b3 kept
 | .s1 t11 t12 kept2 => acceptor_each__take_1 kinds bodies c node fuse down b2 b3 t11 t12 kept2
theorem acceptor_each__take_0_ok {kinds bodies c node fuse down b2 b3 kept} : acceptor_each__take_W kinds bodies c node fuse down b2 b3 (.s0 kept) (acceptor_each__take_0 kinds bodies c node fuse down b2 b3 kept) := by
 intro r x h ha; unfold acceptor_each__take_0 at h
 exact zj 9 h ha
theorem acceptor_each__take_1_ok {kinds bodies c node fuse down b2 b3 t11 t12 kept2} : acceptor_each__take_W kinds bodies c node fuse down b2 b3 (.s1 t11 t12 kept2) (acceptor_each__take_1 kinds bodies c node fuse down b2 b3 t11 t12 kept2) := by
 intro r x h ha; unfold acceptor_each__take_1 at h
 refine zs 7 h (fun h => ?_) fun h => ?_
 ·
  refine zn 7 h fun h => ?_
  refine zr 1 (eInt .u8) h fun y3 h => ?_
  refine zn 9 h fun h => ?_
  refine zr 1 (eSl 1 (eInt .u8)) h fun y6 h => ?_
  refine zc 1 [] h (fun _ => msg_Of_ok) fun y8 h => ?_
  refine zs 15 h (fun h => ?_) fun h => ?_
  ·
   refine zc 5 [] h (fun _ => Acceptor_take_ok) fun y10 h => ?_
   exact zj 7 h ha
  exact zj 7 h ha
 exact zt 2 h ha
noncomputable def acceptor_each__take (kinds : List Int) (bodies : List (List Int)) (kept : keptT) (c : Config) (node : Int) (fuse : Int) (down : Bool) (b2 : List Int) (b3 : List Int) : Option keptT := evf (acceptor_each__take_step kinds bodies c node fuse down b2 b3) (.s0 kept)
theorem acceptor_each__take_ok {kinds : List Int} {bodies : List (List Int)} {kept : keptT} {c : Config} {node : Int} {fuse : Int} {down : Bool} {b2 : List Int} {b3 : List Int} {r : keptT} (h : acceptor_each__take kinds bodies kept c node fuse down b2 b3 = some r) : Sound E 34 [.sl false 1 (List.map (eInt .u8) kinds), .sl false 1 (List.map (eSl 1 (eInt .u8)) bodies), .fn 35 [.ptr 0 0 0] []] [some ⟨67, true, [[.int .i64 kept.epoch, .int .i64 kept.known.Epoch, .int .i64 kept.known.Target, .int .i64 kept.known.Prev, .int .i64 kept.known.Spill, .int .i64 kept.known.Percent, .int .i64 kept.known.Stamp, .int .i64 kept.known.Since, .int .i64 kept.known.Ramped, .int .u64 kept.known.Up, .int .u64 kept.known.Sup, .sl false 1 (List.map (eInt .i64) kept.known.Pen), .sl false 1 (List.map (eInt .i64) kept.known.Changes), .int .i64 kept.promised, .int .i64 kept.accepted, .int .i64 kept.plan.Epoch, .int .i64 kept.plan.Target, .int .i64 kept.plan.Prev, .int .i64 kept.plan.Spill, .int .i64 kept.plan.Percent, .int .i64 kept.plan.Stamp, .int .i64 kept.plan.Since, .int .i64 kept.plan.Ramped, .int .u64 kept.plan.Up, .int .u64 kept.plan.Sup, .sl false 1 (List.map (eInt .i64) kept.plan.Pen), .sl false 1 (List.map (eInt .i64) kept.plan.Changes), .int .i64 kept.writes.low, .int .i64 kept.writes.high, .int .i64 kept.writes.at_, .int .i64 kept.wish, .int .i64 kept.wishAt, .bool kept.lead.is_, .int .i64 kept.lead.who, .int .i64 kept.lead.at_, .int .i64 c.F_, .int .i64 c.Deciders, .int .i64 c.Targets, .int .i64 c.Routers, .int .i64 c.Observers, .sl false 1 (List.map (eInt .i64) c.Tiers), .int .i64 c.Every, .int .i64 c.Wait, .int .i64 c.Rise, .int .i64 c.Fall, .int .i64 c.Fresh, .int .i64 c.L_, .int .i64 c.M_, .int .i64 c.Dwell, .int .i64 c.D_, .int .i64 c.W_, .int .i64 c.B_, .int .i64 c.Hit, .int .i64 c.Suppress, .int .i64 c.Reuse, .int .i64 c.Half, .int .i64 c.First, .int .i64 c.Step, .int .i64 c.StepTime, .int .i64 c.S_, .int .i64 c.Cap, .int .i64 c.Span, .int .i64 c.Room, .int .i64 c.Tries, .int .i64 c.Retry, .int .i64 node, .ptr 1 0 0]]⟩, some ⟨4, true, [[.msl 2 0 ((List.map (eInt .u8) b2).length) ((List.map (eInt .u8) b2).length) false, .msl 3 0 ((List.map (eInt .u8) b3).length) ((List.map (eInt .u8) b3).length) false, .int .i64 fuse, .bool down]]⟩, some ⟨1, false, (List.map (eInt .u8) b2)⟩, some ⟨1, false, (List.map (eInt .u8) b3)⟩] (Rs (acceptor_each__take_e c node fuse down b2 b3) r) := sc (fn := Tryd.f34) (k := false) (m := 4) (stM := (acceptor_each__take_M kinds bodies c node fuse down b2 b3)) h fun s => by
 cases s with
 | s0 => exact acceptor_each__take_0_ok
 | s1 => exact acceptor_each__take_1_ok
end Go.RX.L

set_option linter.unusedSimpArgs false
set_option linter.unusedVariables false
set_option maxRecDepth 100000
set_option maxHeartbeats 4000000
namespace Go.RX.L
open Go Go.RX Go.Proofs
attribute [local irreducible] FinQ
noncomputable def Acceptor_Restart_e (c : Config) (node : Int) (y : Int × keptT × Int × Bool × (List Int) × (List Int)) : D × Sto := (.int .i64 y.1, [some ⟨67, true, [[.int .i64 y.2.1.epoch, .int .i64 y.2.1.known.Epoch, .int .i64 y.2.1.known.Target, .int .i64 y.2.1.known.Prev, .int .i64 y.2.1.known.Spill, .int .i64 y.2.1.known.Percent, .int .i64 y.2.1.known.Stamp, .int .i64 y.2.1.known.Since, .int .i64 y.2.1.known.Ramped, .int .u64 y.2.1.known.Up, .int .u64 y.2.1.known.Sup, .sl false 1 (List.map (eInt .i64) y.2.1.known.Pen), .sl false 1 (List.map (eInt .i64) y.2.1.known.Changes), .int .i64 y.2.1.promised, .int .i64 y.2.1.accepted, .int .i64 y.2.1.plan.Epoch, .int .i64 y.2.1.plan.Target, .int .i64 y.2.1.plan.Prev, .int .i64 y.2.1.plan.Spill, .int .i64 y.2.1.plan.Percent, .int .i64 y.2.1.plan.Stamp, .int .i64 y.2.1.plan.Since, .int .i64 y.2.1.plan.Ramped, .int .u64 y.2.1.plan.Up, .int .u64 y.2.1.plan.Sup, .sl false 1 (List.map (eInt .i64) y.2.1.plan.Pen), .sl false 1 (List.map (eInt .i64) y.2.1.plan.Changes), .int .i64 y.2.1.writes.low, .int .i64 y.2.1.writes.high, .int .i64 y.2.1.writes.at_, .int .i64 y.2.1.wish, .int .i64 y.2.1.wishAt, .bool y.2.1.lead.is_, .int .i64 y.2.1.lead.who, .int .i64 y.2.1.lead.at_, .int .i64 c.F_, .int .i64 c.Deciders, .int .i64 c.Targets, .int .i64 c.Routers, .int .i64 c.Observers, .sl false 1 (List.map (eInt .i64) c.Tiers), .int .i64 c.Every, .int .i64 c.Wait, .int .i64 c.Rise, .int .i64 c.Fall, .int .i64 c.Fresh, .int .i64 c.L_, .int .i64 c.M_, .int .i64 c.Dwell, .int .i64 c.D_, .int .i64 c.W_, .int .i64 c.B_, .int .i64 c.Hit, .int .i64 c.Suppress, .int .i64 c.Reuse, .int .i64 c.Half, .int .i64 c.First, .int .i64 c.Step, .int .i64 c.StepTime, .int .i64 c.S_, .int .i64 c.Cap, .int .i64 c.Span, .int .i64 c.Room, .int .i64 c.Tries, .int .i64 c.Retry, .int .i64 node, .ptr 1 0 0]]⟩, some ⟨4, true, [[.msl 4 0 ((List.map (eInt .u8) y.2.2.2.2.1).length) ((List.map (eInt .u8) y.2.2.2.2.1).length) false, .msl 5 0 ((List.map (eInt .u8) y.2.2.2.2.2).length) ((List.map (eInt .u8) y.2.2.2.2.2).length) false, .int .i64 y.2.2.1, .bool y.2.2.2.1]]⟩, none, none, some ⟨1, false, (List.map (eInt .u8) y.2.2.2.2.1)⟩, some ⟨1, false, (List.map (eInt .u8) y.2.2.2.2.2)⟩])
noncomputable def Acceptor_Restart (now : Int) (kept : keptT) (c : Config) (node : Int) (fuse : Int) (down : Bool) (b2 : List Int) (b3 : List Int) : Option (Int × keptT × Int × Bool × (List Int) × (List Int)) := ((Acceptor_clear kept c node fuse down b2 b3).bind fun y1 => ((Journal_Open fuse down b2 b3).bind fun y2 => (bif ((y2.2.2.1 : Int) != 0) then (some (y2.2.2.1, y1, y2.2.2.2.1, y2.2.2.2.2.1, y2.2.2.2.2.2.1, y2.2.2.2.2.2.2)) else ((acceptor_each__take y2.1 y2.2.1 y1 c node y2.2.2.2.1 y2.2.2.2.2.1 y2.2.2.2.2.2.1 y2.2.2.2.2.2.2).bind fun y4 => (some (0, (⟨y4.epoch, y4.known, y4.promised, y4.accepted, y4.plan, (⟨y4.writes.low, y4.writes.high, now⟩ : spanT), y4.wish, y4.wishAt, (⟨y4.lead.is_, y4.lead.who, now⟩ : leaderT)⟩ : keptT), y2.2.2.2.1, y2.2.2.2.2.1, y2.2.2.2.2.2.1, y2.2.2.2.2.2.2))))))
theorem Acceptor_Restart_ok {now : Int} {kept : keptT} {c : Config} {node : Int} {fuse : Int} {down : Bool} {b2 : List Int} {b3 : List Int} {r : Int × keptT × Int × Bool × (List Int) × (List Int)} (h : Acceptor_Restart now kept c node fuse down b2 b3 = some r) : Sound E 18 [.ptr 0 0 0, .int .i64 now] [some ⟨67, true, [[.int .i64 kept.epoch, .int .i64 kept.known.Epoch, .int .i64 kept.known.Target, .int .i64 kept.known.Prev, .int .i64 kept.known.Spill, .int .i64 kept.known.Percent, .int .i64 kept.known.Stamp, .int .i64 kept.known.Since, .int .i64 kept.known.Ramped, .int .u64 kept.known.Up, .int .u64 kept.known.Sup, .sl false 1 (List.map (eInt .i64) kept.known.Pen), .sl false 1 (List.map (eInt .i64) kept.known.Changes), .int .i64 kept.promised, .int .i64 kept.accepted, .int .i64 kept.plan.Epoch, .int .i64 kept.plan.Target, .int .i64 kept.plan.Prev, .int .i64 kept.plan.Spill, .int .i64 kept.plan.Percent, .int .i64 kept.plan.Stamp, .int .i64 kept.plan.Since, .int .i64 kept.plan.Ramped, .int .u64 kept.plan.Up, .int .u64 kept.plan.Sup, .sl false 1 (List.map (eInt .i64) kept.plan.Pen), .sl false 1 (List.map (eInt .i64) kept.plan.Changes), .int .i64 kept.writes.low, .int .i64 kept.writes.high, .int .i64 kept.writes.at_, .int .i64 kept.wish, .int .i64 kept.wishAt, .bool kept.lead.is_, .int .i64 kept.lead.who, .int .i64 kept.lead.at_, .int .i64 c.F_, .int .i64 c.Deciders, .int .i64 c.Targets, .int .i64 c.Routers, .int .i64 c.Observers, .sl false 1 (List.map (eInt .i64) c.Tiers), .int .i64 c.Every, .int .i64 c.Wait, .int .i64 c.Rise, .int .i64 c.Fall, .int .i64 c.Fresh, .int .i64 c.L_, .int .i64 c.M_, .int .i64 c.Dwell, .int .i64 c.D_, .int .i64 c.W_, .int .i64 c.B_, .int .i64 c.Hit, .int .i64 c.Suppress, .int .i64 c.Reuse, .int .i64 c.Half, .int .i64 c.First, .int .i64 c.Step, .int .i64 c.StepTime, .int .i64 c.S_, .int .i64 c.Cap, .int .i64 c.Span, .int .i64 c.Room, .int .i64 c.Tries, .int .i64 c.Retry, .int .i64 node, .ptr 1 0 0]]⟩, some ⟨4, true, [[.msl 2 0 ((List.map (eInt .u8) b2).length) ((List.map (eInt .u8) b2).length) false, .msl 3 0 ((List.map (eInt .u8) b3).length) ((List.map (eInt .u8) b3).length) false, .int .i64 fuse, .bool down]]⟩, some ⟨1, false, (List.map (eInt .u8) b2)⟩, some ⟨1, false, (List.map (eInt .u8) b3)⟩] (Rs (Acceptor_Restart_e c node) r) := so (fn := Tryd.f18) (k := true) (m := 4) h <| by
 intro r h; unfold Acceptor_Restart at h
 refine zc 8 [] h (fun _ => Acceptor_clear_ok) fun y1 h => ?_
 refine zc 9 [] h (fun _ => Journal_Open_ok) fun y2 h => ?_
 refine zs 15 h (fun h => ?_) fun h => ?_
 ·
  exact zu 6 h
 refine adv_ok hm 8 _ ?_
 have ok4 := fun (y : keptT) (hy : acceptor_each__take y2.1 y2.2.1 y1 c node y2.2.2.2.1 y2.2.2.2.2.1 y2.2.2.2.2.2.1 y2.2.2.2.2.2.2 = some y) => @Eq.mp (Sound E 34 [.sl false 1 (List.map (eInt .u8) y2.1), .sl false 1 (List.map (eSl 1 (eInt .u8)) y2.2.1), .fn 35 [.ptr 0 0 0] []] [some ⟨67, true, [[.int .i64 y1.epoch, .int .i64 y1.known.Epoch, .int .i64 y1.known.Target, .int .i64 y1.known.Prev, .int .i64 y1.known.Spill, .int .i64 y1.known.Percent, .int .i64 y1.known.Stamp, .int .i64 y1.known.Since, .int .i64 y1.known.Ramped, .int .u64 y1.known.Up, .int .u64 y1.known.Sup, .sl false 1 (List.map (eInt .i64) y1.known.Pen), .sl false 1 (List.map (eInt .i64) y1.known.Changes), .int .i64 y1.promised, .int .i64 y1.accepted, .int .i64 y1.plan.Epoch, .int .i64 y1.plan.Target, .int .i64 y1.plan.Prev, .int .i64 y1.plan.Spill, .int .i64 y1.plan.Percent, .int .i64 y1.plan.Stamp, .int .i64 y1.plan.Since, .int .i64 y1.plan.Ramped, .int .u64 y1.plan.Up, .int .u64 y1.plan.Sup, .sl false 1 (List.map (eInt .i64) y1.plan.Pen), .sl false 1 (List.map (eInt .i64) y1.plan.Changes), .int .i64 y1.writes.low, .int .i64 y1.writes.high, .int .i64 y1.writes.at_, .int .i64 y1.wish, .int .i64 y1.wishAt, .bool y1.lead.is_, .int .i64 y1.lead.who, .int .i64 y1.lead.at_, .int .i64 c.F_, .int .i64 c.Deciders, .int .i64 c.Targets, .int .i64 c.Routers, .int .i64 c.Observers, .sl false 1 (List.map (eInt .i64) c.Tiers), .int .i64 c.Every, .int .i64 c.Wait, .int .i64 c.Rise, .int .i64 c.Fall, .int .i64 c.Fresh, .int .i64 c.L_, .int .i64 c.M_, .int .i64 c.Dwell, .int .i64 c.D_, .int .i64 c.W_, .int .i64 c.B_, .int .i64 c.Hit, .int .i64 c.Suppress, .int .i64 c.Reuse, .int .i64 c.Half, .int .i64 c.First, .int .i64 c.Step, .int .i64 c.StepTime, .int .i64 c.S_, .int .i64 c.Cap, .int .i64 c.Span, .int .i64 c.Room, .int .i64 c.Tries, .int .i64 c.Retry, .int .i64 node, .ptr 1 0 0]]⟩, some ⟨4, true, [[.msl 2 0 ((List.map (eInt .u8) y2.2.2.2.2.2.1).length) ((List.map (eInt .u8) y2.2.2.2.2.2.1).length) false, .msl 3 0 ((List.map (eInt .u8) y2.2.2.2.2.2.2).length) ((List.map (eInt .u8) y2.2.2.2.2.2.2).length) false, .int .i64 y2.2.2.2.1, .bool y2.2.2.2.2.1]]⟩, some ⟨1, false, (List.map (eInt .u8) y2.2.2.2.2.2.1)⟩, some ⟨1, false, (List.map (eInt .u8) y2.2.2.2.2.2.2)⟩] (Rs (acceptor_each__take_e c node y2.2.2.2.1 y2.2.2.2.2.1 y2.2.2.2.2.2.1 y2.2.2.2.2.2.2) y)) (Sound E 34 [.sl false 1 (List.map (eInt .u8) y2.1), .sl false 1 (List.map (eSl 1 (eInt .u8)) y2.2.1), .fn 35 [.ptr 0 0 0] []] [some ⟨67, true, [[.int .i64 y1.epoch, .int .i64 y1.known.Epoch, .int .i64 y1.known.Target, .int .i64 y1.known.Prev, .int .i64 y1.known.Spill, .int .i64 y1.known.Percent, .int .i64 y1.known.Stamp, .int .i64 y1.known.Since, .int .i64 y1.known.Ramped, .int .u64 y1.known.Up, .int .u64 y1.known.Sup, .sl false 1 (List.map (eInt .i64) y1.known.Pen), .sl false 1 (List.map (eInt .i64) y1.known.Changes), .int .i64 y1.promised, .int .i64 y1.accepted, .int .i64 y1.plan.Epoch, .int .i64 y1.plan.Target, .int .i64 y1.plan.Prev, .int .i64 y1.plan.Spill, .int .i64 y1.plan.Percent, .int .i64 y1.plan.Stamp, .int .i64 y1.plan.Since, .int .i64 y1.plan.Ramped, .int .u64 y1.plan.Up, .int .u64 y1.plan.Sup, .sl false 1 (List.map (eInt .i64) y1.plan.Pen), .sl false 1 (List.map (eInt .i64) y1.plan.Changes), .int .i64 y1.writes.low, .int .i64 y1.writes.high, .int .i64 y1.writes.at_, .int .i64 y1.wish, .int .i64 y1.wishAt, .bool y1.lead.is_, .int .i64 y1.lead.who, .int .i64 y1.lead.at_, .int .i64 c.F_, .int .i64 c.Deciders, .int .i64 c.Targets, .int .i64 c.Routers, .int .i64 c.Observers, .sl false 1 (List.map (eInt .i64) c.Tiers), .int .i64 c.Every, .int .i64 c.Wait, .int .i64 c.Rise, .int .i64 c.Fall, .int .i64 c.Fresh, .int .i64 c.L_, .int .i64 c.M_, .int .i64 c.Dwell, .int .i64 c.D_, .int .i64 c.W_, .int .i64 c.B_, .int .i64 c.Hit, .int .i64 c.Suppress, .int .i64 c.Reuse, .int .i64 c.Half, .int .i64 c.First, .int .i64 c.Step, .int .i64 c.StepTime, .int .i64 c.S_, .int .i64 c.Cap, .int .i64 c.Span, .int .i64 c.Room, .int .i64 c.Tries, .int .i64 c.Retry, .int .i64 node, .ptr 1 0 0]]⟩, some ⟨4, true, [[.msl 2 0 ((List.map (eInt .u8) y2.2.2.2.2.2.1).length) ((List.map (eInt .u8) y2.2.2.2.2.2.1).length) false, .msl 3 0 ((List.map (eInt .u8) y2.2.2.2.2.2.2).length) ((List.map (eInt .u8) y2.2.2.2.2.2.2).length) false, .int .i64 y2.2.2.2.1, .bool y2.2.2.2.2.1]]⟩, some ⟨1, false, (List.map (eInt .u8) y2.2.2.2.2.2.1)⟩, some ⟨1, false, (List.map (eInt .u8) y2.2.2.2.2.2.2)⟩] (Rs (acceptor_each__take_e c node y2.2.2.2.1 y2.2.2.2.2.1 y2.2.2.2.2.2.1 y2.2.2.2.2.2.2) y)) (by kernel_rfl) (acceptor_each__take_ok hy)
 refine zc 0 [] h ok4 fun y4 h => ?_
 exact zu 27 h
end Go.RX.L

set_option linter.unusedSimpArgs false
set_option linter.unusedVariables false
set_option maxRecDepth 100000
set_option maxHeartbeats 4000000
namespace Go.RX.L
open Go Go.RX Go.Proofs
attribute [local irreducible] FinQ
noncomputable def Acceptor_State_e (kept : keptT) (c : Config) (node : Int) (fuse : Int) (down : Bool) (b2 : List Int) (b3 : List Int) (y : Int × Int × Int × Plan) : D × Sto := (.tup [.int .i64 y.1, .int .i64 y.2.1, .int .i64 y.2.2.1, .agg [.int .i64 y.2.2.2.Epoch, .int .i64 y.2.2.2.Target, .int .i64 y.2.2.2.Prev, .int .i64 y.2.2.2.Spill, .int .i64 y.2.2.2.Percent, .int .i64 y.2.2.2.Stamp, .int .i64 y.2.2.2.Since, .int .i64 y.2.2.2.Ramped, .int .u64 y.2.2.2.Up, .int .u64 y.2.2.2.Sup, .sl false 1 (List.map (eInt .i64) y.2.2.2.Pen), .sl false 1 (List.map (eInt .i64) y.2.2.2.Changes)]], [some ⟨67, true, [[.int .i64 kept.epoch, .int .i64 kept.known.Epoch, .int .i64 kept.known.Target, .int .i64 kept.known.Prev, .int .i64 kept.known.Spill, .int .i64 kept.known.Percent, .int .i64 kept.known.Stamp, .int .i64 kept.known.Since, .int .i64 kept.known.Ramped, .int .u64 kept.known.Up, .int .u64 kept.known.Sup, .sl false 1 (List.map (eInt .i64) kept.known.Pen), .sl false 1 (List.map (eInt .i64) kept.known.Changes), .int .i64 kept.promised, .int .i64 kept.accepted, .int .i64 kept.plan.Epoch, .int .i64 kept.plan.Target, .int .i64 kept.plan.Prev, .int .i64 kept.plan.Spill, .int .i64 kept.plan.Percent, .int .i64 kept.plan.Stamp, .int .i64 kept.plan.Since, .int .i64 kept.plan.Ramped, .int .u64 kept.plan.Up, .int .u64 kept.plan.Sup, .sl false 1 (List.map (eInt .i64) kept.plan.Pen), .sl false 1 (List.map (eInt .i64) kept.plan.Changes), .int .i64 kept.writes.low, .int .i64 kept.writes.high, .int .i64 kept.writes.at_, .int .i64 kept.wish, .int .i64 kept.wishAt, .bool kept.lead.is_, .int .i64 kept.lead.who, .int .i64 kept.lead.at_, .int .i64 c.F_, .int .i64 c.Deciders, .int .i64 c.Targets, .int .i64 c.Routers, .int .i64 c.Observers, .sl false 1 (List.map (eInt .i64) c.Tiers), .int .i64 c.Every, .int .i64 c.Wait, .int .i64 c.Rise, .int .i64 c.Fall, .int .i64 c.Fresh, .int .i64 c.L_, .int .i64 c.M_, .int .i64 c.Dwell, .int .i64 c.D_, .int .i64 c.W_, .int .i64 c.B_, .int .i64 c.Hit, .int .i64 c.Suppress, .int .i64 c.Reuse, .int .i64 c.Half, .int .i64 c.First, .int .i64 c.Step, .int .i64 c.StepTime, .int .i64 c.S_, .int .i64 c.Cap, .int .i64 c.Span, .int .i64 c.Room, .int .i64 c.Tries, .int .i64 c.Retry, .int .i64 node, .ptr 1 0 0]]⟩, some ⟨4, true, [[.msl 2 0 ((List.map (eInt .u8) b2).length) ((List.map (eInt .u8) b2).length) false, .msl 3 0 ((List.map (eInt .u8) b3).length) ((List.map (eInt .u8) b3).length) false, .int .i64 fuse, .bool down]]⟩, some ⟨1, false, (List.map (eInt .u8) b2)⟩, some ⟨1, false, (List.map (eInt .u8) b3)⟩])
noncomputable def Acceptor_State (kept : keptT) (c : Config) (node : Int) (fuse : Int) (down : Bool) (b2 : List Int) (b3 : List Int) : Option (Int × Int × Int × Plan) := (some (kept.epoch, kept.promised, kept.accepted, kept.plan))
theorem Acceptor_State_ok {kept : keptT} {c : Config} {node : Int} {fuse : Int} {down : Bool} {b2 : List Int} {b3 : List Int} {r : Int × Int × Int × Plan} (h : Acceptor_State kept c node fuse down b2 b3 = some r) : Sound E 20 [.ptr 0 0 0] [some ⟨67, true, [[.int .i64 kept.epoch, .int .i64 kept.known.Epoch, .int .i64 kept.known.Target, .int .i64 kept.known.Prev, .int .i64 kept.known.Spill, .int .i64 kept.known.Percent, .int .i64 kept.known.Stamp, .int .i64 kept.known.Since, .int .i64 kept.known.Ramped, .int .u64 kept.known.Up, .int .u64 kept.known.Sup, .sl false 1 (List.map (eInt .i64) kept.known.Pen), .sl false 1 (List.map (eInt .i64) kept.known.Changes), .int .i64 kept.promised, .int .i64 kept.accepted, .int .i64 kept.plan.Epoch, .int .i64 kept.plan.Target, .int .i64 kept.plan.Prev, .int .i64 kept.plan.Spill, .int .i64 kept.plan.Percent, .int .i64 kept.plan.Stamp, .int .i64 kept.plan.Since, .int .i64 kept.plan.Ramped, .int .u64 kept.plan.Up, .int .u64 kept.plan.Sup, .sl false 1 (List.map (eInt .i64) kept.plan.Pen), .sl false 1 (List.map (eInt .i64) kept.plan.Changes), .int .i64 kept.writes.low, .int .i64 kept.writes.high, .int .i64 kept.writes.at_, .int .i64 kept.wish, .int .i64 kept.wishAt, .bool kept.lead.is_, .int .i64 kept.lead.who, .int .i64 kept.lead.at_, .int .i64 c.F_, .int .i64 c.Deciders, .int .i64 c.Targets, .int .i64 c.Routers, .int .i64 c.Observers, .sl false 1 (List.map (eInt .i64) c.Tiers), .int .i64 c.Every, .int .i64 c.Wait, .int .i64 c.Rise, .int .i64 c.Fall, .int .i64 c.Fresh, .int .i64 c.L_, .int .i64 c.M_, .int .i64 c.Dwell, .int .i64 c.D_, .int .i64 c.W_, .int .i64 c.B_, .int .i64 c.Hit, .int .i64 c.Suppress, .int .i64 c.Reuse, .int .i64 c.Half, .int .i64 c.First, .int .i64 c.Step, .int .i64 c.StepTime, .int .i64 c.S_, .int .i64 c.Cap, .int .i64 c.Span, .int .i64 c.Room, .int .i64 c.Tries, .int .i64 c.Retry, .int .i64 node, .ptr 1 0 0]]⟩, some ⟨4, true, [[.msl 2 0 ((List.map (eInt .u8) b2).length) ((List.map (eInt .u8) b2).length) false, .msl 3 0 ((List.map (eInt .u8) b3).length) ((List.map (eInt .u8) b3).length) false, .int .i64 fuse, .bool down]]⟩, some ⟨1, false, (List.map (eInt .u8) b2)⟩, some ⟨1, false, (List.map (eInt .u8) b3)⟩] (Rs (Acceptor_State_e kept c node fuse down b2 b3) r) := so (fn := Tryd.f20) (k := false) (m := 4) h <| by
 intro r h; unfold Acceptor_State at h
 exact zu 17 h
end Go.RX.L

set_option linter.unusedSimpArgs false
set_option linter.unusedVariables false
set_option maxRecDepth 100000
set_option maxHeartbeats 4000000
namespace Go.RX.L
open Go Go.RX Go.Proofs
attribute [local irreducible] FinQ
noncomputable def journal_New_e (y : Int × Bool × (List Int) × (List Int)) : D × Sto := (.ptr 0 0 0, [some ⟨4, true, [[.msl 1 0 ((List.map (eInt .u8) y.2.2.1).length) ((List.map (eInt .u8) y.2.2.1).length) false, .msl 2 0 ((List.map (eInt .u8) y.2.2.2).length) ((List.map (eInt .u8) y.2.2.2).length) false, .int .i64 y.1, .bool y.2.1]]⟩, some ⟨1, false, (List.map (eInt .u8) y.2.2.1)⟩, some ⟨1, false, (List.map (eInt .u8) y.2.2.2)⟩])
noncomputable def journal_New  : Option (Int × Bool × (List Int) × (List Int)) := (some ((-1), false, [], []))
theorem journal_New_ok  {r : Int × Bool × (List Int) × (List Int)} (h : journal_New = some r) : Sound E 25 [] [] (Rs journal_New_e r) := so (fn := Tryd.f25) (k := true) (m := 0) h <| by
 intro r h; unfold journal_New at h
 refine zf 10 [.matc 0 0 0 1, .matc 0 0 1 1] ?_
 exact zu 1 h
end Go.RX.L

set_option linter.unusedSimpArgs false
set_option linter.unusedVariables false
set_option maxRecDepth 100000
set_option maxHeartbeats 4000000
namespace Go.RX.L
open Go Go.RX Go.Proofs
attribute [local irreducible] FinQ
noncomputable def acceptor_New_c := codeAt (bodyOf Tryd.f10)
inductive acceptor_New_R where
 | r0
 | r1 (a0 : keptT) (a1 : Int) (a2 : Bool) (a3 : List Int) (a4 : List Int)
noncomputable def acceptor_New_e (c : Config) (node : Int) : acceptor_New_R → D × Sto
 | .r0 => (.nilp, [])
 | .r1 a0 a1 a2 a3 a4 => (.ptr 0 0 0, [some ⟨67, true, [[.int .i64 a0.epoch, .int .i64 a0.known.Epoch, .int .i64 a0.known.Target, .int .i64 a0.known.Prev, .int .i64 a0.known.Spill, .int .i64 a0.known.Percent, .int .i64 a0.known.Stamp, .int .i64 a0.known.Since, .int .i64 a0.known.Ramped, .int .u64 a0.known.Up, .int .u64 a0.known.Sup, .sl false 1 (List.map (eInt .i64) a0.known.Pen), .sl false 1 (List.map (eInt .i64) a0.known.Changes), .int .i64 a0.promised, .int .i64 a0.accepted, .int .i64 a0.plan.Epoch, .int .i64 a0.plan.Target, .int .i64 a0.plan.Prev, .int .i64 a0.plan.Spill, .int .i64 a0.plan.Percent, .int .i64 a0.plan.Stamp, .int .i64 a0.plan.Since, .int .i64 a0.plan.Ramped, .int .u64 a0.plan.Up, .int .u64 a0.plan.Sup, .sl false 1 (List.map (eInt .i64) a0.plan.Pen), .sl false 1 (List.map (eInt .i64) a0.plan.Changes), .int .i64 a0.writes.low, .int .i64 a0.writes.high, .int .i64 a0.writes.at_, .int .i64 a0.wish, .int .i64 a0.wishAt, .bool a0.lead.is_, .int .i64 a0.lead.who, .int .i64 a0.lead.at_, .int .i64 c.F_, .int .i64 c.Deciders, .int .i64 c.Targets, .int .i64 c.Routers, .int .i64 c.Observers, .sl false 1 (List.map (eInt .i64) c.Tiers), .int .i64 c.Every, .int .i64 c.Wait, .int .i64 c.Rise, .int .i64 c.Fall, .int .i64 c.Fresh, .int .i64 c.L_, .int .i64 c.M_, .int .i64 c.Dwell, .int .i64 c.D_, .int .i64 c.W_, .int .i64 c.B_, .int .i64 c.Hit, .int .i64 c.Suppress, .int .i64 c.Reuse, .int .i64 c.Half, .int .i64 c.First, .int .i64 c.Step, .int .i64 c.StepTime, .int .i64 c.S_, .int .i64 c.Cap, .int .i64 c.Span, .int .i64 c.Room, .int .i64 c.Tries, .int .i64 c.Retry, .int .i64 node, .ptr 1 0 0]]⟩, some ⟨4, true, [[.msl 2 0 ((List.map (eInt .u8) a3).length) ((List.map (eInt .u8) a3).length) false, .msl 3 0 ((List.map (eInt .u8) a4).length) ((List.map (eInt .u8) a4).length) false, .int .i64 a1, .bool a2]]⟩, some ⟨1, false, (List.map (eInt .u8) a3)⟩, some ⟨1, false, (List.map (eInt .u8) a4)⟩])
abbrev acceptor_New_W (c : Config) (node : Int) := AOk E (Cx.of Tryd.f10 true 0) (acceptor_New_e c node)
noncomputable def acceptor_New_1M (c : Config) (node : Int) (t16 : Bool) : M := ⟨[.code (acceptor_New_c [1, 0, 1]), .code (acceptor_New_c [1, 1])], [(1, .int .i64 node), (2, .ptr 0 0 0), (16, .bool t16)], [some ⟨30, false, [(Config.enc c)]⟩]⟩
noncomputable def acceptor_New_1 (c : Config) (node : Int) (t16 : Bool) : Option acceptor_New_R := (bif t16 then (some (acceptor_New_R.r0)) else ((journal_New ).bind fun y2 => ((Acceptor_clear (⟨0, (⟨0, 0, 0, 0, 0, 0, 0, 0, 0, 0, [], []⟩ : Plan), 0, 0, (⟨0, 0, 0, 0, 0, 0, 0, 0, 0, 0, [], []⟩ : Plan), (⟨0, 0, 0⟩ : spanT), 0, 0, (⟨false, 0, 0⟩ : leaderT)⟩ : keptT) c node y2.1 y2.2.1 y2.2.2.1 y2.2.2.2).bind fun y3 => (some (acceptor_New_R.r1 y3 y2.1 y2.2.1 y2.2.2.1 y2.2.2.2)))))
theorem acceptor_New_1_ok {c node t16} : acceptor_New_W c node (acceptor_New_1M c node t16) (acceptor_New_1 c node t16) := by
 intro r h; unfold acceptor_New_1 at h
 refine zs 1 h (fun h => ?_) fun h => ?_
 ·
  exact zu 5 h
 refine zc 4 [] h (fun _ => journal_New_ok) fun y2 h => ?_
 refine zcx 4 [] [.blk 0 [some 1, some 1, some 1, some 1]] h (fun _ => Acceptor_clear_ok) (fun y3 h => ?_)
 exact zu 7 h
noncomputable def acceptor_New (c : Config) (node : Int) : Option acceptor_New_R := ((policy_Right c).bind fun y1 => (bif (!y1) then (acceptor_New_1 c node true) else (bif (decide ((node : Int) < 0)) then (acceptor_New_1 c node true) else (acceptor_New_1 c node (decide ((node : Int) > 255))))))
theorem acceptor_New_ok {c : Config} {node : Int} {r : acceptor_New_R} (h : acceptor_New c node = some r) : Sound E 10 [.agg (Config.enc c), .int .i64 node] [] (Rs (acceptor_New_e c node) r) := so (fn := Tryd.f10) (k := true) (m := 0) h <| by
 intro r h; unfold acceptor_New at h
 refine zc 11 [] h (fun _ => policy_Right_ok) fun y1 h => ?_
 refine zs 3 h (fun h => ?_) fun h => ?_
 ·
  exact zg 12 (acceptor_New_1_ok h)
 refine zs 6 h (fun h => ?_) fun h => ?_
 ·
  exact zg 5 (acceptor_New_1_ok h)
 exact zg 5 (acceptor_New_1_ok h)
end Go.RX.L

set_option linter.unusedSimpArgs false
set_option linter.unusedVariables false
set_option maxRecDepth 100000
set_option maxHeartbeats 4000000
namespace Go.RX.L
open Go Go.RX Go.Proofs
attribute [local irreducible] FinQ
noncomputable def Acceptor_Journal_e (kept : keptT) (c : Config) (node : Int) (fuse : Int) (down : Bool) (b2 : List Int) (b3 : List Int) (y : Unit) : D × Sto := (.ptr 1 0 0, [some ⟨67, true, [[.int .i64 kept.epoch, .int .i64 kept.known.Epoch, .int .i64 kept.known.Target, .int .i64 kept.known.Prev, .int .i64 kept.known.Spill, .int .i64 kept.known.Percent, .int .i64 kept.known.Stamp, .int .i64 kept.known.Since, .int .i64 kept.known.Ramped, .int .u64 kept.known.Up, .int .u64 kept.known.Sup, .sl false 1 (List.map (eInt .i64) kept.known.Pen), .sl false 1 (List.map (eInt .i64) kept.known.Changes), .int .i64 kept.promised, .int .i64 kept.accepted, .int .i64 kept.plan.Epoch, .int .i64 kept.plan.Target, .int .i64 kept.plan.Prev, .int .i64 kept.plan.Spill, .int .i64 kept.plan.Percent, .int .i64 kept.plan.Stamp, .int .i64 kept.plan.Since, .int .i64 kept.plan.Ramped, .int .u64 kept.plan.Up, .int .u64 kept.plan.Sup, .sl false 1 (List.map (eInt .i64) kept.plan.Pen), .sl false 1 (List.map (eInt .i64) kept.plan.Changes), .int .i64 kept.writes.low, .int .i64 kept.writes.high, .int .i64 kept.writes.at_, .int .i64 kept.wish, .int .i64 kept.wishAt, .bool kept.lead.is_, .int .i64 kept.lead.who, .int .i64 kept.lead.at_, .int .i64 c.F_, .int .i64 c.Deciders, .int .i64 c.Targets, .int .i64 c.Routers, .int .i64 c.Observers, .sl false 1 (List.map (eInt .i64) c.Tiers), .int .i64 c.Every, .int .i64 c.Wait, .int .i64 c.Rise, .int .i64 c.Fall, .int .i64 c.Fresh, .int .i64 c.L_, .int .i64 c.M_, .int .i64 c.Dwell, .int .i64 c.D_, .int .i64 c.W_, .int .i64 c.B_, .int .i64 c.Hit, .int .i64 c.Suppress, .int .i64 c.Reuse, .int .i64 c.Half, .int .i64 c.First, .int .i64 c.Step, .int .i64 c.StepTime, .int .i64 c.S_, .int .i64 c.Cap, .int .i64 c.Span, .int .i64 c.Room, .int .i64 c.Tries, .int .i64 c.Retry, .int .i64 node, .ptr 1 0 0]]⟩, some ⟨4, true, [[.msl 2 0 ((List.map (eInt .u8) b2).length) ((List.map (eInt .u8) b2).length) false, .msl 3 0 ((List.map (eInt .u8) b3).length) ((List.map (eInt .u8) b3).length) false, .int .i64 fuse, .bool down]]⟩, some ⟨1, false, (List.map (eInt .u8) b2)⟩, some ⟨1, false, (List.map (eInt .u8) b3)⟩])
noncomputable def Acceptor_Journal (kept : keptT) (c : Config) (node : Int) (fuse : Int) (down : Bool) (b2 : List Int) (b3 : List Int) : Option Unit := (some ())
theorem Acceptor_Journal_ok {kept : keptT} {c : Config} {node : Int} {fuse : Int} {down : Bool} {b2 : List Int} {b3 : List Int} {r : Unit} (h : Acceptor_Journal kept c node fuse down b2 b3 = some r) : Sound E 15 [.ptr 0 0 0] [some ⟨67, true, [[.int .i64 kept.epoch, .int .i64 kept.known.Epoch, .int .i64 kept.known.Target, .int .i64 kept.known.Prev, .int .i64 kept.known.Spill, .int .i64 kept.known.Percent, .int .i64 kept.known.Stamp, .int .i64 kept.known.Since, .int .i64 kept.known.Ramped, .int .u64 kept.known.Up, .int .u64 kept.known.Sup, .sl false 1 (List.map (eInt .i64) kept.known.Pen), .sl false 1 (List.map (eInt .i64) kept.known.Changes), .int .i64 kept.promised, .int .i64 kept.accepted, .int .i64 kept.plan.Epoch, .int .i64 kept.plan.Target, .int .i64 kept.plan.Prev, .int .i64 kept.plan.Spill, .int .i64 kept.plan.Percent, .int .i64 kept.plan.Stamp, .int .i64 kept.plan.Since, .int .i64 kept.plan.Ramped, .int .u64 kept.plan.Up, .int .u64 kept.plan.Sup, .sl false 1 (List.map (eInt .i64) kept.plan.Pen), .sl false 1 (List.map (eInt .i64) kept.plan.Changes), .int .i64 kept.writes.low, .int .i64 kept.writes.high, .int .i64 kept.writes.at_, .int .i64 kept.wish, .int .i64 kept.wishAt, .bool kept.lead.is_, .int .i64 kept.lead.who, .int .i64 kept.lead.at_, .int .i64 c.F_, .int .i64 c.Deciders, .int .i64 c.Targets, .int .i64 c.Routers, .int .i64 c.Observers, .sl false 1 (List.map (eInt .i64) c.Tiers), .int .i64 c.Every, .int .i64 c.Wait, .int .i64 c.Rise, .int .i64 c.Fall, .int .i64 c.Fresh, .int .i64 c.L_, .int .i64 c.M_, .int .i64 c.Dwell, .int .i64 c.D_, .int .i64 c.W_, .int .i64 c.B_, .int .i64 c.Hit, .int .i64 c.Suppress, .int .i64 c.Reuse, .int .i64 c.Half, .int .i64 c.First, .int .i64 c.Step, .int .i64 c.StepTime, .int .i64 c.S_, .int .i64 c.Cap, .int .i64 c.Span, .int .i64 c.Room, .int .i64 c.Tries, .int .i64 c.Retry, .int .i64 node, .ptr 1 0 0]]⟩, some ⟨4, true, [[.msl 2 0 ((List.map (eInt .u8) b2).length) ((List.map (eInt .u8) b2).length) false, .msl 3 0 ((List.map (eInt .u8) b3).length) ((List.map (eInt .u8) b3).length) false, .int .i64 fuse, .bool down]]⟩, some ⟨1, false, (List.map (eInt .u8) b2)⟩, some ⟨1, false, (List.map (eInt .u8) b3)⟩] (Rs (Acceptor_Journal_e kept c node fuse down b2 b3) r) := so (fn := Tryd.f15) (k := true) (m := 4) h <| by
 intro r h; unfold Acceptor_Journal at h
 exact zu 14 h
end Go.RX.L

set_option linter.unusedSimpArgs false
set_option linter.unusedVariables false
set_option maxRecDepth 100000
namespace Go.RX.L
open Go Go.RX

/-! ### records that are taken -/
def withS (s : spanT) (e : Int) : spanT := if s.low = 0 then ⟨e, e, s.at_⟩ else ⟨mnI s.low e, mxI s.high e, s.at_⟩
def fromS (s : spanT) (e : Int) : spanT := if s.high < e then ⟨0, 0, s.at_⟩ else ⟨mxI s.low e, s.high, s.at_⟩
def hasS (s : spanT) (e : Int) : Prop := s.low ≠ 0 ∧ s.low ≤ e ∧ e ≤ s.high
instance (s : spanT) (e : Int) : Decidable (hasS s e) := by unfold hasS; infer_instance
def takeK (k : keptT) (m : Msg) : keptT :=
  if m.Kind = 5 then (if m.Epoch = k.epoch then ⟨m.Epoch, m.Plan, m.Ballot, k.accepted, k.plan, k.writes, k.wish, k.wishAt, k.lead⟩ else ⟨m.Epoch, m.Plan, m.Ballot, 0, zeroPl, fromS k.writes m.Epoch, k.wish, k.wishAt, k.lead⟩)
  else if m.Kind = 8 then ⟨k.epoch, k.known, m.Ballot, m.Ballot, m.Plan, k.writes, k.wish, k.wishAt, k.lead⟩
  else if m.Kind = 11 then (if m.Code = 2 then ⟨k.epoch, k.known, k.promised, k.accepted, k.plan, k.writes, k.wish, k.wishAt, ⟨true, -1, k.lead.at_⟩⟩ else ⟨k.epoch, k.known, k.promised, k.accepted, k.plan, withS k.writes m.Epoch, k.wish, k.wishAt, k.lead⟩)
  else k
theorem beqF {a b : Int} (h : ¬ a = b) : (a == b) = false := beq_eq_false_iff_ne.2 h
theorem bneT {a b : Int} (h : ¬ a = b) : (a != b) = true := bne_iff_ne.2 h
theorem with_ok (s : spanT) (e : Int) : acceptor_span_with s e = some (withS s e) := by
  unfold acceptor_span_with withS
  by_cases h : s.low = 0
  · simp [h]
  · simp [h, beqF h]
theorem from_ok (s : spanT) (e : Int) : acceptor_span_from s e = some (fromS s e) := by
  unfold acceptor_span_from fromS
  by_cases h : s.high < e
  · simp [h]
  · simp [h]
theorem has_ok (s : spanT) (e : Int) : acceptor_span_has s e = some (decide (hasS s e)) := by
  unfold acceptor_span_has hasS
  by_cases h : s.low = 0
  · simp [h]
  · by_cases h2 : s.low ≤ e
    · simp [h, h2, bneT h]
    · simp [h, h2, bneT h]
theorem take_ok (m : Msg) (k : keptT) (c : Config) (node fuse : Int) (d : Bool) (s t : List Int) : Acceptor_take m k c node fuse d s t = some (takeK k m) := by
  unfold Acceptor_take takeK
  by_cases h5 : m.Kind = 5
  · by_cases he : m.Epoch = k.epoch
    · simp [h5, he, Acceptor_take_1]
    · simp [h5, he, Acceptor_take_1, from_ok, zeroPl, bneT he]
  · by_cases h8 : m.Kind = 8
    · simp [h8]
    · by_cases h11 : m.Kind = 11
      · by_cases h2 : m.Code = 2
        · simp [h11, h2]
        · simp [h11, h2, with_ok, beqF h2]
      · simp [h5, h8, h11, beqF h5, beqF h8, beqF h11]

theorem remember_ok {r : Msg} (hr : okRec r) {k : keptT} {c : Config} {node fuse : Int} (hf : okFuse fuse) {s : List Int} (hs : s.length ≤ 10000000) :
    Acceptor_remember__take r k c node fuse false s [] = some (match eff fuse false with
      | none => (false, k, fd fuse false, true, s, [])
      | some f => (match eff f false with
        | none => (false, k, fd f false, true, s, log [r])
        | some g => (true, takeK k r, g, false, s ++ log [r], []))) := by
  have hb : msg_Body r = some (r.Kind, encB r, 0) := by rw [body_ok hr.1, bodyM, if_pos hr.2]
  obtain ⟨h1, h2, h3⟩ := hr.fr
  have ha := jappend (k := r.Kind) (body := encB r) h1 h2 h3 hf (down := false) (s := s) (t := []) (by simp)
  have hl : (log [r]).length ≤ 9000 := by rw [log_one, encF_len]; have h3' : (encB r).length ≤ 8192 := h3; omega
  simp only [Acceptor_remember__take, hb, Option.bind_some, bne_self_eq_false, cond_false, ha]
  cases he : eff fuse false with
  | none => simp [Acceptor_remember__take_1]
  | some f =>
    have hf2 := eff_fuse hf he
    have hy := jsync (fuse := f) hf2 (down := false) (s := s) (t := log [r]) (by omega)
    simp only [List.nil_append, bne_self_eq_false, cond_false, ← log_one, hy, Option.bind_some]
    cases hg : eff f false with
    | none => simp [Acceptor_remember__take_1]
    | some g => simp [Acceptor_remember__take_1, take_ok]

/-! ### what it does with a message -/
inductive Act where
  | say (out : List Msg) (k : keptT)
  | note (r : Msg) (out : keptT → List Msg) (post : keptT → keptT)
def earlyB (c : Config) (at_ now : Int) : Bool := decide (IntKind.i64.wrap (now - at_) < IntKind.i64.wrap (c.L_ + c.M_))
def dec_ (node : Int) (k : keptT) (m : Msg) : Msg := ⟨9, node, m.From, k.known.Epoch, 0, 0, 0, 0, 0, 0, true, k.known, [], [], []⟩
def nack_ (node : Int) (k : keptT) (m : Msg) : Msg := ⟨6, node, m.From, m.Epoch, k.promised, 0, 0, 0, 0, 0, false, zeroPl, [], [], []⟩
def prom_ (node : Int) (m : Msg) (k : keptT) : Msg := ⟨5, node, m.From, m.Epoch, m.Ballot, k.accepted, 0, 0, 0, 0, k.accepted != 0, k.plan, [], [], []⟩
def acc_ (node : Int) (m : Msg) : Msg := ⟨8, node, m.From, m.Epoch, m.Ballot, 0, 0, 0, 0, 0, false, zeroPl, [], [], []⟩
def lease_ (node : Int) (m : Msg) : Msg := ⟨11, node, m.From, m.Epoch, 0, 0, m.Nonce, 0, 0, m.Code, false, zeroPl, [], [], []⟩
def recP (m : Msg) (p : Plan) : Msg := ⟨5, 0, 0, m.Epoch, m.Ballot, 0, 0, 0, 0, 0, true, p, [], [], []⟩
def recA (m : Msg) : Msg := ⟨8, 0, 0, m.Epoch, m.Ballot, 0, 0, 0, 0, 0, true, m.Plan, [], [], []⟩
def recL (m : Msg) : Msg := ⟨11, m.From, 0, if m.Code = 1 then m.Epoch else 0, 0, 0, 0, 0, 0, m.Code, false, zeroPl, [], [], []⟩
def atW (now : Int) (k : keptT) : keptT := ⟨k.epoch, k.known, k.promised, k.accepted, k.plan, ⟨k.writes.low, k.writes.high, now⟩, k.wish, k.wishAt, k.lead⟩
def toL (who now : Int) (k : keptT) : keptT := ⟨k.epoch, k.known, k.promised, k.accepted, k.plan, k.writes, k.wish, k.wishAt, ⟨true, who, now⟩⟩
def prepA (c : Config) (node : Int) (k : keptT) (m : Msg) (now : Int) : Act :=
  if mnI m.Epoch m.Ballot < 1 ∨ m.HasPlan = false ∨ m.Plan.Epoch ≠ IntKind.i64.wrap (m.Epoch - 1) then .say [] k
  else if m.Epoch < k.epoch then .say [dec_ node k m] k
  else if k.epoch < m.Epoch then
    (if k.writes.low ≠ 0 ∧ k.writes.low < m.Epoch ∧ earlyB c k.writes.at_ now = true ∧ m.Code ≠ 1 then .say [] ⟨k.epoch, k.known, k.promised, k.accepted, k.plan, k.writes, mxI k.wish m.Epoch, now, k.lead⟩
     else .note (recP m m.Plan) (fun k1 => [prom_ node m k1]) id)
  else if m.Ballot ≤ k.promised then .say [nack_ node k m] k
  else .note (recP m k.known) (fun k1 => [prom_ node m k1]) id
def accA (c : Config) (node : Int) (k : keptT) (m : Msg) (now : Int) : Act :=
  if mnI m.Epoch m.Ballot < 1 ∨ m.HasPlan = false ∨ m.Plan.Epoch ≠ m.Epoch ∨ k.epoch < m.Epoch then .say [] k
  else if m.Epoch < k.epoch then .say [dec_ node k m] k
  else if m.Ballot < k.promised then .say [nack_ node k m] k
  else if k.promised < m.Ballot ∨ c.S_ < IntKind.i64.wrap (m.Plan.Stamp - now) then .say [] k
  else .note (recA m) (fun _ => [acc_ node m]) id
def wishB (c : Config) (k : keptT) (m : Msg) (now : Int) : Bool := decide (m.Epoch < k.wish) && decide (IntKind.i64.wrap (now - k.wishAt) < IntKind.i64.wrap ((2 : Int) * IntKind.i64.wrap (c.L_ + c.M_)))
def grA (c : Config) (node : Int) (k : keptT) (m : Msg) (now : Int) : Act :=
  if m.Code = 1 then
    (if m.Epoch < mxI k.epoch 1 ∨ wishB c k m now = true then .say [] k
     else if hasS k.writes m.Epoch then .say [lease_ node m] (atW now k)
     else .note (recL m) (fun _ => [lease_ node m]) (atW now))
  else if m.Code = 2 then
    (if k.lead.is_ = true ∧ k.lead.who = m.From then .say [lease_ node m] (toL m.From now k)
     else if k.lead.is_ = true ∧ earlyB c k.lead.at_ now = true then .say [] k
     else .note (recL m) (fun _ => [lease_ node m]) (toL m.From now))
  else .say [] k
def act (c : Config) (node : Int) (k : keptT) (m : Msg) (now : Int) : Act :=
  if m.Kind = 4 then prepA c node k m now else if m.Kind = 7 then accA c node k m now else if m.Kind = 10 then grA c node k m now else .say [] k
def runA (k : keptT) (fuse : Int) (s : List Int) : Act → List Msg × keptT × Int × Bool × List Int × List Int
  | .say out k' => (out, k', fuse, false, s, [])
  | .note r out post => (match eff fuse false with
    | none => ([], k, fd fuse false, true, s, [])
    | some f => (match eff f false with
      | none => ([], k, fd f false, true, s, log [r])
      | some g => (out (takeK k r), post (takeK k r), g, false, s ++ log [r], [])))

section
variable {c : Config} {node : Int} {k : keptT} {m : Msg} {now fuse : Int} {s : List Int}

/-- A plan that may be, and is as wide as can be told. -/
structure PlOk (p : Plan) : Prop where
  r : rightP p = true
  f : Fine p
  u1 : inK .u64 p.Up
  u2 : inK .u64 p.Sup
theorem planOk (hf : FineM m) (hr : rightM m = true) (h : m.HasPlan = true) : PlOk m.Plan := by
  simp only [rightM, Bool.and_eq_true, planB, h, cond_true] at hr
  exact ⟨hr.2.2, hf.pl, hf.sh.up, hf.sh.sup⟩
theorem recPl (e b : Int) (he : inK .i64 e) (hb : inK .i64 b) (kd : Int) (hk : kd = 5 ∨ kd = 8) {p : Plan} (h : PlOk p) : okRec ⟨kd, 0, 0, e, b, 0, 0, 0, 0, 0, true, p, [], [], []⟩ := by
  refine ⟨⟨⟨h.f.s, h.u1, h.u2⟩, h.f, ?_, by simp, fun x hx => by simp at hx, fun x hx => by simp at hx, fun x hx => by simp at hx⟩, ?_⟩
  · intro x hx
    simp only [List.mem_cons, List.not_mem_nil, or_false] at hx
    rcases hx with rfl | rfl | rfl | rfl | rfl <;> first | assumption | exact inI64.2 (by decide)
  · simp only [rightM, Bool.and_eq_true, decide_eq_true_eq, planB, cond_true, h.r, and_true]
    exact ⟨by unfold hdM; simp only; omega, by unfold txM; simp⟩
theorem recLk (hf : FineM m) (hr : rightM m = true) : okRec (recL m) := by
  have h0 : rightP zeroPl = true ∨ True := .inr trivial
  have hd : hdM m := by simp only [rightM, Bool.and_eq_true, decide_eq_true_eq] at hr; exact hr.1
  unfold hdM at hd
  refine ⟨⟨⟨⟨by simp [recL, zeroPl], by simp [recL, zeroPl]⟩, inU64.2 (by simp [recL, zeroPl]), inU64.2 (by simp [recL, zeroPl])⟩, ⟨inI64.2 (by simp [recL, zeroPl]), by simp [recL, zeroPl], by simp [recL, zeroPl], ⟨by simp [recL, zeroPl], by simp [recL, zeroPl]⟩⟩, ?_, by simp [recL], fun x hx => by simp [recL] at hx, fun x hx => by simp [recL] at hx, fun x hx => by simp [recL] at hx⟩, ?_⟩
  · intro x hx
    have he : inK .i64 m.Epoch := hf.w _ (by simp)
    simp only [recL, List.mem_cons, List.not_mem_nil, or_false] at hx
    rcases hx with rfl | rfl | rfl | rfl | rfl
    · split
      · exact he
      · exact inI64.2 (by decide)
    all_goals exact inI64.2 (by decide)
  · simp only [rightM, Bool.and_eq_true, decide_eq_true_eq, planB, recL, cond_false]
    refine ⟨?_, ?_, by rw [sameP_iff]⟩
    · unfold hdM; simp; omega
    · unfold txM; simp

theorem epoch_in (hf : FineM m) : inK .i64 m.Epoch := hf.w _ (by simp)
theorem ballot_in (hf : FineM m) : inK .i64 m.Ballot := hf.w _ (by simp)

theorem mn_lt1 (a b : Int) : (mnI a b < 1) ↔ a < 1 ∨ b < 1 := by unfold mnI; split <;> omega

theorem prep_ok (hf : FineM m) (hr : rightM m = true) (hk : PlOk k.known) (hfu : okFuse fuse) (hs : s.length ≤ 10000000) :
    Acceptor_prepare m now k c node fuse false s [] = some (runA k fuse s (prepA c node k m now)) := by
  have he := epoch_in hf
  have hb := ballot_in hf
  have p1t : ∀ p, Acceptor_prepare_1 m now k c node fuse false s [] true p = some (runA k fuse s (.say [] ⟨k.epoch, k.known, k.promised, k.accepted, k.plan, k.writes, mxI k.wish m.Epoch, now, k.lead⟩)) := fun p => by
    simp [Acceptor_prepare_1, runA]
  have note : ∀ p, PlOk p → (Acceptor_remember__take (recP m p) k c node fuse false s []).bind (fun y2 => (bif (!y2.1) then (some ([], y2.2.1, y2.2.2.1, y2.2.2.2.1, y2.2.2.2.2.1, y2.2.2.2.2.2)) else ((Acceptor_reply m 5 y2.2.1 c node y2.2.2.1 y2.2.2.2.1 y2.2.2.2.2.1 y2.2.2.2.2.2).bind fun y4 => (some ([(⟨y4.Kind, y4.From, y4.To, y4.Epoch, m.Ballot, y2.2.1.accepted, y4.Nonce, y4.Time, y4.Up, y4.Code, ((y2.2.1.accepted : Int) != 0), y2.2.1.plan, y4.ID, y4.Session, y4.Payload⟩ : Msg)], y2.2.1, y2.2.2.1, y2.2.2.2.1, y2.2.2.2.2.1, y2.2.2.2.2.2))))) = some (runA k fuse s (.note (recP m p) (fun k1 => [prom_ node m k1]) id)) := fun p hp => by
    have hrem := remember_ok (k := k) (c := c) (node := node) (recPl m.Epoch m.Ballot he hb 5 (.inl rfl) hp) hfu hs
    simp only [recP, hrem, Option.bind_some, runA]
    cases eff fuse false with
    | none => simp
    | some f => cases h9_ : eff f false with
      | none => simp [h9_]
      | some g => simp [h9_, Acceptor_reply, prom_]
  have p1f : m.HasPlan = true → Acceptor_prepare_1 m now k c node fuse false s [] false m.Plan = some (runA k fuse s (.note (recP m m.Plan) (fun k1 => [prom_ node m k1]) id)) := fun hh => by
    have := note m.Plan (planOk hf hr hh)
    simp only [Acceptor_prepare_1, cond_false]
    exact this
  unfold Acceptor_prepare prepA
  by_cases h1 : mnI m.Epoch m.Ballot < 1
  · simp [h1, Acceptor_prepare_2, runA]
  · by_cases h2 : m.HasPlan = true
    · by_cases h3 : m.Plan.Epoch = IntKind.i64.wrap (m.Epoch - 1)
      · have e3 : ((m.Plan.Epoch : Int) != IntKind.i64.wrap (m.Epoch - 1)) = false := by simpa using h3
        rw [if_neg (by simp [h1, h2, h3])]
        simp only [h1, decide_false, cond_false, h2, Bool.not_true, e3, Acceptor_prepare_2]
        by_cases h4 : m.Epoch < k.epoch
        · simp [h4, Acceptor_decided, Acceptor_reply, runA, dec_]
        · by_cases h5 : k.epoch < m.Epoch
          · have e5 : decide (m.Epoch > k.epoch) = true := decide_eq_true h5
            simp only [h4, decide_false, cond_false, e5, cond_true, if_false, h5, if_true]
            by_cases h6 : k.writes.low = 0
            · simp only [h6, bne_self_eq_false, cond_false, ne_eq, not_true_eq_false, false_and, if_false]
              exact p1f h2
            · have e6 : ((k.writes.low : Int) != 0) = true := bne_iff_ne.2 h6
              simp only [e6, cond_true]
              by_cases h7 : k.writes.low < m.Epoch
              · have ee : Acceptor_early k.writes.at_ now k c node fuse false s [] = some (earlyB c k.writes.at_ now) := rfl
                simp only [h7, decide_true, cond_true, ee, Option.bind_some]
                cases h8 : earlyB c k.writes.at_ now with
                | false =>
                  simp only [cond_false, h6, ne_eq, not_false_eq_true, Bool.false_eq_true, false_and, and_false, if_false]
                  exact p1f h2
                | true =>
                  simp only [cond_true]
                  by_cases h9 : m.Code = 1
                  · simp only [h9, bne_self_eq_false, ne_eq, not_true_eq_false, and_false, if_false]
                    exact p1f h2
                  · have e9 : ((m.Code : Int) != 1) = true := bne_iff_ne.2 h9
                    simp only [e9, p1t, ne_eq, h6, not_false_eq_true, h9, and_self, if_true]
              · simp only [h7, decide_false, cond_false, false_and, and_false, if_false]
                exact p1f h2
          · have e5 : decide (m.Epoch > k.epoch) = false := decide_eq_false h5
            simp only [h4, decide_false, cond_false, e5, if_false, h5]
            by_cases h6 : m.Ballot ≤ k.promised
            · simp [h6, Acceptor_nack, Acceptor_reply, runA, nack_, zeroPl]
            · simp only [h6, decide_false, cond_false, if_false]
              exact note k.known hk
      · have e3 : ((m.Plan.Epoch : Int) != IntKind.i64.wrap (m.Epoch - 1)) = true := bne_iff_ne.2 h3
        simp [h1, h2, e3, h3, Acceptor_prepare_2, runA]
    · simp only [Bool.not_eq_true] at h2
      simp [h1, h2, Acceptor_prepare_2, runA]

theorem accept_ok_ (hf : FineM m) (hr : rightM m = true) (hfu : okFuse fuse) (hs : s.length ≤ 10000000) :
    Acceptor_accept m now k c node fuse false s [] = some (runA k fuse s (accA c node k m now)) := by
  have he := epoch_in hf
  have hb := ballot_in hf
  have a1t : Acceptor_accept_1 m now k c node fuse false s [] true = some (runA k fuse s (.say [] k)) := by simp [Acceptor_accept_1, runA]
  have a1f : m.HasPlan = true → Acceptor_accept_1 m now k c node fuse false s [] false = some (runA k fuse s (.note (recA m) (fun _ => [acc_ node m]) id)) := fun hh => by
    have := remember_ok (k := k) (c := c) (node := node) (recPl m.Epoch m.Ballot he hb 8 (.inr rfl) (planOk hf hr hh)) hfu hs
    simp only [Acceptor_accept_1, cond_false, this, Option.bind_some, runA, recA]
    cases eff fuse false with
    | none => simp
    | some f => cases h9_ : eff f false with
      | none => simp [h9_]
      | some g => simp [h9_, Acceptor_reply, acc_, zeroPl]
  unfold Acceptor_accept accA
  by_cases h1 : mnI m.Epoch m.Ballot < 1
  · simp [h1, Acceptor_accept_2, runA]
  · by_cases h2 : m.HasPlan = true
    · by_cases h3 : m.Plan.Epoch = m.Epoch
      · have e3 : ((m.Plan.Epoch : Int) != m.Epoch) = false := by simpa using h3
        by_cases h4 : k.epoch < m.Epoch
        · have e4 : decide (m.Epoch > k.epoch) = true := decide_eq_true h4
          simp [h1, h2, e3, h3, h4, Acceptor_accept_2, runA]
        · have e4 : decide (m.Epoch > k.epoch) = false := decide_eq_false h4
          rw [if_neg (by simp [h1, h2, h3]; omega)]
          simp only [h1, decide_false, cond_false, h2, Bool.not_true, e3, e4, Acceptor_accept_2]
          by_cases h5 : m.Epoch < k.epoch
          · simp [h5, Acceptor_decided, Acceptor_reply, runA, dec_]
          · simp only [h5, decide_false, cond_false, if_false]
            by_cases h6 : m.Ballot < k.promised
            · simp [h6, Acceptor_nack, Acceptor_reply, runA, nack_, zeroPl]
            · simp only [h6, decide_false, cond_false, if_false]
              by_cases h7 : k.promised < m.Ballot
              · have e7 : decide (m.Ballot > k.promised) = true := decide_eq_true h7
                rw [if_pos (.inl h7)]; simp only [e7, cond_true, a1t]
              · have e7 : decide (m.Ballot > k.promised) = false := decide_eq_false h7
                simp only [e7, cond_false]
                by_cases h8 : c.S_ < IntKind.i64.wrap (m.Plan.Stamp - now)
                · have e8 : decide (IntKind.i64.wrap (m.Plan.Stamp - now) > c.S_) = true := decide_eq_true h8
                  rw [if_pos (.inr h8)]; simp only [e8, a1t]
                · have e8 : decide (IntKind.i64.wrap (m.Plan.Stamp - now) > c.S_) = false := decide_eq_false h8
                  rw [if_neg (by simp only [not_or]; exact ⟨h7, h8⟩)]; simp only [e8]
                  exact a1f h2
      · have e3 : ((m.Plan.Epoch : Int) != m.Epoch) = true := bne_iff_ne.2 h3
        simp [h1, h2, e3, h3, Acceptor_accept_2, runA]
    · simp only [Bool.not_eq_true] at h2
      simp [h1, h2, Acceptor_accept_2, runA]

theorem gr_ok (hf : FineM m) (hr : rightM m = true) (hfu : okFuse fuse) (hs : s.length ≤ 10000000) :
    Acceptor_grant m now k c node fuse false s [] = some (runA k fuse s (grA c node k m now)) := by
  have hrec := recLk hf hr
  have hrem := remember_ok (k := k) (c := c) (node := node) hrec hfu hs
  have g1t : ∀ k2 f2 d2 s2 t2, Acceptor_grant_1 m now k c node fuse false s [] true k2 f2 d2 s2 t2 = some ([], k2, f2, d2, s2, t2) := fun _ _ _ _ _ => by simp [Acceptor_grant_1]
  have g1f : ∀ k2 f2 d2 s2 t2, Acceptor_grant_1 m now k c node fuse false s [] false k2 f2 d2 s2 t2 = some ([lease_ node m], atW now k2, f2, d2, s2, t2) := fun _ _ _ _ _ => by simp [Acceptor_grant_1, Acceptor_reply, lease_, atW, zeroPl]
  have g3t : ∀ k2 f2 d2 s2 t2, Acceptor_grant_3 m now k c node fuse false s [] true k2 f2 d2 s2 t2 = some ([], k2, f2, d2, s2, t2) := fun _ _ _ _ _ => by simp [Acceptor_grant_3]
  have g3f : ∀ k2 f2 d2 s2 t2, Acceptor_grant_3 m now k c node fuse false s [] false k2 f2 d2 s2 t2 = some ([lease_ node m], toL m.From now k2, f2, d2, s2, t2) := fun _ _ _ _ _ => by simp [Acceptor_grant_3, Acceptor_reply, lease_, toL, zeroPl]
  unfold Acceptor_grant grA
  by_cases h1 : m.Code = 1
  · have hrr : recL m = ⟨11, m.From, 0, m.Epoch, 0, 0, 0, 0, 0, m.Code, false, zeroPl, [], [], []⟩ := by simp [recL, h1]
    have e1 : ((m.Code : Int) == 1) = true := by simpa using h1
    rw [hrr] at hrem
    have g2 : ∀ w, Acceptor_grant_2 m now k c node fuse false s [] w (⟨11, m.From, 0, m.Epoch, 0, 0, 0, 0, 0, m.Code, false, zeroPl, [], [], []⟩ : Msg) = some (runA k fuse s (if m.Epoch < mxI k.epoch 1 ∨ w = true then .say [] k else if hasS k.writes m.Epoch then .say [lease_ node m] (atW now k) else .note (recL m) (fun _ => [lease_ node m]) (atW now))) := fun w => by
      unfold Acceptor_grant_2
      by_cases h2 : m.Epoch < mxI k.epoch 1
      · simp [h2, g1t, runA]
      · cases w with
        | true => simp [h2, g1t, runA]
        | false =>
          by_cases h3 : hasS k.writes m.Epoch
          · simp [h2, h3, has_ok, g1f, runA]
          · simp only [h2, decide_false, cond_false, has_ok, h3, Option.bind_some, Bool.not_false, cond_true, hrem, Bool.false_eq_true, or_self, if_false, runA, hrr]
            cases eff fuse false with
            | none => simp [g1t]
            | some f => cases h9_ : eff f false with
              | none => simp [h9_, g1t]
              | some g => simp [h9_, g1f]
    simp only [e1, cond_true, Acceptor_grant_5, if_pos h1]
    have zz : (⟨0, 0, 0, 0, 0, 0, 0, 0, 0, 0, [], []⟩ : Plan) = zeroPl := rfl
    rw [zz, g2, g2]
    by_cases h4 : m.Epoch < k.wish
    · simp [h4, wishB]
    · simp [h4, wishB]
  · have hrr : recL m = ⟨11, m.From, 0, 0, 0, 0, 0, 0, 0, m.Code, false, zeroPl, [], [], []⟩ := by simp [recL, h1]
    have e1 : ((m.Code : Int) == 1) = false := by simpa using h1
    have zz : (⟨0, 0, 0, 0, 0, 0, 0, 0, 0, 0, [], []⟩ : Plan) = zeroPl := rfl
    rw [hrr] at hrem
    simp only [e1, cond_false, Acceptor_grant_5, if_neg h1, zz]
    by_cases h2 : m.Code = 2
    · have e2 : ((m.Code : Int) == 2) = true := by simpa using h2
      have g4 : ∀ own, Acceptor_grant_4 m now k c node fuse false s [] own (⟨11, m.From, 0, 0, 0, 0, 0, 0, 0, m.Code, false, zeroPl, [], [], []⟩ : Msg) = some (runA k fuse s (if own = true then .say [lease_ node m] (toL m.From now k) else if k.lead.is_ = true ∧ earlyB c k.lead.at_ now = true then .say [] k else .note (recL m) (fun _ => [lease_ node m]) (toL m.From now))) := fun own => by
        unfold Acceptor_grant_4
        cases own with
        | true => simp [g3f, runA]
        | false =>
          have ee : Acceptor_early k.lead.at_ now k c node fuse false s [] = some (earlyB c k.lead.at_ now) := rfl
          have note : (Acceptor_remember__take (⟨11, m.From, 0, 0, 0, 0, 0, 0, 0, m.Code, false, zeroPl, [], [], []⟩ : Msg) k c node fuse false s []).bind (fun y5 => (Acceptor_grant_3 m now k c node fuse false s [] (!y5.1) y5.2.1 y5.2.2.1 y5.2.2.2.1 y5.2.2.2.2.1 y5.2.2.2.2.2)) = some (runA k fuse s (.note (recL m) (fun _ => [lease_ node m]) (toL m.From now))) := by
            simp only [hrem, Option.bind_some, runA, hrr]
            cases eff fuse false with
            | none => simp [g3t]
            | some f => cases h9_ : eff f false with
              | none => simp [h9_, g3t]
              | some g => simp [h9_, g3f]
          simp only [Bool.not_false, cond_true, Bool.false_eq_true, if_false]
          cases h3 : k.lead.is_ with
          | true =>
            simp only [cond_true, ee, Option.bind_some, true_and]
            cases h4 : earlyB c k.lead.at_ now with
            | true => simp [g3t, runA]
            | false => simp only [cond_false, Bool.false_eq_true, if_false]; exact note
          | false => simp only [cond_false, Bool.false_eq_true, false_and, if_false]; exact note
      simp only [e2, cond_true, if_pos h2, g4]
      cases h3 : k.lead.is_ with
      | true => simp
      | false => simp
    · have e2 : ((m.Code : Int) == 2) = false := by simpa using h2
      simp only [e2, cond_false, if_neg h2, runA]

def hval (m : Msg) (now : Int) : Prop := rightM m = true ∧ 0 ≤ now ∧ now ≤ 1099511627776
theorem handle_off {t : List Int} {d : Bool} (hf : FineM m) (h : d = true ∨ ¬ hval m now) : Acceptor_Handle m now k c node fuse d s t = some ([], k, fuse, d, s, t) := by
  have h1 : Acceptor_Handle_1 m now k c node fuse d s t true = some ([], k, fuse, d, s, t) := by simp [Acceptor_Handle_1]
  simp only [Acceptor_Handle, mright_ok hf.sh, Option.bind_some]
  cases hr : rightM m with
  | false => simp [h1]
  | true =>
    simp only [Bool.not_true, cond_false]
    by_cases a : now < 0
    · simp [a, h1]
    · by_cases b : now > 1099511627776
      · simp [a, b, h1]
      · have : d = true := h.resolve_right fun hh => hh ⟨hr, by omega, by omega⟩
        subst this
        simp [a, b, Journal_Down, h1]
theorem handle_on (hf : FineM m) (h : hval m now) (hk : PlOk k.known) (hfu : okFuse fuse) (hs : s.length ≤ 10000000) : Acceptor_Handle m now k c node fuse false s [] = some (runA k fuse s (act c node k m now)) := by
  obtain ⟨hr, h1, h2⟩ := h
  have a : decide (now < 0) = false := decide_eq_false (by omega)
  have b : decide (now > 1099511627776) = false := decide_eq_false (by omega)
  simp only [Acceptor_Handle, mright_ok hf.sh, Option.bind_some, hr, Bool.not_true, cond_false, a, b, Journal_Down, Acceptor_Handle_1, act]
  by_cases h4 : m.Kind = 4
  · simp [h4, prep_ok hf hr hk hfu hs]
  · by_cases h7 : m.Kind = 7
    · simp [h7, accept_ok_ hf hr hfu hs]
    · by_cases h10 : m.Kind = 10
      · simp [h10, gr_ok hf hr hfu hs]
      · simp [h4, h7, h10, runA, beqF h4, beqF h7, beqF h10]
end
end Go.RX.L

set_option linter.unusedSimpArgs false
set_option linter.unusedVariables false
set_option maxRecDepth 100000
namespace Go.RX.L
open Go Go.RX
theorem pix_loop (l : List Int) (lo hi : Int) (hl : l.length < 9223372036854775807) : ∀ (j k : Nat), k + j = l.length → ∃ r : Int, Ev slices_IndexFunc__policy_all_1_step (.s1 l lo hi l.length k) r ∧ decide (r ≥ 0) = !(btw lo hi (l.drop k)) := by
  intro j
  induction j with
  | zero =>
    intro k hk
    refine ⟨-1, .done ?_, ?_⟩
    · simp [slices_IndexFunc__policy_all_1_step, slices_IndexFunc__policy_all_1_1, show ¬ (k : Int) < l.length by omega]
    · rw [List.drop_eq_nil_of_le (by omega)]; rfl
  | succ j ih =>
    intro k hk
    have hlt : k < l.length := by omega
    rw [List.drop_eq_getElem_cons hlt, btw_cons]
    by_cases h : lo ≤ l[k] ∧ l[k] ≤ hi
    · obtain ⟨r, h1, h2⟩ := ih (k + 1) (by omega)
      refine ⟨r, .next (s' := .s1 l lo hi l.length ((k + 1 : Nat) : Int)) ?_ h1, ?_⟩
      · have e1 : decide (l[k] < lo) = false := by simp; omega
        have e2 : decide (l[k] > hi) = false := by simp; omega
        simp only [slices_IndexFunc__policy_all_1_step, slices_IndexFunc__policy_all_1_1, List.length_map, ltB hlt, le0, Bool.and_self, cond_true, Int.toNat_natCast, List.getE hlt, Option.bind_some, policy_all_1, e1, e2, cond_false, wS (show k < 9223372036854775807 by omega)]
      · rw [h2, decide_eq_true h, Bool.true_and]
    · refine ⟨k, .done ?_, ?_⟩
      · have e : policy_all_1 l[k] lo hi = some true := by
          unfold policy_all_1
          by_cases h1 : l[k] < lo
          · rw [decide_eq_true h1]; rfl
          · have h2 : l[k] > hi := by omega
            rw [decide_eq_false h1, decide_eq_true h2]; rfl
        simp only [slices_IndexFunc__policy_all_1_step, slices_IndexFunc__policy_all_1_1, List.length_map, ltB hlt, le0, Bool.and_self, cond_true, Int.toNat_natCast, List.getE hlt, Option.bind_some, e]
      · rw [decide_eq_false h, Bool.false_and]; simp

theorem pall_ok (lo hi : Int) {l : List Int} (hl : l.length < 9223372036854775807) : policy_all lo hi l = some (btw lo hi l) := by
  obtain ⟨r, h1, h2⟩ := pix_loop l lo hi hl l.length 0 (by omega)
  have h3 : slices_IndexFunc__policy_all_1 l lo hi = some r := evf_of (.next (s' := .s1 l lo hi l.length 0) (by simp [slices_IndexFunc__policy_all_1_step, slices_IndexFunc__policy_all_1_0]) h1)
  simp only [policy_all, slices_ContainsFunc__policy_all_1, h3, Option.bind_some, h2]
  simp

theorem pix_v2_loop (l : List Int) (lo hi : Int) (hl : l.length < 9223372036854775807) : ∀ (j k : Nat), k + j = l.length → ∃ r : Int, Ev slices_IndexFunc__policy_all_1_v2_step (.s1 l lo hi l.length k) r ∧ decide (r ≥ 0) = !(btw lo hi (l.drop k)) := by
  intro j
  induction j with
  | zero =>
    intro k hk
    refine ⟨-1, .done ?_, ?_⟩
    · simp [slices_IndexFunc__policy_all_1_v2_step, slices_IndexFunc__policy_all_1_v2_1, show ¬ (k : Int) < l.length by omega]
    · rw [List.drop_eq_nil_of_le (by omega)]; rfl
  | succ j ih =>
    intro k hk
    have hlt : k < l.length := by omega
    rw [List.drop_eq_getElem_cons hlt, btw_cons]
    by_cases h : lo ≤ l[k] ∧ l[k] ≤ hi
    · obtain ⟨r, h1, h2⟩ := ih (k + 1) (by omega)
      refine ⟨r, .next (s' := .s1 l lo hi l.length ((k + 1 : Nat) : Int)) ?_ h1, ?_⟩
      · have e1 : decide (l[k] < lo) = false := by simp; omega
        have e2 : decide (l[k] > hi) = false := by simp; omega
        simp only [slices_IndexFunc__policy_all_1_v2_step, slices_IndexFunc__policy_all_1_v2_1, List.length_map, ltB hlt, le0, Bool.and_self, cond_true, Int.toNat_natCast, List.getE hlt, Option.bind_some, policy_all_1_v2, e1, e2, cond_false, wS (show k < 9223372036854775807 by omega)]
      · rw [h2, decide_eq_true h, Bool.true_and]
    · refine ⟨k, .done ?_, ?_⟩
      · have e : policy_all_1_v2 l[k] lo hi = some true := by
          unfold policy_all_1_v2
          by_cases h1 : l[k] < lo
          · rw [decide_eq_true h1]; rfl
          · have h2 : l[k] > hi := by omega
            rw [decide_eq_false h1, decide_eq_true h2]; rfl
        simp only [slices_IndexFunc__policy_all_1_v2_step, slices_IndexFunc__policy_all_1_v2_1, List.length_map, ltB hlt, le0, Bool.and_self, cond_true, Int.toNat_natCast, List.getE hlt, Option.bind_some, e]
      · rw [decide_eq_false h, Bool.false_and]; simp

theorem pall_v2_ok (lo hi : Int) {l : List Int} (hl : l.length < 9223372036854775807) : policy_all_v2 lo hi l = some (btw lo hi l) := by
  obtain ⟨r, h1, h2⟩ := pix_v2_loop l lo hi hl l.length 0 (by omega)
  have h3 : slices_IndexFunc__policy_all_1_v2 l lo hi = some r := evf_of (.next (s' := .s1 l lo hi l.length 0) (by simp [slices_IndexFunc__policy_all_1_v2_step, slices_IndexFunc__policy_all_1_v2_0]) h1)
  simp only [policy_all_v2, slices_ContainsFunc__policy_all_1_v2, h3, Option.bind_some, h2]
  simp

def rightC (c : Config) : Bool :=
  btw 0 3 [c.F_] && (btw 1 4 [c.Deciders, c.Routers] && (btw 1 16 [c.Targets] && (btw 1 7 [c.Observers] && (decide ((c.Tiers.length : Int) = c.Targets) && (btw 0 15 c.Tiers &&
  (btw 1 1048576 [c.Every, c.Wait, c.Fresh, c.L_, c.Dwell, c.D_, c.W_, c.Half, c.StepTime, c.S_, c.Span, c.Retry] && (btw 0 1048576 [c.M_] && (btw 1 100 [c.Rise, c.Fall, c.First, c.Step] && (btw 1 8 [c.B_] && (btw 0 1000000 [c.Hit] && (btw 1 1000000 [c.Suppress] &&
  (btw 0 (IntKind.i64.wrap (c.Suppress - 1)) [c.Reuse] && (btw 1 1000 [c.Cap] && (btw 1 64 [c.Room] && btw 1 20 [c.Tries]))))))))))))))
theorem bif_and (x y : Bool) : (bif x then some y else some false) = some (x && y) := by cases x <;> rfl
theorem polright_ok {c : Config} (h : c.Tiers.length < 9223372036854775807) : policy_Right c = some (rightC c) := by
  have a : ∀ lo hi (l : List Int), l.length < 9223372036854775807 → policy_all lo hi l = some (btw lo hi l) := fun lo hi l h => pall_ok lo hi h
  have a2 : ∀ lo hi (l : List Int), l.length < 9223372036854775807 → policy_all_v2 lo hi l = some (btw lo hi l) := fun lo hi l h => pall_v2_ok lo hi h
  unfold policy_Right rightC
  rw [a 0 3 _ (by simp), a 1 4 _ (by simp), a 1 16 _ (by simp), a 1 7 _ (by simp), a 0 15 _ h, a2 1 1048576 _ (by simp), a2 0 1048576 _ (by simp), a 1 100 _ (by simp), a 1 8 _ (by simp), a 0 1000000 _ (by simp), a 1 1000000 _ (by simp), a 0 _ _ (by simp), a 1 1000 _ (by simp), a 1 64 _ (by simp), a 1 20 _ (by simp)]
  simp only [Option.bind_some, bif_and, List.length_map]
  congr 1
theorem rightC_b {c : Config} (h : rightC c = true) : (1 ≤ c.Targets ∧ c.Targets ≤ 16) ∧ (1 ≤ c.L_ ∧ c.L_ ≤ 1048576) ∧ (0 ≤ c.M_ ∧ c.M_ ≤ 1048576) ∧ (1 ≤ c.S_ ∧ c.S_ ≤ 1048576) := by
  simp only [rightC, Bool.and_eq_true, btw_iff, List.mem_cons, List.not_mem_nil, or_false, forall_eq_or_imp, forall_eq] at h
  obtain ⟨-, -, h3, -, -, -, h7, h8, -⟩ := h
  omega
theorem polzero_ok {c : Config} (ht : c.Tiers.length < 9223372036854775807) (h : rightC c = true) : policy_Zero c = some ⟨0, -1, -1, -1, 0, 0, 0, 0, 0, 0, List.replicate c.Targets.toNat 0, []⟩ := by
  obtain ⟨⟨h1, h2⟩, -⟩ := rightC_b h
  have e : (decide ((0 : Int) ≤ c.Targets) && (decide ((c.Targets : Int) ≤ c.Targets) && (decide ((c.Targets : Int) ≤ 9223372036854775807) && decide (c.Targets.toNat * 8 ≤ bytesLim)))) = true := by
    have l : decide (c.Targets.toNat * 8 ≤ bytesLim) = true := limOk (by omega)
    simp only [l, Bool.and_eq_true, decide_eq_true_eq]
    exact ⟨by omega, Int.le_refl _, by omega, trivial⟩
  simp only [policy_Zero, polright_ok ht, h, Option.bind_some, Bool.not_true, cond_false, e, cond_true]
end Go.RX.L

set_option linter.unusedSimpArgs false
set_option linter.unusedVariables false
set_option maxRecDepth 100000
namespace Go.RX.L
open Go Go.RX

def kept0 (c : Config) : keptT := ⟨0, ⟨0, -1, -1, -1, 0, 0, 0, 0, 0, 0, List.replicate c.Targets.toNat 0, []⟩, 0, 0, zeroPl, ⟨0, 0, 0⟩, 0, 0, ⟨false, -1, 0⟩⟩
def replay (c : Config) (rs : List Msg) : keptT := rs.foldl takeK (kept0 c)
theorem replay_app (c : Config) (rs : List Msg) (m : Msg) : replay c (rs ++ [m]) = takeK (replay c rs) m := by simp [replay]
def upAt (now : Int) (k : keptT) : keptT := ⟨k.epoch, k.known, k.promised, k.accepted, k.plan, ⟨k.writes.low, k.writes.high, now⟩, k.wish, k.wishAt, ⟨k.lead.is_, k.lead.who, now⟩⟩

/-- What records tell, and what is had. -/
structure Sim (k r : keptT) : Prop where
  epoch : k.epoch = r.epoch
  known : k.known = r.known
  promised : k.promised = r.promised
  accepted : k.accepted = r.accepted
  plan : k.plan = r.plan
  low : k.writes.low = r.writes.low
  high : k.writes.high = r.writes.high
  is_ : k.lead.is_ = r.lead.is_
theorem Sim.refl (k : keptT) : Sim k k := ⟨rfl, rfl, rfl, rfl, rfl, rfl, rfl, rfl⟩
theorem Sim.trans {a b c : keptT} (h : Sim a b) (g : Sim b c) : Sim a c := ⟨h.1.trans g.1, h.2.trans g.2, h.3.trans g.3, h.4.trans g.4, h.5.trans g.5, h.6.trans g.6, h.7.trans g.7, h.8.trans g.8⟩
theorem Sim.take {k r : keptT} (h : Sim k r) (m : Msg) : Sim (takeK k m) (takeK r m) := by
  obtain ⟨h1, h2, h3, h4, h5, h6, h7, h8⟩ := h
  unfold takeK
  split
  · rw [h1]
    split
    · exact ⟨rfl, rfl, rfl, h4, h5, h6, h7, h8⟩
    · refine ⟨rfl, rfl, rfl, rfl, rfl, ?_, ?_, h8⟩ <;> (unfold fromS; rw [h7]; split <;> simp [h6])
  · split
    · exact ⟨h1, h2, rfl, rfl, rfl, h6, h7, h8⟩
    · split
      · split
        · exact ⟨h1, h2, h3, h4, h5, h6, h7, rfl⟩
        · refine ⟨h1, h2, h3, h4, h5, ?_, ?_, h8⟩ <;> (unfold withS; rw [h6]; split <;> simp [h7])
      · exact ⟨h1, h2, h3, h4, h5, h6, h7, h8⟩

def fits (k : keptT) (m : Msg) : Prop :=
  (m.Kind = 5 ∧ 1 ≤ m.Ballot ∧ 1 ≤ m.Epoch ∧ PlOk m.Plan ∧ (k.epoch < m.Epoch ∨ (m.Epoch = k.epoch ∧ k.promised < m.Ballot ∧ m.Plan = k.known))) ∨
  (m.Kind = 8 ∧ PlOk m.Plan ∧ m.Epoch = k.epoch ∧ m.Ballot = k.promised ∧ m.Plan.Epoch = k.epoch ∧ 1 ≤ m.Ballot) ∨
  (m.Kind = 11 ∧ ((m.Code = 1 ∧ k.epoch ≤ m.Epoch ∧ 1 ≤ m.Epoch) ∨ m.Code = 2))
structure KOk (k : keptT) : Prop where
  known : PlOk k.known
  plan : PlOk k.plan
  e0 : 0 ≤ k.epoch
  p0 : 0 ≤ k.promised
  a0 : 0 ≤ k.accepted
  ap : k.accepted ≤ k.promised
  pe : k.accepted ≠ 0 → k.plan.Epoch = k.epoch
  lo : 0 ≤ k.writes.low
  lh : k.writes.low ≤ k.writes.high
  le : k.writes.low ≠ 0 → k.epoch ≤ k.writes.low
theorem zeroPlOk : PlOk zeroPl := ⟨by decide, ⟨inI64.2 (by decide), by decide, by decide, ⟨by decide, by decide⟩⟩, inU64.2 (by decide), inU64.2 (by decide)⟩
theorem fits.sim {k r : keptT} (h : Sim k r) {m : Msg} (hm : fits k m) : fits r m := by
  unfold fits at *
  rw [← h.epoch, ← h.promised, ← h.known]; exact hm
theorem KOk.take {k : keptT} (h : KOk k) {m : Msg} (hm : fits k m) : KOk (takeK k m) := by
  obtain ⟨h1, h2, h3, h4, h5, h6, h7, h8, h9, h10⟩ := h
  rcases hm with ⟨a1, a2, a3, a4, a5⟩ | ⟨a1, a2, a3, a4, a5, a6⟩ | ⟨a1, a2⟩
  · unfold takeK
    rw [if_pos a1]
    split
    · rename_i he
      have : k.promised < m.Ballot := by rcases a5 with h | h; omega; exact h.2.1
      exact ⟨a4, h2, by simp; omega, by simp; omega, h5, by simp; omega, fun hh => by simp [he]; exact h7 hh, h8, h9, fun hh => by simp [he]; exact h10 hh⟩
    · rename_i he
      have hlt : k.epoch < m.Epoch := by rcases a5 with h | h; exact h; exact absurd h.1 he
      refine ⟨a4, zeroPlOk, by simp; omega, by simp; omega, by simp, by simp; omega, fun hh => absurd rfl hh, ?_, ?_, ?_⟩ <;> simp only [fromS] <;> split <;> simp only [mxI] <;> (try split) <;> simp_all <;> omega
  · unfold takeK
    rw [if_neg (by omega), if_pos a1]
    exact ⟨h1, a2, h3, by simp; omega, by simp; omega, by simp, fun _ => a5, h8, h9, h10⟩
  · unfold takeK
    rw [if_neg (by omega), if_neg (by omega), if_pos a1]
    split
    · exact ⟨h1, h2, h3, h4, h5, h6, h7, h8, h9, h10⟩
    · rename_i hc
      obtain ⟨-, b2, b3⟩ := a2.resolve_right hc
      refine ⟨h1, h2, h3, h4, h5, h6, h7, ?_, ?_, ?_⟩ <;> simp only [withS] <;> split <;> simp only [mnI, mxI] <;> (try split) <;> (try split) <;> simp_all <;> omega

/-- The abstract state: records on the disk; one that is not synced; what is had; is it down? -/
structure AS where
  rs : List Msg
  pend : Option Msg
  k : keptT
  down : Bool
structure AOk_ (c : Config) (a : AS) : Prop where
  k0 : PlOk (kept0 c).known
  r : KOk (replay c a.rs)
  up : a.down = false → Sim a.k (replay c a.rs)
  pd : ∀ m, a.pend = some m → okRec m ∧ fits (replay c a.rs) m
  pn : a.down = false → a.pend = none

/-- What is on a disk, and not. -/
structure Rep (c : Config) (a : AS) (fuse : Int) (s t : List Int) (n : Nat) : Prop where
  ok : AOk_ c a
  fu : okFuse fuse
  dk : ∃ J, Disk a.rs J s ∧ (a.down = false → J = []) ∧ (a.pend ≠ none → J = [])
  tl : t = (match a.pend with | some m => log [m] | none => [])
  len : s.length + t.length ≤ n

inductive HStep (c : Config) (node : Int) (a : AS) (m : Msg) (now : Int) : List Msg → AS → Prop
  | off : (a.down = true ∨ ¬ hval m now) → HStep c node a m now [] a
  | say {out : List Msg} {k' : keptT} : a.down = false → hval m now → act c node a.k m now = .say out k' → HStep c node a m now out ⟨a.rs, none, k', false⟩
  | lost {r : Msg} {out : keptT → List Msg} {post : keptT → keptT} (p : Option Msg) : a.down = false → hval m now → act c node a.k m now = .note r out post → (p = none ∨ p = some r) → HStep c node a m now [] ⟨a.rs, p, a.k, true⟩
  | kept {r : Msg} {out : keptT → List Msg} {post : keptT → keptT} : a.down = false → hval m now → act c node a.k m now = .note r out post → HStep c node a m now (out (takeK a.k r)) ⟨a.rs ++ [r], none, post (takeK a.k r), false⟩

theorem Sim.kok {k r : keptT} (h : Sim k r) (hk : KOk r) : KOk k := by
  obtain ⟨h1, h2, h3, h4, h5, h6, h7, h8⟩ := h
  obtain ⟨a1, a2, a3, a4, a5, a6, a7, a8, a9, a10⟩ := hk
  exact ⟨h2 ▸ a1, h5 ▸ a2, h1 ▸ a3, h3 ▸ a4, h4 ▸ a5, by rw [h4, h3]; exact a6, by rw [h4, h5, h1]; exact a7, h6 ▸ a8, by rw [h6, h7]; exact a9, by rw [h6, h1]; exact a10⟩

theorem act_note {c : Config} {node : Int} {k : keptT} {m : Msg} {now : Int} (hf : FineM m) (hr : rightM m = true) (hk : KOk k) {r : Msg} {out : keptT → List Msg} {post : keptT → keptT} (h : act c node k m now = .note r out post) :
    okRec r ∧ fits k r ∧ Sim (post (takeK k r)) (takeK k r) := by
  have he := epoch_in hf
  have hb := ballot_in hf
  unfold act at h
  split at h
  · unfold prepA at h
    split at h
    · cases h
    · rename_i h1
      simp only [not_or, mn_lt1, Bool.not_eq_false] at h1
      have hp := planOk hf hr h1.2.1
      split at h
      · cases h
      · rename_i h2
        split at h
        · rename_i h3
          split at h
          · cases h
          · simp only [Act.note.injEq] at h
            obtain ⟨rfl, rfl, rfl⟩ := h
            exact ⟨recPl _ _ he hb 5 (.inl rfl) hp, .inl ⟨rfl, by simp [recP]; omega, by simp [recP]; omega, hp, .inl h3⟩, Sim.refl _⟩
        · rename_i h3
          split at h
          · cases h
          · rename_i h4
            simp only [Act.note.injEq] at h
            obtain ⟨rfl, rfl, rfl⟩ := h
            exact ⟨recPl _ _ he hb 5 (.inl rfl) hk.known, .inl ⟨rfl, by simp [recP]; omega, by simp [recP]; omega, hk.known, .inr ⟨by simp [recP]; omega, by simp [recP]; omega, rfl⟩⟩, Sim.refl _⟩
  · split at h
    · unfold accA at h
      split at h
      · cases h
      · rename_i h1
        simp only [not_or, mn_lt1, Bool.not_eq_false, ne_eq, Decidable.not_not] at h1
        have hp := planOk hf hr h1.2.1
        split at h
        · cases h
        · split at h
          · cases h
          · split at h
            · cases h
            · rename_i h2 h3 h4
              simp only [Act.note.injEq] at h
              obtain ⟨rfl, rfl, rfl⟩ := h
              simp only [not_or] at h4
              refine ⟨recPl _ _ he hb 8 (.inr rfl) hp, .inr (.inl ⟨rfl, hp, ?_, ?_, ?_, ?_⟩), Sim.refl _⟩ <;> simp only [recA] <;> omega
    · split at h
      · unfold grA at h
        split at h
        · rename_i h1
          split at h
          · cases h
          · rename_i h2
            split at h
            · cases h
            · simp only [Act.note.injEq] at h
              obtain ⟨rfl, rfl, rfl⟩ := h
              simp only [not_or, mxI] at h2
              refine ⟨recLk hf hr, .inr (.inr ⟨rfl, .inl ⟨h1, ?_, ?_⟩⟩), ⟨rfl, rfl, rfl, rfl, rfl, rfl, rfl, rfl⟩⟩ <;> simp only [recL, if_pos h1] <;> split at h2 <;> omega
        · split at h
          · rename_i h1 h2
            split at h
            · cases h
            · split at h
              · cases h
              · simp only [Act.note.injEq] at h
                obtain ⟨rfl, rfl, rfl⟩ := h
                exact ⟨recLk hf hr, .inr (.inr ⟨rfl, .inr h2⟩), ⟨rfl, rfl, rfl, rfl, rfl, rfl, rfl, by simp [toL, takeK, recL, h2]⟩⟩
          · cases h
      · cases h

theorem say_sim {c : Config} {node : Int} {k : keptT} {m : Msg} {now : Int} {out : List Msg} {k' : keptT} (h : act c node k m now = .say out k') : Sim k' k := by
  have key : ∀ {x y : List Msg} {p q : keptT}, Act.say x p = Act.say y q → q = p := fun h => by cases h; rfl
  unfold act at h
  split at h
  · unfold prepA at h
    split at h
    · rw [key h]; exact Sim.refl _
    · split at h
      · rw [key h]; exact Sim.refl _
      · split at h
        · split at h
          · rw [key h]; exact ⟨rfl, rfl, rfl, rfl, rfl, rfl, rfl, rfl⟩
          · cases h
        · split at h
          · rw [key h]; exact Sim.refl _
          · cases h
  · split at h
    · unfold accA at h
      split at h
      · rw [key h]; exact Sim.refl _
      · split at h
        · rw [key h]; exact Sim.refl _
        · split at h
          · rw [key h]; exact Sim.refl _
          · split at h
            · rw [key h]; exact Sim.refl _
            · cases h
    · split at h
      · unfold grA at h
        split at h
        · split at h
          · rw [key h]; exact Sim.refl _
          · split at h
            · rw [key h]; exact ⟨rfl, rfl, rfl, rfl, rfl, rfl, rfl, rfl⟩
            · cases h
        · split at h
          · split at h
            · rename_i h2
              rw [key h]; exact ⟨rfl, rfl, rfl, rfl, rfl, rfl, rfl, by simp [toL, h2.1]⟩
            · split at h
              · rw [key h]; exact Sim.refl _
              · cases h
          · rw [key h]; exact Sim.refl _
      · rw [key h]; exact Sim.refl _

/-! ### the steps -/
section
variable {c : Config} {node : Int} {a : AS} {fuse : Int} {s t : List Int} {n : Nat}

theorem kept0_ok (h : rightC c = true) : KOk (kept0 c) := by
  obtain ⟨⟨h1, h2⟩, -⟩ := rightC_b h
  have hpl : PlOk (kept0 c).known := by
    refine ⟨rightP_iff.2 ⟨by simp [kept0], ?_, by simp [kept0], ?_, by simp [kept0], by simp [kept0], ?_, by simp [kept0], ?_, by simp [kept0], rfl⟩, ⟨inI64.2 (by simp [kept0]), by simp [kept0], by simp [kept0], ⟨?_, by simp [kept0]⟩⟩, inU64.2 (by simp [kept0]), inU64.2 (by simp [kept0])⟩
    · intro x hx; simp [kept0] at hx; omega
    · intro x hx; simp [kept0] at hx; omega
    · simp [kept0]; omega
    · intro x hx; simp [kept0] at hx; omega
    · simp [kept0]; omega
  exact ⟨hpl, zeroPlOk, by simp [kept0], by simp [kept0], by simp [kept0], by simp [kept0], fun h => by simp [kept0] at h, by simp [kept0], by simp [kept0], fun h => by simp [kept0] at h⟩

theorem new_ok (ht : c.Tiers.length < 9223372036854775807) : acceptor_New c node = some (if rightC c = true ∧ 0 ≤ node ∧ node ≤ 255 then .r1 (kept0 c) (-1) false [] [] else .r0) := by
  simp only [acceptor_New, polright_ok ht, Option.bind_some]
  cases h : rightC c with
  | false => simp [acceptor_New_1]
  | true =>
    have hz := polzero_ok ht h
    by_cases h1 : node < 0
    · have : ¬ (0 ≤ node) := by omega
      simp [h1, acceptor_New_1, this]
    · by_cases h2 : node > 255
      · have : ¬ (node ≤ 255) := by omega
        simp [h1, h2, acceptor_New_1, this]
      · have h3 : 0 ≤ node ∧ node ≤ 255 := by omega
        simp [h1, h2, acceptor_New_1, journal_New, Acceptor_clear, hz, h3, kept0, zeroPl]

def a0 (c : Config) : AS := ⟨[], none, kept0 c, false⟩
theorem rep_new (h : rightC c = true) : Rep c (a0 c) (-1) [] [] 0 :=
  ⟨⟨(kept0_ok h).known, kept0_ok h, fun _ => Sim.refl _, fun m hm => (by cases hm), fun _ => rfl⟩, by unfold okFuse; omega, ⟨[], Disk.nil, fun _ => rfl, fun _ => rfl⟩, rfl, by simp⟩

theorem log_len {m : Msg} (h : okRec m) : (log [m]).length ≤ 4408 := by
  have h3 := encB_len h.1 h.2
  rw [log_one, encF_len]; omega

theorem rep_handle {m : Msg} {now : Int} (h : Rep c a fuse s t n) (hf : FineM m) (hn : n ≤ 9000000) :
    ∃ out a' fuse' s' t', Acceptor_Handle m now a.k c node fuse a.down s t = some (out, a'.k, fuse', a'.down, s', t') ∧ Rep c a' fuse' s' t' (n + 4408) ∧ HStep c node a m now out a' := by
  obtain ⟨ok, fu, ⟨J, dk, dj, dp⟩, tl, len⟩ := h
  by_cases hoff : a.down = true ∨ ¬ hval m now
  · exact ⟨[], a, fuse, s, t, handle_off hf hoff, ⟨ok, fu, ⟨J, dk, dj, dp⟩, tl, by omega⟩, .off hoff⟩
  · simp only [not_or, Bool.not_eq_true, Classical.not_not] at hoff
    obtain ⟨hd, hv⟩ := hoff
    have hJ := dj hd
    subst hJ
    have hp := ok.pn hd
    have tl : t = [] := by rw [hp] at tl; exact tl
    subst tl
    have hsim := ok.up hd
    have hk := hsim.kok ok.r
    have hrun := handle_on (c := c) (node := node) (k := a.k) (fuse := fuse) (s := s) hf hv hk.known fu (by simp at len; omega)
    cases hact : act c node a.k m now with
    | say out k' =>
      rw [hact] at hrun
      refine ⟨out, ⟨a.rs, none, k', false⟩, fuse, s, [], by rw [hd]; exact hrun, ⟨⟨ok.k0, ok.r, fun _ => ?_, fun m hm => (by cases hm), fun _ => rfl⟩, fu, ⟨[], dk, fun _ => rfl, fun _ => rfl⟩, rfl, by omega⟩, .say hd hv hact⟩
      exact (say_sim hact).trans hsim
    | note r out post =>
      obtain ⟨hr, hfit, hpost⟩ := act_note hf hv.1 hk hact
      have hfr := hfit.sim hsim
      have hl := log_len hr
      rw [hact] at hrun
      simp only [runA] at hrun
      cases he : eff fuse false with
      | none =>
        rw [he] at hrun
        exact ⟨[], ⟨a.rs, none, a.k, true⟩, fd fuse false, s, [], by rw [hd]; exact hrun, ⟨⟨ok.k0, ok.r, fun h => (by cases h), fun m hm => (by cases hm), fun h => (by cases h)⟩, fd_fuse fu, ⟨[], dk, fun _ => rfl, fun _ => rfl⟩, rfl, by omega⟩, .lost none hd hv hact (.inl rfl)⟩
      | some f =>
        rw [he] at hrun
        have hf1 := eff_fuse fu he
        cases hg : eff f false with
        | none =>
          simp only [hg] at hrun
          refine ⟨[], ⟨a.rs, some r, a.k, true⟩, fd f false, s, log [r], by rw [hd]; exact hrun, ⟨⟨ok.k0, ok.r, fun h => (by cases h), fun m hm => (by cases hm; exact ⟨hr, hfr⟩), fun h => (by cases h)⟩, fd_fuse hf1, ⟨[], dk, fun _ => rfl, fun _ => rfl⟩, rfl, ?_⟩, .lost (some r) hd hv hact (.inr rfl)⟩
          simp at len ⊢; omega
        | some g =>
          simp only [hg] at hrun
          refine ⟨out (takeK a.k r), ⟨a.rs ++ [r], none, post (takeK a.k r), false⟩, g, s ++ log [r], [], by rw [hd]; exact hrun, ⟨⟨ok.k0, ?_, fun _ => ?_, fun m hm => (by cases hm), fun _ => rfl⟩, eff_fuse hf1 hg, ⟨[], ⟨fun x hx => ?_, ?_, dk.cut, dk.jb⟩, fun _ => rfl, fun _ => rfl⟩, rfl, ?_⟩, .kept hd hv hact⟩
          · rw [replay_app]; exact ok.r.take hfr
          · rw [replay_app]; exact hpost.trans (hsim.take r)
          · rcases List.mem_append.1 hx with hx | hx
            · exact dk.ok x hx
            · rw [List.mem_singleton.1 hx]; exact hr
          · rw [dk.eq, log_app]; simp
          · simp at len ⊢; omega

theorem rep_fuse {k : Int} (h : Rep c a fuse s t n) (hk : inK .i64 k) : Journal_Fuse k fuse a.down s t = some (mxI k (-1)) ∧ Rep c a (mxI k (-1)) s t n := by
  refine ⟨rfl, h.ok, ?_, h.dk, h.tl, h.len⟩
  have := inI64.1 hk
  unfold okFuse mxI; split <;> omega

/-- A crash: what was not synced is there, or not. -/
inductive CStep (a : AS) : AS → Prop
  | none : CStep a ⟨a.rs, none, a.k, true⟩
  | one {m : Msg} : a.pend = some m → CStep a ⟨a.rs ++ [m], none, a.k, true⟩
theorem rep_crash {keep : Int} (h : Rep c a fuse s t n) (hn : n ≤ 9000000) : ∃ a' s', Journal_Crash keep fuse a.down s t = some (-1, true, s', []) ∧ a'.down = true ∧ a'.k = a.k ∧ Rep c a' (-1) s' [] n ∧ CStep a a' := by
  obtain ⟨ok, fu, ⟨J, dk, dj, dp⟩, tl, len⟩ := h
  have hc := jcrash (keep := keep) (fuse := fuse) (down := a.down) (s := s) (t := t) (by omega)
  have hkl : (kept_ keep t).length ≤ t.length := by unfold kept_; rw [List.length_take]; omega
  cases hp : a.pend with
  | none =>
    have tl : t = [] := by rw [hp] at tl; exact tl
    subst tl
    exact ⟨⟨a.rs, none, a.k, true⟩, _, hc, rfl, rfl, ⟨⟨ok.k0, ok.r, fun h => (by cases h), fun m hm => (by cases hm), fun h => (by cases h)⟩, by unfold okFuse; omega, ⟨J, dk.crash0 keep, fun h => (by cases h), fun h => absurd rfl h⟩, rfl, by simp [kept_] at len ⊢; omega⟩, .none⟩
  | some m =>
    obtain ⟨hm, hfit⟩ := ok.pd m hp
    have hJ := dp (by rw [hp]; simp)
    subst hJ
    rw [hp] at tl
    rcases dk.crash hm keep with h1 | ⟨J, h1⟩
    · refine ⟨⟨a.rs ++ [m], none, a.k, true⟩, _, hc, rfl, rfl, ⟨⟨ok.k0, ?_, fun h => (by cases h), fun m hm => (by cases hm), fun h => (by cases h)⟩, by unfold okFuse; omega, ⟨[], by rw [tl]; exact h1, fun h => (by cases h), fun h => absurd rfl h⟩, rfl, by simp; omega⟩, .one hp⟩
      rw [replay_app]; exact ok.r.take hfit
    · exact ⟨⟨a.rs, none, a.k, true⟩, _, hc, rfl, rfl, ⟨⟨ok.k0, ok.r, fun h => (by cases h), fun m hm => (by cases hm), fun h => (by cases h)⟩, by unfold okFuse; omega, ⟨J, by rw [tl]; exact h1, fun h => (by cases h), fun h => absurd rfl h⟩, rfl, by simp; omega⟩, .none⟩

/-- It comes up again, or does not. -/
inductive RStep (c : Config) (a : AS) (now : Int) : AS → Prop
  | up : RStep c a now ⟨a.rs, none, upAt now (replay c a.rs), false⟩
  | fail : RStep c a now ⟨a.rs, none, kept0 c, true⟩

theorem each_ok {rs : List Msg} (hr : ∀ m ∈ rs, okRec m) (hn : rs.length ≤ 1000000) {node fuse : Int} {d : Bool} {s t : List Int} (k0 : keptT) :
    acceptor_each__take (rs.map (·.Kind)) (rs.map encB) k0 c node fuse d s t = some (rs.foldl takeK k0) := by
  have loop : ∀ (j i : Nat) (k : keptT), i + j = rs.length → Ev (acceptor_each__take_step (rs.map (·.Kind)) (rs.map encB) c node fuse d s t) (.s1 (rs.length : Int) (i : Int) k) ((rs.drop i).foldl takeK k) := by
    intro j
    induction j with
    | zero =>
      intro i k hi
      rw [List.drop_of_length_le (by omega)]
      refine .done ?_
      have : decide ((i : Int) < (rs.length : Int)) = false := by simp; omega
      simp only [acceptor_each__take_step, acceptor_each__take_1, this, cond_false, List.foldl_nil]
    | succ j ih =>
      intro i k hi
      have hlt : i < rs.length := by omega
      have hm := hr _ (List.getElem_mem hlt)
      have hof : msg_Of (rs[i]).Kind (encB rs[i]) = some (rs[i], 0) := by
        have hb := encB_len hm.1 hm.2
        have hby : Bytes (encB rs[i]) := hm.fr.2.1
        rw [of_ok (kind_in hm.2) hby (by simp only [memB]; omega), ofM_enc hm.1 hm.2]
      rw [List.drop_eq_getElem_cons hlt, List.foldl_cons]
      refine .next (s' := acceptor_each__take_S.s1 (rs.length : Int) ((i + 1 : Nat) : Int) (takeK k rs[i])) ?_ (ih (i + 1) _ (by omega))
      have g1 : (rs.map (·.Kind))[i]? = some (rs[i]).Kind := by simp [hlt]
      have g2 : (rs.map encB)[i]? = some (encB rs[i]) := by simp [hlt]
      have ix : (decide ((0 : Int) ≤ (i : Int)) && decide ((i : Int) < ((rs.length : Nat) : Int))) = true := by simp; omega
      have w : IntKind.i64.wrap ((i : Int) + 1) = ((i + 1 : Nat) : Int) := by rw [wI64 (by omega) (by omega)]; norm_cast
      simp only [acceptor_each__take_step, acceptor_each__take_1, ltB hlt, cond_true, List.length_map, le0, Bool.and_self, Int.toNat_natCast, g1, g2, Option.bind_some, hof, beq_self_eq_true, take_ok, w]
  refine evf_of (.next (s' := acceptor_each__take_S.s1 (rs.length : Int) 0 k0) ?_ (by have := loop rs.length 0 k0 (by omega); simpa using this))
  simp only [acceptor_each__take_step, acceptor_each__take_0, List.length_map]

theorem rep_restart {now : Int} (h : Rep c a fuse s t n) (hc : rightC c = true) (ht : c.Tiers.length < 9223372036854775807) (hn : n ≤ 900000) :
    ∃ e a' fuse' s', Acceptor_Restart now a.k c node fuse a.down s t = some (e, a'.k, fuse', a'.down, s', []) ∧ Rep c a' fuse' s' [] n ∧ RStep c a now a' ∧ (a.down = false → a'.down = false ∧ e = 0) ∧ (e = 0 → a'.down = false) := by
  obtain ⟨ok, fu, ⟨J, dk, dj, dp⟩, tl, len⟩ := h
  obtain ⟨e0, hcut⟩ := dk.cut
  have hz := polzero_ok ht hc
  have hcl : Acceptor_clear a.k c node fuse a.down s t = some (kept0 c) := by simp [Acceptor_clear, hz, kept0, zeroPl]
  have ho := jopen (fuse := fuse) (down := a.down) (t := t) (okFrs dk.ok) hcut dk.jb (by have := dk.eq; unfold log at this; rw [← this]; omega) fu
  have hs : frs (a.rs.map rec1) ++ J = s := dk.eq.symm
  rw [hs] at ho
  have m1 : (a.rs.map rec1).map (·.1) = a.rs.map (·.Kind) := by simp [rec1]
  have m2 : (a.rs.map rec1).map (·.2) = a.rs.map encB := by simp [rec1]
  rw [m1, m2] at ho
  have hlr : a.rs.length ≤ 1000000 := by
    have : a.rs.length ≤ (frs (a.rs.map rec1)).length := by
      generalize a.rs = rs
      induction rs with
      | nil => simp [frs]
      | cons x l ih => simp [frs, encF_len]; omega
    have h2 : (frs (a.rs.map rec1) ++ J).length = s.length := by rw [hs]
    rw [List.length_append] at h2
    omega
  have hup : ∀ f, okFuse f → frs (a.rs.map rec1) ++ J = s → Rep c ⟨a.rs, none, upAt now (replay c a.rs), false⟩ f (frs (a.rs.map rec1)) [] n := fun f hf e => by
    refine ⟨⟨ok.k0, ok.r, fun _ => ⟨rfl, rfl, rfl, rfl, rfl, rfl, rfl, rfl⟩, fun m hm => (by cases hm), fun _ => rfl⟩, hf, ⟨[], ⟨dk.ok, by simp [log], ⟨_, rfl⟩, fun c hc => by simp at hc⟩, fun _ => rfl, fun _ => rfl⟩, rfl, ?_⟩
    have h2 : (frs (a.rs.map rec1) ++ J).length = s.length := by rw [e]
    rw [List.length_append] at h2
    simp; omega
  have run : ∀ f, Journal_Open fuse a.down s t = some (a.rs.map (·.Kind), a.rs.map encB, 0, f, false, frs (a.rs.map rec1), []) → Acceptor_Restart now a.k c node fuse a.down s t = some (0, upAt now (replay c a.rs), f, false, frs (a.rs.map rec1), []) := fun f ho => by
    simp only [Acceptor_Restart, hcl, Option.bind_some, ho, bne_self_eq_false, cond_false, each_ok dk.ok hlr]
    rfl
  by_cases hJ : J = []
  · rw [if_pos hJ] at ho
    exact ⟨0, _, _, _, run _ ho, hup fuse fu hs, .up, fun _ => ⟨rfl, rfl⟩, fun _ => rfl⟩
  · rw [if_neg hJ] at ho
    have hd : a.down = true := by
      cases hd : a.down with
      | true => rfl
      | false => exact absurd (dj hd) hJ
    cases he : eff fuse false with
    | some f =>
      rw [he] at ho
      exact ⟨0, _, _, _, run _ ho, hup f (eff_fuse fu he) hs, .up, fun h => (by rw [hd] at h; cases h), fun _ => rfl⟩
    | none =>
      rw [he] at ho
      refine ⟨61, ⟨a.rs, none, kept0 c, true⟩, fd fuse false, s, ?_, ⟨⟨ok.k0, ok.r, fun h => (by cases h), fun m hm => (by cases hm), fun h => (by cases h)⟩, fd_fuse fu, ⟨J, dk, fun h => (by cases h), fun h => absurd rfl h⟩, rfl, by simp; omega⟩, .fail, fun h => (by rw [hd] at h; cases h), fun h => (by cases h)⟩
      simp only [Acceptor_Restart, hcl, Option.bind_some, ho]
      rfl
end
end Go.RX.L

set_option linter.unusedSimpArgs false
set_option linter.unusedVariables false
set_option maxRecDepth 100000
set_option maxHeartbeats 4000000
namespace Go.RX.L
open Go Go.RX Go.Proofs
attribute [local irreducible] FinQ
noncomputable def law13_Plain_e (y : Config) : D × Sto := (.agg (Config.enc y), [])
noncomputable def law13_Plain  : Option Config := (some (⟨1, 2, 2, 1, 3, [1, 0], 5, 3, 2, 2, 20, 20, 5, 10, 3, 50, 3, 1000, 1500, 700, 30, 20, 40, 5, 10, 5, 10, 4, 3, 5⟩ : Config))
theorem law13_Plain_ok  {r : Config} (h : law13_Plain = some r) : Sound E 23 [] [] (Rs law13_Plain_e r) := so (fn := Tryd.f23) (k := false) (m := 0) h <| by
 intro r h; unfold law13_Plain at h
 exact zu 15 h
end Go.RX.L

set_option linter.unusedSimpArgs false
set_option linter.unusedVariables false
set_option maxRecDepth 100000
set_option maxHeartbeats 4000000
namespace Go.RX.L
open Go Go.RX Go.Proofs
attribute [local irreducible] FinQ
noncomputable def ref13_in_e (y : Bool) : D × Sto := (.bool y, [])
noncomputable def ref13_in (n : Int) (low : Int) (high : Int) : Option Bool := (bif (decide ((n : Int) ≥ low)) then (some (decide ((n : Int) ≤ high))) else (some false))
theorem ref13_in_ok {n : Int} {low : Int} {high : Int} {r : Bool} (h : ref13_in n low high = some r) : Sound E 49 [.int .i64 n, .int .i64 low, .int .i64 high] [] (Rs ref13_in_e r) := so (fn := Tryd.f49) (k := false) (m := 0) h <| by
 intro r h; unfold ref13_in at h
 refine zs 11 h (fun h => ?_) fun h => ?_
 ·
  exact zu 9 h
 exact zu 9 h
end Go.RX.L

set_option linter.unusedSimpArgs false
set_option linter.unusedVariables false
set_option maxRecDepth 100000
set_option maxHeartbeats 4000000
namespace Go.RX.L
open Go Go.RX Go.Proofs
attribute [local irreducible] FinQ
noncomputable def ref13_span_e (y : Bool) : D × Sto := (.bool y, [])
noncomputable def ref13_span (n : Int) : Option Bool := (bif (decide ((n : Int) ≥ 1)) then (some (decide ((n : Int) ≤ 1048576))) else (some false))
theorem ref13_span_ok {n : Int} {r : Bool} (h : ref13_span n = some r) : Sound E 50 [.int .i64 n] [] (Rs ref13_span_e r) := so (fn := Tryd.f50) (k := false) (m := 0) h <| by
 intro r h; unfold ref13_span at h
 refine zs 10 h (fun h => ?_) fun h => ?_
 ·
  exact zu 7 h
 exact zu 7 h
end Go.RX.L

set_option linter.unusedSimpArgs false
set_option linter.unusedVariables false
set_option maxRecDepth 100000
set_option maxHeartbeats 4000000
namespace Go.RX.L
open Go Go.RX Go.Proofs
attribute [local irreducible] FinQ
noncomputable def ref13_Right_c := codeAt (bodyOf Tryd.f32)
noncomputable def ref13_Right_e (y : Bool) : D × Sto := (.bool y, [])
inductive ref13_Right_S where
 | s0
 | s1 (t39 : Bool)
 | s2 (i : Int)
 | s3 (t133 : Bool)
 | s4 (t170 : Bool)
noncomputable def ref13_Right_M (c : Config) : ref13_Right_S → M
 | .s0 => startM Tryd.f32 [.agg (Config.enc c)] []
 | .s1 t39 => ⟨[.code (ref13_Right_c [1, 0, 1]), .code (ref13_Right_c [1, 1])], [(1, .ptr 0 0 0), (39, .bool t39)], [some ⟨30, false, [(Config.enc c)]⟩]⟩
 | .s2 i => ⟨[.lpc (ref13_Right_c [1, 1, 0, 1, 0, 0]) 10, .blk 0, .code (ref13_Right_c [1, 1, 1])], [(1, .ptr 0 0 0), (3, .int .i64 i)], [some ⟨30, false, [(Config.enc c)]⟩]⟩
 | .s3 t133 => ⟨[.code (ref13_Right_c [1, 1, 1, 0, 1]), .code (ref13_Right_c [1, 1, 1, 1])], [(1, .ptr 0 0 0), (133, .bool t133)], [some ⟨30, false, [(Config.enc c)]⟩]⟩
 | .s4 t170 => ⟨[.code (ref13_Right_c [1, 1, 1, 1, 0, 1]), .code (ref13_Right_c [1, 1, 1, 1, 1])], [(1, .ptr 0 0 0), (170, .bool t170)], [some ⟨30, false, [(Config.enc c)]⟩]⟩
abbrev ref13_Right_W (c : Config) := SOk E (Cx.of Tryd.f32 false 0) ref13_Right_e (ref13_Right_M c)
noncomputable def ref13_Right_0 (c : Config) : Option (ref13_Right_S ⊕ Bool) := ((ref13_in c.F_ 0 3).bind fun y1 => (bif (!y1) then (some (.inl (.s1 true))) else ((ref13_in c.Deciders 1 4).bind fun y3 => (bif (!y3) then (some (.inl (.s1 true))) else ((ref13_in c.Routers 1 4).bind fun y5 => (bif (!y5) then (some (.inl (.s1 true))) else ((ref13_in c.Targets 1 16).bind fun y7 => (bif (!y7) then (some (.inl (.s1 true))) else ((ref13_in c.Observers 1 7).bind fun y9 => (bif (!y9) then (some (.inl (.s1 true))) else (some (.inl (.s1 (((((List.map (eInt .i64) c.Tiers).length : Nat) : Int) : Int) != c.Targets))))))))))))))
noncomputable def ref13_Right_1 (c : Config) (t39 : Bool) : Option (ref13_Right_S ⊕ Bool) := (bif t39 then (some (.inr false)) else (some (.inl (.s2 0))))
noncomputable def ref13_Right_2 (c : Config) (i : Int) : Option (ref13_Right_S ⊕ Bool) := (bif (decide ((i : Int) < (((List.map (eInt .i64) c.Tiers).length : Nat) : Int))) then (bif ((decide ((0 : Int) ≤ i)) && (decide ((i : Int) < (((List.map (eInt .i64) c.Tiers).length : Nat) : Int)))) then (((c.Tiers)[i.toNat]?).bind fun y3 => ((ref13_in y3 0 15).bind fun y5 => (bif (!y5) then (some (.inr false)) else (some (.inl (.s2 (IntKind.i64.wrap (i + 1)))))))) else none) else ((ref13_span c.Every).bind fun y7 => (bif (!y7) then (some (.inl (.s3 true))) else ((ref13_span c.Wait).bind fun y9 => (bif (!y9) then (some (.inl (.s3 true))) else ((ref13_span c.Fresh).bind fun y11 => (bif (!y11) then (some (.inl (.s3 true))) else ((ref13_span c.L_).bind fun y13 => (bif (!y13) then (some (.inl (.s3 true))) else ((ref13_span c.Dwell).bind fun y15 => (bif (!y15) then (some (.inl (.s3 true))) else ((ref13_span c.D_).bind fun y17 => (bif (!y17) then (some (.inl (.s3 true))) else ((ref13_span c.W_).bind fun y19 => (bif (!y19) then (some (.inl (.s3 true))) else ((ref13_span c.Half).bind fun y21 => (bif (!y21) then (some (.inl (.s3 true))) else ((ref13_span c.StepTime).bind fun y23 => (bif (!y23) then (some (.inl (.s3 true))) else ((ref13_span c.S_).bind fun y25 => (bif (!y25) then (some (.inl (.s3 true))) else ((ref13_span c.Span).bind fun y27 => (bif (!y27) then (some (.inl (.s3 true))) else ((ref13_span c.Retry).bind fun y29 => (bif (!y29) then (some (.inl (.s3 true))) else (bif (decide ((c.M_ : Int) < 0)) then (some (.inl (.s3 true))) else (some (.inl (.s3 (decide ((c.M_ : Int) > 1048576)))))))))))))))))))))))))))))))
noncomputable def ref13_Right_3 (c : Config) (t133 : Bool) : Option (ref13_Right_S ⊕ Bool) := (bif t133 then (some (.inr false)) else ((ref13_in c.Rise 1 100).bind fun y2 => (bif (!y2) then (some (.inl (.s4 true))) else ((ref13_in c.Fall 1 100).bind fun y4 => (bif (!y4) then (some (.inl (.s4 true))) else ((ref13_in c.B_ 1 8).bind fun y6 => (bif (!y6) then (some (.inl (.s4 true))) else ((ref13_in c.Hit 0 1000000).bind fun y8 => (bif (!y8) then (some (.inl (.s4 true))) else ((ref13_in c.Suppress 1 1000000).bind fun y10 => (bif (!y10) then (some (.inl (.s4 true))) else ((ref13_in c.Reuse 0 (IntKind.i64.wrap (c.Suppress - 1))).bind fun y12 => (some (.inl (.s4 (!y12))))))))))))))))
noncomputable def ref13_Right_4 (c : Config) (t170 : Bool) : Option (ref13_Right_S ⊕ Bool) := (bif t170 then (some (.inr false)) else ((ref13_in c.First 1 100).bind fun y2 => (bif y2 then ((ref13_in c.Step 1 100).bind fun y4 => (bif y4 then ((ref13_in c.Cap 1 1000).bind fun y6 => (bif y6 then ((ref13_in c.Room 1 64).bind fun y8 => (bif y8 then ((ref13_in c.Tries 1 20).bind fun y10 => (some (.inr y10))) else (some (.inr false)))) else (some (.inr false)))) else (some (.inr false)))) else (some (.inr false)))))
noncomputable def ref13_Right_step (c : Config) : ref13_Right_S → Option (ref13_Right_S ⊕ Bool)
 | .s0 => ref13_Right_0 c
 | .s1 t39 => ref13_Right_1 c t39
 | .s2 i => ref13_Right_2 c i
 | .s3 t133 => ref13_Right_3 c t133
 | .s4 t170 => ref13_Right_4 c t170
theorem ref13_Right_0_ok {c} : ref13_Right_W c .s0 (ref13_Right_0 c) := by
 intro r x h ha; unfold ref13_Right_0 at h
 refine zc 12 [] h (fun _ => ref13_in_ok) fun y1 h => ?_
 refine zs 3 h (fun h => ?_) fun h => ?_
 ·
  exact zk 57 h ha
 refine zc 5 [] h (fun _ => ref13_in_ok) fun y3 h => ?_
 refine zs 6 h (fun h => ?_) fun h => ?_
 ·
  exact zk 46 h ha
 refine zc 5 [] h (fun _ => ref13_in_ok) fun y5 h => ?_
 refine zs 6 h (fun h => ?_) fun h => ?_
 ·
  exact zk 35 h ha
 refine zc 5 [] h (fun _ => ref13_in_ok) fun y7 h => ?_
 refine zs 6 h (fun h => ?_) fun h => ?_
 ·
  exact zk 24 h ha
 refine zc 5 [] h (fun _ => ref13_in_ok) fun y9 h => ?_
 refine zs 6 h (fun h => ?_) fun h => ?_
 ·
  exact zk 13 h ha
 exact zk 15 h ha
theorem ref13_Right_1_ok {c t39} : ref13_Right_W c (.s1 t39) (ref13_Right_1 c t39) := by
 intro r x h ha; unfold ref13_Right_1 at h
 refine zs 1 h (fun h => ?_) fun h => ?_
 ·
  exact zt 5 h ha
 exact zj 9 h ha
theorem ref13_Right_2_ok {c i} : ref13_Right_W c (.s2 i) (ref13_Right_2 c i) := by
 intro r x h ha; unfold ref13_Right_2 at h
 refine zs 12 h (fun h => ?_) fun h => ?_
 ·
  refine zn 10 h fun h => ?_
  refine zr 1 (eInt .i64) h fun y3 h => ?_
  refine zc 1 [] h (fun _ => ref13_in_ok) fun y5 h => ?_
  refine zs 3 h (fun h => ?_) fun h => ?_
  ·
   exact zt 5 h ha
  exact zj 8 h ha
 refine zc 8 [] h (fun _ => ref13_span_ok) fun y7 h => ?_
 refine zs 3 h (fun h => ?_) fun h => ?_
 ·
  exact zk 137 h ha
 refine zc 5 [] h (fun _ => ref13_span_ok) fun y9 h => ?_
 refine zs 6 h (fun h => ?_) fun h => ?_
 ·
  exact zk 126 h ha
 refine zc 5 [] h (fun _ => ref13_span_ok) fun y11 h => ?_
 refine zs 6 h (fun h => ?_) fun h => ?_
 ·
  exact zk 115 h ha
 refine zc 5 [] h (fun _ => ref13_span_ok) fun y13 h => ?_
 refine zs 6 h (fun h => ?_) fun h => ?_
 ·
  exact zk 104 h ha
 refine zc 5 [] h (fun _ => ref13_span_ok) fun y15 h => ?_
 refine zs 6 h (fun h => ?_) fun h => ?_
 ·
  exact zk 93 h ha
 refine zc 5 [] h (fun _ => ref13_span_ok) fun y17 h => ?_
 refine zs 6 h (fun h => ?_) fun h => ?_
 ·
  exact zk 82 h ha
 refine zc 5 [] h (fun _ => ref13_span_ok) fun y19 h => ?_
 refine zs 6 h (fun h => ?_) fun h => ?_
 ·
  exact zk 71 h ha
 refine zc 5 [] h (fun _ => ref13_span_ok) fun y21 h => ?_
 refine zs 6 h (fun h => ?_) fun h => ?_
 ·
  exact zk 60 h ha
 refine zc 5 [] h (fun _ => ref13_span_ok) fun y23 h => ?_
 refine zs 6 h (fun h => ?_) fun h => ?_
 ·
  exact zk 49 h ha
 refine zc 5 [] h (fun _ => ref13_span_ok) fun y25 h => ?_
 refine zs 6 h (fun h => ?_) fun h => ?_
 ·
  exact zk 38 h ha
 refine zc 5 [] h (fun _ => ref13_span_ok) fun y27 h => ?_
 refine zs 6 h (fun h => ?_) fun h => ?_
 ·
  exact zk 27 h ha
 refine zc 5 [] h (fun _ => ref13_span_ok) fun y29 h => ?_
 refine zs 6 h (fun h => ?_) fun h => ?_
 ·
  exact zk 16 h ha
 refine zs 9 h (fun h => ?_) fun h => ?_
 ·
  exact zk 7 h ha
 exact zk 8 h ha
theorem ref13_Right_3_ok {c t133} : ref13_Right_W c (.s3 t133) (ref13_Right_3 c t133) := by
 intro r x h ha; unfold ref13_Right_3 at h
 refine zs 1 h (fun h => ?_) fun h => ?_
 ·
  exact zt 5 h ha
 refine zc 8 [] h (fun _ => ref13_in_ok) fun y2 h => ?_
 refine zs 3 h (fun h => ?_) fun h => ?_
 ·
  exact zk 59 h ha
 refine zc 5 [] h (fun _ => ref13_in_ok) fun y4 h => ?_
 refine zs 6 h (fun h => ?_) fun h => ?_
 ·
  exact zk 48 h ha
 refine zc 5 [] h (fun _ => ref13_in_ok) fun y6 h => ?_
 refine zs 6 h (fun h => ?_) fun h => ?_
 ·
  exact zk 37 h ha
 refine zc 5 [] h (fun _ => ref13_in_ok) fun y8 h => ?_
 refine zs 6 h (fun h => ?_) fun h => ?_
 ·
  exact zk 26 h ha
 refine zc 5 [] h (fun _ => ref13_in_ok) fun y10 h => ?_
 refine zs 6 h (fun h => ?_) fun h => ?_
 ·
  exact zk 15 h ha
 refine zc 12 [] h (fun _ => ref13_in_ok) fun y12 h => ?_
 exact zk 5 h ha
theorem ref13_Right_4_ok {c t170} : ref13_Right_W c (.s4 t170) (ref13_Right_4 c t170) := by
 intro r x h ha; unfold ref13_Right_4 at h
 refine zs 1 h (fun h => ?_) fun h => ?_
 ·
  exact zt 5 h ha
 refine zc 7 [] h (fun _ => ref13_in_ok) fun y2 h => ?_
 refine zs 2 h (fun h => ?_) fun h => ?_
 ·
  refine zc 5 [] h (fun _ => ref13_in_ok) fun y4 h => ?_
  refine zs 4 h (fun h => ?_) fun h => ?_
  ·
   refine zc 5 [] h (fun _ => ref13_in_ok) fun y6 h => ?_
   refine zs 4 h (fun h => ?_) fun h => ?_
   ·
    refine zc 5 [] h (fun _ => ref13_in_ok) fun y8 h => ?_
    refine zs 4 h (fun h => ?_) fun h => ?_
    ·
     refine zc 5 [] h (fun _ => ref13_in_ok) fun y10 h => ?_
     exact zt 5 h ha
    exact zt 9 h ha
   exact zt 18 h ha
  exact zt 27 h ha
 exact zt 36 h ha
noncomputable def ref13_Right (c : Config) : Option Bool := evf (ref13_Right_step c) (.s0)
theorem ref13_Right_ok {c : Config} {r : Bool} (h : ref13_Right c = some r) : Sound E 32 [.agg (Config.enc c)] [] (Rs ref13_Right_e r) := sc (fn := Tryd.f32) (k := false) (m := 0) (stM := (ref13_Right_M c)) h fun s => by
 cases s with
 | s0 => exact ref13_Right_0_ok
 | s1 => exact ref13_Right_1_ok
 | s2 => exact ref13_Right_2_ok
 | s3 => exact ref13_Right_3_ok
 | s4 => exact ref13_Right_4_ok
end Go.RX.L

set_option linter.unusedSimpArgs false
set_option linter.unusedVariables false
set_option maxRecDepth 100000
set_option maxHeartbeats 4000000
namespace Go.RX.L
open Go Go.RX Go.Proofs
attribute [local irreducible] FinQ
noncomputable def ref13_Zero_e (y : Plan) : D × Sto := (.agg [.int .i64 y.Epoch, .int .i64 y.Target, .int .i64 y.Prev, .int .i64 y.Spill, .int .i64 y.Percent, .int .i64 y.Stamp, .int .i64 y.Since, .int .i64 y.Ramped, .int .u64 y.Up, .int .u64 y.Sup, .sl false 1 (List.map (eInt .i64) y.Pen), .sl false 1 (List.map (eInt .i64) y.Changes)], [])
noncomputable def ref13_Zero (c : Config) : Option Plan := ((ref13_Right c).bind fun y1 => (bif (!y1) then (some (⟨0, 0, 0, 0, 0, 0, 0, 0, 0, 0, [], []⟩ : Plan)) else (bif (decide ((0 : Int) ≤ c.Targets) && (decide ((c.Targets : Int) ≤ c.Targets) && (decide ((c.Targets : Int) ≤ 9223372036854775807) && decide (c.Targets.toNat * 8 ≤ bytesLim)))) then (some (⟨0, (-1), (-1), (-1), 0, 0, 0, 0, 0, 0, (List.replicate c.Targets.toNat 0), []⟩ : Plan)) else none)))
theorem ref13_Zero_ok {c : Config} {r : Plan} (h : ref13_Zero c = some r) : Sound E 14 [.agg (Config.enc c)] [] (Rs ref13_Zero_e r) := so (fn := Tryd.f14) (k := false) (m := 0) h <| by
 intro r h; unfold ref13_Zero at h
 refine zc 10 [] h (fun _ => ref13_Right_ok) fun y1 h => ?_
 refine zs 9 h (fun h => ?_) fun h => ?_
 ·
  exact zu 9 h [.slot 0 [some 1, some 1]]
 refine zn 7 h fun h => ?_
 refine zw 0 (a := (List.replicate c.Targets.toNat ((eInt .i64) 0))) (b := (List.map (eInt .i64) (List.replicate c.Targets.toNat 0))) (rows_rep _ _ _) ?_
 refine zm 7 (b := (Nat.ble (0 + (List.map (eInt .i64) (List.replicate c.Targets.toNat 0)).length) ((List.map (eInt .i64) (List.replicate c.Targets.toNat 0)).length))) (ble_full _) ?_
 obtain rfl := Option.some.inj h
 exact r_retE [.slot 0 [some 1]] (d1 := .agg [.int .i64 0, .int .i64 (-1), .int .i64 (-1), .int .i64 (-1), .int .i64 0, .int .i64 0, .int .i64 0, .int .i64 0, .int .u64 0, .int .u64 0, .sl false 1 (List.take ((List.map (eInt .i64) (List.replicate c.Targets.toNat 0)).length) (List.drop 0 (List.map (eInt .i64) (List.replicate c.Targets.toNat 0)))), .sl false 1 []]) (d := .agg [.int .i64 0, .int .i64 (-1), .int .i64 (-1), .int .i64 (-1), .int .i64 0, .int .i64 0, .int .i64 0, .int .i64 0, .int .u64 0, .int .u64 0, .sl false 1 (List.map (eInt .i64) (List.replicate c.Targets.toNat 0)), .sl false 1 []]) (s1 := []) (s := []) (by kernel_rfl) ⟨by simp [List.take_of_length_le, List.map_take, List.map_drop], rfl⟩ ⟨rfl, rfl⟩ Cx.fin_of
end Go.RX.L

set_option linter.unusedSimpArgs false
set_option linter.unusedVariables false
set_option maxRecDepth 100000
set_option maxHeartbeats 4000000
namespace Go.RX.L
open Go Go.RX Go.Proofs
attribute [local irreducible] FinQ
noncomputable def law15_head_c := codeAt (bodyOf Tryd.f9)
noncomputable def law15_head_e (y : Bool) : D × Sto := (.bool y, [])
abbrev law15_head_W := AOk E (Cx.of Tryd.f9 false 0) law15_head_e
noncomputable def law15_head_3M (c : Config) : M := ⟨[.code (law15_head_c [1, 1, 1, 0, 1]), .code (law15_head_c [1, 1, 1, 1])], [(1, .ptr 0 0 0), (2, .nilp), (20, .bool true)], [some ⟨30, false, [(Config.enc c)]⟩]⟩
noncomputable def law15_head_3 (c : Config) : Option Bool := (some false)
theorem law15_head_3_ok {c} : law15_head_W (law15_head_3M c) (law15_head_3 c) := by
 intro r h; unfold law15_head_3 at h
 exact zu 7 h
noncomputable def law15_head_1M (c : Config) : M := ⟨[.code (law15_head_c [1, 1, 1])], [(1, .ptr 0 0 0), (2, .nilp)], [some ⟨30, false, [(Config.enc c)]⟩]⟩
noncomputable def law15_head_1 (c : Config) : Option Bool := (law15_head_3 c)
theorem law15_head_1_ok {c} : law15_head_W (law15_head_1M c) (law15_head_1 c) := by
 intro r h; unfold law15_head_1 at h
 exact zg 24 (law15_head_3_ok h)
noncomputable def law15_head_4M (t20 : Bool) (c : Config) (kept : keptT) (c2 : Config) (node : Int) (fuse : Int) (down : Bool) (b3 : List Int) (b4 : List Int) : M := ⟨[.code (law15_head_c [1, 1, 1, 0, 1]), .code (law15_head_c [1, 1, 1, 1])], [(1, .ptr 0 0 0), (2, .ptr 1 0 0), (20, .bool t20)], [some ⟨30, false, [(Config.enc c)]⟩, some ⟨67, true, [[.int .i64 kept.epoch, .int .i64 kept.known.Epoch, .int .i64 kept.known.Target, .int .i64 kept.known.Prev, .int .i64 kept.known.Spill, .int .i64 kept.known.Percent, .int .i64 kept.known.Stamp, .int .i64 kept.known.Since, .int .i64 kept.known.Ramped, .int .u64 kept.known.Up, .int .u64 kept.known.Sup, .sl false 1 (List.map (eInt .i64) kept.known.Pen), .sl false 1 (List.map (eInt .i64) kept.known.Changes), .int .i64 kept.promised, .int .i64 kept.accepted, .int .i64 kept.plan.Epoch, .int .i64 kept.plan.Target, .int .i64 kept.plan.Prev, .int .i64 kept.plan.Spill, .int .i64 kept.plan.Percent, .int .i64 kept.plan.Stamp, .int .i64 kept.plan.Since, .int .i64 kept.plan.Ramped, .int .u64 kept.plan.Up, .int .u64 kept.plan.Sup, .sl false 1 (List.map (eInt .i64) kept.plan.Pen), .sl false 1 (List.map (eInt .i64) kept.plan.Changes), .int .i64 kept.writes.low, .int .i64 kept.writes.high, .int .i64 kept.writes.at_, .int .i64 kept.wish, .int .i64 kept.wishAt, .bool kept.lead.is_, .int .i64 kept.lead.who, .int .i64 kept.lead.at_, .int .i64 c2.F_, .int .i64 c2.Deciders, .int .i64 c2.Targets, .int .i64 c2.Routers, .int .i64 c2.Observers, .sl false 1 (List.map (eInt .i64) c2.Tiers), .int .i64 c2.Every, .int .i64 c2.Wait, .int .i64 c2.Rise, .int .i64 c2.Fall, .int .i64 c2.Fresh, .int .i64 c2.L_, .int .i64 c2.M_, .int .i64 c2.Dwell, .int .i64 c2.D_, .int .i64 c2.W_, .int .i64 c2.B_, .int .i64 c2.Hit, .int .i64 c2.Suppress, .int .i64 c2.Reuse, .int .i64 c2.Half, .int .i64 c2.First, .int .i64 c2.Step, .int .i64 c2.StepTime, .int .i64 c2.S_, .int .i64 c2.Cap, .int .i64 c2.Span, .int .i64 c2.Room, .int .i64 c2.Tries, .int .i64 c2.Retry, .int .i64 node, .ptr 2 0 0]]⟩, some ⟨4, true, [[.msl 3 0 ((List.map (eInt .u8) b3).length) ((List.map (eInt .u8) b3).length) false, .msl 4 0 ((List.map (eInt .u8) b4).length) ((List.map (eInt .u8) b4).length) false, .int .i64 fuse, .bool down]]⟩, some ⟨1, false, (List.map (eInt .u8) b3)⟩, some ⟨1, false, (List.map (eInt .u8) b4)⟩]⟩
noncomputable def law15_head_4 (t20 : Bool) (c : Config) (kept : keptT) (c2 : Config) (node : Int) (fuse : Int) (down : Bool) (b3 : List Int) (b4 : List Int) : Option Bool := (bif t20 then (some false) else ((ref13_Zero c).bind fun y2 => ((Acceptor_Handle (⟨4, 9, 1, 1, 16, 0, 0, 0, 0, 0, true, y2, [], [], []⟩ : Msg) 5 kept c2 node fuse down b3 b4).bind fun y3 => ((Acceptor_Handle (⟨4, 9, 1, 1, 16, 0, 0, 0, 0, 0, true, y2, [], [], []⟩ : Msg) 5 y3.2.1 c2 node y3.2.2.1 y3.2.2.2.1 y3.2.2.2.2.1 y3.2.2.2.2.2).bind fun y4 => (bif (((((List.map Msg.enc y3.1).length : Nat) : Int) : Int) == 1) then (bif (decide ((0 : Int) < (((List.map Msg.enc y3.1).length : Nat) : Int))) then (((y3.1)[0]?).bind fun y7 => (bif ((y7.Kind : Int) == 5) then (bif (decide ((0 : Int) < (((List.map Msg.enc y3.1).length : Nat) : Int))) then (((y3.1)[0]?).bind fun y11 => (bif ((y11.To : Int) == 9) then (bif (((((List.map Msg.enc y4.1).length : Nat) : Int) : Int) == 1) then (bif (decide ((0 : Int) < (((List.map Msg.enc y4.1).length : Nat) : Int))) then (((y4.1)[0]?).bind fun y16 => (some ((y16.Kind : Int) == 6))) else none) else (some false)) else (some false))) else none) else (some false))) else none) else (some false))))))
theorem law15_head_4_ok {t20 c kept c2 node fuse down b3 b4} : law15_head_W (law15_head_4M t20 c kept c2 node fuse down b3 b4) (law15_head_4 t20 c kept c2 node fuse down b3 b4) := by
 intro r h; unfold law15_head_4 at h
 refine zs 1 h (fun h => ?_) fun h => ?_
 ·
  exact zu 5 h
 refine zc 6 [] h (fun _ => ref13_Zero_ok) fun y2 h => ?_
 refine zc 12 [some 1, some 1, some 1] h (fun _ => Acceptor_Handle_ok) fun y3 h => ?_
 refine zc 8 [some 1, some 1, some 1] h (fun _ => Acceptor_Handle_ok) fun y4 h => ?_
 refine zs 9 h (fun h => ?_) fun h => ?_
 ·
  refine zn 2 h fun h => ?_
  refine zr 4 Msg.enc h fun y7 h => ?_
  refine zs 6 h (fun h => ?_) fun h => ?_
  ·
   refine zn 2 h fun h => ?_
   refine zr 4 Msg.enc h fun y11 h => ?_
   refine zs 6 h (fun h => ?_) fun h => ?_
   ·
    refine zs 8 h (fun h => ?_) fun h => ?_
    ·
     refine zn 2 h fun h => ?_
     refine zr 4 Msg.enc h fun y16 h => ?_
     exact zu 7 h
    exact zu 13 h
   exact zu 22 h
  exact zu 35 h
 exact zu 48 h
noncomputable def law15_head_2M (c : Config) (kept : keptT) (c2 : Config) (node : Int) (fuse : Int) (down : Bool) (b3 : List Int) (b4 : List Int) : M := ⟨[.code (law15_head_c [1, 1, 1])], [(1, .ptr 0 0 0), (2, .ptr 1 0 0)], [some ⟨30, false, [(Config.enc c)]⟩, some ⟨67, true, [[.int .i64 kept.epoch, .int .i64 kept.known.Epoch, .int .i64 kept.known.Target, .int .i64 kept.known.Prev, .int .i64 kept.known.Spill, .int .i64 kept.known.Percent, .int .i64 kept.known.Stamp, .int .i64 kept.known.Since, .int .i64 kept.known.Ramped, .int .u64 kept.known.Up, .int .u64 kept.known.Sup, .sl false 1 (List.map (eInt .i64) kept.known.Pen), .sl false 1 (List.map (eInt .i64) kept.known.Changes), .int .i64 kept.promised, .int .i64 kept.accepted, .int .i64 kept.plan.Epoch, .int .i64 kept.plan.Target, .int .i64 kept.plan.Prev, .int .i64 kept.plan.Spill, .int .i64 kept.plan.Percent, .int .i64 kept.plan.Stamp, .int .i64 kept.plan.Since, .int .i64 kept.plan.Ramped, .int .u64 kept.plan.Up, .int .u64 kept.plan.Sup, .sl false 1 (List.map (eInt .i64) kept.plan.Pen), .sl false 1 (List.map (eInt .i64) kept.plan.Changes), .int .i64 kept.writes.low, .int .i64 kept.writes.high, .int .i64 kept.writes.at_, .int .i64 kept.wish, .int .i64 kept.wishAt, .bool kept.lead.is_, .int .i64 kept.lead.who, .int .i64 kept.lead.at_, .int .i64 c2.F_, .int .i64 c2.Deciders, .int .i64 c2.Targets, .int .i64 c2.Routers, .int .i64 c2.Observers, .sl false 1 (List.map (eInt .i64) c2.Tiers), .int .i64 c2.Every, .int .i64 c2.Wait, .int .i64 c2.Rise, .int .i64 c2.Fall, .int .i64 c2.Fresh, .int .i64 c2.L_, .int .i64 c2.M_, .int .i64 c2.Dwell, .int .i64 c2.D_, .int .i64 c2.W_, .int .i64 c2.B_, .int .i64 c2.Hit, .int .i64 c2.Suppress, .int .i64 c2.Reuse, .int .i64 c2.Half, .int .i64 c2.First, .int .i64 c2.Step, .int .i64 c2.StepTime, .int .i64 c2.S_, .int .i64 c2.Cap, .int .i64 c2.Span, .int .i64 c2.Room, .int .i64 c2.Tries, .int .i64 c2.Retry, .int .i64 node, .ptr 2 0 0]]⟩, some ⟨4, true, [[.msl 3 0 ((List.map (eInt .u8) b3).length) ((List.map (eInt .u8) b3).length) false, .msl 4 0 ((List.map (eInt .u8) b4).length) ((List.map (eInt .u8) b4).length) false, .int .i64 fuse, .bool down]]⟩, some ⟨1, false, (List.map (eInt .u8) b3)⟩, some ⟨1, false, (List.map (eInt .u8) b4)⟩]⟩
noncomputable def law15_head_2 (c : Config) (kept : keptT) (c2 : Config) (node : Int) (fuse : Int) (down : Bool) (b3 : List Int) (b4 : List Int) : Option Bool := ((acceptor_New (⟨0, 0, 0, 0, 0, [], 0, 0, 0, 0, 0, 0, 0, 0, 0, 0, 0, 0, 0, 0, 0, 0, 0, 0, 0, 0, 0, 0, 0, 0⟩ : Config) 1).bind fun y1 => match y1 with | .r0 => ((Acceptor_Journal kept c2 node fuse down b3 b4).bind fun y2 => (law15_head_4 false c kept c2 node fuse down b3 b4)) | .r1 y1a0 y1a1 y1a2 y1a3 y1a4 => (law15_head_4 true c kept c2 node fuse down b3 b4))
theorem law15_head_2_ok {c kept c2 node fuse down b3 b4} : law15_head_W (law15_head_2M c kept c2 node fuse down b3 b4) (law15_head_2 c kept c2 node fuse down b3 b4) := by
 intro r h; unfold law15_head_2 at h
 refine zc 10 [some 1] h (fun _ => acceptor_New_ok) fun y1 h => ?_
 cases y1 with
 | r0 =>
  dsimp only at h
  refine zc 9 [] h (fun _ => Acceptor_Journal_ok) fun y2 h => ?_
  exact zg 5 (law15_head_4_ok h)
 | r1 y1a0 y1a1 y1a2 y1a3 y1a4 =>
  dsimp only at h
  exact zg 14 (law15_head_4_ok h)
noncomputable def law15_head  : Option Bool := ((law13_Plain ).bind fun y1 => ((acceptor_New y1 1).bind fun y2 => match y2 with | .r0 => (law15_head_1 y1) | .r1 y2a0 y2a1 y2a2 y2a3 y2a4 => (law15_head_2 y1 y2a0 y1 1 y2a1 y2a2 y2a3 y2a4)))
theorem law15_head_ok  {r : Bool} (h : law15_head = some r) : Sound E 9 [] [] (Rs law15_head_e r) := so (fn := Tryd.f9) (k := false) (m := 0) h <| by
 intro r h; unfold law15_head at h
 refine zc 7 [] h (fun _ => law13_Plain_ok) fun y1 h => ?_
 refine zc 10 [] h (fun _ => acceptor_New_ok) fun y2 h => ?_
 cases y2 with
 | r0 =>
  dsimp only at h
  exact zg 2 (law15_head_1_ok h)
 | r1 y2a0 y2a1 y2a2 y2a3 y2a4 =>
  dsimp only at h
  exact zg 2 (law15_head_2_ok h)
end Go.RX.L

set_option linter.unusedSimpArgs false
set_option linter.unusedVariables false
set_option maxRecDepth 100000
set_option maxHeartbeats 4000000
namespace Go.RX.L
open Go Go.RX Go.Proofs
attribute [local irreducible] FinQ
end Go.RX.L

set_option linter.unusedSimpArgs false
set_option linter.unusedVariables false
set_option maxRecDepth 100000
set_option maxHeartbeats 4000000
namespace Go.RX.L
open Go Go.RX Go.Proofs
attribute [local irreducible] FinQ
noncomputable def law15_Great_e (y : Bool) : D × Sto := (.bool y, [])
noncomputable def law15_Great (l_ : List Op) : Option Bool := (some (decide (((((List.map Op.enc l_).length : Nat) : Int) : Int) > 150)))
theorem law15_Great_ok {l_ : List Op} {r : Bool} (h : law15_Great l_ = some r) : Sound E 11 [.sl false 29 (List.map Op.enc l_)] [] (Rs law15_Great_e r) := so (fn := Tryd.f11) (k := false) (m := 0) h <| by
 intro r h; unfold law15_Great at h
 exact zu 12 h
end Go.RX.L

set_option linter.unusedSimpArgs false
set_option linter.unusedVariables false
set_option maxRecDepth 100000
namespace Go.RX.L
open Go Go.RX

/-! ### the document's config -/
theorem rin_t {n lo hi : Int} (h : lo ≤ n ∧ n ≤ hi) : ref13_in n lo hi = some true := by
  have a : decide (n ≥ lo) = true := decide_eq_true h.1
  have b : decide (n ≤ hi) = true := decide_eq_true h.2
  simp only [ref13_in, a, b, cond_true]
theorem rspan_t {n : Int} (h : 1 ≤ n ∧ n ≤ 1048576) : ref13_span n = some true := by
  have a : decide (n ≥ 1) = true := decide_eq_true h.1
  have b : decide (n ≤ 1048576) = true := decide_eq_true h.2
  simp only [ref13_span, a, b, cond_true]
theorem ref13_ok {c : Config} (ht : c.Tiers.length < 9223372036854775807) (h : rightC c = true) : ref13_Right c = some true := by
  simp only [rightC, Bool.and_eq_true, btw_iff, List.mem_cons, List.not_mem_nil, or_false, forall_eq_or_imp, forall_eq, decide_eq_true_eq] at h
  obtain ⟨h1, ⟨h2, h3⟩, h4, h5, h6, h7, ⟨h8, h9, h10, h11, h12, h13, h14, h15, h16, h17, h18, h19⟩, h20, ⟨h21, h22, h23, h24⟩, h25, h26, h27, h28, h29, h30, h31⟩ := h
  have e1 : (((((List.map (eInt .i64) c.Tiers).length : Nat) : Int) : Int) != c.Targets) = false := by rw [List.length_map, h6]; simp
  refine evf_of (.next (s' := ref13_Right_S.s1 false) ?_ (.next (s' := ref13_Right_S.s2 0) rfl ?_))
  · simp only [ref13_Right_step, ref13_Right_0, rin_t h1, rin_t h2, rin_t h3, rin_t h4, rin_t h5, Option.bind_some, Bool.not_true, cond_false, e1]
  · have tail : Ev (ref13_Right_step c) (.s3 false) true := by
      refine .next (s' := ref13_Right_S.s4 false) ?_ (.done ?_)
      · simp only [ref13_Right_step, ref13_Right_3, rin_t h21, rin_t h22, rin_t h25, rin_t h26, rin_t h27, rin_t h28, Option.bind_some, Bool.not_true, cond_false]
      · simp only [ref13_Right_step, ref13_Right_4, rin_t h23, rin_t h24, rin_t h29, rin_t h30, rin_t h31, Option.bind_some, cond_true, cond_false]
    have m1 : decide (c.M_ < 0) = false := decide_eq_false (by omega)
    have m2 : decide (c.M_ > 1048576) = false := decide_eq_false (by omega)
    have loop : ∀ (j i : Nat), i + j = c.Tiers.length → Ev (ref13_Right_step c) (.s2 (i : Int)) true := by
      intro j
      induction j with
      | zero =>
        intro i hi
        refine .next (s' := ref13_Right_S.s3 false) ?_ tail
        have : decide ((i : Int) < (c.Tiers.length : Int)) = false := by simp; omega
        simp only [ref13_Right_step, ref13_Right_2, List.length_map, this, cond_false, rspan_t h8, rspan_t h9, rspan_t h10, rspan_t h11, rspan_t h12, rspan_t h13, rspan_t h14, rspan_t h15, rspan_t h16, rspan_t h17, rspan_t h18, rspan_t h19, Option.bind_some, Bool.not_true, m1, m2]
      | succ j ih =>
        intro i hi
        have hlt : i < c.Tiers.length := by omega
        refine .next (s' := ref13_Right_S.s2 ((i + 1 : Nat) : Int)) ?_ (ih (i + 1) (by omega))
        have hx := h7 _ (List.getElem_mem hlt)
        have w : IntKind.i64.wrap ((i : Int) + 1) = ((i + 1 : Nat) : Int) := by rw [wI64 (by omega) (by omega)]; norm_cast
        simp only [ref13_Right_step, ref13_Right_2, List.length_map, ltB hlt, cond_true, le0, Bool.and_self, Int.toNat_natCast, List.getE hlt, Option.bind_some, rin_t hx, Bool.not_true, cond_false, w]
    exact loop c.Tiers.length 0 (by omega)
theorem rzero_ok {c : Config} (ht : c.Tiers.length < 9223372036854775807) (h : rightC c = true) : ref13_Zero c = some (kept0 c).known := by
  have := polzero_ok ht h
  obtain ⟨⟨h1, h2⟩, -⟩ := rightC_b h
  have l : decide (c.Targets.toNat * 8 ≤ bytesLim) = true := limOk (by omega)
  have e : (decide ((0 : Int) ≤ c.Targets) && (decide ((c.Targets : Int) ≤ c.Targets) && (decide ((c.Targets : Int) ≤ 9223372036854775807) && decide (c.Targets.toNat * 8 ≤ bytesLim)))) = true := by
    simp only [l, Bool.and_eq_true, decide_eq_true_eq]
    exact ⟨by omega, Int.le_refl _, by omega, trivial⟩
  simp only [ref13_Zero, ref13_ok ht h, Option.bind_some, Bool.not_true, cond_false, e, cond_true, kept0]

/-! ### what is answered -/
section
variable {c : Config} {node : Int} {a a' : AS} {m : Msg} {now : Int} {out : List Msg}

theorem hnil (h : HStep c node a m now [] a') : a' = a ∨ (a.down = false ∧ a'.down = true ∧ a'.rs = a.rs ∧ a'.k = a.k) ∨ (a.down = false ∧ a'.down = false ∧ a'.rs = a.rs ∧ a'.pend = none ∧ ∃ w v, a'.k = ⟨a.k.epoch, a.k.known, a.k.promised, a.k.accepted, a.k.plan, a.k.writes, w, v, a.k.lead⟩) := by
  generalize ho : ([] : List Msg) = o at h
  have eta : ∀ k : keptT, k = ⟨k.epoch, k.known, k.promised, k.accepted, k.plan, k.writes, k.wish, k.wishAt, k.lead⟩ := fun k => rfl
  cases h with
  | off h => exact .inl rfl
  | lost p hd hv ha hp => exact .inr (.inl ⟨hd, rfl, rfl, rfl⟩)
  | say hd hv ha =>
    subst ho
    refine .inr (.inr ⟨hd, rfl, rfl, rfl, ?_⟩)
    have key : ∀ {x : List Msg} {p q : keptT}, Act.say x p = Act.say [] q → (x = [] → q = p) := fun h _ => by cases h; rfl
    have non : ∀ {x : Msg} {p q : keptT}, Act.say [x] p = Act.say [] q → False := fun h => by cases h
    unfold act at ha
    split at ha
    · unfold prepA at ha
      split at ha
      · rw [key ha rfl]; exact ⟨_, _, eta _⟩
      · split at ha
        · exact (non ha).elim
        · split at ha
          · split at ha
            · rw [key ha rfl]; exact ⟨_, _, rfl⟩
            · cases ha
          · split at ha
            · exact (non ha).elim
            · cases ha
    · split at ha
      · unfold accA at ha
        split at ha
        · rw [key ha rfl]; exact ⟨_, _, eta _⟩
        · split at ha
          · exact (non ha).elim
          · split at ha
            · exact (non ha).elim
            · split at ha
              · rw [key ha rfl]; exact ⟨_, _, eta _⟩
              · cases ha
      · split at ha
        · unfold grA at ha
          split at ha
          · split at ha
            · rw [key ha rfl]; exact ⟨_, _, eta _⟩
            · split at ha
              · exact (non ha).elim
              · cases ha
          · split at ha
            · split at ha
              · exact (non ha).elim
              · split at ha
                · rw [key ha rfl]; exact ⟨_, _, eta _⟩
                · cases ha
            · rw [key ha rfl]; exact ⟨_, _, eta _⟩
        · rw [key ha rfl]; exact ⟨_, _, eta _⟩
  | @kept r out post hd hv ha =>
    exfalso
    unfold act at ha
    split at ha
    · unfold prepA at ha
      split at ha
      · cases ha
      · split at ha
        · cases ha
        · split at ha
          · split at ha
            · cases ha
            · cases ha; cases ho
          · split at ha
            · cases ha
            · cases ha; cases ho
    · split at ha
      · unfold accA at ha
        split at ha
        · cases ha
        · split at ha
          · cases ha
          · split at ha
            · cases ha
            · split at ha
              · cases ha
              · cases ha; cases ho
      · split at ha
        · unfold grA at ha
          split at ha
          · split at ha
            · cases ha
            · split at ha
              · cases ha
              · cases ha; cases ho
          · split at ha
            · split at ha
              · cases ha
              · split at ha
                · cases ha
                · cases ha; cases ho
            · cases ha
        · cases ha

/-- Something is. -/
inductive Said (c : Config) (node : Int) (a : AS) (m : Msg) (now : Int) : Msg → AS → Prop
  | dec : (m.Kind = 4 ∨ m.Kind = 7) → Said c node a m now (dec_ node a.k m) ⟨a.rs, none, a.k, false⟩
  | nack : (m.Kind = 4 ∨ m.Kind = 7) → m.Epoch = a.k.epoch → Said c node a m now (nack_ node a.k m) ⟨a.rs, none, a.k, false⟩
  | prom (p : Plan) : m.Kind = 4 → 1 ≤ m.Epoch → 1 ≤ m.Ballot → m.HasPlan = true → ((a.k.epoch < m.Epoch ∧ p = m.Plan ∧ ¬ (a.k.writes.low ≠ 0 ∧ a.k.writes.low < m.Epoch ∧ earlyB c a.k.writes.at_ now = true ∧ m.Code ≠ 1)) ∨ (m.Epoch = a.k.epoch ∧ a.k.promised < m.Ballot ∧ p = a.k.known)) →
      Said c node a m now (prom_ node m (takeK a.k (recP m p))) ⟨a.rs ++ [recP m p], none, takeK a.k (recP m p), false⟩
  | acc : m.Kind = 7 → m.Epoch = a.k.epoch → m.Ballot = a.k.promised → 1 ≤ m.Ballot → m.HasPlan = true → m.Plan.Epoch = m.Epoch → ¬ c.S_ < IntKind.i64.wrap (m.Plan.Stamp - now) →
      Said c node a m now (acc_ node m) ⟨a.rs ++ [recA m], none, takeK a.k (recA m), false⟩
  | write (k' : keptT) (rs' : List Msg) : m.Kind = 10 → m.Code = 1 → a.k.epoch ≤ m.Epoch → 1 ≤ m.Epoch → ((hasS a.k.writes m.Epoch ∧ k' = a.k ∧ rs' = a.rs) ∨ (¬ hasS a.k.writes m.Epoch ∧ k' = takeK a.k (recL m) ∧ rs' = a.rs ++ [recL m])) →
      Said c node a m now (lease_ node m) ⟨rs', none, atW now k', false⟩
  | lead (k' : keptT) (rs' : List Msg) : m.Kind = 10 → m.Code = 2 → ((a.k.lead.is_ = true ∧ a.k.lead.who = m.From ∧ k' = a.k ∧ rs' = a.rs) ∨ (¬ (a.k.lead.is_ = true ∧ a.k.lead.who = m.From) ∧ ¬ (a.k.lead.is_ = true ∧ earlyB c a.k.lead.at_ now = true) ∧ k' = takeK a.k (recL m) ∧ rs' = a.rs ++ [recL m])) →
      Said c node a m now (lease_ node m) ⟨rs', none, toL m.From now k', false⟩

theorem hsaid (h : HStep c node a m now out a') : (out = [] ∧ HStep c node a m now [] a') ∨ ∃ y, out = [y] ∧ a.down = false ∧ hval m now ∧ Said c node a m now y a' := by
  have h0 := h
  cases h with
  | off h => exact .inl ⟨rfl, h0⟩
  | lost p hd hv ha hp => exact .inl ⟨rfl, h0⟩
  | @say out k' hd hv ha =>
    have key : ∀ {x : List Msg} {p : keptT}, Act.say x p = Act.say out k' → out = x ∧ k' = p := fun h => by cases h; exact ⟨rfl, rfl⟩
    unfold act at ha
    split at ha
    · rename_i h4
      unfold prepA at ha
      split at ha
      · obtain ⟨rfl, rfl⟩ := key ha; exact .inl ⟨rfl, h0⟩
      · split at ha
        · obtain ⟨rfl, rfl⟩ := key ha; exact .inr ⟨_, rfl, hd, hv, .dec (.inl h4)⟩
        · split at ha
          · split at ha
            · obtain ⟨rfl, rfl⟩ := key ha; exact .inl ⟨rfl, h0⟩
            · cases ha
          · split at ha
            · obtain ⟨rfl, rfl⟩ := key ha; exact .inr ⟨_, rfl, hd, hv, .nack (.inl h4) (by omega)⟩
            · cases ha
    · split at ha
      · rename_i h7
        unfold accA at ha
        split at ha
        · obtain ⟨rfl, rfl⟩ := key ha; exact .inl ⟨rfl, h0⟩
        · rename_i h1
          split at ha
          · obtain ⟨rfl, rfl⟩ := key ha; exact .inr ⟨_, rfl, hd, hv, .dec (.inr h7)⟩
          · split at ha
            · obtain ⟨rfl, rfl⟩ := key ha
              simp only [not_or] at h1
              exact .inr ⟨_, rfl, hd, hv, .nack (.inr h7) (by omega)⟩
            · split at ha
              · obtain ⟨rfl, rfl⟩ := key ha; exact .inl ⟨rfl, h0⟩
              · cases ha
      · split at ha
        · rename_i h10
          unfold grA at ha
          split at ha
          · rename_i hc
            split at ha
            · obtain ⟨rfl, rfl⟩ := key ha; exact .inl ⟨rfl, h0⟩
            · rename_i h2
              simp only [not_or, mxI] at h2
              split at ha
              · rename_i hh
                obtain ⟨rfl, rfl⟩ := key ha
                exact .inr ⟨_, rfl, hd, hv, .write _ _ h10 hc (by split at h2 <;> omega) (by split at h2 <;> omega) (.inl ⟨hh, rfl, rfl⟩)⟩
              · cases ha
          · split at ha
            · rename_i hc
              split at ha
              · rename_i hh
                obtain ⟨rfl, rfl⟩ := key ha
                exact .inr ⟨_, rfl, hd, hv, .lead _ _ h10 hc (.inl ⟨hh.1, hh.2, rfl, rfl⟩)⟩
              · split at ha
                · obtain ⟨rfl, rfl⟩ := key ha; exact .inl ⟨rfl, h0⟩
                · cases ha
            · obtain ⟨rfl, rfl⟩ := key ha; exact .inl ⟨rfl, h0⟩
        · obtain ⟨rfl, rfl⟩ := key ha; exact .inl ⟨rfl, h0⟩
  | @kept r out post hd hv ha =>
    right
    unfold act at ha
    split at ha
    · rename_i h4
      unfold prepA at ha
      split at ha
      · cases ha
      · rename_i h1
        simp only [not_or, mn_lt1, Bool.not_eq_false] at h1
        split at ha
        · cases ha
        · split at ha
          · rename_i h3
            split at ha
            · cases ha
            · rename_i h5
              simp only [Act.note.injEq] at ha
              obtain ⟨rfl, rfl, rfl⟩ := ha
              exact ⟨_, rfl, hd, hv, .prom _ h4 (by omega) (by omega) h1.2.1 (.inl ⟨h3, rfl, h5⟩)⟩
          · split at ha
            · cases ha
            · simp only [Act.note.injEq] at ha
              obtain ⟨rfl, rfl, rfl⟩ := ha
              exact ⟨_, rfl, hd, hv, .prom _ h4 (by omega) (by omega) h1.2.1 (.inr ⟨by omega, by omega, rfl⟩)⟩
    · split at ha
      · rename_i h7
        unfold accA at ha
        split at ha
        · cases ha
        · rename_i h1
          simp only [not_or, mn_lt1, Bool.not_eq_false, ne_eq, Classical.not_not] at h1
          split at ha
          · cases ha
          · split at ha
            · cases ha
            · split at ha
              · cases ha
              · rename_i h5
                simp only [not_or] at h5
                simp only [Act.note.injEq] at ha
                obtain ⟨rfl, rfl, rfl⟩ := ha
                exact ⟨_, rfl, hd, hv, .acc h7 (by omega) (by omega) (by omega) h1.2.1 h1.2.2.1 h5.2⟩
      · split at ha
        · rename_i h10
          unfold grA at ha
          split at ha
          · rename_i hc
            split at ha
            · cases ha
            · rename_i h2
              simp only [not_or, mxI] at h2
              split at ha
              · cases ha
              · rename_i hh
                simp only [Act.note.injEq] at ha
                obtain ⟨rfl, rfl, rfl⟩ := ha
                exact ⟨_, rfl, hd, hv, .write _ _ h10 hc (by split at h2 <;> omega) (by split at h2 <;> omega) (.inr ⟨hh, rfl, rfl⟩)⟩
          · split at ha
            · rename_i hc
              split at ha
              · cases ha
              · rename_i hh
                split at ha
                · cases ha
                · rename_i hh2
                  simp only [Act.note.injEq] at ha
                  obtain ⟨rfl, rfl, rfl⟩ := ha
                  exact ⟨_, rfl, hd, hv, .lead _ _ h10 hc (.inr ⟨hh, hh2, rfl, rfl⟩)⟩
            · cases ha
        · cases ha
end

/-! ### the live question -/
def plainC : Config := ⟨1, 2, 2, 1, 3, [1, 0], 5, 3, 2, 2, 20, 20, 5, 10, 3, 50, 3, 1000, 1500, 700, 30, 20, 40, 5, 10, 5, 10, 4, 3, 5⟩
theorem plainC_r : rightC plainC = true := by decide +kernel
def zeroC : Config := ⟨0, 0, 0, 0, 0, [], 0, 0, 0, 0, 0, 0, 0, 0, 0, 0, 0, 0, 0, 0, 0, 0, 0, 0, 0, 0, 0, 0, 0, 0⟩
theorem zeroC_r : rightC zeroC = false := by decide +kernel

theorem ask_ok {c : Config} (h : rightC c = true) {from_ to_ b : Int} (hf : 0 ≤ from_ ∧ from_ ≤ 255) (ht : 0 ≤ to_ ∧ to_ ≤ 255) (hb : inK .i64 b) (kd : Int) (hk : kd = 4 ∨ kd = 7) {p : Plan} (hp : PlOk p) : okRec ⟨kd, from_, to_, 1, b, 0, 0, 0, 0, 0, true, p, [], [], []⟩ := by
  refine ⟨⟨⟨hp.f.s, hp.u1, hp.u2⟩, hp.f, ?_, by simp, fun x hx => by simp at hx, fun x hx => by simp at hx, fun x hx => by simp at hx⟩, ?_⟩
  · intro x hx
    simp only [List.mem_cons, List.not_mem_nil, or_false] at hx
    rcases hx with rfl | rfl | rfl | rfl | rfl <;> first | assumption | exact inI64.2 (by decide)
  · simp only [rightM, Bool.and_eq_true, decide_eq_true_eq, planB, cond_true, hp.r, and_true]
    exact ⟨by unfold hdM; simp only; omega, by unfold txM; simp⟩

theorem head15_ok : law15_head = some true := by
  have hr := plainC_r
  have ht : plainC.Tiers.length < 9223372036854775807 := by decide
  have hz := rzero_ok ht hr
  have hp := (kept0_ok hr).known
  have n1 := new_ok (c := plainC) (node := 1) ht
  have n2 := new_ok (c := zeroC) (node := 1) (by decide)
  rw [if_pos ⟨hr, by decide, by decide⟩] at n1
  rw [if_neg (by rw [zeroC_r]; simp)] at n2
  have hm := ask_ok hr (from_ := 9) (to_ := 1) (b := 16) (by decide) (by decide) (inI64.2 (by decide)) 4 (.inl rfl) hp
  have v : hval ⟨4, 9, 1, 1, 16, 0, 0, 0, 0, 0, true, (kept0 plainC).known, [], [], []⟩ 5 := ⟨hm.2, by decide, by decide⟩
  have f0 : okFuse (-1) := by unfold okFuse; omega
  have h1 := handle_on (c := plainC) (node := 1) (k := kept0 plainC) (fuse := -1) (s := []) hm.1 v hp f0 (by simp)
  have a1 : act plainC 1 (kept0 plainC) ⟨4, 9, 1, 1, 16, 0, 0, 0, 0, 0, true, (kept0 plainC).known, [], [], []⟩ 5 = .note (recP ⟨4, 9, 1, 1, 16, 0, 0, 0, 0, 0, true, (kept0 plainC).known, [], [], []⟩ (kept0 plainC).known) (fun k1 => [prom_ 1 ⟨4, 9, 1, 1, 16, 0, 0, 0, 0, 0, true, (kept0 plainC).known, [], [], []⟩ k1]) id := by
    simp [act, prepA, mnI, kept0, wI64]
  rw [a1] at h1
  simp only [runA, eff, fd] at h1
  simp only [Bool.false_eq_true, false_or, show ¬ ((-1 : Int) = 0) by decide, if_false, show ¬ (0 < (-1 : Int)) by decide, List.nil_append, id] at h1
  have hr1 := recPl 1 16 (inI64.2 (by decide)) (inI64.2 (by decide)) 5 (.inl rfl) hp
  have hl := log_len hr1
  have h2 := handle_on (c := plainC) (node := 1) (k := takeK (kept0 plainC) (recP ⟨4, 9, 1, 1, 16, 0, 0, 0, 0, 0, true, (kept0 plainC).known, [], [], []⟩ (kept0 plainC).known)) (fuse := -1) (s := log [recP ⟨4, 9, 1, 1, 16, 0, 0, 0, 0, 0, true, (kept0 plainC).known, [], [], []⟩ (kept0 plainC).known]) hm.1 v (by simp [takeK, recP, kept0] at hp ⊢; exact hp) f0 (by have : (log [recP ⟨4, 9, 1, 1, 16, 0, 0, 0, 0, 0, true, (kept0 plainC).known, [], [], []⟩ (kept0 plainC).known]).length ≤ 4408 := hl; omega)
  have a2 : act plainC 1 (takeK (kept0 plainC) (recP ⟨4, 9, 1, 1, 16, 0, 0, 0, 0, 0, true, (kept0 plainC).known, [], [], []⟩ (kept0 plainC).known)) ⟨4, 9, 1, 1, 16, 0, 0, 0, 0, 0, true, (kept0 plainC).known, [], [], []⟩ 5 = .say [nack_ 1 (takeK (kept0 plainC) (recP ⟨4, 9, 1, 1, 16, 0, 0, 0, 0, 0, true, (kept0 plainC).known, [], [], []⟩ (kept0 plainC).known)) ⟨4, 9, 1, 1, 16, 0, 0, 0, 0, 0, true, (kept0 plainC).known, [], [], []⟩] (takeK (kept0 plainC) (recP ⟨4, 9, 1, 1, 16, 0, 0, 0, 0, 0, true, (kept0 plainC).known, [], [], []⟩ (kept0 plainC).known)) := by
    simp [act, prepA, mnI, kept0, wI64, takeK, recP]
  rw [a2] at h2
  simp only [runA] at h2
  have pl : law13_Plain = some plainC := rfl
  simp only [law15_head, pl, Option.bind_some, n1, law15_head_2]
  rw [show (⟨0, 0, 0, 0, 0, [], 0, 0, 0, 0, 0, 0, 0, 0, 0, 0, 0, 0, 0, 0, 0, 0, 0, 0, 0, 0, 0, 0, 0, 0⟩ : Config) = zeroC from rfl, n2]
  simp only [Option.bind_some, Acceptor_Journal, law15_head_4, cond_false, hz, h1, h2, List.length_map, List.length_cons, List.length_nil, prom_, nack_]
  rfl
theorem great_ok (l : List Op) : law15_Great l = some (decide ((l.length : Int) > 150)) := by simp [law15_Great]
end Go.RX.L

set_option linter.unusedSimpArgs false
set_option linter.unusedVariables false
set_option maxRecDepth 100000
namespace Go.RX.L
open Go Go.RX
theorem cfg_len {c : Config} (h : c.Ok) : c.Tiers.length < 9223372036854775807 := by
  obtain ⟨-, -, -, -, -, ⟨h1, -⟩, -⟩ := h
  exact short h1
theorem b10 : ((1 : Int) == 0) = false := rfl
theorem b20 : ((2 : Int) == 0) = false := rfl
theorem b21 : ((2 : Int) == 1) = false := rfl
theorem b30 : ((3 : Int) == 0) = false := rfl
theorem b31 : ((3 : Int) == 1) = false := rfl
theorem b32 : ((3 : Int) == 2) = false := rfl
theorem n10 : ((1 : Int) != 0) = true := rfl
theorem n20 : ((2 : Int) != 0) = true := rfl
theorem n30 : ((3 : Int) != 0) = true := rfl
theorem w01 : IntKind.i64.wrap ((0 : Int) + 1) = 1 := by rw [wI64 (by decide) (by decide)]; rfl
theorem wS1 {i : Nat} (h : i ≤ 150) : IntKind.i64.wrap ((i : Int) + 1) = ((i + 1 : Nat) : Int) := by rw [wI64 (by omega) (by omega)]; norm_cast
theorem nlt {l : List Op} {i : Nat} (h : l.length ≤ i) : decide ((i : Int) < (((List.map Op.enc l).length : Nat) : Int)) = false := by simp; omega
theorem olt {l : List Op} {i : Nat} (h : i < l.length) : decide ((i : Int) < (((List.map Op.enc l).length : Nat) : Int)) = true := by simp; omega
theorem great_b {l : List Op} : decide ((l.length : Int) > 150) = !decide (l.length ≤ 150) := by
  by_cases h : l.length ≤ 150
  · simp [h]; omega
  · simp [h]; omega
theorem Rep.mono {c : Config} {a : AS} {fuse : Int} {s t : List Int} {n m : Nat} (h : Rep c a fuse s t n) (hm : n ≤ m) : Rep c a fuse s t m := ⟨h.ok, h.fu, h.dk, h.tl, Nat.le_trans h.len hm⟩

def lexle (e b : Int) (k : keptT) : Prop := e < k.epoch ∨ (e = k.epoch ∧ b ≤ k.promised)
theorem lexle.take {e b : Int} {k : keptT} (h : lexle e b k) {m : Msg} (hm : fits k m) : lexle e b (takeK k m) := by
  unfold lexle at *
  rcases hm with ⟨a1, a2, a3, a4, a5⟩ | ⟨a1, a2, a3, a4, a5, a6⟩ | ⟨a1, a2⟩
  · unfold takeK
    rw [if_pos a1]
    split
    · simp only; omega
    · simp only; omega
  · unfold takeK
    rw [if_neg (by omega), if_pos a1]
    simp only; omega
  · unfold takeK
    rw [if_neg (by omega), if_neg (by omega), if_pos a1]
    split <;> exact h
theorem promT {k : keptT} {m : Msg} {p : Plan} : (takeK k (recP m p)).epoch = m.Epoch ∧ (takeK k (recP m p)).promised = m.Ballot := by
  unfold takeK recP
  simp only [if_true]
  split <;> exact ⟨rfl, rfl⟩
theorem accT {k : keptT} {m : Msg} : (takeK k (recA m)).epoch = k.epoch ∧ (takeK k (recA m)).promised = m.Ballot := by
  unfold takeK recA
  simp
end Go.RX.L
