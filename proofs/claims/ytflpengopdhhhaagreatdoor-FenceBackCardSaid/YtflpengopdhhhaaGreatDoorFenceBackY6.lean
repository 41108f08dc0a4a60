/-
  Words and walks for FenceBack. No condition.
-/
import Derived.Test.YtflpengopdhhhaaGreatDoorFenceBackY5
set_option linter.unusedSectionVars false
set_option linter.unnecessarySimpa false
set_option linter.unusedSimpArgs false
set_option linter.unusedVariables false
set_option maxRecDepth 100000
set_option maxHeartbeats 4000000
namespace Go.RX.L
open Go Go.RX Go.Proofs
attribute [local irreducible] FinQ
noncomputable def policy_all_e (y : Bool) : D × Sto := (.bool y, [])
noncomputable def policy_all (low high : Int) (l_ : List Int) : Option Bool := ((slices_ContainsFunc__policy_all_1 l_ low high).bind fun y1 => (some (!y1)))
theorem policy_all_ok {low high : Int} {l_ : List Int} {r : Bool} (h : policy_all low high l_ = some r) : Sound E 43 [.int .i64 low, .int .i64 high, .sl false 1 (List.map (eInt .i64) l_)] [] (Rs policy_all_e r) := so (fn := Tryz.f43) (k := false) (m := 0) h <| by
 intro r h; unfold policy_all at h
 refine zc 11 [] h (fun _ => slices_ContainsFunc__policy_all_1_ok) fun y1 h => ?_
 exact zu 4 h
end Go.RX.L

namespace Go.RX.L
open Go Go.RX Go.Proofs
attribute [local irreducible] FinQ
noncomputable def policy_all_1_v2_e (y : Bool) : D × Sto := (.bool y, [])
noncomputable def policy_all_1_v2 (n t t2 : Int) : Option Bool := (bif (decide ((n : Int) < t)) then (some true) else (some (decide ((n : Int) > t2))))
theorem policy_all_1_v2_ok {n t t2 : Int} {r : Bool} (h : policy_all_1_v2 n t t2 = some r) : Sound E 68 [.int .i64 n, .iptr 1 [[.int .i64 t]] 0 0, .iptr 1 [[.int .i64 t2]] 0 0] [] (Rs policy_all_1_v2_e r) := so (fn := Tryz.f68) (k := false) (m := 0) h <| by
 intro r h; unfold policy_all_1_v2 at h
 refine zs 12 h (fun h => ?_) fun h => ?_
 ·
  exact zu 9 h
 exact zu 10 h
end Go.RX.L

namespace Go.RX.L
open Go Go.RX Go.Proofs
attribute [local irreducible] FinQ
noncomputable def slices_IndexFunc__policy_all_1_v2_c := codeAt (bodyOf Tryz.f87)
noncomputable def slices_IndexFunc__policy_all_1_v2_e (y : Int) : D × Sto := (.int .i64 y, [])
inductive slices_IndexFunc__policy_all_1_v2_S where
 | s0 (s_ : List Int) (f f2 : Int)
 | s1 (s_ : List Int) (f f2 : Int) (t7 t8 : Int)
noncomputable def slices_IndexFunc__policy_all_1_v2_M : slices_IndexFunc__policy_all_1_v2_S → M
 | .s0 s_ f f2 => startM Tryz.f87 [.sl false 1 (List.map (eInt .i64) s_), .fn 68 [] [.iptr 1 [[.int .i64 f]] 0 0, .iptr 1 [[.int .i64 f2]] 0 0]] []
 | .s1 s_ f f2 t7 t8 => ⟨[.lpc (slices_IndexFunc__policy_all_1_v2_c [1, 0, 1, 0, 0]) 387, .blk 0, .code (slices_IndexFunc__policy_all_1_v2_c [1, 1])], [(0, .sl false 1 (List.map (eInt .i64) s_)), (1, .fn 68 [] [.iptr 1 [[.int .i64 f]] 0 0, .iptr 1 [[.int .i64 f2]] 0 0]), (7, .int .i64 t7), (8, .int .i64 t8)], []⟩
abbrev slices_IndexFunc__policy_all_1_v2_W := SOk E (Cx.of Tryz.f87 false 0) slices_IndexFunc__policy_all_1_v2_e slices_IndexFunc__policy_all_1_v2_M
noncomputable def slices_IndexFunc__policy_all_1_v2_0 (s_ : List Int) (f f2 : Int) : Option (slices_IndexFunc__policy_all_1_v2_S ⊕ Int) := (some (.inl (.s1 s_ f f2 (((List.map (eInt .i64) s_).length : Nat) : Int) 0)))
noncomputable def slices_IndexFunc__policy_all_1_v2_1 (s_ : List Int) (f f2 : Int) (t7 t8 : Int) : Option (slices_IndexFunc__policy_all_1_v2_S ⊕ Int) := (bif (decide ((t8 : Int) < t7)) then (bif ((decide ((0 : Int) ≤ t8)) && (decide ((t8 : Int) < (((List.map (eInt .i64) s_).length : Nat) : Int)))) then (((s_)[t8.toNat]?).bind fun y3 => ((policy_all_1_v2 y3 f f2).bind fun y5 => (bif y5 then (some (.inr t8)) else (some (.inl (.s1 s_ f f2 t7 (IntKind.i64.wrap (t8 + 1)))))))) else none) else (some (.inr (-1))))
noncomputable def slices_IndexFunc__policy_all_1_v2_step : slices_IndexFunc__policy_all_1_v2_S → Option (slices_IndexFunc__policy_all_1_v2_S ⊕ Int)
 | .s0 s_ f f2 => slices_IndexFunc__policy_all_1_v2_0 s_ f f2
 | .s1 s_ f f2 t7 t8 => slices_IndexFunc__policy_all_1_v2_1 s_ f f2 t7 t8
theorem slices_IndexFunc__policy_all_1_v2_0_ok {s_ f f2} : slices_IndexFunc__policy_all_1_v2_W (.s0 s_ f f2) (slices_IndexFunc__policy_all_1_v2_0 s_ f f2) := by
 intro r x h ha; unfold slices_IndexFunc__policy_all_1_v2_0 at h
 exact zj 14 h ha
theorem slices_IndexFunc__policy_all_1_v2_1_ok {s_ f f2 t7 t8} : slices_IndexFunc__policy_all_1_v2_W (.s1 s_ f f2 t7 t8) (slices_IndexFunc__policy_all_1_v2_1 s_ f f2 t7 t8) := by
 intro r x h ha; unfold slices_IndexFunc__policy_all_1_v2_1 at h
 refine zs 7 h (fun h => ?_) fun h => ?_
 ·
  refine zn 14 h fun h => ?_
  refine zr 1 (eInt .i64) h fun y3 h => ?_
  refine zc 1 [] h (fun _ => policy_all_1_v2_ok) fun y5 h => ?_
  refine zs 2 h (fun h => ?_) fun h => ?_
  ·
   exact zt 6 h ha
  exact zj 7 h ha
 exact zt 6 h ha
noncomputable def slices_IndexFunc__policy_all_1_v2 (s_ : List Int) (f f2 : Int) : Option Int := evf slices_IndexFunc__policy_all_1_v2_step (.s0 s_ f f2)
theorem slices_IndexFunc__policy_all_1_v2_ok {s_ : List Int} {f f2 r : Int} (h : slices_IndexFunc__policy_all_1_v2 s_ f f2 = some r) : Sound E 87 [.sl false 1 (List.map (eInt .i64) s_), .fn 68 [] [.iptr 1 [[.int .i64 f]] 0 0, .iptr 1 [[.int .i64 f2]] 0 0]] [] (Rs slices_IndexFunc__policy_all_1_v2_e r) := sc (fn := Tryz.f87) (k := false) (m := 0) (stM := slices_IndexFunc__policy_all_1_v2_M) h fun s => by
 cases s with
 | s0 => exact slices_IndexFunc__policy_all_1_v2_0_ok
 | s1 => exact slices_IndexFunc__policy_all_1_v2_1_ok
end Go.RX.L

namespace Go.RX.L
open Go Go.RX Go.Proofs
attribute [local irreducible] FinQ
noncomputable def slices_ContainsFunc__policy_all_1_v2_e (y : Bool) : D × Sto := (.bool y, [])
noncomputable def slices_ContainsFunc__policy_all_1_v2 (s_ : List Int) (f f2 : Int) : Option Bool := ((slices_IndexFunc__policy_all_1_v2 s_ f f2).bind fun y1 => (some (decide ((y1 : Int) ≥ 0))))
theorem slices_ContainsFunc__policy_all_1_v2_ok {s_ : List Int} {f f2 : Int} {r : Bool} (h : slices_ContainsFunc__policy_all_1_v2 s_ f f2 = some r) : Sound E 67 [.sl false 1 (List.map (eInt .i64) s_), .fn 68 [] [.iptr 1 [[.int .i64 f]] 0 0, .iptr 1 [[.int .i64 f2]] 0 0]] [] (Rs slices_ContainsFunc__policy_all_1_v2_e r) := so (fn := Tryz.f67) (k := false) (m := 0) h <| by
 intro r h; unfold slices_ContainsFunc__policy_all_1_v2 at h
 refine zc 9 [] h (fun _ => slices_IndexFunc__policy_all_1_v2_ok) fun y1 h => ?_
 exact zu 4 h
end Go.RX.L

namespace Go.RX.L
open Go Go.RX Go.Proofs
attribute [local irreducible] FinQ
noncomputable def policy_all_v2_e (y : Bool) : D × Sto := (.bool y, [])
noncomputable def policy_all_v2 (low high : Int) (l_ : List Int) : Option Bool := ((slices_ContainsFunc__policy_all_1_v2 l_ low high).bind fun y1 => (some (!y1)))
theorem policy_all_v2_ok {low high : Int} {l_ : List Int} {r : Bool} (h : policy_all_v2 low high l_ = some r) : Sound E 44 [.int .i64 low, .int .i64 high, .sl false 1 (List.map (eInt .i64) l_)] [] (Rs policy_all_v2_e r) := so (fn := Tryz.f44) (k := false) (m := 0) h <| by
 intro r h; unfold policy_all_v2 at h
 refine zc 11 [] h (fun _ => slices_ContainsFunc__policy_all_1_v2_ok) fun y1 h => ?_
 exact zu 4 h
end Go.RX.L

namespace Go.RX.L
open Go Go.RX Go.Proofs
attribute [local irreducible] FinQ
noncomputable def policy_Right_e (y : Bool) : D × Sto := (.bool y, [])
noncomputable def policy_Right (c : Config) : Option Bool := ((policy_all 0 3 ([c.F_])).bind fun y1 => (bif y1 then ((policy_all 1 4 ([c.Deciders, c.Routers])).bind fun y3 => (bif y3 then ((policy_all 1 16 ([c.Targets])).bind fun y5 => (bif y5 then ((policy_all 1 7 ([c.Observers])).bind fun y7 => (bif y7 then (bif (((((List.map (eInt .i64) c.Tiers).length : Nat) : Int) : Int) == c.Targets) then ((policy_all 0 15 c.Tiers).bind fun y10 => (bif y10 then ((policy_all_v2 1 1048576 ([c.Every, c.Wait, c.Fresh, c.L_, c.Dwell, c.D_, c.W_, c.Half, c.StepTime, c.S_, c.Span, c.Retry])).bind fun y12 => (bif y12 then ((policy_all_v2 0 1048576 ([c.M_])).bind fun y14 => (bif y14 then ((policy_all 1 100 ([c.Rise, c.Fall, c.First, c.Step])).bind fun y16 => (bif y16 then ((policy_all 1 8 ([c.B_])).bind fun y18 => (bif y18 then ((policy_all 0 1000000 ([c.Hit])).bind fun y20 => (bif y20 then ((policy_all 1 1000000 ([c.Suppress])).bind fun y22 => (bif y22 then ((policy_all 0 (IntKind.i64.wrap (c.Suppress - 1)) ([c.Reuse])).bind fun y24 => (bif y24 then ((policy_all 1 1000 ([c.Cap])).bind fun y26 => (bif y26 then ((policy_all 1 64 ([c.Room])).bind fun y28 => (bif y28 then ((policy_all 1 20 ([c.Tries])).bind fun y30 => (some y30)) else (some false))) else (some false))) else (some false))) else (some false))) else (some false))) else (some false))) else (some false))) else (some false))) else (some false))) else (some false))) else (some false)) else (some false))) else (some false))) else (some false))) else (some false)))
theorem policy_Right_ok {c : Config} {r : Bool} (h : policy_Right c = some r) : Sound E 21 [.agg (Config.enc c)] [] (Rs policy_Right_e r) := so (fn := Tryz.f21) (k := false) (m := 0) h <| by
 intro r h; unfold policy_Right at h
 refine zc 13 [] h (fun _ => policy_all_ok) fun y1 h => ?_
 refine zs 2 h (fun h => ?_) fun h => ?_
 ·
  refine zc 13 [] h (fun _ => policy_all_ok) fun y3 h => ?_
  refine zs 4 h (fun h => ?_) fun h => ?_
  ·
   refine zc 8 [] h (fun _ => policy_all_ok) fun y5 h => ?_
   refine zs 4 h (fun h => ?_) fun h => ?_
   ·
    refine zc 8 [] h (fun _ => policy_all_ok) fun y7 h => ?_
    refine zs 4 h (fun h => ?_) fun h => ?_
    ·
     refine zs 16 h (fun h => ?_) fun h => ?_
     ·
      refine zc 5 [] h (fun _ => policy_all_ok) fun y10 h => ?_
      refine zs 4 h (fun h => ?_) fun h => ?_
      ·
       refine zc 63 [] h (fun _ => policy_all_v2_ok) fun y12 h => ?_
       refine zs 4 h (fun h => ?_) fun h => ?_
       ·
        refine zc 8 [] h (fun _ => policy_all_v2_ok) fun y14 h => ?_
        refine zs 4 h (fun h => ?_) fun h => ?_
        ·
         refine zc 23 [] h (fun _ => policy_all_ok) fun y16 h => ?_
         refine zs 4 h (fun h => ?_) fun h => ?_
         ·
          refine zc 8 [] h (fun _ => policy_all_ok) fun y18 h => ?_
          refine zs 4 h (fun h => ?_) fun h => ?_
          ·
           refine zc 8 [] h (fun _ => policy_all_ok) fun y20 h => ?_
           refine zs 4 h (fun h => ?_) fun h => ?_
           ·
            refine zc 8 [] h (fun _ => policy_all_ok) fun y22 h => ?_
            refine zs 4 h (fun h => ?_) fun h => ?_
            ·
             refine zc 15 [] h (fun _ => policy_all_ok) fun y24 h => ?_
             refine zs 4 h (fun h => ?_) fun h => ?_
             ·
              refine zc 8 [] h (fun _ => policy_all_ok) fun y26 h => ?_
              refine zs 4 h (fun h => ?_) fun h => ?_
              ·
               refine zc 8 [] h (fun _ => policy_all_ok) fun y28 h => ?_
               refine zs 4 h (fun h => ?_) fun h => ?_
               ·
                refine zc 8 [] h (fun _ => policy_all_ok) fun y30 h => ?_
                exact zu 5 h
               exact zu 11 h
              exact zu 22 h
             exact zu 33 h
            exact zu 50 h
           exact zu 61 h
          exact zu 72 h
         exact zu 83 h
        exact zu 106 h
       exact zu 117 h
      exact zu 172 h
     exact zu 181 h
    exact zu 196 h
   exact zu 207 h
  exact zu 218 h
 exact zu 233 h
end Go.RX.L

namespace Go.RX.L
open Go Go.RX Go.Proofs
attribute [local irreducible] FinQ
noncomputable def policy_Zero_e (y : Plan) : D × Sto := (.agg [.int .i64 y.Epoch, .int .i64 y.Target, .int .i64 y.Prev, .int .i64 y.Spill, .int .i64 y.Percent, .int .i64 y.Stamp, .int .i64 y.Since, .int .i64 y.Ramped, .int .u64 y.Up, .int .u64 y.Sup, .sl false 1 (List.map (eInt .i64) y.Pen), .sl false 1 (List.map (eInt .i64) y.Changes)], [])
noncomputable def policy_Zero (c : Config) : Option Plan := ((policy_Right c).bind fun y1 => (bif (!y1) then (some (⟨0, 0, 0, 0, 0, 0, 0, 0, 0, 0, [], []⟩ : Plan)) else (bif (decide ((0 : Int) ≤ c.Targets) && (decide ((c.Targets : Int) ≤ c.Targets) && (decide ((c.Targets : Int) ≤ 9223372036854775807) && decide (c.Targets.toNat * 8 ≤ bytesLim)))) then (some (⟨0, (-1), (-1), (-1), 0, 0, 0, 0, 0, 0, (List.replicate c.Targets.toNat 0), []⟩ : Plan)) else none)))
theorem policy_Zero_ok {c : Config} {r : Plan} (h : policy_Zero c = some r) : Sound E 22 [.agg (Config.enc c)] [] (Rs policy_Zero_e r) := so (fn := Tryz.f22) (k := false) (m := 0) h <| by
 intro r h; unfold policy_Zero at h
 refine zc 11 [] h (fun _ => policy_Right_ok) fun y1 h => ?_
 refine zs 3 h (fun h => ?_) fun h => ?_
 ·
  exact zu 9 h [.slot 0 [some 1, some 1]]
 refine zn 7 h fun h => ?_
 refine zw 0 (a := (List.replicate c.Targets.toNat ((eInt .i64) 0))) (b := (List.map (eInt .i64) (List.replicate c.Targets.toNat 0))) (rows_rep _ _ _) ?_
 refine zm 7 (b := (Nat.ble (0 + (List.map (eInt .i64) (List.replicate c.Targets.toNat 0)).length) ((List.map (eInt .i64) (List.replicate c.Targets.toNat 0)).length))) (ble_full _) ?_
 obtain rfl := Option.some.inj h
 exact r_retE [.slot 0 [some 1]] (d1 := .agg [.int .i64 0, .int .i64 (-1), .int .i64 (-1), .int .i64 (-1), .int .i64 0, .int .i64 0, .int .i64 0, .int .i64 0, .int .u64 0, .int .u64 0, .sl false 1 (List.take ((List.map (eInt .i64) (List.replicate c.Targets.toNat 0)).length) (List.drop 0 (List.map (eInt .i64) (List.replicate c.Targets.toNat 0)))), .sl false 1 []]) (d := .agg [.int .i64 0, .int .i64 (-1), .int .i64 (-1), .int .i64 (-1), .int .i64 0, .int .i64 0, .int .i64 0, .int .i64 0, .int .u64 0, .int .u64 0, .sl false 1 (List.map (eInt .i64) (List.replicate c.Targets.toNat 0)), .sl false 1 []]) (s1 := []) (s := []) (by kernel_rfl) ⟨by simp [List.take_of_length_le, List.map_take, List.map_drop], rfl⟩ ⟨rfl, rfl⟩ Cx.fin_of
end Go.RX.L

namespace Go.RX.L
open Go Go.RX Go.Proofs
attribute [local irreducible] FinQ
noncomputable def Target_Restart_c := codeAt (bodyOf Tryz.f14)
noncomputable def Target_Restart_e (c : Config) (index : Int) (well : Bool) (b1 : List Entry) (b2 : List (List Int)) (y : Int × Int × Plan × Hold × Int × Int × Int × Bool × (List Entry) × (List (List Int)) × (List Int) × (List Int)) : D × Sto := (.int .i64 y.1, [some ⟨54, true, [([.int .i64 y.2.1, .int .i64 y.2.2.1.Epoch, .int .i64 y.2.2.1.Target, .int .i64 y.2.2.1.Prev, .int .i64 y.2.2.1.Spill, .int .i64 y.2.2.1.Percent, .int .i64 y.2.2.1.Stamp, .int .i64 y.2.2.1.Since, .int .i64 y.2.2.1.Ramped, .int .u64 y.2.2.1.Up, .int .u64 y.2.2.1.Sup, .sl false 1 (List.map (eInt .i64) y.2.2.1.Pen), .sl false 1 (List.map (eInt .i64) y.2.2.1.Changes), .int .i64 y.2.2.2.1.Epoch, .int .i64 y.2.2.2.1.Nonce, .int .u64 y.2.2.2.1.Grants, .int .i64 y.2.2.2.1.Until, (grD 6 (List.map Entry.enc y.2.2.2.2.2.2.2.2.1)), (grD 7 (List.map (eSl 1 (eInt .i64)) y.2.2.2.2.2.2.2.2.2.1)), .int .i64 y.2.2.2.2.1, .int .i64 y.2.2.2.2.2.1] ++ Config.encL c [.int .i64 index, .ptr 3 0 0, .bool well])]⟩, some ⟨3, false, (List.map Entry.enc b1)⟩, some ⟨1, false, (List.map (eSl 1 (eInt .i64)) b2)⟩, some ⟨4, true, [[(grD 8 (List.map (eInt .u8) y.2.2.2.2.2.2.2.2.2.2.1)), (grD 9 (List.map (eInt .u8) y.2.2.2.2.2.2.2.2.2.2.2)), .int .i64 y.2.2.2.2.2.2.1, .bool y.2.2.2.2.2.2.2.1]]⟩, none, none, some ⟨3, false, (List.map Entry.enc y.2.2.2.2.2.2.2.2.1)⟩, some ⟨1, false, (List.map (eSl 1 (eInt .i64)) y.2.2.2.2.2.2.2.2.2.1)⟩, some ⟨1, false, (List.map (eInt .u8) y.2.2.2.2.2.2.2.2.2.2.1)⟩, some ⟨1, false, (List.map (eInt .u8) y.2.2.2.2.2.2.2.2.2.2.2)⟩])
inductive Target_Restart_S where
 | s0 (fence : Int) (known : Plan) (hold : Hold) (begun filled fuse : Int) (down : Bool) (b4 b5 : List Int)
 | s1 (bodies : List (List Int)) (t33 : List Int) (t34 t35 fence2 : Int) (known2 : Plan) (hold2 : Hold) (begun2 filled2 fuse2 : Int) (down2 : Bool) (b6 : List Entry) (b7 : List (List Int)) (b8 b9 : List Int)
noncomputable def Target_Restart_M (now : Int) (c : Config) (index : Int) (well : Bool) (b1 : List Entry) (b2 : List (List Int)) : Target_Restart_S → M
 | .s0 fence known hold begun filled fuse down b4 b5 => startM Tryz.f14 [.ptr 0 0 0, .int .i64 now] [some ⟨54, true, [([.int .i64 fence] ++ Plan.encL known ([.int .i64 hold.Epoch, .int .i64 hold.Nonce, .int .u64 hold.Grants, .int .i64 hold.Until, (grD 1 (List.map Entry.enc b1)), (grD 2 (List.map (eSl 1 (eInt .i64)) b2)), .int .i64 begun, .int .i64 filled] ++ Config.encL c [.int .i64 index, .ptr 3 0 0, .bool well]))]⟩, some ⟨3, false, (List.map Entry.enc b1)⟩, some ⟨1, false, (List.map (eSl 1 (eInt .i64)) b2)⟩, some ⟨4, true, [[(grD 4 (List.map (eInt .u8) b4)), (grD 5 (List.map (eInt .u8) b5)), .int .i64 fuse, .bool down]]⟩, some ⟨1, false, (List.map (eInt .u8) b4)⟩, some ⟨1, false, (List.map (eInt .u8) b5)⟩]
 | .s1 bodies t33 t34 t35 fence2 known2 hold2 begun2 filled2 fuse2 down2 b6 b7 b8 b9 => ⟨[.lpc (Target_Restart_c [1, 1, 1, 1, 0, 1, 0, 0]) 60129542211, .blk 0, .code (Target_Restart_c [1, 1, 1, 1, 1])], [(0, .ptr 0 0 0), (1, .int .i64 now), (6, .sl false 1 (List.map (eSl 1 (eInt .u8)) bodies)), (33, .sl false 1 (List.map (eInt .u8) t33)), (34, .int .i64 t34), (35, .int .i64 t35)], [some ⟨54, true, [([.int .i64 fence2] ++ Plan.encL known2 ([.int .i64 hold2.Epoch, .int .i64 hold2.Nonce, .int .u64 hold2.Grants, .int .i64 hold2.Until, (grD 6 (List.map Entry.enc b6)), (grD 7 (List.map (eSl 1 (eInt .i64)) b7)), .int .i64 begun2, .int .i64 filled2] ++ Config.encL c [.int .i64 index, .ptr 3 0 0, .bool well]))]⟩, some ⟨3, false, (List.map Entry.enc b1)⟩, some ⟨1, false, (List.map (eSl 1 (eInt .i64)) b2)⟩, some ⟨4, true, [[(grD 8 (List.map (eInt .u8) b8)), (grD 9 (List.map (eInt .u8) b9)), .int .i64 fuse2, .bool down2]]⟩, none, none, some ⟨3, false, (List.map Entry.enc b6)⟩, some ⟨1, false, (List.map (eSl 1 (eInt .i64)) b7)⟩, some ⟨1, false, (List.map (eInt .u8) b8)⟩, some ⟨1, false, (List.map (eInt .u8) b9)⟩]⟩
abbrev Target_Restart_W (now : Int) (c : Config) (index : Int) (well : Bool) (b1 : List Entry) (b2 : List (List Int)) := SOk E (Cx.of Tryz.f14 true 6) (Target_Restart_e c index well b1 b2) (Target_Restart_M now c index well b1 b2)
noncomputable def Target_Restart_0 (now : Int) (c : Config) (index : Int) (well : Bool) (b1 : List Entry) (b2 : List (List Int)) (fence : Int) (known : Plan) (hold : Hold) (begun filled fuse : Int) (down : Bool) (b4 b5 : List Int) : Option (Target_Restart_S ⊕ (Int × Int × Plan × Hold × Int × Int × Int × Bool × (List Entry) × (List (List Int)) × (List Int) × (List Int))) := ((policy_Zero c).bind fun y1 => ((Journal_Open fuse down b4 b5).bind fun y2 => (bif ((y2.2.2.1 : Int) != 0) then (some (.inr (y2.2.2.1, 0, y1, (⟨0, 0, 0, 0⟩ : Hold), 0, 0, y2.2.2.2.1, y2.2.2.2.2.1, [], [], y2.2.2.2.2.2.1, y2.2.2.2.2.2.2))) else (some (.inl (.s1 y2.2.1 y2.1 (((List.map (eInt .u8) y2.1).length : Nat) : Int) 0 0 y1 (⟨0, 0, 0, 0⟩ : Hold) 0 0 y2.2.2.2.1 y2.2.2.2.2.1 ([]) ([]) y2.2.2.2.2.2.1 y2.2.2.2.2.2.2))))))
noncomputable def Target_Restart_1 (now : Int) (c : Config) (index : Int) (well : Bool) (b1 : List Entry) (b2 bodies : List (List Int)) (t33 : List Int) (t34 t35 fence2 : Int) (known2 : Plan) (hold2 : Hold) (begun2 filled2 fuse2 : Int) (down2 : Bool) (b6 : List Entry) (b7 : List (List Int)) (b8 b9 : List Int) : Option (Target_Restart_S ⊕ (Int × Int × Plan × Hold × Int × Int × Int × Bool × (List Entry) × (List (List Int)) × (List Int) × (List Int))) := (bif (decide ((t35 : Int) < t34)) then (bif ((decide ((0 : Int) ≤ t35)) && (decide ((t35 : Int) < (((List.map (eInt .u8) t33).length : Nat) : Int)))) then (((t33)[t35.toNat]?).bind fun y3 => (bif ((decide ((0 : Int) ≤ t35)) && (decide ((t35 : Int) < (((List.map (eSl 1 (eInt .u8)) bodies).length : Nat) : Int)))) then (((bodies)[t35.toNat]?).bind fun y6 => ((msg_Of y3 y6).bind fun y8 => (bif ((y8.2 : Int) == 0) then ((Target_take y8.1 fence2 known2 hold2 begun2 filled2 c index well b6 b7 fuse2 down2 b8 b9).bind fun y10 => (some (.inl (.s1 bodies t33 t34 (IntKind.i64.wrap (t35 + 1)) y10.1 known2 hold2 begun2 filled2 fuse2 down2 y10.2.1 y10.2.2 b8 b9)))) else (some (.inl (.s1 bodies t33 t34 (IntKind.i64.wrap (t35 + 1)) fence2 known2 hold2 begun2 filled2 fuse2 down2 b6 b7 b8 b9)))))) else none)) else none) else (some (.inr (0, fence2, known2, hold2, now, filled2, fuse2, down2, b6, b7, b8, b9))))
noncomputable def Target_Restart_step (now : Int) (c : Config) (index : Int) (well : Bool) (b1 : List Entry) (b2 : List (List Int)) : Target_Restart_S → Option (Target_Restart_S ⊕ (Int × Int × Plan × Hold × Int × Int × Int × Bool × (List Entry) × (List (List Int)) × (List Int) × (List Int)))
 | .s0 fence known hold begun filled fuse down b4 b5 => Target_Restart_0 now c index well b1 b2 fence known hold begun filled fuse down b4 b5
 | .s1 bodies t33 t34 t35 fence2 known2 hold2 begun2 filled2 fuse2 down2 b6 b7 b8 b9 => Target_Restart_1 now c index well b1 b2 bodies t33 t34 t35 fence2 known2 hold2 begun2 filled2 fuse2 down2 b6 b7 b8 b9
theorem Target_Restart_0_ok {now c index well b1 b2 fence known hold begun filled fuse down b4 b5} : Target_Restart_W now c index well b1 b2 (.s0 fence known hold begun filled fuse down b4 b5) (Target_Restart_0 now c index well b1 b2 fence known hold begun filled fuse down b4 b5) := by
 intro r x h ha; unfold Target_Restart_0 at h
 refine zc 13 [] h (fun _ => policy_Zero_ok) fun y1 h => ?_
 refine zc 15 [] h (fun _ => Journal_Open_ok) fun y2 h => ?_
 refine zs 15 h (fun h => ?_) fun h => ?_
 ·
  refine zf 5 [.matc 0 0 17 3, .matc 0 0 18 1] ?_
  exact zt 1 h ha
 refine adv_ok hm 11 _ ?_
 obtain rfl := Option.some.inj h
 refine r_cut 60129542211 [.matc 0 0 17 3, .matc 0 0 18 1] (m' := ⟨[.lpc (Target_Restart_c [1, 1, 1, 1, 0, 1, 0, 0]) 60129542211, .blk 0, .code (Target_Restart_c [1, 1, 1, 1, 1])], [(0, .ptr 0 0 0), (1, .int .i64 now), (6, .sl false 1 (List.map (eSl 1 (eInt .u8)) y2.2.1)), (33, .sl false 1 (List.map (eInt .u8) y2.1)), (34, .int .i64 (((List.map (eInt .u8) y2.1).length : Nat) : Int)), (35, .int .i64 0)], [some ⟨54, true, [([.int .i64 0] ++ Plan.encL y1 ([.int .i64 0, .int .i64 0, .int .u64 0, .int .i64 0, .msl 6 0 0 0 false, .msl 7 0 0 0 false, .int .i64 0, .int .i64 0] ++ Config.encL c [.int .i64 index, .ptr 3 0 0, .bool well]))]⟩, some ⟨3, false, (List.map Entry.enc b1)⟩, some ⟨1, false, (List.map (eSl 1 (eInt .i64)) b2)⟩, some ⟨4, true, [[(grD 8 (List.map (eInt .u8) y2.2.2.2.2.2.1)), (grD 9 (List.map (eInt .u8) y2.2.2.2.2.2.2)), .int .i64 y2.2.2.2.1, .bool y2.2.2.2.2.1]]⟩, none, none, some ⟨3, false, []⟩, some ⟨1, false, []⟩, some ⟨1, false, (List.map (eInt .u8) y2.2.2.2.2.2.1)⟩, some ⟨1, false, (List.map (eInt .u8) y2.2.2.2.2.2.2)⟩]⟩) (by kernel_rfl) ?_
 refine r_len (n1 := 0) (n2 := (List.map Entry.enc ([])).length) (fun n_len => .go ⟨[.lpc (Target_Restart_c [1, 1, 1, 1, 0, 1, 0, 0]) 60129542211, .blk 0, .code (Target_Restart_c [1, 1, 1, 1, 1])], [(0, .ptr 0 0 0), (1, .int .i64 now), (6, .sl false 1 (List.map (eSl 1 (eInt .u8)) y2.2.1)), (33, .sl false 1 (List.map (eInt .u8) y2.1)), (34, .int .i64 (((List.map (eInt .u8) y2.1).length : Nat) : Int)), (35, .int .i64 0)], [some ⟨54, true, [([.int .i64 0] ++ Plan.encL y1 ([.int .i64 0, .int .i64 0, .int .u64 0, .int .i64 0, .msl 6 0 n_len n_len false, .msl 7 0 0 0 false, .int .i64 0, .int .i64 0] ++ Config.encL c [.int .i64 index, .ptr 3 0 0, .bool well]))]⟩, some ⟨3, false, (List.map Entry.enc b1)⟩, some ⟨1, false, (List.map (eSl 1 (eInt .i64)) b2)⟩, some ⟨4, true, [[(grD 8 (List.map (eInt .u8) y2.2.2.2.2.2.1)), (grD 9 (List.map (eInt .u8) y2.2.2.2.2.2.2)), .int .i64 y2.2.2.2.1, .bool y2.2.2.2.2.1]]⟩, none, none, some ⟨3, false, []⟩, some ⟨1, false, []⟩, some ⟨1, false, (List.map (eInt .u8) y2.2.2.2.2.2.1)⟩, some ⟨1, false, (List.map (eInt .u8) y2.2.2.2.2.2.2)⟩]⟩) (by simp) ?_
 refine r_len (n1 := 0) (n2 := (List.map (eSl 1 (eInt .i64)) ([])).length) (fun n_len => .go ⟨[.lpc (Target_Restart_c [1, 1, 1, 1, 0, 1, 0, 0]) 60129542211, .blk 0, .code (Target_Restart_c [1, 1, 1, 1, 1])], [(0, .ptr 0 0 0), (1, .int .i64 now), (6, .sl false 1 (List.map (eSl 1 (eInt .u8)) y2.2.1)), (33, .sl false 1 (List.map (eInt .u8) y2.1)), (34, .int .i64 (((List.map (eInt .u8) y2.1).length : Nat) : Int)), (35, .int .i64 0)], [some ⟨54, true, [([.int .i64 0] ++ Plan.encL y1 ([.int .i64 0, .int .i64 0, .int .u64 0, .int .i64 0, .msl 6 0 ((List.map Entry.enc ([])).length) ((List.map Entry.enc ([])).length) false, .msl 7 0 n_len n_len false, .int .i64 0, .int .i64 0] ++ Config.encL c [.int .i64 index, .ptr 3 0 0, .bool well]))]⟩, some ⟨3, false, (List.map Entry.enc b1)⟩, some ⟨1, false, (List.map (eSl 1 (eInt .i64)) b2)⟩, some ⟨4, true, [[(grD 8 (List.map (eInt .u8) y2.2.2.2.2.2.1)), (grD 9 (List.map (eInt .u8) y2.2.2.2.2.2.2)), .int .i64 y2.2.2.2.1, .bool y2.2.2.2.2.1]]⟩, none, none, some ⟨3, false, []⟩, some ⟨1, false, []⟩, some ⟨1, false, (List.map (eInt .u8) y2.2.2.2.2.2.1)⟩, some ⟨1, false, (List.map (eInt .u8) y2.2.2.2.2.2.2)⟩]⟩) (by simp) ?_
 exact ha
theorem Target_Restart_1_ok {now c index well b1 b2 bodies t33 t34 t35 fence2 known2 hold2 begun2 filled2 fuse2 down2 b6 b7 b8 b9} : Target_Restart_W now c index well b1 b2 (.s1 bodies t33 t34 t35 fence2 known2 hold2 begun2 filled2 fuse2 down2 b6 b7 b8 b9) (Target_Restart_1 now c index well b1 b2 bodies t33 t34 t35 fence2 known2 hold2 begun2 filled2 fuse2 down2 b6 b7 b8 b9) := by
 intro r x h ha; unfold Target_Restart_1 at h
 refine zs 7 h (fun h => ?_) fun h => ?_
 ·
  refine zn 7 h fun h => ?_
  refine zr 1 (eInt .u8) h fun y3 h => ?_
  refine zn 9 h fun h => ?_
  refine zr 1 (eSl 1 (eInt .u8)) h fun y6 h => ?_
  refine zc 1 [] h (fun _ => msg_Of_ok) fun y8 h => ?_
  refine zs 15 h (fun h => ?_) fun h => ?_
  ·
   refine adv_ok hm 5 _ ?_
   have ok10 := fun (y : Int × (List Entry) × (List (List Int))) (hy : Target_take y8.1 fence2 known2 hold2 begun2 filled2 c index well b6 b7 fuse2 down2 b8 b9 = some y) => @Eq.mp (Sound E 31 [.ptr 0 0 0, .agg [.int .i64 y8.1.Kind, .int .i64 y8.1.From, .int .i64 y8.1.To, .int .i64 y8.1.Epoch, .int .i64 y8.1.Ballot, .int .i64 y8.1.Accepted, .int .i64 y8.1.Nonce, .int .i64 y8.1.Time, .int .u64 y8.1.Up, .int .i64 y8.1.Code, .bool y8.1.HasPlan, .int .i64 y8.1.Plan.Epoch, .int .i64 y8.1.Plan.Target, .int .i64 y8.1.Plan.Prev, .int .i64 y8.1.Plan.Spill, .int .i64 y8.1.Plan.Percent, .int .i64 y8.1.Plan.Stamp, .int .i64 y8.1.Plan.Since, .int .i64 y8.1.Plan.Ramped, .int .u64 y8.1.Plan.Up, .int .u64 y8.1.Plan.Sup, .sl false 1 (List.map (eInt .i64) y8.1.Plan.Pen), .sl false 1 (List.map (eInt .i64) y8.1.Plan.Changes), .sl false 1 (List.map (eInt .i64) y8.1.ID), .sl false 1 (List.map (eInt .u8) y8.1.Session), .sl false 1 (List.map (eInt .u8) y8.1.Payload)]] [some ⟨54, true, [([.int .i64 fence2] ++ Plan.encL known2 ([.int .i64 hold2.Epoch, .int .i64 hold2.Nonce, .int .u64 hold2.Grants, .int .i64 hold2.Until, (grD 1 (List.map Entry.enc b6)), (grD 2 (List.map (eSl 1 (eInt .i64)) b7)), .int .i64 begun2, .int .i64 filled2] ++ Config.encL c [.int .i64 index, .ptr 3 0 0, .bool well]))]⟩, some ⟨3, false, (List.map Entry.enc b6)⟩, some ⟨1, false, (List.map (eSl 1 (eInt .i64)) b7)⟩, some ⟨4, true, [[(grD 4 (List.map (eInt .u8) b8)), (grD 5 (List.map (eInt .u8) b9)), .int .i64 fuse2, .bool down2]]⟩, some ⟨1, false, (List.map (eInt .u8) b8)⟩, some ⟨1, false, (List.map (eInt .u8) b9)⟩] (Rs (Target_take_e known2 hold2 begun2 filled2 c index well fuse2 down2 b8 b9) y)) (Sound E 31 [.ptr 0 0 0, .agg [.int .i64 y8.1.Kind, .int .i64 y8.1.From, .int .i64 y8.1.To, .int .i64 y8.1.Epoch, .int .i64 y8.1.Ballot, .int .i64 y8.1.Accepted, .int .i64 y8.1.Nonce, .int .i64 y8.1.Time, .int .u64 y8.1.Up, .int .i64 y8.1.Code, .bool y8.1.HasPlan, .int .i64 y8.1.Plan.Epoch, .int .i64 y8.1.Plan.Target, .int .i64 y8.1.Plan.Prev, .int .i64 y8.1.Plan.Spill, .int .i64 y8.1.Plan.Percent, .int .i64 y8.1.Plan.Stamp, .int .i64 y8.1.Plan.Since, .int .i64 y8.1.Plan.Ramped, .int .u64 y8.1.Plan.Up, .int .u64 y8.1.Plan.Sup, .sl false 1 (List.map (eInt .i64) y8.1.Plan.Pen), .sl false 1 (List.map (eInt .i64) y8.1.Plan.Changes), .sl false 1 (List.map (eInt .i64) y8.1.ID), .sl false 1 (List.map (eInt .u8) y8.1.Session), .sl false 1 (List.map (eInt .u8) y8.1.Payload)]] [some ⟨54, true, [([.int .i64 fence2] ++ Plan.encL known2 ([.int .i64 hold2.Epoch, .int .i64 hold2.Nonce, .int .u64 hold2.Grants, .int .i64 hold2.Until, (grD 1 (List.map Entry.enc b6)), (grD 2 (List.map (eSl 1 (eInt .i64)) b7)), .int .i64 begun2, .int .i64 filled2] ++ Config.encL c [.int .i64 index, .ptr 3 0 0, .bool well]))]⟩, some ⟨3, false, (List.map Entry.enc b6)⟩, some ⟨1, false, (List.map (eSl 1 (eInt .i64)) b7)⟩, some ⟨4, true, [[(grD 4 (List.map (eInt .u8) b8)), (grD 5 (List.map (eInt .u8) b9)), .int .i64 fuse2, .bool down2]]⟩, some ⟨1, false, (List.map (eInt .u8) b8)⟩, some ⟨1, false, (List.map (eInt .u8) b9)⟩] (Rs (Target_take_e known2 hold2 begun2 filled2 c index well fuse2 down2 b8 b9) y)) (by kernel_rfl) (Target_take_ok hy)
   refine zc 0 [] h ok10 fun y10 h => ?_
   exact zj 7 h ha
  exact zj 7 h ha
 exact zt 17 h ha
noncomputable def Target_Restart (now fence : Int) (known : Plan) (hold : Hold) (begun filled : Int) (c : Config) (index : Int) (well : Bool) (b1 : List Entry) (b2 : List (List Int)) (fuse : Int) (down : Bool) (b4 b5 : List Int) : Option (Int × Int × Plan × Hold × Int × Int × Int × Bool × (List Entry) × (List (List Int)) × (List Int) × (List Int)) := evf (Target_Restart_step now c index well b1 b2) (.s0 fence known hold begun filled fuse down b4 b5)
theorem Target_Restart_ok {now fence : Int} {known : Plan} {hold : Hold} {begun filled : Int} {c : Config} {index : Int} {well : Bool} {b1 : List Entry} {b2 : List (List Int)} {fuse : Int} {down : Bool} {b4 b5 : List Int} {r : Int × Int × Plan × Hold × Int × Int × Int × Bool × (List Entry) × (List (List Int)) × (List Int) × (List Int)} (h : Target_Restart now fence known hold begun filled c index well b1 b2 fuse down b4 b5 = some r) : Sound E 14 [.ptr 0 0 0, .int .i64 now] [some ⟨54, true, [([.int .i64 fence] ++ Plan.encL known ([.int .i64 hold.Epoch, .int .i64 hold.Nonce, .int .u64 hold.Grants, .int .i64 hold.Until, (grD 1 (List.map Entry.enc b1)), (grD 2 (List.map (eSl 1 (eInt .i64)) b2)), .int .i64 begun, .int .i64 filled] ++ Config.encL c [.int .i64 index, .ptr 3 0 0, .bool well]))]⟩, some ⟨3, false, (List.map Entry.enc b1)⟩, some ⟨1, false, (List.map (eSl 1 (eInt .i64)) b2)⟩, some ⟨4, true, [[(grD 4 (List.map (eInt .u8) b4)), (grD 5 (List.map (eInt .u8) b5)), .int .i64 fuse, .bool down]]⟩, some ⟨1, false, (List.map (eInt .u8) b4)⟩, some ⟨1, false, (List.map (eInt .u8) b5)⟩] (Rs (Target_Restart_e c index well b1 b2) r) := sc (fn := Tryz.f14) (k := true) (m := 6) (stM := (Target_Restart_M now c index well b1 b2)) h fun s => by
 cases s with
 | s0 => exact Target_Restart_0_ok
 | s1 => exact Target_Restart_1_ok
end Go.RX.L

namespace Go.RX.L
open Go Go.RX Go.Proofs
attribute [local irreducible] FinQ
noncomputable def lease_Ask_c := codeAt (bodyOf Tryz.f34)
noncomputable def lease_Ask_e (y : Hold) : D × Sto := (.agg [.int .i64 y.Epoch, .int .i64 y.Nonce, .int .u64 y.Grants, .int .i64 y.Until], [])
abbrev lease_Ask_W (epoch now : Int) := AOk E (Cx.of Tryz.f34 false 0) lease_Ask_e
noncomputable def lease_Ask_1M (epoch now : Int) (h_2 b1 : Hold) : M := ⟨[.code (lease_Ask_c [1, 1])], [(1, .int .i64 epoch), (2, .int .i64 now), (3, .ptr 0 0 0), (6, .ptr 1 0 0)], [some ⟨4, false, [(Hold.enc h_2)]⟩, some ⟨4, false, [(Hold.enc b1)]⟩]⟩
noncomputable def lease_Ask_1 (epoch now : Int) (h_2 b1 : Hold) : Option Hold := (some (⟨epoch, now, 0, h_2.Until⟩ : Hold))
theorem lease_Ask_1_ok {epoch now h_2 b1} : lease_Ask_W epoch now (lease_Ask_1M epoch now h_2 b1) (lease_Ask_1 epoch now h_2 b1) := by
 intro r h; unfold lease_Ask_1 at h
 exact zu 14 h
noncomputable def lease_Ask (h_ : Hold) (epoch now : Int) : Option Hold := (bif ((h_.Epoch : Int) != epoch) then (lease_Ask_1 epoch now (⟨h_.Epoch, h_.Nonce, h_.Grants, 0⟩ : Hold) (⟨0, 0, 0, 0⟩ : Hold)) else (lease_Ask_1 epoch now h_ (⟨0, 0, 0, 0⟩ : Hold)))
theorem lease_Ask_ok {h_ : Hold} {epoch now : Int} {r : Hold} (h : lease_Ask h_ epoch now = some r) : Sound E 34 [.agg [.int .i64 h_.Epoch, .int .i64 h_.Nonce, .int .u64 h_.Grants, .int .i64 h_.Until], .int .i64 epoch, .int .i64 now] [] (Rs lease_Ask_e r) := so (fn := Tryz.f34) (k := false) (m := 0) h <| by
 intro r h; unfold lease_Ask at h
 refine zs 15 h (fun h => ?_) fun h => ?_
 ·
  exact zg 6 (lease_Ask_1_ok h)
 exact zg 1 (lease_Ask_1_ok h)
end Go.RX.L

namespace Go.RX.L
open Go Go.RX Go.Proofs
attribute [local irreducible] FinQ
noncomputable def Target_Tick_c := codeAt (bodyOf Tryz.f18)
noncomputable def Target_Tick_e (fence : Int) (known : Plan) (begun filled : Int) (c : Config) (index : Int) (well : Bool) (b1 : List Entry) (b2 : List (List Int)) (fuse : Int) (down : Bool) (b4 b5 : List Int) (y : (List Msg) × Hold) : D × Sto := (.sl false 26 (List.map Msg.enc y.1), [some ⟨54, true, [([.int .i64 fence] ++ Plan.encL known ([.int .i64 y.2.Epoch, .int .i64 y.2.Nonce, .int .u64 y.2.Grants, .int .i64 y.2.Until, (grD 1 (List.map Entry.enc b1)), (grD 2 (List.map (eSl 1 (eInt .i64)) b2)), .int .i64 begun, .int .i64 filled] ++ Config.encL c [.int .i64 index, .ptr 3 0 0, .bool well]))]⟩, some ⟨3, false, (List.map Entry.enc b1)⟩, some ⟨1, false, (List.map (eSl 1 (eInt .i64)) b2)⟩, some ⟨4, true, [[(grD 4 (List.map (eInt .u8) b4)), (grD 5 (List.map (eInt .u8) b5)), .int .i64 fuse, .bool down]]⟩, some ⟨1, false, (List.map (eInt .u8) b4)⟩, some ⟨1, false, (List.map (eInt .u8) b5)⟩])
inductive Target_Tick_S where
 | s0
 | s3 (epoch : Int) (t14 : Bool)
 | s2 (epoch : Int) (t35 : Bool)
 | s1 (epoch t78 t79 : Int) (hold2 : Hold) (out : List Msg)
noncomputable def Target_Tick_M (now fence : Int) (known : Plan) (hold : Hold) (begun filled : Int) (c : Config) (index : Int) (well : Bool) (b1 : List Entry) (b2 : List (List Int)) (fuse : Int) (down : Bool) (b4 b5 : List Int) : Target_Tick_S → M
 | .s0 => startM Tryz.f18 [.ptr 0 0 0, .int .i64 now] [some ⟨54, true, [([.int .i64 fence] ++ Plan.encL known ([.int .i64 hold.Epoch, .int .i64 hold.Nonce, .int .u64 hold.Grants, .int .i64 hold.Until, (grD 1 (List.map Entry.enc b1)), (grD 2 (List.map (eSl 1 (eInt .i64)) b2)), .int .i64 begun, .int .i64 filled] ++ Config.encL c [.int .i64 index, .ptr 3 0 0, .bool well]))]⟩, some ⟨3, false, (List.map Entry.enc b1)⟩, some ⟨1, false, (List.map (eSl 1 (eInt .i64)) b2)⟩, some ⟨4, true, [[(grD 4 (List.map (eInt .u8) b4)), (grD 5 (List.map (eInt .u8) b5)), .int .i64 fuse, .bool down]]⟩, some ⟨1, false, (List.map (eInt .u8) b4)⟩, some ⟨1, false, (List.map (eInt .u8) b5)⟩]
 | .s3 epoch t14 => ⟨[.code (Target_Tick_c [1, 1, 0, 0, 1]), .blk 0, .code (Target_Tick_c [1, 1, 1])], [(0, .ptr 0 0 0), (1, .int .i64 now), (5, .int .i64 epoch), (14, .bool t14)], [some ⟨54, true, [([.int .i64 fence] ++ Plan.encL known ([.int .i64 hold.Epoch, .int .i64 hold.Nonce, .int .u64 hold.Grants, .int .i64 hold.Until, (grD 1 (List.map Entry.enc b1)), (grD 2 (List.map (eSl 1 (eInt .i64)) b2)), .int .i64 begun, .int .i64 filled] ++ Config.encL c [.int .i64 index, .ptr 3 0 0, .bool well]))]⟩, some ⟨3, false, (List.map Entry.enc b1)⟩, some ⟨1, false, (List.map (eSl 1 (eInt .i64)) b2)⟩, some ⟨4, true, [[(grD 4 (List.map (eInt .u8) b4)), (grD 5 (List.map (eInt .u8) b5)), .int .i64 fuse, .bool down]]⟩, some ⟨1, false, (List.map (eInt .u8) b4)⟩, some ⟨1, false, (List.map (eInt .u8) b5)⟩]⟩
 | .s2 epoch t35 => ⟨[.code (Target_Tick_c [1, 1, 0, 0, 1, 1, 1]), .blk 0, .code (Target_Tick_c [1, 1, 1])], [(0, .ptr 0 0 0), (1, .int .i64 now), (5, .int .i64 epoch), (35, .bool t35)], [some ⟨54, true, [([.int .i64 fence] ++ Plan.encL known ([.int .i64 hold.Epoch, .int .i64 hold.Nonce, .int .u64 hold.Grants, .int .i64 hold.Until, (grD 1 (List.map Entry.enc b1)), (grD 2 (List.map (eSl 1 (eInt .i64)) b2)), .int .i64 begun, .int .i64 filled] ++ Config.encL c [.int .i64 index, .ptr 3 0 0, .bool well]))]⟩, some ⟨3, false, (List.map Entry.enc b1)⟩, some ⟨1, false, (List.map (eSl 1 (eInt .i64)) b2)⟩, some ⟨4, true, [[(grD 4 (List.map (eInt .u8) b4)), (grD 5 (List.map (eInt .u8) b5)), .int .i64 fuse, .bool down]]⟩, some ⟨1, false, (List.map (eInt .u8) b4)⟩, some ⟨1, false, (List.map (eInt .u8) b5)⟩]⟩
 | .s1 epoch t78 t79 hold2 out => ⟨[.lpc (Target_Tick_c [1, 1, 1, 1, 1, 0, 1, 0, 0]) 906694364710971881029731, .blk 1, .code (Target_Tick_c [1, 1, 1, 1, 1, 1])], [(0, .ptr 0 0 0), (1, .int .i64 now), (5, .int .i64 epoch), (6, (grD 6 (List.map Msg.enc out))), (78, .int .i64 t78), (79, .int .i64 t79)], [some ⟨54, true, [([.int .i64 fence] ++ Plan.encL known ([.int .i64 hold2.Epoch, .int .i64 hold2.Nonce, .int .u64 hold2.Grants, .int .i64 hold2.Until, (grD 1 (List.map Entry.enc b1)), (grD 2 (List.map (eSl 1 (eInt .i64)) b2)), .int .i64 begun, .int .i64 filled] ++ Config.encL c [.int .i64 index, .ptr 3 0 0, .bool well]))]⟩, some ⟨3, false, (List.map Entry.enc b1)⟩, some ⟨1, false, (List.map (eSl 1 (eInt .i64)) b2)⟩, some ⟨4, true, [[(grD 4 (List.map (eInt .u8) b4)), (grD 5 (List.map (eInt .u8) b5)), .int .i64 fuse, .bool down]]⟩, some ⟨1, false, (List.map (eInt .u8) b4)⟩, some ⟨1, false, (List.map (eInt .u8) b5)⟩, some ⟨26, false, (List.map Msg.enc out)⟩]⟩
abbrev Target_Tick_W (now fence : Int) (known : Plan) (hold : Hold) (begun filled : Int) (c : Config) (index : Int) (well : Bool) (b1 : List Entry) (b2 : List (List Int)) (fuse : Int) (down : Bool) (b4 b5 : List Int) := SOk E (Cx.of Tryz.f18 true 6) (Target_Tick_e fence known begun filled c index well b1 b2 fuse down b4 b5) (Target_Tick_M now fence known hold begun filled c index well b1 b2 fuse down b4 b5)
noncomputable def Target_Tick_0 (now fence : Int) (known : Plan) (hold : Hold) (begun filled : Int) (c : Config) (index : Int) (well : Bool) (b1 : List Entry) (b2 : List (List Int)) (fuse : Int) (down : Bool) (b4 b5 : List Int) : Option (Target_Tick_S ⊕ ((List Msg) × Hold)) := (bif (decide ((now : Int) < 0)) then (some (.inl (.s3 known.Epoch (decide ((now : Int) < 0))))) else (bif (decide ((now : Int) > 1099511627776)) then (some (.inl (.s3 known.Epoch (decide ((now : Int) > 1099511627776))))) else ((Journal_Down (⟨b4, b5, fuse, down⟩ : Journal)).bind fun y3 => (bif y3 then (some (.inl (.s3 known.Epoch y3))) else ((plan_Names known index).bind fun y5 => (some (.inl (.s3 known.Epoch (!y5)))))))))
noncomputable def Target_Tick_3 (now fence : Int) (known : Plan) (hold : Hold) (begun filled : Int) (c : Config) (index : Int) (well : Bool) (b1 : List Entry) (b2 : List (List Int)) (fuse : Int) (down : Bool) (b4 b5 : List Int) (epoch : Int) (t14 : Bool) : Option (Target_Tick_S ⊕ ((List Msg) × Hold)) := (bif t14 then (some (.inr ([], hold))) else (bif ((hold.Epoch : Int) == epoch) then (some (.inl (.s2 epoch (decide ((now : Int) < (IntKind.i64.wrap (hold.Nonce + (mxI (IntKind.i64.wrap (Int.tdiv c.L_ 2)) 1)))))))) else (some (.inl (.s2 epoch false)))))
noncomputable def Target_Tick_2 (now fence : Int) (known : Plan) (hold : Hold) (begun filled : Int) (c : Config) (index : Int) (well : Bool) (b1 : List Entry) (b2 : List (List Int)) (fuse : Int) (down : Bool) (b4 b5 : List Int) (epoch : Int) (t35 : Bool) : Option (Target_Tick_S ⊕ ((List Msg) × Hold)) := (bif t35 then (some (.inr ([], hold))) else ((lease_Ask hold epoch now).bind fun y2 => ((api_Acceptors c).bind fun y3 => (some (.inl (.s1 epoch y3 0 y2 ([])))))))
noncomputable def Target_Tick_1 (now fence : Int) (known : Plan) (hold : Hold) (begun filled : Int) (c : Config) (index : Int) (well : Bool) (b1 : List Entry) (b2 : List (List Int)) (fuse : Int) (down : Bool) (b4 b5 : List Int) (epoch t78 t79 : Int) (hold2 : Hold) (out : List Msg) : Option (Target_Tick_S ⊕ ((List Msg) × Hold)) := (bif (decide ((t79 : Int) < t78)) then ((api_TargetNode c index).bind fun y2 => (bif (decide (((List.map Msg.enc out).length + 1) * 288 ≤ bytesLim)) then (some (.inl (.s1 epoch t78 (IntKind.i64.wrap (t79 + 1)) hold2 (out ++ [(⟨10, y2, t79, epoch, 0, 0, now, 0, 0, 1, false, (⟨0, 0, 0, 0, 0, 0, 0, 0, 0, 0, [], []⟩ : Plan), [], [], []⟩ : Msg)])))) else none)) else (some (.inr (out, hold2))))
noncomputable def Target_Tick_step (now fence : Int) (known : Plan) (hold : Hold) (begun filled : Int) (c : Config) (index : Int) (well : Bool) (b1 : List Entry) (b2 : List (List Int)) (fuse : Int) (down : Bool) (b4 b5 : List Int) : Target_Tick_S → Option (Target_Tick_S ⊕ ((List Msg) × Hold))
 | .s0 => Target_Tick_0 now fence known hold begun filled c index well b1 b2 fuse down b4 b5
 | .s3 epoch t14 => Target_Tick_3 now fence known hold begun filled c index well b1 b2 fuse down b4 b5 epoch t14
 | .s2 epoch t35 => Target_Tick_2 now fence known hold begun filled c index well b1 b2 fuse down b4 b5 epoch t35
 | .s1 epoch t78 t79 hold2 out => Target_Tick_1 now fence known hold begun filled c index well b1 b2 fuse down b4 b5 epoch t78 t79 hold2 out
theorem Target_Tick_0_ok {now fence known hold begun filled c index well b1 b2 fuse down b4 b5} : Target_Tick_W now fence known hold begun filled c index well b1 b2 fuse down b4 b5 .s0 (Target_Tick_0 now fence known hold begun filled c index well b1 b2 fuse down b4 b5) := by
 intro r x h ha; unfold Target_Tick_0 at h
 refine zs 25 h (fun h => ?_) fun h => ?_
 ·
  exact zk 1 h ha
 refine zs 7 h (fun h => ?_) fun h => ?_
 ·
  exact zk 1 h ha
 refine zm 8 (b := (Nat.ble (0 + (List.map (eInt .u8) b4).length) ((List.map (eInt .u8) b4).length))) (ble_full _) ?_
 refine zm 0 (b := (Nat.ble (0 + (List.map (eInt .u8) b5).length) ((List.map (eInt .u8) b5).length))) (ble_full _) ?_
 refine zcE 0 [] (args1 := [.iptr 4 [[.sl false 1 (List.take ((List.map (eInt .u8) b4).length) (List.drop 0 (List.map (eInt .u8) b4))), .sl false 1 (List.take ((List.map (eInt .u8) b5).length) (List.drop 0 (List.map (eInt .u8) b5))), .int .i64 fuse, .bool down]] 0 0]) h (fun _ => Journal_Down_ok) ⟨by simp [List.take_of_length_le, List.map_take, List.map_drop], rfl⟩ fun y3 h => ?_
 refine zs 3 h (fun h => ?_) fun h => ?_
 ·
  exact zk 1 h ha
 refine zd 3 [] h (fun _ => plan_Names_ok) fun y5 h => ?_
 exact zk 0 h ha
theorem Target_Tick_3_ok {now fence known hold begun filled c index well b1 b2 fuse down b4 b5 epoch t14} : Target_Tick_W now fence known hold begun filled c index well b1 b2 fuse down b4 b5 (.s3 epoch t14) (Target_Tick_3 now fence known hold begun filled c index well b1 b2 fuse down b4 b5 epoch t14) := by
 intro r x h ha; unfold Target_Tick_3 at h
 refine zs 1 h (fun h => ?_) fun h => ?_
 ·
  exact zt 5 h ha [.slot 0 [some 26]]
 refine zs 3 h (fun h => ?_) fun h => ?_
 ·
  exact zk 19 h ha
 exact zk 16 h ha
theorem Target_Tick_2_ok {now fence known hold begun filled c index well b1 b2 fuse down b4 b5 epoch t35} : Target_Tick_W now fence known hold begun filled c index well b1 b2 fuse down b4 b5 (.s2 epoch t35) (Target_Tick_2 now fence known hold begun filled c index well b1 b2 fuse down b4 b5 epoch t35) := by
 intro r x h ha; unfold Target_Tick_2 at h
 refine zs 1 h (fun h => ?_) fun h => ?_
 ·
  exact zt 5 h ha [.slot 0 [some 26]]
 refine zc 14 [] h (fun _ => lease_Ask_ok) fun y2 h => ?_
 refine zc 20 [] h (fun _ => api_Acceptors_ok) fun y3 h => ?_
 refine adv_ok hm 5 _ ?_
 obtain rfl := Option.some.inj h
 refine r_cut 906694364710971881029731 [.mat 6 26] (m' := ⟨[.lpc (Target_Tick_c [1, 1, 1, 1, 1, 0, 1, 0, 0]) 906694364710971881029731, .blk 1, .code (Target_Tick_c [1, 1, 1, 1, 1, 1])], [(0, .ptr 0 0 0), (1, .int .i64 now), (5, .int .i64 epoch), (6, .msl 6 0 0 0 false), (78, .int .i64 y3), (79, .int .i64 0)], [some ⟨54, true, [([.int .i64 fence] ++ Plan.encL known ([.int .i64 y2.Epoch, .int .i64 y2.Nonce, .int .u64 y2.Grants, .int .i64 y2.Until, (grD 1 (List.map Entry.enc b1)), (grD 2 (List.map (eSl 1 (eInt .i64)) b2)), .int .i64 begun, .int .i64 filled] ++ Config.encL c [.int .i64 index, .ptr 3 0 0, .bool well]))]⟩, some ⟨3, false, (List.map Entry.enc b1)⟩, some ⟨1, false, (List.map (eSl 1 (eInt .i64)) b2)⟩, some ⟨4, true, [[(grD 4 (List.map (eInt .u8) b4)), (grD 5 (List.map (eInt .u8) b5)), .int .i64 fuse, .bool down]]⟩, some ⟨1, false, (List.map (eInt .u8) b4)⟩, some ⟨1, false, (List.map (eInt .u8) b5)⟩, some ⟨26, false, []⟩]⟩) (by kernel_rfl) ?_
 refine r_len (n1 := 0) (n2 := (List.map Msg.enc ([])).length) (fun n_len => .go ⟨[.lpc (Target_Tick_c [1, 1, 1, 1, 1, 0, 1, 0, 0]) 906694364710971881029731, .blk 1, .code (Target_Tick_c [1, 1, 1, 1, 1, 1])], [(0, .ptr 0 0 0), (1, .int .i64 now), (5, .int .i64 epoch), (6, .msl 6 0 n_len n_len false), (78, .int .i64 y3), (79, .int .i64 0)], [some ⟨54, true, [([.int .i64 fence] ++ Plan.encL known ([.int .i64 y2.Epoch, .int .i64 y2.Nonce, .int .u64 y2.Grants, .int .i64 y2.Until, (grD 1 (List.map Entry.enc b1)), (grD 2 (List.map (eSl 1 (eInt .i64)) b2)), .int .i64 begun, .int .i64 filled] ++ Config.encL c [.int .i64 index, .ptr 3 0 0, .bool well]))]⟩, some ⟨3, false, (List.map Entry.enc b1)⟩, some ⟨1, false, (List.map (eSl 1 (eInt .i64)) b2)⟩, some ⟨4, true, [[(grD 4 (List.map (eInt .u8) b4)), (grD 5 (List.map (eInt .u8) b5)), .int .i64 fuse, .bool down]]⟩, some ⟨1, false, (List.map (eInt .u8) b4)⟩, some ⟨1, false, (List.map (eInt .u8) b5)⟩, some ⟨26, false, []⟩]⟩) (by simp) ?_
 exact ha
theorem Target_Tick_1_ok {now fence known hold begun filled c index well b1 b2 fuse down b4 b5 epoch t78 t79 hold2 out} : Target_Tick_W now fence known hold begun filled c index well b1 b2 fuse down b4 b5 (.s1 epoch t78 t79 hold2 out) (Target_Tick_1 now fence known hold begun filled c index well b1 b2 fuse down b4 b5 epoch t78 t79 hold2 out) := by
 intro r x h ha; unfold Target_Tick_1 at h
 refine zs 7 h (fun h => ?_) fun h => ?_
 ·
  refine zd 11 [] h (fun _ => api_TargetNode_ok) fun y2 h => ?_
  refine zn 0 h fun h => ?_
  refine za 0 Msg.enc out ([(⟨10, y2, t79, epoch, 0, 0, now, 0, 0, 1, false, (⟨0, 0, 0, 0, 0, 0, 0, 0, 0, 0, [], []⟩ : Plan), [], [], []⟩ : Msg)]) ?_
  exact zj 6 h ha
 refine adv_ok hm 6 _ ?_
 refine r_fzT 4 (n1 := (0 + (List.map Msg.enc out).length)) (n2 := ((List.map Msg.enc out).length)) (raw := (List.take ((List.map Msg.enc out).length) (List.drop 0 (List.map Msg.enc out)))) (rs := (List.map Msg.enc out)) (by kernel_rfl) (ble_full _) (by simp only [take_full, take_full', List.map_take, List.map_drop]) ?_
 exact zt 1 h ha
noncomputable def Target_Tick (now fence : Int) (known : Plan) (hold : Hold) (begun filled : Int) (c : Config) (index : Int) (well : Bool) (b1 : List Entry) (b2 : List (List Int)) (fuse : Int) (down : Bool) (b4 b5 : List Int) : Option ((List Msg) × Hold) := evf (Target_Tick_step now fence known hold begun filled c index well b1 b2 fuse down b4 b5) (.s0)
theorem Target_Tick_ok {now fence : Int} {known : Plan} {hold : Hold} {begun filled : Int} {c : Config} {index : Int} {well : Bool} {b1 : List Entry} {b2 : List (List Int)} {fuse : Int} {down : Bool} {b4 b5 : List Int} {r : (List Msg) × Hold} (h : Target_Tick now fence known hold begun filled c index well b1 b2 fuse down b4 b5 = some r) : Sound E 18 [.ptr 0 0 0, .int .i64 now] [some ⟨54, true, [([.int .i64 fence] ++ Plan.encL known ([.int .i64 hold.Epoch, .int .i64 hold.Nonce, .int .u64 hold.Grants, .int .i64 hold.Until, (grD 1 (List.map Entry.enc b1)), (grD 2 (List.map (eSl 1 (eInt .i64)) b2)), .int .i64 begun, .int .i64 filled] ++ Config.encL c [.int .i64 index, .ptr 3 0 0, .bool well]))]⟩, some ⟨3, false, (List.map Entry.enc b1)⟩, some ⟨1, false, (List.map (eSl 1 (eInt .i64)) b2)⟩, some ⟨4, true, [[(grD 4 (List.map (eInt .u8) b4)), (grD 5 (List.map (eInt .u8) b5)), .int .i64 fuse, .bool down]]⟩, some ⟨1, false, (List.map (eInt .u8) b4)⟩, some ⟨1, false, (List.map (eInt .u8) b5)⟩] (Rs (Target_Tick_e fence known begun filled c index well b1 b2 fuse down b4 b5) r) := sc (fn := Tryz.f18) (k := true) (m := 6) (stM := (Target_Tick_M now fence known hold begun filled c index well b1 b2 fuse down b4 b5)) h fun s => by
 cases s with
 | s0 => exact Target_Tick_0_ok
 | s3 => exact Target_Tick_3_ok
 | s2 => exact Target_Tick_2_ok
 | s1 => exact Target_Tick_1_ok
end Go.RX.L

namespace Go.RX.L
open Go Go.RX Go.Proofs
attribute [local irreducible] FinQ
noncomputable def law18_Fuzz_e (c : Config) (index : Int) (y : (List Msg) × Int × Plan × Hold × Int × Int × Bool × Int × Bool × (List Entry) × (List (List Int)) × (List Int) × (List Int)) : D × Sto := (.sl false 26 (List.map Msg.enc y.1), [some ⟨54, true, [([.int .i64 y.2.1, .int .i64 y.2.2.1.Epoch, .int .i64 y.2.2.1.Target, .int .i64 y.2.2.1.Prev, .int .i64 y.2.2.1.Spill, .int .i64 y.2.2.1.Percent, .int .i64 y.2.2.1.Stamp, .int .i64 y.2.2.1.Since, .int .i64 y.2.2.1.Ramped, .int .u64 y.2.2.1.Up, .int .u64 y.2.2.1.Sup, .sl false 1 (List.map (eInt .i64) y.2.2.1.Pen), .sl false 1 (List.map (eInt .i64) y.2.2.1.Changes), .int .i64 y.2.2.2.1.Epoch, .int .i64 y.2.2.2.1.Nonce, .int .u64 y.2.2.2.1.Grants, .int .i64 y.2.2.2.1.Until, (grD 6 (List.map Entry.enc y.2.2.2.2.2.2.2.2.2.1)), (grD 7 (List.map (eSl 1 (eInt .i64)) y.2.2.2.2.2.2.2.2.2.2.1)), .int .i64 y.2.2.2.2.1, .int .i64 y.2.2.2.2.2.1] ++ Config.encL c [.int .i64 index, .ptr 3 0 0, .bool y.2.2.2.2.2.2.1])]⟩, none, none, some ⟨4, true, [[(grD 8 (List.map (eInt .u8) y.2.2.2.2.2.2.2.2.2.2.2.1)), (grD 9 (List.map (eInt .u8) y.2.2.2.2.2.2.2.2.2.2.2.2)), .int .i64 y.2.2.2.2.2.2.2.1, .bool y.2.2.2.2.2.2.2.2.1]]⟩, none, none, some ⟨3, false, (List.map Entry.enc y.2.2.2.2.2.2.2.2.2.1)⟩, some ⟨1, false, (List.map (eSl 1 (eInt .i64)) y.2.2.2.2.2.2.2.2.2.2.1)⟩, some ⟨1, false, (List.map (eInt .u8) y.2.2.2.2.2.2.2.2.2.2.2.1)⟩, some ⟨1, false, (List.map (eInt .u8) y.2.2.2.2.2.2.2.2.2.2.2.2)⟩])
noncomputable def law18_Fuzz (o : Op) (fence : Int) (known : Plan) (hold : Hold) (begun filled : Int) (c : Config) (index : Int) (well : Bool) (b1 : List Entry) (b2 : List (List Int)) (fuse : Int) (down : Bool) (b4 b5 : List Int) : Option ((List Msg) × Int × Plan × Hold × Int × Int × Bool × Int × Bool × (List Entry) × (List (List Int)) × (List Int) × (List Int)) := (bif (((andI .i64 o.What 7) : Int) == 1) then ((Target_Journal fence known hold begun filled c index well b1 b2 fuse down b4 b5).bind fun y2 => ((Journal_Fuse o.N_ fuse down b4 b5).bind fun y3 => (some ([], fence, known, hold, begun, filled, well, y3, down, b1, b2, b4, b5)))) else (bif (((andI .i64 o.What 7) : Int) == 2) then ((Target_Journal fence known hold begun filled c index well b1 b2 fuse down b4 b5).bind fun y5 => ((Journal_Crash o.N_ fuse down b4 b5).bind fun y6 => (some ([], fence, known, hold, begun, filled, well, y6.1, y6.2.1, b1, b2, y6.2.2.1, y6.2.2.2)))) else (bif (((andI .i64 o.What 7) : Int) == 3) then ((law18_time o.Now).bind fun y8 => ((Target_Restart y8 fence known hold begun filled c index well b1 b2 fuse down b4 b5).bind fun y9 => (some ([], y9.2.1, y9.2.2.1, y9.2.2.2.1, y9.2.2.2.2.1, y9.2.2.2.2.2.1, well, y9.2.2.2.2.2.2.1, y9.2.2.2.2.2.2.2.1, y9.2.2.2.2.2.2.2.2.1, y9.2.2.2.2.2.2.2.2.2.1, y9.2.2.2.2.2.2.2.2.2.2.1, y9.2.2.2.2.2.2.2.2.2.2.2)))) else (bif (((andI .i64 o.What 7) : Int) == 4) then ((Target_Tick o.Now fence known hold begun filled c index well b1 b2 fuse down b4 b5).bind fun y11 => (some (y11.1, fence, known, y11.2, begun, filled, well, fuse, down, b1, b2, b4, b5))) else (bif (((andI .i64 o.What 7) : Int) == 5) then ((Target_Flip (((andI .i64 o.N_ 1) : Int) == 1) fence known hold begun filled c index well b1 b2 fuse down b4 b5).bind fun y13 => (some ([], fence, known, hold, begun, filled, (((andI .i64 o.N_ 1) : Int) == 1), fuse, down, b1, b2, b4, b5))) else ((Target_Handle o.M_ o.Now fence known hold begun filled c index well b1 b2 fuse down b4 b5).bind fun y14 => (some (y14.1, y14.2.1, y14.2.2.1, y14.2.2.2.1, y14.2.2.2.2.1, y14.2.2.2.2.2.1, well, y14.2.2.2.2.2.2.1, y14.2.2.2.2.2.2.2.1, y14.2.2.2.2.2.2.2.2.1, y14.2.2.2.2.2.2.2.2.2.1, y14.2.2.2.2.2.2.2.2.2.2.1, y14.2.2.2.2.2.2.2.2.2.2.2))))))))
theorem law18_Fuzz_ok {o : Op} {fence : Int} {known : Plan} {hold : Hold} {begun filled : Int} {c : Config} {index : Int} {well : Bool} {b1 : List Entry} {b2 : List (List Int)} {fuse : Int} {down : Bool} {b4 b5 : List Int} {r : (List Msg) × Int × Plan × Hold × Int × Int × Bool × Int × Bool × (List Entry) × (List (List Int)) × (List Int) × (List Int)} (h : law18_Fuzz o fence known hold begun filled c index well b1 b2 fuse down b4 b5 = some r) : Sound E 7 [.ptr 0 0 0, .agg (Op.enc o)] [some ⟨54, true, [([.int .i64 fence] ++ Plan.encL known ([.int .i64 hold.Epoch, .int .i64 hold.Nonce, .int .u64 hold.Grants, .int .i64 hold.Until, (grD 1 (List.map Entry.enc b1)), (grD 2 (List.map (eSl 1 (eInt .i64)) b2)), .int .i64 begun, .int .i64 filled] ++ Config.encL c [.int .i64 index, .ptr 3 0 0, .bool well]))]⟩, some ⟨3, false, (List.map Entry.enc b1)⟩, some ⟨1, false, (List.map (eSl 1 (eInt .i64)) b2)⟩, some ⟨4, true, [[(grD 4 (List.map (eInt .u8) b4)), (grD 5 (List.map (eInt .u8) b5)), .int .i64 fuse, .bool down]]⟩, some ⟨1, false, (List.map (eInt .u8) b4)⟩, some ⟨1, false, (List.map (eInt .u8) b5)⟩] (Rs (law18_Fuzz_e c index) r) := so (fn := Tryz.f7) (k := true) (m := 6) h <| by
 intro r h; unfold law18_Fuzz at h
 refine zs 20 h (fun h => ?_) fun h => ?_
 ·
  refine zdR 1 [] h (fun _ => Target_Journal_ok) fun y2 h => ?_
  refine zc 1 [] h (fun _ => Journal_Fuse_ok) fun y3 h => ?_
  refine zf 5 [.mv 1, .mv 2, .mv 4, .mv 5] ?_
  exact zu 1 h [.slot 0 [some 26]]
 refine zs 6 h (fun h => ?_) fun h => ?_
 ·
  refine zdR 1 [] h (fun _ => Target_Journal_ok) fun y5 h => ?_
  refine zc 1 [] h (fun _ => Journal_Crash_ok) fun y6 h => ?_
  refine zf 5 [.mv 1, .mv 2, .mv 5] ?_
  exact zu 1 h [.slot 0 [some 26]]
 refine zs 6 h (fun h => ?_) fun h => ?_
 ·
  refine zc 6 [] h (fun _ => law18_time_ok) fun y8 h => ?_
  refine adv_ok hm 1 _ ?_
  have ok9 := fun (y : Int × Int × Plan × Hold × Int × Int × Int × Bool × (List Entry) × (List (List Int)) × (List Int) × (List Int)) (hy : Target_Restart y8 fence known hold begun filled c index well b1 b2 fuse down b4 b5 = some y) => @Eq.mp (Sound E 14 [.ptr 0 0 0, .int .i64 y8] [some ⟨54, true, [([.int .i64 fence] ++ Plan.encL known ([.int .i64 hold.Epoch, .int .i64 hold.Nonce, .int .u64 hold.Grants, .int .i64 hold.Until, (grD 1 (List.map Entry.enc b1)), (grD 2 (List.map (eSl 1 (eInt .i64)) b2)), .int .i64 begun, .int .i64 filled] ++ Config.encL c [.int .i64 index, .ptr 3 0 0, .bool well]))]⟩, some ⟨3, false, (List.map Entry.enc b1)⟩, some ⟨1, false, (List.map (eSl 1 (eInt .i64)) b2)⟩, some ⟨4, true, [[(grD 4 (List.map (eInt .u8) b4)), (grD 5 (List.map (eInt .u8) b5)), .int .i64 fuse, .bool down]]⟩, some ⟨1, false, (List.map (eInt .u8) b4)⟩, some ⟨1, false, (List.map (eInt .u8) b5)⟩] (Rs (Target_Restart_e c index well b1 b2) y)) (Sound E 14 [.ptr 0 0 0, .int .i64 y8] [some ⟨54, true, [([.int .i64 fence] ++ Plan.encL known ([.int .i64 hold.Epoch, .int .i64 hold.Nonce, .int .u64 hold.Grants, .int .i64 hold.Until, (grD 1 (List.map Entry.enc b1)), (grD 2 (List.map (eSl 1 (eInt .i64)) b2)), .int .i64 begun, .int .i64 filled] ++ Config.encL c [.int .i64 index, .ptr 3 0 0, .bool well]))]⟩, some ⟨3, false, (List.map Entry.enc b1)⟩, some ⟨1, false, (List.map (eSl 1 (eInt .i64)) b2)⟩, some ⟨4, true, [[(grD 4 (List.map (eInt .u8) b4)), (grD 5 (List.map (eInt .u8) b5)), .int .i64 fuse, .bool down]]⟩, some ⟨1, false, (List.map (eInt .u8) b4)⟩, some ⟨1, false, (List.map (eInt .u8) b5)⟩] (Rs (Target_Restart_e c index well b1 b2) y)) (by kernel_rfl) (Target_Restart_ok hy)
  refine zc 0 [] h ok9 fun y9 h => ?_
  refine zf 6 [.mv 1, .mv 2] ?_
  exact zu 1 h [.slot 0 [some 26]]
 refine zs 6 h (fun h => ?_) fun h => ?_
 ·
  refine adv_ok hm 7 _ ?_
  have ok11 := fun (y : (List Msg) × Hold) (hy : Target_Tick o.Now fence known hold begun filled c index well b1 b2 fuse down b4 b5 = some y) => @Eq.mp (Sound E 18 [.ptr 0 0 0, .int .i64 o.Now] [some ⟨54, true, [([.int .i64 fence] ++ Plan.encL known ([.int .i64 hold.Epoch, .int .i64 hold.Nonce, .int .u64 hold.Grants, .int .i64 hold.Until, (grD 1 (List.map Entry.enc b1)), (grD 2 (List.map (eSl 1 (eInt .i64)) b2)), .int .i64 begun, .int .i64 filled] ++ Config.encL c [.int .i64 index, .ptr 3 0 0, .bool well]))]⟩, some ⟨3, false, (List.map Entry.enc b1)⟩, some ⟨1, false, (List.map (eSl 1 (eInt .i64)) b2)⟩, some ⟨4, true, [[(grD 4 (List.map (eInt .u8) b4)), (grD 5 (List.map (eInt .u8) b5)), .int .i64 fuse, .bool down]]⟩, some ⟨1, false, (List.map (eInt .u8) b4)⟩, some ⟨1, false, (List.map (eInt .u8) b5)⟩] (Rs (Target_Tick_e fence known begun filled c index well b1 b2 fuse down b4 b5) y)) (Sound E 18 [.ptr 0 0 0, .int .i64 o.Now] [some ⟨54, true, [([.int .i64 fence] ++ Plan.encL known ([.int .i64 hold.Epoch, .int .i64 hold.Nonce, .int .u64 hold.Grants, .int .i64 hold.Until, (grD 1 (List.map Entry.enc b1)), (grD 2 (List.map (eSl 1 (eInt .i64)) b2)), .int .i64 begun, .int .i64 filled] ++ Config.encL c [.int .i64 index, .ptr 3 0 0, .bool well]))]⟩, some ⟨3, false, (List.map Entry.enc b1)⟩, some ⟨1, false, (List.map (eSl 1 (eInt .i64)) b2)⟩, some ⟨4, true, [[(grD 4 (List.map (eInt .u8) b4)), (grD 5 (List.map (eInt .u8) b5)), .int .i64 fuse, .bool down]]⟩, some ⟨1, false, (List.map (eInt .u8) b4)⟩, some ⟨1, false, (List.map (eInt .u8) b5)⟩] (Rs (Target_Tick_e fence known begun filled c index well b1 b2 fuse down b4 b5) y)) (by kernel_rfl) (Target_Tick_ok hy)
  refine zc 0 [] h ok11 fun y11 h => ?_
  refine zf 2 [.mv 1, .mv 2, .mv 4, .mv 5] ?_
  exact zu 1 h
 refine zs 6 h (fun h => ?_) fun h => ?_
 ·
  refine adv_ok hm 8 _ ?_
  have ok13 := fun (y : Unit) (hy : Target_Flip (((andI .i64 o.N_ 1) : Int) == 1) fence known hold begun filled c index well b1 b2 fuse down b4 b5 = some y) => @Eq.mp (Sound E 26 [.ptr 0 0 0, .bool (((andI .i64 o.N_ 1) : Int) == 1)] [some ⟨54, true, [([.int .i64 fence] ++ Plan.encL known ([.int .i64 hold.Epoch, .int .i64 hold.Nonce, .int .u64 hold.Grants, .int .i64 hold.Until, (grD 1 (List.map Entry.enc b1)), (grD 2 (List.map (eSl 1 (eInt .i64)) b2)), .int .i64 begun, .int .i64 filled] ++ Config.encL c [.int .i64 index, .ptr 3 0 0, .bool well]))]⟩, some ⟨3, false, (List.map Entry.enc b1)⟩, some ⟨1, false, (List.map (eSl 1 (eInt .i64)) b2)⟩, some ⟨4, true, [[(grD 4 (List.map (eInt .u8) b4)), (grD 5 (List.map (eInt .u8) b5)), .int .i64 fuse, .bool down]]⟩, some ⟨1, false, (List.map (eInt .u8) b4)⟩, some ⟨1, false, (List.map (eInt .u8) b5)⟩] (Rs (Target_Flip_e (((andI .i64 o.N_ 1) : Int) == 1) fence known hold begun filled c index b1 b2 fuse down b4 b5) y)) (Sound E 26 [.ptr 0 0 0, .bool (((andI .i64 o.N_ 1) : Int) == 1)] [some ⟨54, true, [([.int .i64 fence] ++ Plan.encL known ([.int .i64 hold.Epoch, .int .i64 hold.Nonce, .int .u64 hold.Grants, .int .i64 hold.Until, (grD 1 (List.map Entry.enc b1)), (grD 2 (List.map (eSl 1 (eInt .i64)) b2)), .int .i64 begun, .int .i64 filled] ++ Config.encL c [.int .i64 index, .ptr 3 0 0, .bool well]))]⟩, some ⟨3, false, (List.map Entry.enc b1)⟩, some ⟨1, false, (List.map (eSl 1 (eInt .i64)) b2)⟩, some ⟨4, true, [[(grD 4 (List.map (eInt .u8) b4)), (grD 5 (List.map (eInt .u8) b5)), .int .i64 fuse, .bool down]]⟩, some ⟨1, false, (List.map (eInt .u8) b4)⟩, some ⟨1, false, (List.map (eInt .u8) b5)⟩] (Rs (Target_Flip_e (((andI .i64 o.N_ 1) : Int) == 1) fence known hold begun filled c index b1 b2 fuse down b4 b5) y)) (by kernel_rfl) (Target_Flip_ok hy)
  refine zc 0 [] h ok13 fun y13 h => ?_
  refine zf 6 [.mv 1, .mv 2, .mv 4, .mv 5] ?_
  exact zu 1 h [.slot 0 [some 26]]
 refine adv_ok hm 10 _ ?_
 have ok14 := fun (y : (List Msg) × Int × Plan × Hold × Int × Int × Int × Bool × (List Entry) × (List (List Int)) × (List Int) × (List Int)) (hy : Target_Handle o.M_ o.Now fence known hold begun filled c index well b1 b2 fuse down b4 b5 = some y) => @Eq.mp (Sound E 20 [.ptr 0 0 0, .agg [.int .i64 o.M_.Kind, .int .i64 o.M_.From, .int .i64 o.M_.To, .int .i64 o.M_.Epoch, .int .i64 o.M_.Ballot, .int .i64 o.M_.Accepted, .int .i64 o.M_.Nonce, .int .i64 o.M_.Time, .int .u64 o.M_.Up, .int .i64 o.M_.Code, .bool o.M_.HasPlan, .int .i64 o.M_.Plan.Epoch, .int .i64 o.M_.Plan.Target, .int .i64 o.M_.Plan.Prev, .int .i64 o.M_.Plan.Spill, .int .i64 o.M_.Plan.Percent, .int .i64 o.M_.Plan.Stamp, .int .i64 o.M_.Plan.Since, .int .i64 o.M_.Plan.Ramped, .int .u64 o.M_.Plan.Up, .int .u64 o.M_.Plan.Sup, .sl false 1 (List.map (eInt .i64) o.M_.Plan.Pen), .sl false 1 (List.map (eInt .i64) o.M_.Plan.Changes), .sl false 1 (List.map (eInt .i64) o.M_.ID), .sl false 1 (List.map (eInt .u8) o.M_.Session), .sl false 1 (List.map (eInt .u8) o.M_.Payload)], .int .i64 o.Now] [some ⟨54, true, [([.int .i64 fence] ++ Plan.encL known ([.int .i64 hold.Epoch, .int .i64 hold.Nonce, .int .u64 hold.Grants, .int .i64 hold.Until, (grD 1 (List.map Entry.enc b1)), (grD 2 (List.map (eSl 1 (eInt .i64)) b2)), .int .i64 begun, .int .i64 filled] ++ Config.encL c [.int .i64 index, .ptr 3 0 0, .bool well]))]⟩, some ⟨3, false, (List.map Entry.enc b1)⟩, some ⟨1, false, (List.map (eSl 1 (eInt .i64)) b2)⟩, some ⟨4, true, [[(grD 4 (List.map (eInt .u8) b4)), (grD 5 (List.map (eInt .u8) b5)), .int .i64 fuse, .bool down]]⟩, some ⟨1, false, (List.map (eInt .u8) b4)⟩, some ⟨1, false, (List.map (eInt .u8) b5)⟩] (Rs (Target_Handle_e c index well) y)) (Sound E 20 [.ptr 0 0 0, .agg [.int .i64 o.M_.Kind, .int .i64 o.M_.From, .int .i64 o.M_.To, .int .i64 o.M_.Epoch, .int .i64 o.M_.Ballot, .int .i64 o.M_.Accepted, .int .i64 o.M_.Nonce, .int .i64 o.M_.Time, .int .u64 o.M_.Up, .int .i64 o.M_.Code, .bool o.M_.HasPlan, .int .i64 o.M_.Plan.Epoch, .int .i64 o.M_.Plan.Target, .int .i64 o.M_.Plan.Prev, .int .i64 o.M_.Plan.Spill, .int .i64 o.M_.Plan.Percent, .int .i64 o.M_.Plan.Stamp, .int .i64 o.M_.Plan.Since, .int .i64 o.M_.Plan.Ramped, .int .u64 o.M_.Plan.Up, .int .u64 o.M_.Plan.Sup, .sl false 1 (List.map (eInt .i64) o.M_.Plan.Pen), .sl false 1 (List.map (eInt .i64) o.M_.Plan.Changes), .sl false 1 (List.map (eInt .i64) o.M_.ID), .sl false 1 (List.map (eInt .u8) o.M_.Session), .sl false 1 (List.map (eInt .u8) o.M_.Payload)], .int .i64 o.Now] [some ⟨54, true, [([.int .i64 fence] ++ Plan.encL known ([.int .i64 hold.Epoch, .int .i64 hold.Nonce, .int .u64 hold.Grants, .int .i64 hold.Until, (grD 1 (List.map Entry.enc b1)), (grD 2 (List.map (eSl 1 (eInt .i64)) b2)), .int .i64 begun, .int .i64 filled] ++ Config.encL c [.int .i64 index, .ptr 3 0 0, .bool well]))]⟩, some ⟨3, false, (List.map Entry.enc b1)⟩, some ⟨1, false, (List.map (eSl 1 (eInt .i64)) b2)⟩, some ⟨4, true, [[(grD 4 (List.map (eInt .u8) b4)), (grD 5 (List.map (eInt .u8) b5)), .int .i64 fuse, .bool down]]⟩, some ⟨1, false, (List.map (eInt .u8) b4)⟩, some ⟨1, false, (List.map (eInt .u8) b5)⟩] (Rs (Target_Handle_e c index well) y)) (by kernel_rfl) (Target_Handle_ok hy)
 refine zc 0 [] h ok14 fun y14 h => ?_
 exact zu 3 h
end Go.RX.L

namespace Go.RX.L
open Go Go.RX Go.Proofs
attribute [local irreducible] FinQ
noncomputable def law13_Plain_e (y : Config) : D × Sto := (.agg (Config.enc y), [])
noncomputable def law13_Plain  : Option Config := (some (⟨1, 2, 2, 1, 3, [1, 0], 5, 3, 2, 2, 20, 20, 5, 10, 3, 50, 3, 1000, 1500, 700, 30, 20, 40, 5, 10, 5, 10, 4, 3, 5⟩ : Config))
theorem law13_Plain_ok  {r : Config} (h : law13_Plain = some r) : Sound E 19 [] [] (Rs law13_Plain_e r) := so (fn := Tryz.f19) (k := false) (m := 0) h <| by
 intro r h; unfold law13_Plain at h
 exact zu 15 h
end Go.RX.L
