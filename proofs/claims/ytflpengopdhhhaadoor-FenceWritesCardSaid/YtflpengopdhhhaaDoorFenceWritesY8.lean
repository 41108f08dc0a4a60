/-
  Words and walks for FenceWrites. No condition.
-/
import Derived.Test.YtflpengopdhhhaaDoorFenceWritesY7
set_option linter.unusedSectionVars false
set_option linter.unnecessarySimpa false
set_option linter.unusedSimpArgs false
set_option linter.unusedVariables false
set_option maxRecDepth 100000
set_option maxHeartbeats 4000000
namespace Go.RX.L
open Go Go.RX Go.Proofs
attribute [local irreducible] FinQ
noncomputable def Target_Handle_c := codeAt (bodyOf Tryd.f11)
noncomputable def Target_Handle_e (c : Config) (index : Int) (well : Bool) (y : (List Msg) × Int × Plan × Hold × Int × Int × Int × Bool × (List Entry) × (List (List Int)) × (List Int) × (List Int)) : D × Sto := (.sl false 26 (List.map Msg.enc y.1), [some ⟨54, true, [([.int .i64 y.2.1, .int .i64 y.2.2.1.Epoch, .int .i64 y.2.2.1.Target, .int .i64 y.2.2.1.Prev, .int .i64 y.2.2.1.Spill, .int .i64 y.2.2.1.Percent, .int .i64 y.2.2.1.Stamp, .int .i64 y.2.2.1.Since, .int .i64 y.2.2.1.Ramped, .int .u64 y.2.2.1.Up, .int .u64 y.2.2.1.Sup, .sl false 1 (List.map (eInt .i64) y.2.2.1.Pen), .sl false 1 (List.map (eInt .i64) y.2.2.1.Changes), .int .i64 y.2.2.2.1.Epoch, .int .i64 y.2.2.2.1.Nonce, .int .u64 y.2.2.2.1.Grants, .int .i64 y.2.2.2.1.Until, (grD 6 (List.map Entry.enc y.2.2.2.2.2.2.2.2.1)), (grD 7 (List.map (eSl 1 (eInt .i64)) y.2.2.2.2.2.2.2.2.2.1)), .int .i64 y.2.2.2.2.1, .int .i64 y.2.2.2.2.2.1] ++ Config.encL c [.int .i64 index, .ptr 3 0 0, .bool well])]⟩, none, none, some ⟨4, true, [[(grD 8 (List.map (eInt .u8) y.2.2.2.2.2.2.2.2.2.2.1)), (grD 9 (List.map (eInt .u8) y.2.2.2.2.2.2.2.2.2.2.2)), .int .i64 y.2.2.2.2.2.2.1, .bool y.2.2.2.2.2.2.2.1]]⟩, none, none, some ⟨3, false, (List.map Entry.enc y.2.2.2.2.2.2.2.2.1)⟩, some ⟨1, false, (List.map (eSl 1 (eInt .i64)) y.2.2.2.2.2.2.2.2.2.1)⟩, some ⟨1, false, (List.map (eInt .u8) y.2.2.2.2.2.2.2.2.2.2.1)⟩, some ⟨1, false, (List.map (eInt .u8) y.2.2.2.2.2.2.2.2.2.2.2)⟩])
abbrev Target_Handle_W (m : Msg) (now fence : Int) (known : Plan) (hold : Hold) (begun filled : Int) (c : Config) (index : Int) (well : Bool) (b1 : List Entry) (b2 : List (List Int)) (fuse : Int) (down : Bool) (b4 b5 : List Int) := AOk E (Cx.of Tryd.f11 true 6) (Target_Handle_e c index well)
noncomputable def Target_Handle_2M (m : Msg) (now fence : Int) (known : Plan) (hold : Hold) (begun filled : Int) (c : Config) (index : Int) (well : Bool) (b1 : List Entry) (b2 : List (List Int)) (fuse : Int) (down : Bool) (b4 b5 : List Int) (t60 : Bool) : M := ⟨[.code (Target_Handle_c [1, 1, 0, 1, 0, 1, 1, 1, 0, 1]), .blk 0, .code (Target_Handle_c [1, 1, 1])], [(0, .ptr 0 0 0), (4, .ptr 6 0 0), (60, .bool t60)], [some ⟨54, true, [([.int .i64 fence] ++ Plan.encL known ([.int .i64 hold.Epoch, .int .i64 hold.Nonce, .int .u64 hold.Grants, .int .i64 hold.Until, (grD 1 (List.map Entry.enc b1)), (grD 2 (List.map (eSl 1 (eInt .i64)) b2)), .int .i64 begun, .int .i64 filled] ++ Config.encL c [.int .i64 index, .ptr 3 0 0, .bool well]))]⟩, some ⟨3, false, (List.map Entry.enc b1)⟩, some ⟨1, false, (List.map (eSl 1 (eInt .i64)) b2)⟩, some ⟨4, true, [[(grD 4 (List.map (eInt .u8) b4)), (grD 5 (List.map (eInt .u8) b5)), .int .i64 fuse, .bool down]]⟩, some ⟨1, false, (List.map (eInt .u8) b4)⟩, some ⟨1, false, (List.map (eInt .u8) b5)⟩, some ⟨26, false, [(Msg.enc m)]⟩]⟩
noncomputable def Target_Handle_2 (m : Msg) (now fence : Int) (known : Plan) (hold : Hold) (begun filled : Int) (c : Config) (index : Int) (well : Bool) (b1 : List Entry) (b2 : List (List Int)) (fuse : Int) (down : Bool) (b4 b5 : List Int) (t60 : Bool) : Option ((List Msg) × Int × Plan × Hold × Int × Int × Int × Bool × (List Entry) × (List (List Int)) × (List Int) × (List Int)) := (bif t60 then (some ([], fence, m.Plan, hold, begun, filled, fuse, down, b1, b2, b4, b5)) else (some ([], fence, known, hold, begun, filled, fuse, down, b1, b2, b4, b5)))
theorem Target_Handle_2_ok {m now fence known hold begun filled c index well b1 b2 fuse down b4 b5 t60} : Target_Handle_W m now fence known hold begun filled c index well b1 b2 fuse down b4 b5 (Target_Handle_2M m now fence known hold begun filled c index well b1 b2 fuse down b4 b5 t60) (Target_Handle_2 m now fence known hold begun filled c index well b1 b2 fuse down b4 b5 t60) := by
 intro r h; unfold Target_Handle_2 at h
 refine zs 1 h (fun h => ?_) fun h => ?_
 ·
  refine zf 17 [.mv 1, .mv 2, .mv 4, .mv 5] ?_
  exact zu 1 h [.slot 0 [some 26]]
 refine zf 6 [.mv 1, .mv 2, .mv 4, .mv 5] ?_
 exact zu 1 h [.slot 0 [some 26]]
noncomputable def Target_Handle_3M (m : Msg) (now fence : Int) (known : Plan) (hold : Hold) (begun filled : Int) (c : Config) (index : Int) (well : Bool) (b1 : List Entry) (b2 : List (List Int)) (fuse : Int) (down : Bool) (b4 b5 : List Int) (t90 : Bool) (fence2 fuse2 : Int) (down2 : Bool) (b7 : List Entry) (b8 : List (List Int)) (b9 b10 : List Int) : M := ⟨[.code (Target_Handle_c [1, 1, 0, 1, 0, 1, 1, 1, 1, 1, 0, 1]), .blk 0, .code (Target_Handle_c [1, 1, 1])], [(0, .ptr 0 0 0), (4, .ptr 6 0 0), (90, .bool t90)], [some ⟨54, true, [([.int .i64 fence2] ++ Plan.encL known ([.int .i64 hold.Epoch, .int .i64 hold.Nonce, .int .u64 hold.Grants, .int .i64 hold.Until, (grD 7 (List.map Entry.enc b7)), (grD 8 (List.map (eSl 1 (eInt .i64)) b8)), .int .i64 begun, .int .i64 filled] ++ Config.encL c [.int .i64 index, .ptr 3 0 0, .bool well]))]⟩, none, none, some ⟨4, true, [[(grD 9 (List.map (eInt .u8) b9)), (grD 10 (List.map (eInt .u8) b10)), .int .i64 fuse2, .bool down2]]⟩, none, none, some ⟨26, false, [(Msg.enc m)]⟩, some ⟨3, false, (List.map Entry.enc b7)⟩, some ⟨1, false, (List.map (eSl 1 (eInt .i64)) b8)⟩, some ⟨1, false, (List.map (eInt .u8) b9)⟩, some ⟨1, false, (List.map (eInt .u8) b10)⟩]⟩
noncomputable def Target_Handle_3 (m : Msg) (now fence : Int) (known : Plan) (hold : Hold) (begun filled : Int) (c : Config) (index : Int) (well : Bool) (b1 : List Entry) (b2 : List (List Int)) (fuse : Int) (down : Bool) (b4 b5 : List Int) (t90 : Bool) (fence2 fuse2 : Int) (down2 : Bool) (b7 : List Entry) (b8 : List (List Int)) (b9 b10 : List Int) : Option ((List Msg) × Int × Plan × Hold × Int × Int × Int × Bool × (List Entry) × (List (List Int)) × (List Int) × (List Int)) := (bif t90 then ((Target_reply m 13 (⟨0, 0, 0, m.Epoch, 0, 0, 0, 0, 0, 0, false, (⟨0, 0, 0, 0, 0, 0, 0, 0, 0, 0, [], []⟩ : Plan), [], [], []⟩ : Msg) fence2 known hold begun filled c index well b7 b8 fuse2 down2 b9 b10).bind fun y2 => (some (y2, fence2, known, hold, begun, filled, fuse2, down2, b7, b8, b9, b10))) else (some ([], fence2, known, hold, begun, filled, fuse2, down2, b7, b8, b9, b10)))
theorem Target_Handle_3_ok {m now fence known hold begun filled c index well b1 b2 fuse down b4 b5 t90 fence2 fuse2 down2 b7 b8 b9 b10} : Target_Handle_W m now fence known hold begun filled c index well b1 b2 fuse down b4 b5 (Target_Handle_3M m now fence known hold begun filled c index well b1 b2 fuse down b4 b5 t90 fence2 fuse2 down2 b7 b8 b9 b10) (Target_Handle_3 m now fence known hold begun filled c index well b1 b2 fuse down b4 b5 t90 fence2 fuse2 down2 b7 b8 b9 b10) := by
 intro r h; unfold Target_Handle_3 at h
 refine zs 1 h (fun h => ?_) fun h => ?_
 ·
  refine adv_ok hm 10 _ ?_
  have ok2 := fun (y : List Msg) (hy : Target_reply m 13 (⟨0, 0, 0, m.Epoch, 0, 0, 0, 0, 0, 0, false, (⟨0, 0, 0, 0, 0, 0, 0, 0, 0, 0, [], []⟩ : Plan), [], [], []⟩ : Msg) fence2 known hold begun filled c index well b7 b8 fuse2 down2 b9 b10 = some y) => @Eq.mp (Sound E 31 [.ptr 0 0 0, .agg [.int .i64 m.Kind, .int .i64 m.From, .int .i64 m.To, .int .i64 m.Epoch, .int .i64 m.Ballot, .int .i64 m.Accepted, .int .i64 m.Nonce, .int .i64 m.Time, .int .u64 m.Up, .int .i64 m.Code, .bool m.HasPlan, .int .i64 m.Plan.Epoch, .int .i64 m.Plan.Target, .int .i64 m.Plan.Prev, .int .i64 m.Plan.Spill, .int .i64 m.Plan.Percent, .int .i64 m.Plan.Stamp, .int .i64 m.Plan.Since, .int .i64 m.Plan.Ramped, .int .u64 m.Plan.Up, .int .u64 m.Plan.Sup, .sl false 1 (List.map (eInt .i64) m.Plan.Pen), .sl false 1 (List.map (eInt .i64) m.Plan.Changes), .sl false 1 (List.map (eInt .i64) m.ID), .sl false 1 (List.map (eInt .u8) m.Session), .sl false 1 (List.map (eInt .u8) m.Payload)], .int .i64 13, .agg [.int .i64 0, .int .i64 0, .int .i64 0, .int .i64 m.Epoch, .int .i64 0, .int .i64 0, .int .i64 0, .int .i64 0, .int .u64 0, .int .i64 0, .bool false, .int .i64 0, .int .i64 0, .int .i64 0, .int .i64 0, .int .i64 0, .int .i64 0, .int .i64 0, .int .i64 0, .int .u64 0, .int .u64 0, .sl false 1 (List.map (eInt .i64) ([])), .sl false 1 (List.map (eInt .i64) ([])), .sl false 1 (List.map (eInt .i64) ([])), .sl false 1 (List.map (eInt .u8) ([])), .sl false 1 (List.map (eInt .u8) ([]))]] [some ⟨54, true, [([.int .i64 fence2] ++ Plan.encL known ([.int .i64 hold.Epoch, .int .i64 hold.Nonce, .int .u64 hold.Grants, .int .i64 hold.Until, (grD 1 (List.map Entry.enc b7)), (grD 2 (List.map (eSl 1 (eInt .i64)) b8)), .int .i64 begun, .int .i64 filled] ++ Config.encL c [.int .i64 index, .ptr 3 0 0, .bool well]))]⟩, some ⟨3, false, (List.map Entry.enc b7)⟩, some ⟨1, false, (List.map (eSl 1 (eInt .i64)) b8)⟩, some ⟨4, true, [[(grD 4 (List.map (eInt .u8) b9)), (grD 5 (List.map (eInt .u8) b10)), .int .i64 fuse2, .bool down2]]⟩, some ⟨1, false, (List.map (eInt .u8) b9)⟩, some ⟨1, false, (List.map (eInt .u8) b10)⟩] (Rs (Target_reply_e fence2 known hold begun filled c index well b7 b8 fuse2 down2 b9 b10) y)) (Sound E 31 [.ptr 0 0 0, .agg [.int .i64 m.Kind, .int .i64 m.From, .int .i64 m.To, .int .i64 m.Epoch, .int .i64 m.Ballot, .int .i64 m.Accepted, .int .i64 m.Nonce, .int .i64 m.Time, .int .u64 m.Up, .int .i64 m.Code, .bool m.HasPlan, .int .i64 m.Plan.Epoch, .int .i64 m.Plan.Target, .int .i64 m.Plan.Prev, .int .i64 m.Plan.Spill, .int .i64 m.Plan.Percent, .int .i64 m.Plan.Stamp, .int .i64 m.Plan.Since, .int .i64 m.Plan.Ramped, .int .u64 m.Plan.Up, .int .u64 m.Plan.Sup, .sl false 1 (List.map (eInt .i64) m.Plan.Pen), .sl false 1 (List.map (eInt .i64) m.Plan.Changes), .sl false 1 (List.map (eInt .i64) m.ID), .sl false 1 (List.map (eInt .u8) m.Session), .sl false 1 (List.map (eInt .u8) m.Payload)], .int .i64 13, .agg [.int .i64 0, .int .i64 0, .int .i64 0, .int .i64 m.Epoch, .int .i64 0, .int .i64 0, .int .i64 0, .int .i64 0, .int .u64 0, .int .i64 0, .bool false, .int .i64 0, .int .i64 0, .int .i64 0, .int .i64 0, .int .i64 0, .int .i64 0, .int .i64 0, .int .i64 0, .int .u64 0, .int .u64 0, .sl false 1 [], .sl false 1 [], .sl false 1 [], .sl false 1 [], .sl false 1 []]] [some ⟨54, true, [([.int .i64 fence2] ++ Plan.encL known ([.int .i64 hold.Epoch, .int .i64 hold.Nonce, .int .u64 hold.Grants, .int .i64 hold.Until, (grD 1 (List.map Entry.enc b7)), (grD 2 (List.map (eSl 1 (eInt .i64)) b8)), .int .i64 begun, .int .i64 filled] ++ Config.encL c [.int .i64 index, .ptr 3 0 0, .bool well]))]⟩, some ⟨3, false, (List.map Entry.enc b7)⟩, some ⟨1, false, (List.map (eSl 1 (eInt .i64)) b8)⟩, some ⟨4, true, [[(grD 4 (List.map (eInt .u8) b9)), (grD 5 (List.map (eInt .u8) b10)), .int .i64 fuse2, .bool down2]]⟩, some ⟨1, false, (List.map (eInt .u8) b9)⟩, some ⟨1, false, (List.map (eInt .u8) b10)⟩] (Rs (Target_reply_e fence2 known hold begun filled c index well b7 b8 fuse2 down2 b9 b10) y)) (by kernel_rfl) (Target_reply_ok hy)
  refine zc 0 [some 1, some 1, some 1, some 1, some 1] h ok2 fun y2 h => ?_
  exact zu 3 h
 exact zu 7 h [.slot 0 [some 26]]
noncomputable def Target_Handle_1M (m : Msg) (now fence : Int) (known : Plan) (hold : Hold) (begun filled : Int) (c : Config) (index : Int) (well : Bool) (b1 : List Entry) (b2 : List (List Int)) (fuse : Int) (down : Bool) (b4 b5 : List Int) (t24 : Bool) : M := ⟨[.code (Target_Handle_c [1, 0, 1]), .code (Target_Handle_c [1, 1])], [(0, .ptr 0 0 0), (2, .int .i64 now), (4, .ptr 6 0 0), (24, .bool t24)], [some ⟨54, true, [([.int .i64 fence] ++ Plan.encL known ([.int .i64 hold.Epoch, .int .i64 hold.Nonce, .int .u64 hold.Grants, .int .i64 hold.Until, (grD 1 (List.map Entry.enc b1)), (grD 2 (List.map (eSl 1 (eInt .i64)) b2)), .int .i64 begun, .int .i64 filled] ++ Config.encL c [.int .i64 index, .ptr 3 0 0, .bool well]))]⟩, some ⟨3, false, (List.map Entry.enc b1)⟩, some ⟨1, false, (List.map (eSl 1 (eInt .i64)) b2)⟩, some ⟨4, true, [[(grD 4 (List.map (eInt .u8) b4)), (grD 5 (List.map (eInt .u8) b5)), .int .i64 fuse, .bool down]]⟩, some ⟨1, false, (List.map (eInt .u8) b4)⟩, some ⟨1, false, (List.map (eInt .u8) b5)⟩, some ⟨26, false, [(Msg.enc m)]⟩]⟩
noncomputable def Target_Handle_1 (m : Msg) (now fence : Int) (known : Plan) (hold : Hold) (begun filled : Int) (c : Config) (index : Int) (well : Bool) (b1 : List Entry) (b2 : List (List Int)) (fuse : Int) (down : Bool) (b4 b5 : List Int) (t24 : Bool) : Option ((List Msg) × Int × Plan × Hold × Int × Int × Int × Bool × (List Entry) × (List (List Int)) × (List Int) × (List Int)) := (bif t24 then (some ([], fence, known, hold, begun, filled, fuse, down, b1, b2, b4, b5)) else (bif ((m.Kind : Int) == 1) then (bif well then ((Target_reply m 2 (⟨0, 0, 0, 0, 0, 0, m.Nonce, 0, 0, 0, false, (⟨0, 0, 0, 0, 0, 0, 0, 0, 0, 0, [], []⟩ : Plan), [], [], []⟩ : Msg) fence known hold begun filled c index well b1 b2 fuse down b4 b5).bind fun y4 => (some (y4, fence, known, hold, begun, filled, fuse, down, b1, b2, b4, b5))) else (some ([], fence, known, hold, begun, filled, fuse, down, b1, b2, b4, b5))) else (bif ((m.Kind : Int) == 9) then (bif m.HasPlan then ((Target_fits m.Plan fence known hold begun filled c index well b1 b2 fuse down b4 b5).bind fun y7 => (bif y7 then (Target_Handle_2 m now fence known hold begun filled c index well b1 b2 fuse down b4 b5 (decide ((m.Plan.Epoch : Int) > known.Epoch))) else (Target_Handle_2 m now fence known hold begun filled c index well b1 b2 fuse down b4 b5 false))) else (Target_Handle_2 m now fence known hold begun filled c index well b1 b2 fuse down b4 b5 false)) else (bif ((m.Kind : Int) == 12) then (bif (decide ((m.Epoch : Int) ≥ 1)) then (bif (decide ((m.Epoch : Int) ≤ fence)) then (Target_Handle_3 m now fence known hold begun filled c index well b1 b2 fuse down b4 b5 true fence fuse down b1 b2 b4 b5) else ((Target_remember__take (⟨19, 0, 0, m.Epoch, 0, 0, 0, 0, 0, 0, false, (⟨0, 0, 0, 0, 0, 0, 0, 0, 0, 0, [], []⟩ : Plan), [], [], []⟩ : Msg) fence known hold begun filled c index well b1 b2 fuse down b4 b5).bind fun y12 => (Target_Handle_3 m now fence known hold begun filled c index well b1 b2 fuse down b4 b5 y12.1 y12.2.1 y12.2.2.1 y12.2.2.2.1 y12.2.2.2.2.1 y12.2.2.2.2.2.1 y12.2.2.2.2.2.2.1 y12.2.2.2.2.2.2.2))) else (Target_Handle_3 m now fence known hold begun filled c index well b1 b2 fuse down b4 b5 false fence fuse down b1 b2 b4 b5)) else (bif ((m.Kind : Int) == 11) then (bif ((m.Code : Int) == 1) then ((lease_Grant hold c m).bind fun y15 => (some ([], fence, known, y15, begun, filled, fuse, down, b1, b2, b4, b5))) else (some ([], fence, known, hold, begun, filled, fuse, down, b1, b2, b4, b5))) else (bif ((m.Kind : Int) == 14) then ((Target_write m now fence known hold begun filled c index well b1 b2 fuse down b4 b5).bind fun y17 => (some (y17.1, y17.2.1, known, hold, y17.2.2.1, y17.2.2.2.1, y17.2.2.2.2.1, y17.2.2.2.2.2.1, y17.2.2.2.2.2.2.1, y17.2.2.2.2.2.2.2.1, y17.2.2.2.2.2.2.2.2.1, y17.2.2.2.2.2.2.2.2.2))) else (some ([], fence, known, hold, begun, filled, fuse, down, b1, b2, b4, b5))))))))
theorem Target_Handle_1_ok {m now fence known hold begun filled c index well b1 b2 fuse down b4 b5 t24} : Target_Handle_W m now fence known hold begun filled c index well b1 b2 fuse down b4 b5 (Target_Handle_1M m now fence known hold begun filled c index well b1 b2 fuse down b4 b5 t24) (Target_Handle_1 m now fence known hold begun filled c index well b1 b2 fuse down b4 b5 t24) := by
 intro r h; unfold Target_Handle_1 at h
 refine zs 1 h (fun h => ?_) fun h => ?_
 ·
  refine zf 4 [.mv 1, .mv 2, .mv 4, .mv 5] ?_
  exact zu 1 h [.slot 0 [some 26]]
 refine zs 15 h (fun h => ?_) fun h => ?_
 ·
  refine zs 9 h (fun h => ?_) fun h => ?_
  ·
   refine adv_ok hm 10 _ ?_
   have ok4 := fun (y : List Msg) (hy : Target_reply m 2 (⟨0, 0, 0, 0, 0, 0, m.Nonce, 0, 0, 0, false, (⟨0, 0, 0, 0, 0, 0, 0, 0, 0, 0, [], []⟩ : Plan), [], [], []⟩ : Msg) fence known hold begun filled c index well b1 b2 fuse down b4 b5 = some y) => @Eq.mp (Sound E 31 [.ptr 0 0 0, .agg [.int .i64 m.Kind, .int .i64 m.From, .int .i64 m.To, .int .i64 m.Epoch, .int .i64 m.Ballot, .int .i64 m.Accepted, .int .i64 m.Nonce, .int .i64 m.Time, .int .u64 m.Up, .int .i64 m.Code, .bool m.HasPlan, .int .i64 m.Plan.Epoch, .int .i64 m.Plan.Target, .int .i64 m.Plan.Prev, .int .i64 m.Plan.Spill, .int .i64 m.Plan.Percent, .int .i64 m.Plan.Stamp, .int .i64 m.Plan.Since, .int .i64 m.Plan.Ramped, .int .u64 m.Plan.Up, .int .u64 m.Plan.Sup, .sl false 1 (List.map (eInt .i64) m.Plan.Pen), .sl false 1 (List.map (eInt .i64) m.Plan.Changes), .sl false 1 (List.map (eInt .i64) m.ID), .sl false 1 (List.map (eInt .u8) m.Session), .sl false 1 (List.map (eInt .u8) m.Payload)], .int .i64 2, .agg [.int .i64 0, .int .i64 0, .int .i64 0, .int .i64 0, .int .i64 0, .int .i64 0, .int .i64 m.Nonce, .int .i64 0, .int .u64 0, .int .i64 0, .bool false, .int .i64 0, .int .i64 0, .int .i64 0, .int .i64 0, .int .i64 0, .int .i64 0, .int .i64 0, .int .i64 0, .int .u64 0, .int .u64 0, .sl false 1 (List.map (eInt .i64) ([])), .sl false 1 (List.map (eInt .i64) ([])), .sl false 1 (List.map (eInt .i64) ([])), .sl false 1 (List.map (eInt .u8) ([])), .sl false 1 (List.map (eInt .u8) ([]))]] [some ⟨54, true, [([.int .i64 fence] ++ Plan.encL known ([.int .i64 hold.Epoch, .int .i64 hold.Nonce, .int .u64 hold.Grants, .int .i64 hold.Until, (grD 1 (List.map Entry.enc b1)), (grD 2 (List.map (eSl 1 (eInt .i64)) b2)), .int .i64 begun, .int .i64 filled] ++ Config.encL c [.int .i64 index, .ptr 3 0 0, .bool well]))]⟩, some ⟨3, false, (List.map Entry.enc b1)⟩, some ⟨1, false, (List.map (eSl 1 (eInt .i64)) b2)⟩, some ⟨4, true, [[(grD 4 (List.map (eInt .u8) b4)), (grD 5 (List.map (eInt .u8) b5)), .int .i64 fuse, .bool down]]⟩, some ⟨1, false, (List.map (eInt .u8) b4)⟩, some ⟨1, false, (List.map (eInt .u8) b5)⟩] (Rs (Target_reply_e fence known hold begun filled c index well b1 b2 fuse down b4 b5) y)) (Sound E 31 [.ptr 0 0 0, .agg [.int .i64 m.Kind, .int .i64 m.From, .int .i64 m.To, .int .i64 m.Epoch, .int .i64 m.Ballot, .int .i64 m.Accepted, .int .i64 m.Nonce, .int .i64 m.Time, .int .u64 m.Up, .int .i64 m.Code, .bool m.HasPlan, .int .i64 m.Plan.Epoch, .int .i64 m.Plan.Target, .int .i64 m.Plan.Prev, .int .i64 m.Plan.Spill, .int .i64 m.Plan.Percent, .int .i64 m.Plan.Stamp, .int .i64 m.Plan.Since, .int .i64 m.Plan.Ramped, .int .u64 m.Plan.Up, .int .u64 m.Plan.Sup, .sl false 1 (List.map (eInt .i64) m.Plan.Pen), .sl false 1 (List.map (eInt .i64) m.Plan.Changes), .sl false 1 (List.map (eInt .i64) m.ID), .sl false 1 (List.map (eInt .u8) m.Session), .sl false 1 (List.map (eInt .u8) m.Payload)], .int .i64 2, .agg [.int .i64 0, .int .i64 0, .int .i64 0, .int .i64 0, .int .i64 0, .int .i64 0, .int .i64 m.Nonce, .int .i64 0, .int .u64 0, .int .i64 0, .bool false, .int .i64 0, .int .i64 0, .int .i64 0, .int .i64 0, .int .i64 0, .int .i64 0, .int .i64 0, .int .i64 0, .int .u64 0, .int .u64 0, .sl false 1 [], .sl false 1 [], .sl false 1 [], .sl false 1 [], .sl false 1 []]] [some ⟨54, true, [([.int .i64 fence] ++ Plan.encL known ([.int .i64 hold.Epoch, .int .i64 hold.Nonce, .int .u64 hold.Grants, .int .i64 hold.Until, (grD 1 (List.map Entry.enc b1)), (grD 2 (List.map (eSl 1 (eInt .i64)) b2)), .int .i64 begun, .int .i64 filled] ++ Config.encL c [.int .i64 index, .ptr 3 0 0, .bool well]))]⟩, some ⟨3, false, (List.map Entry.enc b1)⟩, some ⟨1, false, (List.map (eSl 1 (eInt .i64)) b2)⟩, some ⟨4, true, [[(grD 4 (List.map (eInt .u8) b4)), (grD 5 (List.map (eInt .u8) b5)), .int .i64 fuse, .bool down]]⟩, some ⟨1, false, (List.map (eInt .u8) b4)⟩, some ⟨1, false, (List.map (eInt .u8) b5)⟩] (Rs (Target_reply_e fence known hold begun filled c index well b1 b2 fuse down b4 b5) y)) (by kernel_rfl) (Target_reply_ok hy)
   refine zc 0 [some 1, some 1, some 1, some 1, some 1] h ok4 fun y4 h => ?_
   refine zf 2 [.mv 1, .mv 2, .mv 4, .mv 5] ?_
   exact zu 1 h
  refine zf 6 [.mv 1, .mv 2, .mv 4, .mv 5] ?_
  exact zu 1 h [.slot 0 [some 26]]
 refine zs 6 h (fun h => ?_) fun h => ?_
 ·
  refine zs 3 h (fun h => ?_) fun h => ?_
  ·
   refine zdR 4 [] h (fun _ => Target_fits_ok) fun y7 h => ?_
   refine zs 1 h (fun h => ?_) fun h => ?_
   ·
    exact zg 12 (Target_Handle_2_ok h)
   exact zg 10 (Target_Handle_2_ok h)
  exact zg 15 (Target_Handle_2_ok h)
 refine zs 6 h (fun h => ?_) fun h => ?_
 ·
  refine zs 3 h (fun h => ?_) fun h => ?_
  ·
   refine zs 10 h (fun h => ?_) fun h => ?_
   ·
    exact zg 9 (Target_Handle_3_ok h) [.mv 1, .mv 2, .mv 4, .mv 5]
   refine adv_ok hm 7 _ ?_
   have ok12 := fun (y : Bool × Int × Int × Bool × (List Entry) × (List (List Int)) × (List Int) × (List Int)) (hy : Target_remember__take (⟨19, 0, 0, m.Epoch, 0, 0, 0, 0, 0, 0, false, (⟨0, 0, 0, 0, 0, 0, 0, 0, 0, 0, [], []⟩ : Plan), [], [], []⟩ : Msg) fence known hold begun filled c index well b1 b2 fuse down b4 b5 = some y) => @Eq.mp (Sound E 33 [.ptr 0 0 0, .agg [.int .i64 19, .int .i64 0, .int .i64 0, .int .i64 m.Epoch, .int .i64 0, .int .i64 0, .int .i64 0, .int .i64 0, .int .u64 0, .int .i64 0, .bool false, .int .i64 0, .int .i64 0, .int .i64 0, .int .i64 0, .int .i64 0, .int .i64 0, .int .i64 0, .int .i64 0, .int .u64 0, .int .u64 0, .sl false 1 (List.map (eInt .i64) ([])), .sl false 1 (List.map (eInt .i64) ([])), .sl false 1 (List.map (eInt .i64) ([])), .sl false 1 (List.map (eInt .u8) ([])), .sl false 1 (List.map (eInt .u8) ([]))], .fn 34 [.ptr 0 0 0] []] [some ⟨54, true, [([.int .i64 fence] ++ Plan.encL known ([.int .i64 hold.Epoch, .int .i64 hold.Nonce, .int .u64 hold.Grants, .int .i64 hold.Until, (grD 1 (List.map Entry.enc b1)), (grD 2 (List.map (eSl 1 (eInt .i64)) b2)), .int .i64 begun, .int .i64 filled] ++ Config.encL c [.int .i64 index, .ptr 3 0 0, .bool well]))]⟩, some ⟨3, false, (List.map Entry.enc b1)⟩, some ⟨1, false, (List.map (eSl 1 (eInt .i64)) b2)⟩, some ⟨4, true, [[(grD 4 (List.map (eInt .u8) b4)), (grD 5 (List.map (eInt .u8) b5)), .int .i64 fuse, .bool down]]⟩, some ⟨1, false, (List.map (eInt .u8) b4)⟩, some ⟨1, false, (List.map (eInt .u8) b5)⟩] (Rs (Target_remember__take_e known hold begun filled c index well) y)) (Sound E 33 [.ptr 0 0 0, .agg [.int .i64 19, .int .i64 0, .int .i64 0, .int .i64 m.Epoch, .int .i64 0, .int .i64 0, .int .i64 0, .int .i64 0, .int .u64 0, .int .i64 0, .bool false, .int .i64 0, .int .i64 0, .int .i64 0, .int .i64 0, .int .i64 0, .int .i64 0, .int .i64 0, .int .i64 0, .int .u64 0, .int .u64 0, .sl false 1 [], .sl false 1 [], .sl false 1 [], .sl false 1 [], .sl false 1 []], .fn 34 [.ptr 0 0 0] []] [some ⟨54, true, [([.int .i64 fence] ++ Plan.encL known ([.int .i64 hold.Epoch, .int .i64 hold.Nonce, .int .u64 hold.Grants, .int .i64 hold.Until, (grD 1 (List.map Entry.enc b1)), (grD 2 (List.map (eSl 1 (eInt .i64)) b2)), .int .i64 begun, .int .i64 filled] ++ Config.encL c [.int .i64 index, .ptr 3 0 0, .bool well]))]⟩, some ⟨3, false, (List.map Entry.enc b1)⟩, some ⟨1, false, (List.map (eSl 1 (eInt .i64)) b2)⟩, some ⟨4, true, [[(grD 4 (List.map (eInt .u8) b4)), (grD 5 (List.map (eInt .u8) b5)), .int .i64 fuse, .bool down]]⟩, some ⟨1, false, (List.map (eInt .u8) b4)⟩, some ⟨1, false, (List.map (eInt .u8) b5)⟩] (Rs (Target_remember__take_e known hold begun filled c index well) y)) (by kernel_rfl) (Target_remember__take_ok hy)
   refine zc 0 [some 1, some 1, some 1, some 1, some 1] h ok12 fun y12 h => ?_
   exact zg 3 (Target_Handle_3_ok h)
  exact zg 10 (Target_Handle_3_ok h) [.mv 1, .mv 2, .mv 4, .mv 5]
 refine zs 6 h (fun h => ?_) fun h => ?_
 ·
  refine zs 8 h (fun h => ?_) fun h => ?_
  ·
   refine zd 4 [] h (fun _ => lease_Grant_ok) fun y15 h => ?_
   refine zf 7 [.mv 1, .mv 2, .mv 4, .mv 5] ?_
   exact zu 1 h [.slot 0 [some 26]]
  refine zf 6 [.mv 1, .mv 2, .mv 4, .mv 5] ?_
  exact zu 1 h [.slot 0 [some 26]]
 refine zs 6 h (fun h => ?_) fun h => ?_
 ·
  refine adv_ok hm 7 _ ?_
  have ok17 := fun (y : (List Msg) × Int × Int × Int × Int × Bool × (List Entry) × (List (List Int)) × (List Int) × (List Int)) (hy : Target_write m now fence known hold begun filled c index well b1 b2 fuse down b4 b5 = some y) => @Eq.mp (Sound E 36 [.ptr 0 0 0, .agg [.int .i64 m.Kind, .int .i64 m.From, .int .i64 m.To, .int .i64 m.Epoch, .int .i64 m.Ballot, .int .i64 m.Accepted, .int .i64 m.Nonce, .int .i64 m.Time, .int .u64 m.Up, .int .i64 m.Code, .bool m.HasPlan, .int .i64 m.Plan.Epoch, .int .i64 m.Plan.Target, .int .i64 m.Plan.Prev, .int .i64 m.Plan.Spill, .int .i64 m.Plan.Percent, .int .i64 m.Plan.Stamp, .int .i64 m.Plan.Since, .int .i64 m.Plan.Ramped, .int .u64 m.Plan.Up, .int .u64 m.Plan.Sup, .sl false 1 (List.map (eInt .i64) m.Plan.Pen), .sl false 1 (List.map (eInt .i64) m.Plan.Changes), .sl false 1 (List.map (eInt .i64) m.ID), .sl false 1 (List.map (eInt .u8) m.Session), .sl false 1 (List.map (eInt .u8) m.Payload)], .int .i64 now] [some ⟨54, true, [([.int .i64 fence] ++ Plan.encL known ([.int .i64 hold.Epoch, .int .i64 hold.Nonce, .int .u64 hold.Grants, .int .i64 hold.Until, (grD 1 (List.map Entry.enc b1)), (grD 2 (List.map (eSl 1 (eInt .i64)) b2)), .int .i64 begun, .int .i64 filled] ++ Config.encL c [.int .i64 index, .ptr 3 0 0, .bool well]))]⟩, some ⟨3, false, (List.map Entry.enc b1)⟩, some ⟨1, false, (List.map (eSl 1 (eInt .i64)) b2)⟩, some ⟨4, true, [[(grD 4 (List.map (eInt .u8) b4)), (grD 5 (List.map (eInt .u8) b5)), .int .i64 fuse, .bool down]]⟩, some ⟨1, false, (List.map (eInt .u8) b4)⟩, some ⟨1, false, (List.map (eInt .u8) b5)⟩] (Rs (Target_write_e known hold c index well) y)) (Sound E 36 [.ptr 0 0 0, .agg [.int .i64 m.Kind, .int .i64 m.From, .int .i64 m.To, .int .i64 m.Epoch, .int .i64 m.Ballot, .int .i64 m.Accepted, .int .i64 m.Nonce, .int .i64 m.Time, .int .u64 m.Up, .int .i64 m.Code, .bool m.HasPlan, .int .i64 m.Plan.Epoch, .int .i64 m.Plan.Target, .int .i64 m.Plan.Prev, .int .i64 m.Plan.Spill, .int .i64 m.Plan.Percent, .int .i64 m.Plan.Stamp, .int .i64 m.Plan.Since, .int .i64 m.Plan.Ramped, .int .u64 m.Plan.Up, .int .u64 m.Plan.Sup, .sl false 1 (List.map (eInt .i64) m.Plan.Pen), .sl false 1 (List.map (eInt .i64) m.Plan.Changes), .sl false 1 (List.map (eInt .i64) m.ID), .sl false 1 (List.map (eInt .u8) m.Session), .sl false 1 (List.map (eInt .u8) m.Payload)], .int .i64 now] [some ⟨54, true, [([.int .i64 fence] ++ Plan.encL known ([.int .i64 hold.Epoch, .int .i64 hold.Nonce, .int .u64 hold.Grants, .int .i64 hold.Until, (grD 1 (List.map Entry.enc b1)), (grD 2 (List.map (eSl 1 (eInt .i64)) b2)), .int .i64 begun, .int .i64 filled] ++ Config.encL c [.int .i64 index, .ptr 3 0 0, .bool well]))]⟩, some ⟨3, false, (List.map Entry.enc b1)⟩, some ⟨1, false, (List.map (eSl 1 (eInt .i64)) b2)⟩, some ⟨4, true, [[(grD 4 (List.map (eInt .u8) b4)), (grD 5 (List.map (eInt .u8) b5)), .int .i64 fuse, .bool down]]⟩, some ⟨1, false, (List.map (eInt .u8) b4)⟩, some ⟨1, false, (List.map (eInt .u8) b5)⟩] (Rs (Target_write_e known hold c index well) y)) (by kernel_rfl) (Target_write_ok hy)
  refine zc 0 [] h ok17 fun y17 h => ?_
  exact zu 3 h
 refine zf 6 [.mv 1, .mv 2, .mv 4, .mv 5] ?_
 exact zu 1 h [.slot 0 [some 26]]
noncomputable def Target_Handle (m : Msg) (now fence : Int) (known : Plan) (hold : Hold) (begun filled : Int) (c : Config) (index : Int) (well : Bool) (b1 : List Entry) (b2 : List (List Int)) (fuse : Int) (down : Bool) (b4 b5 : List Int) : Option ((List Msg) × Int × Plan × Hold × Int × Int × Int × Bool × (List Entry) × (List (List Int)) × (List Int) × (List Int)) := ((msg_Right m).bind fun y1 => (bif (!y1) then (Target_Handle_1 m now fence known hold begun filled c index well b1 b2 fuse down b4 b5 true) else (bif (decide ((now : Int) < 0)) then (Target_Handle_1 m now fence known hold begun filled c index well b1 b2 fuse down b4 b5 true) else (bif (decide ((now : Int) > 1099511627776)) then (Target_Handle_1 m now fence known hold begun filled c index well b1 b2 fuse down b4 b5 true) else ((Journal_Down (⟨b4, b5, fuse, down⟩ : Journal)).bind fun y5 => (Target_Handle_1 m now fence known hold begun filled c index well b1 b2 fuse down b4 b5 y5))))))
theorem Target_Handle_ok {m : Msg} {now fence : Int} {known : Plan} {hold : Hold} {begun filled : Int} {c : Config} {index : Int} {well : Bool} {b1 : List Entry} {b2 : List (List Int)} {fuse : Int} {down : Bool} {b4 b5 : List Int} {r : (List Msg) × Int × Plan × Hold × Int × Int × Int × Bool × (List Entry) × (List (List Int)) × (List Int) × (List Int)} (h : Target_Handle m now fence known hold begun filled c index well b1 b2 fuse down b4 b5 = some r) : Sound E 11 [.ptr 0 0 0, .agg [.int .i64 m.Kind, .int .i64 m.From, .int .i64 m.To, .int .i64 m.Epoch, .int .i64 m.Ballot, .int .i64 m.Accepted, .int .i64 m.Nonce, .int .i64 m.Time, .int .u64 m.Up, .int .i64 m.Code, .bool m.HasPlan, .int .i64 m.Plan.Epoch, .int .i64 m.Plan.Target, .int .i64 m.Plan.Prev, .int .i64 m.Plan.Spill, .int .i64 m.Plan.Percent, .int .i64 m.Plan.Stamp, .int .i64 m.Plan.Since, .int .i64 m.Plan.Ramped, .int .u64 m.Plan.Up, .int .u64 m.Plan.Sup, .sl false 1 (List.map (eInt .i64) m.Plan.Pen), .sl false 1 (List.map (eInt .i64) m.Plan.Changes), .sl false 1 (List.map (eInt .i64) m.ID), .sl false 1 (List.map (eInt .u8) m.Session), .sl false 1 (List.map (eInt .u8) m.Payload)], .int .i64 now] [some ⟨54, true, [([.int .i64 fence] ++ Plan.encL known ([.int .i64 hold.Epoch, .int .i64 hold.Nonce, .int .u64 hold.Grants, .int .i64 hold.Until, (grD 1 (List.map Entry.enc b1)), (grD 2 (List.map (eSl 1 (eInt .i64)) b2)), .int .i64 begun, .int .i64 filled] ++ Config.encL c [.int .i64 index, .ptr 3 0 0, .bool well]))]⟩, some ⟨3, false, (List.map Entry.enc b1)⟩, some ⟨1, false, (List.map (eSl 1 (eInt .i64)) b2)⟩, some ⟨4, true, [[(grD 4 (List.map (eInt .u8) b4)), (grD 5 (List.map (eInt .u8) b5)), .int .i64 fuse, .bool down]]⟩, some ⟨1, false, (List.map (eInt .u8) b4)⟩, some ⟨1, false, (List.map (eInt .u8) b5)⟩] (Rs (Target_Handle_e c index well) r) := so (fn := Tryd.f11) (k := true) (m := 6) h <| by
 intro r h; unfold Target_Handle at h
 refine zc 11 [] h (fun _ => msg_Right_ok) fun y1 h => ?_
 refine zs 3 h (fun h => ?_) fun h => ?_
 ·
  exact zg 25 (Target_Handle_1_ok h)
 refine zs 6 h (fun h => ?_) fun h => ?_
 ·
  exact zg 18 (Target_Handle_1_ok h)
 refine zs 6 h (fun h => ?_) fun h => ?_
 ·
  exact zg 11 (Target_Handle_1_ok h)
 refine zm 9 (b := (Nat.ble (0 + (List.map (eInt .u8) b4).length) ((List.map (eInt .u8) b4).length))) (ble_full _) ?_
 refine zm 0 (b := (Nat.ble (0 + (List.map (eInt .u8) b5).length) ((List.map (eInt .u8) b5).length))) (ble_full _) ?_
 refine zcE 0 [] (args1 := [.iptr 4 [[.sl false 1 (List.take ((List.map (eInt .u8) b4).length) (List.drop 0 (List.map (eInt .u8) b4))), .sl false 1 (List.take ((List.map (eInt .u8) b5).length) (List.drop 0 (List.map (eInt .u8) b5))), .int .i64 fuse, .bool down]] 0 0]) h (fun _ => Journal_Down_ok) ⟨by simp [List.take_of_length_le, List.map_take, List.map_drop], rfl⟩ fun y5 h => ?_
 exact zg 3 (Target_Handle_1_ok h)
end Go.RX.L

namespace Go.RX.L
open Go Go.RX Go.Proofs
attribute [local irreducible] FinQ
noncomputable def law13_Plain_e (y : Config) : D × Sto := (.agg (Config.enc y), [])
noncomputable def law13_Plain  : Option Config := (some (⟨1, 2, 2, 1, 3, [1, 0], 5, 3, 2, 2, 20, 20, 5, 10, 3, 50, 3, 1000, 1500, 700, 30, 20, 40, 5, 10, 5, 10, 4, 3, 5⟩ : Config))
theorem law13_Plain_ok  {r : Config} (h : law13_Plain = some r) : Sound E 25 [] [] (Rs law13_Plain_e r) := so (fn := Tryd.f25) (k := false) (m := 0) h <| by
 intro r h; unfold law13_Plain at h
 exact zu 15 h
end Go.RX.L

namespace Go.RX.L
open Go Go.RX Go.Proofs
attribute [local irreducible] FinQ
noncomputable def Target_Fence_e (fence : Int) (known : Plan) (hold : Hold) (begun filled : Int) (c : Config) (index : Int) (well : Bool) (b1 : List Entry) (b2 : List (List Int)) (fuse : Int) (down : Bool) (b4 b5 : List Int) (y : Unit) : D × Sto := (.int .i64 fence, [some ⟨54, true, [([.int .i64 fence] ++ Plan.encL known ([.int .i64 hold.Epoch, .int .i64 hold.Nonce, .int .u64 hold.Grants, .int .i64 hold.Until, (grD 1 (List.map Entry.enc b1)), (grD 2 (List.map (eSl 1 (eInt .i64)) b2)), .int .i64 begun, .int .i64 filled] ++ Config.encL c [.int .i64 index, .ptr 3 0 0, .bool well]))]⟩, some ⟨3, false, (List.map Entry.enc b1)⟩, some ⟨1, false, (List.map (eSl 1 (eInt .i64)) b2)⟩, some ⟨4, true, [[(grD 4 (List.map (eInt .u8) b4)), (grD 5 (List.map (eInt .u8) b5)), .int .i64 fuse, .bool down]]⟩, some ⟨1, false, (List.map (eInt .u8) b4)⟩, some ⟨1, false, (List.map (eInt .u8) b5)⟩])
noncomputable def Target_Fence (fence : Int) (known : Plan) (hold : Hold) (begun filled : Int) (c : Config) (index : Int) (well : Bool) (b1 : List Entry) (b2 : List (List Int)) (fuse : Int) (down : Bool) (b4 b5 : List Int) : Option Unit := (some ())
theorem Target_Fence_ok {fence : Int} {known : Plan} {hold : Hold} {begun filled : Int} {c : Config} {index : Int} {well : Bool} {b1 : List Entry} {b2 : List (List Int)} {fuse : Int} {down : Bool} {b4 b5 : List Int} {r : Unit} (h : Target_Fence fence known hold begun filled c index well b1 b2 fuse down b4 b5 = some r) : Sound E 26 [.ptr 0 0 0] [some ⟨54, true, [([.int .i64 fence] ++ Plan.encL known ([.int .i64 hold.Epoch, .int .i64 hold.Nonce, .int .u64 hold.Grants, .int .i64 hold.Until, (grD 1 (List.map Entry.enc b1)), (grD 2 (List.map (eSl 1 (eInt .i64)) b2)), .int .i64 begun, .int .i64 filled] ++ Config.encL c [.int .i64 index, .ptr 3 0 0, .bool well]))]⟩, some ⟨3, false, (List.map Entry.enc b1)⟩, some ⟨1, false, (List.map (eSl 1 (eInt .i64)) b2)⟩, some ⟨4, true, [[(grD 4 (List.map (eInt .u8) b4)), (grD 5 (List.map (eInt .u8) b5)), .int .i64 fuse, .bool down]]⟩, some ⟨1, false, (List.map (eInt .u8) b4)⟩, some ⟨1, false, (List.map (eInt .u8) b5)⟩] (Rs (Target_Fence_e fence known hold begun filled c index well b1 b2 fuse down b4 b5) r) := so (fn := Tryd.f26) (k := true) (m := 6) h <| by
 intro r h; unfold Target_Fence at h
 exact zu 15 h
end Go.RX.L

namespace Go.RX.L
open Go Go.RX Go.Proofs
attribute [local irreducible] FinQ
noncomputable def Target_Journal_e (fence : Int) (known : Plan) (hold : Hold) (begun filled : Int) (c : Config) (index : Int) (well : Bool) (b1 : List Entry) (b2 : List (List Int)) (fuse : Int) (down : Bool) (b4 b5 : List Int) (y : Unit) : D × Sto := (.ptr 3 0 0, [some ⟨54, true, [([.int .i64 fence] ++ Plan.encL known ([.int .i64 hold.Epoch, .int .i64 hold.Nonce, .int .u64 hold.Grants, .int .i64 hold.Until, (grD 1 (List.map Entry.enc b1)), (grD 2 (List.map (eSl 1 (eInt .i64)) b2)), .int .i64 begun, .int .i64 filled] ++ Config.encL c [.int .i64 index, .ptr 3 0 0, .bool well]))]⟩, some ⟨3, false, (List.map Entry.enc b1)⟩, some ⟨1, false, (List.map (eSl 1 (eInt .i64)) b2)⟩, some ⟨4, true, [[(grD 4 (List.map (eInt .u8) b4)), (grD 5 (List.map (eInt .u8) b5)), .int .i64 fuse, .bool down]]⟩, some ⟨1, false, (List.map (eInt .u8) b4)⟩, some ⟨1, false, (List.map (eInt .u8) b5)⟩])
noncomputable def Target_Journal (fence : Int) (known : Plan) (hold : Hold) (begun filled : Int) (c : Config) (index : Int) (well : Bool) (b1 : List Entry) (b2 : List (List Int)) (fuse : Int) (down : Bool) (b4 b5 : List Int) : Option Unit := (some ())
theorem Target_Journal_ok {fence : Int} {known : Plan} {hold : Hold} {begun filled : Int} {c : Config} {index : Int} {well : Bool} {b1 : List Entry} {b2 : List (List Int)} {fuse : Int} {down : Bool} {b4 b5 : List Int} {r : Unit} (h : Target_Journal fence known hold begun filled c index well b1 b2 fuse down b4 b5 = some r) : Sound E 12 [.ptr 0 0 0] [some ⟨54, true, [([.int .i64 fence] ++ Plan.encL known ([.int .i64 hold.Epoch, .int .i64 hold.Nonce, .int .u64 hold.Grants, .int .i64 hold.Until, (grD 1 (List.map Entry.enc b1)), (grD 2 (List.map (eSl 1 (eInt .i64)) b2)), .int .i64 begun, .int .i64 filled] ++ Config.encL c [.int .i64 index, .ptr 3 0 0, .bool well]))]⟩, some ⟨3, false, (List.map Entry.enc b1)⟩, some ⟨1, false, (List.map (eSl 1 (eInt .i64)) b2)⟩, some ⟨4, true, [[(grD 4 (List.map (eInt .u8) b4)), (grD 5 (List.map (eInt .u8) b5)), .int .i64 fuse, .bool down]]⟩, some ⟨1, false, (List.map (eInt .u8) b4)⟩, some ⟨1, false, (List.map (eInt .u8) b5)⟩] (Rs (Target_Journal_e fence known hold begun filled c index well b1 b2 fuse down b4 b5) r) := so (fn := Tryd.f12) (k := true) (m := 6) h <| by
 intro r h; unfold Target_Journal at h
 exact zu 14 h
end Go.RX.L

namespace Go.RX.L
open Go Go.RX Go.Proofs
attribute [local irreducible] FinQ
noncomputable def law18_head_c := codeAt (bodyOf Tryd.f8)
noncomputable def law18_head_e (y : Bool) : D × Sto := (.bool y, [])
abbrev law18_head_W := AOk E (Cx.of Tryd.f8 false 0) law18_head_e
noncomputable def law18_head_3M  : M := ⟨[.code (law18_head_c [1, 1, 1, 0, 1]), .code (law18_head_c [1, 1, 1, 1])], [(2, .nilp), (19, .bool true)], []⟩
noncomputable def law18_head_3  : Option Bool := (some false)
theorem law18_head_3_ok : law18_head_W law18_head_3M (law18_head_3) := by
 intro r h; unfold law18_head_3 at h
 exact zu 7 h
noncomputable def law18_head_1M (c : Config) : M := ⟨[.code (law18_head_c [1, 1, 1])], [(1, .ptr 0 0 0), (2, .nilp)], [some ⟨30, false, [(Config.enc c)]⟩]⟩
noncomputable def law18_head_1 (c : Config) : Option Bool := (law18_head_3)
theorem law18_head_1_ok {c} : law18_head_W (law18_head_1M c) (law18_head_1 c) := by
 intro r h; unfold law18_head_1 at h
 exact zg 24 (law18_head_3_ok h)
noncomputable def law18_head_4M (t19 : Bool) (fence : Int) (known : Plan) (hold : Hold) (begun filled : Int) (c : Config) (index : Int) (well : Bool) (b1 : List Entry) (b2 : List (List Int)) (fuse : Int) (down : Bool) (b4 b5 : List Int) : M := ⟨[.code (law18_head_c [1, 1, 1, 0, 1]), .code (law18_head_c [1, 1, 1, 1])], [(2, .ptr 0 0 0), (19, .bool t19)], [some ⟨54, true, [([.int .i64 fence] ++ Plan.encL known ([.int .i64 hold.Epoch, .int .i64 hold.Nonce, .int .u64 hold.Grants, .int .i64 hold.Until, (grD 1 (List.map Entry.enc b1)), (grD 2 (List.map (eSl 1 (eInt .i64)) b2)), .int .i64 begun, .int .i64 filled] ++ Config.encL c [.int .i64 index, .ptr 3 0 0, .bool well]))]⟩, some ⟨3, false, (List.map Entry.enc b1)⟩, some ⟨1, false, (List.map (eSl 1 (eInt .i64)) b2)⟩, some ⟨4, true, [[(grD 4 (List.map (eInt .u8) b4)), (grD 5 (List.map (eInt .u8) b5)), .int .i64 fuse, .bool down]]⟩, some ⟨1, false, (List.map (eInt .u8) b4)⟩, some ⟨1, false, (List.map (eInt .u8) b5)⟩]⟩
noncomputable def law18_head_4 (t19 : Bool) (fence : Int) (known : Plan) (hold : Hold) (begun filled : Int) (c : Config) (index : Int) (well : Bool) (b1 : List Entry) (b2 : List (List Int)) (fuse : Int) (down : Bool) (b4 b5 : List Int) : Option Bool := (bif t19 then (some false) else ((Target_Handle (⟨12, 3, 0, 2, 0, 0, 0, 0, 0, 0, false, (⟨0, 0, 0, 0, 0, 0, 0, 0, 0, 0, [], []⟩ : Plan), [], [], []⟩ : Msg) 5 fence known hold begun filled c index well b1 b2 fuse down b4 b5).bind fun y2 => ((Target_Handle (⟨1, 9, 0, 0, 0, 0, 4, 0, 0, 0, false, (⟨0, 0, 0, 0, 0, 0, 0, 0, 0, 0, [], []⟩ : Plan), [], [], []⟩ : Msg) 5 y2.2.1 y2.2.2.1 y2.2.2.2.1 y2.2.2.2.2.1 y2.2.2.2.2.2.1 c index well y2.2.2.2.2.2.2.2.2.1 y2.2.2.2.2.2.2.2.2.2.1 y2.2.2.2.2.2.2.1 y2.2.2.2.2.2.2.2.1 y2.2.2.2.2.2.2.2.2.2.2.1 y2.2.2.2.2.2.2.2.2.2.2.2).bind fun y3 => (bif (((((List.map Msg.enc y2.1).length : Nat) : Int) : Int) == 1) then (bif (decide ((0 : Int) < (((List.map Msg.enc y2.1).length : Nat) : Int))) then (((y2.1)[0]?).bind fun y6 => (bif ((y6.Kind : Int) == 13) then (bif (decide ((0 : Int) < (((List.map Msg.enc y2.1).length : Nat) : Int))) then (((y2.1)[0]?).bind fun y10 => (bif ((y10.To : Int) == 3) then ((Target_Fence y3.2.1 y3.2.2.1 y3.2.2.2.1 y3.2.2.2.2.1 y3.2.2.2.2.2.1 c index well y3.2.2.2.2.2.2.2.2.1 y3.2.2.2.2.2.2.2.2.2.1 y3.2.2.2.2.2.2.1 y3.2.2.2.2.2.2.2.1 y3.2.2.2.2.2.2.2.2.2.2.1 y3.2.2.2.2.2.2.2.2.2.2.2).bind fun y13 => (bif ((y3.2.1 : Int) == 2) then (bif (((((List.map Msg.enc y3.1).length : Nat) : Int) : Int) == 1) then (bif (decide ((0 : Int) < (((List.map Msg.enc y3.1).length : Nat) : Int))) then (((y3.1)[0]?).bind fun y17 => (some ((y17.Nonce : Int) == 4))) else none) else (some false)) else (some false))) else (some false))) else none) else (some false))) else none) else (some false)))))
theorem law18_head_4_ok {t19 fence known hold begun filled c index well b1 b2 fuse down b4 b5} : law18_head_W (law18_head_4M t19 fence known hold begun filled c index well b1 b2 fuse down b4 b5) (law18_head_4 t19 fence known hold begun filled c index well b1 b2 fuse down b4 b5) := by
 intro r h; unfold law18_head_4 at h
 refine zs 1 h (fun h => ?_) fun h => ?_
 ·
  exact zu 5 h
 refine adv_ok hm 6 _ ?_
 have ok2 := fun (y : (List Msg) × Int × Plan × Hold × Int × Int × Int × Bool × (List Entry) × (List (List Int)) × (List Int) × (List Int)) (hy : Target_Handle (⟨12, 3, 0, 2, 0, 0, 0, 0, 0, 0, false, (⟨0, 0, 0, 0, 0, 0, 0, 0, 0, 0, [], []⟩ : Plan), [], [], []⟩ : Msg) 5 fence known hold begun filled c index well b1 b2 fuse down b4 b5 = some y) => @Eq.mp (Sound E 11 [.ptr 0 0 0, .agg [.int .i64 12, .int .i64 3, .int .i64 0, .int .i64 2, .int .i64 0, .int .i64 0, .int .i64 0, .int .i64 0, .int .u64 0, .int .i64 0, .bool false, .int .i64 0, .int .i64 0, .int .i64 0, .int .i64 0, .int .i64 0, .int .i64 0, .int .i64 0, .int .i64 0, .int .u64 0, .int .u64 0, .sl false 1 (List.map (eInt .i64) ([])), .sl false 1 (List.map (eInt .i64) ([])), .sl false 1 (List.map (eInt .i64) ([])), .sl false 1 (List.map (eInt .u8) ([])), .sl false 1 (List.map (eInt .u8) ([]))], .int .i64 5] [some ⟨54, true, [([.int .i64 fence] ++ Plan.encL known ([.int .i64 hold.Epoch, .int .i64 hold.Nonce, .int .u64 hold.Grants, .int .i64 hold.Until, (grD 1 (List.map Entry.enc b1)), (grD 2 (List.map (eSl 1 (eInt .i64)) b2)), .int .i64 begun, .int .i64 filled] ++ Config.encL c [.int .i64 index, .ptr 3 0 0, .bool well]))]⟩, some ⟨3, false, (List.map Entry.enc b1)⟩, some ⟨1, false, (List.map (eSl 1 (eInt .i64)) b2)⟩, some ⟨4, true, [[(grD 4 (List.map (eInt .u8) b4)), (grD 5 (List.map (eInt .u8) b5)), .int .i64 fuse, .bool down]]⟩, some ⟨1, false, (List.map (eInt .u8) b4)⟩, some ⟨1, false, (List.map (eInt .u8) b5)⟩] (Rs (Target_Handle_e c index well) y)) (Sound E 11 [.ptr 0 0 0, .agg [.int .i64 12, .int .i64 3, .int .i64 0, .int .i64 2, .int .i64 0, .int .i64 0, .int .i64 0, .int .i64 0, .int .u64 0, .int .i64 0, .bool false, .int .i64 0, .int .i64 0, .int .i64 0, .int .i64 0, .int .i64 0, .int .i64 0, .int .i64 0, .int .i64 0, .int .u64 0, .int .u64 0, .sl false 1 [], .sl false 1 [], .sl false 1 [], .sl false 1 [], .sl false 1 []], .int .i64 5] [some ⟨54, true, [([.int .i64 fence] ++ Plan.encL known ([.int .i64 hold.Epoch, .int .i64 hold.Nonce, .int .u64 hold.Grants, .int .i64 hold.Until, (grD 1 (List.map Entry.enc b1)), (grD 2 (List.map (eSl 1 (eInt .i64)) b2)), .int .i64 begun, .int .i64 filled] ++ Config.encL c [.int .i64 index, .ptr 3 0 0, .bool well]))]⟩, some ⟨3, false, (List.map Entry.enc b1)⟩, some ⟨1, false, (List.map (eSl 1 (eInt .i64)) b2)⟩, some ⟨4, true, [[(grD 4 (List.map (eInt .u8) b4)), (grD 5 (List.map (eInt .u8) b5)), .int .i64 fuse, .bool down]]⟩, some ⟨1, false, (List.map (eInt .u8) b4)⟩, some ⟨1, false, (List.map (eInt .u8) b5)⟩] (Rs (Target_Handle_e c index well) y)) (by kernel_rfl) (Target_Handle_ok hy)
 refine zc 0 [some 1, some 1, some 1, some 1, some 1] h ok2 fun y2 h => ?_
 refine adv_ok hm 7 _ ?_
 have ok3 := fun (y : (List Msg) × Int × Plan × Hold × Int × Int × Int × Bool × (List Entry) × (List (List Int)) × (List Int) × (List Int)) (hy : Target_Handle (⟨1, 9, 0, 0, 0, 0, 4, 0, 0, 0, false, (⟨0, 0, 0, 0, 0, 0, 0, 0, 0, 0, [], []⟩ : Plan), [], [], []⟩ : Msg) 5 y2.2.1 y2.2.2.1 y2.2.2.2.1 y2.2.2.2.2.1 y2.2.2.2.2.2.1 c index well y2.2.2.2.2.2.2.2.2.1 y2.2.2.2.2.2.2.2.2.2.1 y2.2.2.2.2.2.2.1 y2.2.2.2.2.2.2.2.1 y2.2.2.2.2.2.2.2.2.2.2.1 y2.2.2.2.2.2.2.2.2.2.2.2 = some y) => @Eq.mp (Sound E 11 [.ptr 0 0 0, .agg [.int .i64 1, .int .i64 9, .int .i64 0, .int .i64 0, .int .i64 0, .int .i64 0, .int .i64 4, .int .i64 0, .int .u64 0, .int .i64 0, .bool false, .int .i64 0, .int .i64 0, .int .i64 0, .int .i64 0, .int .i64 0, .int .i64 0, .int .i64 0, .int .i64 0, .int .u64 0, .int .u64 0, .sl false 1 (List.map (eInt .i64) ([])), .sl false 1 (List.map (eInt .i64) ([])), .sl false 1 (List.map (eInt .i64) ([])), .sl false 1 (List.map (eInt .u8) ([])), .sl false 1 (List.map (eInt .u8) ([]))], .int .i64 5] [some ⟨54, true, [([.int .i64 y2.2.1, .int .i64 y2.2.2.1.Epoch, .int .i64 y2.2.2.1.Target, .int .i64 y2.2.2.1.Prev, .int .i64 y2.2.2.1.Spill, .int .i64 y2.2.2.1.Percent, .int .i64 y2.2.2.1.Stamp, .int .i64 y2.2.2.1.Since, .int .i64 y2.2.2.1.Ramped, .int .u64 y2.2.2.1.Up, .int .u64 y2.2.2.1.Sup, .sl false 1 (List.map (eInt .i64) y2.2.2.1.Pen), .sl false 1 (List.map (eInt .i64) y2.2.2.1.Changes), .int .i64 y2.2.2.2.1.Epoch, .int .i64 y2.2.2.2.1.Nonce, .int .u64 y2.2.2.2.1.Grants, .int .i64 y2.2.2.2.1.Until, (grD 1 (List.map Entry.enc y2.2.2.2.2.2.2.2.2.1)), (grD 2 (List.map (eSl 1 (eInt .i64)) y2.2.2.2.2.2.2.2.2.2.1)), .int .i64 y2.2.2.2.2.1, .int .i64 y2.2.2.2.2.2.1] ++ Config.encL c [.int .i64 index, .ptr 3 0 0, .bool well])]⟩, some ⟨3, false, (List.map Entry.enc y2.2.2.2.2.2.2.2.2.1)⟩, some ⟨1, false, (List.map (eSl 1 (eInt .i64)) y2.2.2.2.2.2.2.2.2.2.1)⟩, some ⟨4, true, [[(grD 4 (List.map (eInt .u8) y2.2.2.2.2.2.2.2.2.2.2.1)), (grD 5 (List.map (eInt .u8) y2.2.2.2.2.2.2.2.2.2.2.2)), .int .i64 y2.2.2.2.2.2.2.1, .bool y2.2.2.2.2.2.2.2.1]]⟩, some ⟨1, false, (List.map (eInt .u8) y2.2.2.2.2.2.2.2.2.2.2.1)⟩, some ⟨1, false, (List.map (eInt .u8) y2.2.2.2.2.2.2.2.2.2.2.2)⟩] (Rs (Target_Handle_e c index well) y)) (Sound E 11 [.ptr 0 0 0, .agg [.int .i64 1, .int .i64 9, .int .i64 0, .int .i64 0, .int .i64 0, .int .i64 0, .int .i64 4, .int .i64 0, .int .u64 0, .int .i64 0, .bool false, .int .i64 0, .int .i64 0, .int .i64 0, .int .i64 0, .int .i64 0, .int .i64 0, .int .i64 0, .int .i64 0, .int .u64 0, .int .u64 0, .sl false 1 [], .sl false 1 [], .sl false 1 [], .sl false 1 [], .sl false 1 []], .int .i64 5] [some ⟨54, true, [([.int .i64 y2.2.1, .int .i64 y2.2.2.1.Epoch, .int .i64 y2.2.2.1.Target, .int .i64 y2.2.2.1.Prev, .int .i64 y2.2.2.1.Spill, .int .i64 y2.2.2.1.Percent, .int .i64 y2.2.2.1.Stamp, .int .i64 y2.2.2.1.Since, .int .i64 y2.2.2.1.Ramped, .int .u64 y2.2.2.1.Up, .int .u64 y2.2.2.1.Sup, .sl false 1 (List.map (eInt .i64) y2.2.2.1.Pen), .sl false 1 (List.map (eInt .i64) y2.2.2.1.Changes), .int .i64 y2.2.2.2.1.Epoch, .int .i64 y2.2.2.2.1.Nonce, .int .u64 y2.2.2.2.1.Grants, .int .i64 y2.2.2.2.1.Until, (grD 1 (List.map Entry.enc y2.2.2.2.2.2.2.2.2.1)), (grD 2 (List.map (eSl 1 (eInt .i64)) y2.2.2.2.2.2.2.2.2.2.1)), .int .i64 y2.2.2.2.2.1, .int .i64 y2.2.2.2.2.2.1] ++ Config.encL c [.int .i64 index, .ptr 3 0 0, .bool well])]⟩, some ⟨3, false, (List.map Entry.enc y2.2.2.2.2.2.2.2.2.1)⟩, some ⟨1, false, (List.map (eSl 1 (eInt .i64)) y2.2.2.2.2.2.2.2.2.2.1)⟩, some ⟨4, true, [[(grD 4 (List.map (eInt .u8) y2.2.2.2.2.2.2.2.2.2.2.1)), (grD 5 (List.map (eInt .u8) y2.2.2.2.2.2.2.2.2.2.2.2)), .int .i64 y2.2.2.2.2.2.2.1, .bool y2.2.2.2.2.2.2.2.1]]⟩, some ⟨1, false, (List.map (eInt .u8) y2.2.2.2.2.2.2.2.2.2.2.1)⟩, some ⟨1, false, (List.map (eInt .u8) y2.2.2.2.2.2.2.2.2.2.2.2)⟩] (Rs (Target_Handle_e c index well) y)) (by kernel_rfl) (Target_Handle_ok hy)
 refine zc 0 [some 1, some 1, some 1, some 1, some 1] h ok3 fun y3 h => ?_
 refine zs 9 h (fun h => ?_) fun h => ?_
 ·
  refine zn 2 h fun h => ?_
  refine zr 4 Msg.enc h fun y6 h => ?_
  refine zs 6 h (fun h => ?_) fun h => ?_
  ·
   refine zn 2 h fun h => ?_
   refine zr 4 Msg.enc h fun y10 h => ?_
   refine zs 6 h (fun h => ?_) fun h => ?_
   ·
    refine adv_ok hm 2 _ ?_
    have ok13 := fun (y : Unit) (hy : Target_Fence y3.2.1 y3.2.2.1 y3.2.2.2.1 y3.2.2.2.2.1 y3.2.2.2.2.2.1 c index well y3.2.2.2.2.2.2.2.2.1 y3.2.2.2.2.2.2.2.2.2.1 y3.2.2.2.2.2.2.1 y3.2.2.2.2.2.2.2.1 y3.2.2.2.2.2.2.2.2.2.2.1 y3.2.2.2.2.2.2.2.2.2.2.2 = some y) => @Eq.mp (Sound E 26 [.ptr 0 0 0] [some ⟨54, true, [([.int .i64 y3.2.1, .int .i64 y3.2.2.1.Epoch, .int .i64 y3.2.2.1.Target, .int .i64 y3.2.2.1.Prev, .int .i64 y3.2.2.1.Spill, .int .i64 y3.2.2.1.Percent, .int .i64 y3.2.2.1.Stamp, .int .i64 y3.2.2.1.Since, .int .i64 y3.2.2.1.Ramped, .int .u64 y3.2.2.1.Up, .int .u64 y3.2.2.1.Sup, .sl false 1 (List.map (eInt .i64) y3.2.2.1.Pen), .sl false 1 (List.map (eInt .i64) y3.2.2.1.Changes), .int .i64 y3.2.2.2.1.Epoch, .int .i64 y3.2.2.2.1.Nonce, .int .u64 y3.2.2.2.1.Grants, .int .i64 y3.2.2.2.1.Until, (grD 1 (List.map Entry.enc y3.2.2.2.2.2.2.2.2.1)), (grD 2 (List.map (eSl 1 (eInt .i64)) y3.2.2.2.2.2.2.2.2.2.1)), .int .i64 y3.2.2.2.2.1, .int .i64 y3.2.2.2.2.2.1] ++ Config.encL c [.int .i64 index, .ptr 3 0 0, .bool well])]⟩, some ⟨3, false, (List.map Entry.enc y3.2.2.2.2.2.2.2.2.1)⟩, some ⟨1, false, (List.map (eSl 1 (eInt .i64)) y3.2.2.2.2.2.2.2.2.2.1)⟩, some ⟨4, true, [[(grD 4 (List.map (eInt .u8) y3.2.2.2.2.2.2.2.2.2.2.1)), (grD 5 (List.map (eInt .u8) y3.2.2.2.2.2.2.2.2.2.2.2)), .int .i64 y3.2.2.2.2.2.2.1, .bool y3.2.2.2.2.2.2.2.1]]⟩, some ⟨1, false, (List.map (eInt .u8) y3.2.2.2.2.2.2.2.2.2.2.1)⟩, some ⟨1, false, (List.map (eInt .u8) y3.2.2.2.2.2.2.2.2.2.2.2)⟩] (Rs (Target_Fence_e y3.2.1 y3.2.2.1 y3.2.2.2.1 y3.2.2.2.2.1 y3.2.2.2.2.2.1 c index well y3.2.2.2.2.2.2.2.2.1 y3.2.2.2.2.2.2.2.2.2.1 y3.2.2.2.2.2.2.1 y3.2.2.2.2.2.2.2.1 y3.2.2.2.2.2.2.2.2.2.2.1 y3.2.2.2.2.2.2.2.2.2.2.2) y)) (Sound E 26 [.ptr 0 0 0] [some ⟨54, true, [([.int .i64 y3.2.1, .int .i64 y3.2.2.1.Epoch, .int .i64 y3.2.2.1.Target, .int .i64 y3.2.2.1.Prev, .int .i64 y3.2.2.1.Spill, .int .i64 y3.2.2.1.Percent, .int .i64 y3.2.2.1.Stamp, .int .i64 y3.2.2.1.Since, .int .i64 y3.2.2.1.Ramped, .int .u64 y3.2.2.1.Up, .int .u64 y3.2.2.1.Sup, .sl false 1 (List.map (eInt .i64) y3.2.2.1.Pen), .sl false 1 (List.map (eInt .i64) y3.2.2.1.Changes), .int .i64 y3.2.2.2.1.Epoch, .int .i64 y3.2.2.2.1.Nonce, .int .u64 y3.2.2.2.1.Grants, .int .i64 y3.2.2.2.1.Until, (grD 1 (List.map Entry.enc y3.2.2.2.2.2.2.2.2.1)), (grD 2 (List.map (eSl 1 (eInt .i64)) y3.2.2.2.2.2.2.2.2.2.1)), .int .i64 y3.2.2.2.2.1, .int .i64 y3.2.2.2.2.2.1] ++ Config.encL c [.int .i64 index, .ptr 3 0 0, .bool well])]⟩, some ⟨3, false, (List.map Entry.enc y3.2.2.2.2.2.2.2.2.1)⟩, some ⟨1, false, (List.map (eSl 1 (eInt .i64)) y3.2.2.2.2.2.2.2.2.2.1)⟩, some ⟨4, true, [[(grD 4 (List.map (eInt .u8) y3.2.2.2.2.2.2.2.2.2.2.1)), (grD 5 (List.map (eInt .u8) y3.2.2.2.2.2.2.2.2.2.2.2)), .int .i64 y3.2.2.2.2.2.2.1, .bool y3.2.2.2.2.2.2.2.1]]⟩, some ⟨1, false, (List.map (eInt .u8) y3.2.2.2.2.2.2.2.2.2.2.1)⟩, some ⟨1, false, (List.map (eInt .u8) y3.2.2.2.2.2.2.2.2.2.2.2)⟩] (Rs (Target_Fence_e y3.2.1 y3.2.2.1 y3.2.2.2.1 y3.2.2.2.2.1 y3.2.2.2.2.2.1 c index well y3.2.2.2.2.2.2.2.2.1 y3.2.2.2.2.2.2.2.2.2.1 y3.2.2.2.2.2.2.1 y3.2.2.2.2.2.2.2.1 y3.2.2.2.2.2.2.2.2.2.2.1 y3.2.2.2.2.2.2.2.2.2.2.2) y)) (by kernel_rfl) (Target_Fence_ok hy)
    refine zc 0 [] h ok13 fun y13 h => ?_
    refine zs 6 h (fun h => ?_) fun h => ?_
    ·
     refine zs 8 h (fun h => ?_) fun h => ?_
     ·
      refine zn 2 h fun h => ?_
      refine zr 4 Msg.enc h fun y17 h => ?_
      exact zu 7 h
     exact zu 13 h
    exact zu 22 h
   exact zu 31 h
  exact zu 44 h
 exact zu 57 h
noncomputable def law18_head_2M (c : Config) (fence : Int) (known : Plan) (hold : Hold) (begun filled : Int) (c2 : Config) (index : Int) (well : Bool) (b2 : List Entry) (b3 : List (List Int)) (fuse : Int) (down : Bool) (b5 b6 : List Int) : M := ⟨[.code (law18_head_c [1, 1, 1])], [(1, .ptr 0 0 0), (2, .ptr 1 0 0)], [some ⟨30, false, [(Config.enc c)]⟩, some ⟨54, true, [([.int .i64 fence] ++ Plan.encL known ([.int .i64 hold.Epoch, .int .i64 hold.Nonce, .int .u64 hold.Grants, .int .i64 hold.Until, (grD 2 (List.map Entry.enc b2)), (grD 3 (List.map (eSl 1 (eInt .i64)) b3)), .int .i64 begun, .int .i64 filled] ++ Config.encL c2 [.int .i64 index, .ptr 4 0 0, .bool well]))]⟩, some ⟨3, false, (List.map Entry.enc b2)⟩, some ⟨1, false, (List.map (eSl 1 (eInt .i64)) b3)⟩, some ⟨4, true, [[(grD 5 (List.map (eInt .u8) b5)), (grD 6 (List.map (eInt .u8) b6)), .int .i64 fuse, .bool down]]⟩, some ⟨1, false, (List.map (eInt .u8) b5)⟩, some ⟨1, false, (List.map (eInt .u8) b6)⟩]⟩
noncomputable def law18_head_2 (c : Config) (fence : Int) (known : Plan) (hold : Hold) (begun filled : Int) (c2 : Config) (index : Int) (well : Bool) (b2 : List Entry) (b3 : List (List Int)) (fuse : Int) (down : Bool) (b5 b6 : List Int) : Option Bool := ((fence_New c 2).bind fun y1 => match y1 with | .r0 => ((Target_Journal fence known hold begun filled c2 index well b2 b3 fuse down b5 b6).bind fun y2 => (law18_head_4 false fence known hold begun filled c2 index well b2 b3 fuse down b5 b6)) | .r1 y1a0 y1a1 y1a2 y1a3 y1a4 y1a5 y1a6 y1a7 y1a8 y1a9 y1a10 y1a11 => (law18_head_4 true fence known hold begun filled c2 index well b2 b3 fuse down b5 b6))
theorem law18_head_2_ok {c fence known hold begun filled c2 index well b2 b3 fuse down b5 b6} : law18_head_W (law18_head_2M c fence known hold begun filled c2 index well b2 b3 fuse down b5 b6) (law18_head_2 c fence known hold begun filled c2 index well b2 b3 fuse down b5 b6) := by
 intro r h; unfold law18_head_2 at h
 refine zc 11 [] h (fun _ => fence_New_ok) fun y1 h => ?_
 cases y1 with
 | r0 =>
  dsimp only at h
  refine adv_ok hm 9 _ ?_
  have ok2 := fun (y : Unit) (hy : Target_Journal fence known hold begun filled c2 index well b2 b3 fuse down b5 b6 = some y) => @Eq.mp (Sound E 12 [.ptr 0 0 0] [some ⟨54, true, [([.int .i64 fence] ++ Plan.encL known ([.int .i64 hold.Epoch, .int .i64 hold.Nonce, .int .u64 hold.Grants, .int .i64 hold.Until, (grD 1 (List.map Entry.enc b2)), (grD 2 (List.map (eSl 1 (eInt .i64)) b3)), .int .i64 begun, .int .i64 filled] ++ Config.encL c2 [.int .i64 index, .ptr 3 0 0, .bool well]))]⟩, some ⟨3, false, (List.map Entry.enc b2)⟩, some ⟨1, false, (List.map (eSl 1 (eInt .i64)) b3)⟩, some ⟨4, true, [[(grD 4 (List.map (eInt .u8) b5)), (grD 5 (List.map (eInt .u8) b6)), .int .i64 fuse, .bool down]]⟩, some ⟨1, false, (List.map (eInt .u8) b5)⟩, some ⟨1, false, (List.map (eInt .u8) b6)⟩] (Rs (Target_Journal_e fence known hold begun filled c2 index well b2 b3 fuse down b5 b6) y)) (Sound E 12 [.ptr 0 0 0] [some ⟨54, true, [([.int .i64 fence] ++ Plan.encL known ([.int .i64 hold.Epoch, .int .i64 hold.Nonce, .int .u64 hold.Grants, .int .i64 hold.Until, (grD 1 (List.map Entry.enc b2)), (grD 2 (List.map (eSl 1 (eInt .i64)) b3)), .int .i64 begun, .int .i64 filled] ++ Config.encL c2 [.int .i64 index, .ptr 3 0 0, .bool well]))]⟩, some ⟨3, false, (List.map Entry.enc b2)⟩, some ⟨1, false, (List.map (eSl 1 (eInt .i64)) b3)⟩, some ⟨4, true, [[(grD 4 (List.map (eInt .u8) b5)), (grD 5 (List.map (eInt .u8) b6)), .int .i64 fuse, .bool down]]⟩, some ⟨1, false, (List.map (eInt .u8) b5)⟩, some ⟨1, false, (List.map (eInt .u8) b6)⟩] (Rs (Target_Journal_e fence known hold begun filled c2 index well b2 b3 fuse down b5 b6) y)) (by kernel_rfl) (Target_Journal_ok hy)
  refine zc 0 [] h ok2 fun y2 h => ?_
  exact zg 5 (law18_head_4_ok h)
 | r1 y1a0 y1a1 y1a2 y1a3 y1a4 y1a5 y1a6 y1a7 y1a8 y1a9 y1a10 y1a11 =>
  dsimp only at h
  exact zg 14 (law18_head_4_ok h)
noncomputable def law18_head  : Option Bool := ((law13_Plain ).bind fun y1 => ((fence_New y1 1).bind fun y2 => match y2 with | .r0 => (law18_head_1 y1) | .r1 y2a0 y2a1 y2a2 y2a3 y2a4 y2a5 y2a6 y2a7 y2a8 y2a9 y2a10 y2a11 => (law18_head_2 y1 y2a0 y2a1 y2a2 y2a3 y2a4 y1 1 y2a5 y2a6 y2a7 y2a8 y2a9 y2a10 y2a11)))
theorem law18_head_ok  {r : Bool} (h : law18_head = some r) : Sound E 8 [] [] (Rs law18_head_e r) := so (fn := Tryd.f8) (k := false) (m := 0) h <| by
 intro r h; unfold law18_head at h
 refine zc 7 [] h (fun _ => law13_Plain_ok) fun y1 h => ?_
 refine zc 10 [] h (fun _ => fence_New_ok) fun y2 h => ?_
 cases y2 with
 | r0 =>
  dsimp only at h
  exact zg 2 (law18_head_1_ok h)
 | r1 y2a0 y2a1 y2a2 y2a3 y2a4 y2a5 y2a6 y2a7 y2a8 y2a9 y2a10 y2a11 =>
  dsimp only at h
  exact zg 2 (law18_head_2_ok h)
end Go.RX.L

namespace Go.RX.L
open Go Go.RX
theorem beqF {a b : Int} (h : ¬ a = b) : (a == b) = false := beq_eq_false_iff_ne.2 h
theorem bneT {a b : Int} (h : ¬ a = b) : (a != b) = true := bne_iff_ne.2 h
def takeT (m : Msg) (f : Int) (l : List Entry) (cl : List (List Int)) : Int × List Entry × List (List Int) :=
  if m.Kind = 19 then (mxI f m.Epoch, l, cl)
  else if m.Kind = 14 then (mxI f m.Epoch, l ++ [⟨m.ID, m.Epoch, m.Payload⟩], cl)
  else if m.Kind = 18 then (f, l, cl ++ [m.ID])
  else (f, l, cl)
theorem txt_in {m : Msg} (h : rightM m = true) : txM m := by
  simp only [rightM, Bool.and_eq_true, decide_eq_true_eq] at h; exact h.2.1
theorem clone_ok {b : List Int} (h : b.length ≤ 10000000) : bytes_Clone b = some b := by
  have : decide ((0 + b.length) * 1 ≤ bytesLim) = true := limOk (by omega)
  simp only [bytes_Clone, List.length_map, this, cond_true]
theorem sclone_ok {b : List Int} (h : b.length ≤ 1000000) : slices_Clone b = some b := by
  have : decide ((0 + b.length) * 8 ≤ bytesLim) = true := limOk (by omega)
  simp only [slices_Clone, List.length_map, this, cond_true]
section
variable {fence : Int} {known : Plan} {hold : Hold} {begun filled : Int} {c : Config} {index : Int} {well : Bool} {l : List Entry} {cl : List (List Int)} {fuse : Int} {down : Bool} {s t : List Int}
theorem take_ok {m : Msg} (hm : rightM m = true) (hl : l.length ≤ 100000) (hc : cl.length ≤ 100000) : Target_take m fence known hold begun filled c index well l cl fuse down s t = some (takeT m fence l cl) := by
  have tx := txt_in hm
  unfold txM at tx
  have e1 := sclone_ok (b := m.ID) (by omega)
  have e2 := clone_ok (b := m.Payload) (by omega)
  have e3 : decide ((l.length + 1) * 56 ≤ bytesLim) = true := limOk (by omega)
  have e4 : decide ((cl.length + 1) * 24 ≤ bytesLim) = true := limOk (by omega)
  unfold Target_take takeT
  by_cases h1 : m.Kind = 19
  · simp [h1]
  by_cases h2 : m.Kind = 14
  · simp [h2, e1, e2, e3]
  by_cases h3 : m.Kind = 18
  · simp [h3, e1, e4]
  · simp [h1, h2, h3, beqF h1, beqF h2, beqF h3]
theorem remember_ok {r : Msg} (hr : okRec r) (hf : okFuse fuse) (hs : s.length ≤ 10000000) (hl : l.length ≤ 100000) (hc : cl.length ≤ 100000) :
    Target_remember__take r fence known hold begun filled c index well l cl fuse false s [] = some (match eff fuse false with
      | none => (false, fence, fd fuse false, true, l, cl, s, [])
      | some f => (match eff f false with
        | none => (false, fence, fd f false, true, l, cl, s, log [r])
        | some g => (true, (takeT r fence l cl).1, g, false, (takeT r fence l cl).2.1, (takeT r fence l cl).2.2, s ++ log [r], []))) := by
  have hb : msg_Body r = some (r.Kind, encB r, 0) := by rw [body_ok hr.1, bodyM, if_pos hr.2]
  obtain ⟨h1, h2, h3⟩ := hr.fr
  have ha := jappend (k := r.Kind) (body := encB r) h1 h2 h3 hf (down := false) (s := s) (t := []) (by simp)
  have hl' : (log [r]).length ≤ 9000 := by rw [log_one, encF_len]; have h3' : (encB r).length ≤ 8192 := h3; omega
  simp only [Target_remember__take, hb, Option.bind_some, bne_self_eq_false, cond_false, ha]
  cases he : eff fuse false with
  | none => simp [Target_remember__take_1]
  | some f =>
    have hf2 := eff_fuse hf he
    have hy := jsync (fuse := f) hf2 (down := false) (s := s) (t := log [r]) (by omega)
    simp only [List.nil_append, bne_self_eq_false, cond_false, ← log_one, hy, Option.bind_some]
    cases hg : eff f false with
    | none => simp [Target_remember__take_1]
    | some g => simp [Target_remember__take_1, take_ok hr.2 hl hc]
end
def nodeT (c : Config) (i : Int) : Int := 2 * c.F_ + 1 + c.Deciders + i
theorem rightC_n {c : Config} (h : rightC c = true) : (0 ≤ c.F_ ∧ c.F_ ≤ 3) ∧ (1 ≤ c.Deciders ∧ c.Deciders ≤ 4) ∧ (1 ≤ c.Targets ∧ c.Targets ≤ 16) := by
  have h1 := (rightC_b h).1
  simp only [rightC, Bool.and_eq_true, btw_iff, List.mem_cons, List.not_mem_nil, or_false, forall_eq_or_imp, forall_eq] at h
  obtain ⟨h2, h3, -⟩ := h
  omega
theorem node_ok {c : Config} (h : rightC c = true) {i : Int} (hi : 0 ≤ i ∧ i ≤ 16) : api_TargetNode c i = some (nodeT c i) := by
  obtain ⟨h1, h2, h3⟩ := rightC_n h
  simp only [api_TargetNode, api_DeciderNode, api_Acceptors, Option.bind_some, nodeT]
  rw [wI64 (n := 2 * c.F_) (by omega) (by omega), wI64 (n := 2 * c.F_ + 1) (by omega) (by omega), wI64 (n := 2 * c.F_ + 1 + c.Deciders) (by omega) (by omega), wI64 (by omega) (by omega)]
def zeroC_ (c : Config) : Plan := ⟨0, -1, -1, -1, 0, 0, 0, 0, 0, 0, List.replicate c.Targets.toNat 0, []⟩
theorem new_ok {c : Config} {index : Int} (ht : c.Tiers.length < 9223372036854775807) : fence_New c index = some (if rightC c = true ∧ 0 ≤ index ∧ index < c.Targets then .r1 0 (zeroC_ c) ⟨0, 0, 0, 0⟩ 0 0 true [] [] (-1) false [] [] else .r0) := by
  simp only [fence_New, polright_ok ht, Option.bind_some]
  cases h : rightC c with
  | false => simp [fence_New_1]
  | true =>
    have hz := polzero_ok ht h
    by_cases h1 : index < 0
    · have : ¬ (0 ≤ index) := by omega
      simp [h1, fence_New_1, this]
    · by_cases h2 : index ≥ c.Targets
      · have : ¬ (index < c.Targets) := by omega
        simp [h1, h2, fence_New_1, this]
      · have h3 : 0 ≤ index ∧ index < c.Targets := by omega
        simp [h1, h2, fence_New_1, journal_New, hz, h3, zeroC_]
theorem zeroFine : Fine zeroPl := ⟨inI64.2 (by decide), by decide, by decide, ⟨by decide, by decide⟩⟩
theorem zeroShm (k f t e b a n ti u co : Int) : Shm ⟨k, f, t, e, b, a, n, ti, u, co, false, zeroPl, [], [], []⟩ := ⟨⟨by simp [zeroPl], by simp [zeroPl]⟩, inU64.2 (by simp [zeroPl]), inU64.2 (by simp [zeroPl])⟩
theorem zeroRight {k f t e b a n ti co : Int} (hk : 1 ≤ k ∧ k ≤ 19) (hf : 0 ≤ f ∧ f ≤ 255) (ht : 0 ≤ t ∧ t ≤ 255) (hc : 0 ≤ co ∧ co ≤ 1000) : rightM ⟨k, f, t, e, b, a, n, ti, 0, co, false, zeroPl, [], [], []⟩ = true := by
  simp only [rightM, Bool.and_eq_true, decide_eq_true_eq, planB, cond_false]
  refine ⟨?_, by unfold txM; simp, by rw [sameP_iff]⟩
  unfold hdM; simp only; omega
theorem zeroRec {k e : Int} (hk : 1 ≤ k ∧ k ≤ 19) (he : inK .i64 e) : okRec ⟨k, 0, 0, e, 0, 0, 0, 0, 0, 0, false, zeroPl, [], [], []⟩ := by
  refine ⟨⟨zeroShm .., zeroFine, ?_, by simp, fun x hx => by simp at hx, fun x hx => by simp at hx, fun x hx => by simp at hx⟩, zeroRight hk (by decide) (by decide) (by decide)⟩
  intro x hx
  simp only [List.mem_cons, List.not_mem_nil, or_false] at hx
  rcases hx with rfl | rfl | rfl | rfl | rfl <;> first | assumption | exact inI64.2 (by decide)
theorem bneF {a b : Int} (h : a = b) : (a != b) = false := by rw [h]; simp
theorem plain_r : rightC ⟨1, 2, 2, 1, 3, [1, 0], 5, 3, 2, 2, 20, 20, 5, 10, 3, 50, 3, 1000, 1500, 700, 30, 20, 40, 5, 10, 5, 10, 4, 3, 5⟩ = true := by decide +kernel
section
variable {fence : Int} {known : Plan} {hold : Hold} {begun filled : Int} {c : Config} {index : Int} {well : Bool} {l : List Entry} {cl : List (List Int)} {fuse : Int} {down : Bool} {s t : List Int}
theorem handle_up {m : Msg} {now : Int} (hs : Shm m) (hr : rightM m = true) (hn : 0 ≤ now ∧ now ≤ 1099511627776) : Target_Handle m now fence known hold begun filled c index well l cl fuse false s t = Target_Handle_1 m now fence known hold begun filled c index well l cl fuse false s t false := by
  have a : decide (now < 0) = false := decide_eq_false (by omega)
  have b : decide (now > 1099511627776) = false := decide_eq_false (by omega)
  simp only [Target_Handle, mright_ok hs, hr, Option.bind_some, Bool.not_true, cond_false, a, b, Journal_Down]
theorem probe_ok {f n now : Int} (hc : rightC c = true) (hi : 0 ≤ index ∧ index ≤ 16) (hf : 0 ≤ f ∧ f ≤ 255) (hn : 0 ≤ now ∧ now ≤ 1099511627776) :
    Target_Handle ⟨1, f, 0, 0, 0, 0, n, 0, 0, 0, false, zeroPl, [], [], []⟩ now fence known hold begun filled c index well l cl fuse false s t = some ((if well = true then [⟨2, nodeT c index, f, 0, 0, 0, n, 0, 0, 0, false, zeroPl, [], [], []⟩] else []), fence, known, hold, begun, filled, fuse, false, l, cl, s, t) := by
  rw [handle_up (zeroShm ..) (zeroRight (by decide) hf (by decide) (by decide)) hn]
  cases well with
  | true => simp [Target_Handle_1, Target_reply, node_ok hc hi, zeroPl]
  | false => simp [Target_Handle_1]
end
theorem head18_ok : law18_head = some true := by
  have ht : (⟨1, 2, 2, 1, 3, [1, 0], 5, 3, 2, 2, 20, 20, 5, 10, 3, 50, 3, 1000, 1500, 700, 30, 20, 40, 5, 10, 5, 10, 4, 3, 5⟩ : Config).Tiers.length < 9223372036854775807 := by decide
  have n1 := new_ok (index := 1) ht
  have n2 := new_ok (index := 2) ht
  rw [if_pos ⟨plain_r, by decide, by decide⟩] at n1
  rw [if_neg (by decide)] at n2
  have f0 : okFuse (-1) := by unfold okFuse; omega
  have hrec : okRec ⟨19, 0, 0, 2, 0, 0, 0, 0, 0, 0, false, zeroPl, [], [], []⟩ := zeroRec (by decide) (inI64.2 (by decide))
  have rem := fun c : Config => remember_ok (known := zeroC_ c) (hold := ⟨0, 0, 0, 0⟩) (begun := 0) (filled := 0) (c := c) (index := 1) (well := true) (fence := 0) (l := []) (cl := []) (s := []) hrec f0 (by simp) (by simp) (by simp)
  simp only [eff, fd, Bool.false_eq_true, false_or, show ¬ ((-1 : Int) = 0) by decide, if_false, show ¬ (0 < (-1 : Int)) by decide, List.nil_append, takeT, if_true, mxI] at rem
  unfold zeroPl at rem
  have hu := fun c : Config => handle_up (m := ⟨12, 3, 0, 2, 0, 0, 0, 0, 0, 0, false, zeroPl, [], [], []⟩) (now := 5) (known := zeroC_ c) (hold := ⟨0, 0, 0, 0⟩) (begun := 0) (filled := 0) (c := c) (index := 1) (well := true) (fence := 0) (l := []) (cl := []) (s := []) (t := []) (fuse := -1) (zeroShm ..) (zeroRight (by decide) (by decide) (by decide) (by decide)) (by decide)
  have nd := node_ok plain_r (i := 1) (by decide)
  have pb := fun (k : Plan) (s : List Int) => probe_ok (f := 9) (n := 4) (now := 5) (fence := 2) (known := k) (hold := ⟨0, 0, 0, 0⟩) (begun := 0) (filled := 0) (index := 1) (well := true) (l := []) (cl := []) (s := s) (t := []) (fuse := -1) plain_r (by decide) (by decide) (by decide)
  unfold zeroPl at hu pb
  have e1 : decide ((2 : Int) ≥ 1) = true := rfl
  have e2 : decide ((2 : Int) ≤ 0) = false := rfl
  simp only [law18_head, law13_Plain, Option.bind_some, n1, law18_head_2, n2, Target_Journal, law18_head_4, cond_false]
  simp only [hu, Target_Handle_1, Target_Handle_3, Target_reply, nd, rem, cond_false, cond_true, Option.bind_some, e1, e2, show ((12 : Int) == 1) = false from rfl, show ((12 : Int) == 9) = false from rfl, show ((12 : Int) == 12) = true from rfl, show (if (0 : Int) < 2 then (2 : Int) else 0) = 2 from rfl, pb, if_true, Target_Fence]
  rfl
end Go.RX.L

namespace Go.RX.L
open Go Go.RX Go.Proofs
attribute [local irreducible] FinQ
noncomputable def lease_Ask_c := codeAt (bodyOf Tryd.f40)
noncomputable def lease_Ask_e (y : Hold) : D × Sto := (.agg [.int .i64 y.Epoch, .int .i64 y.Nonce, .int .u64 y.Grants, .int .i64 y.Until], [])
abbrev lease_Ask_W (epoch now : Int) := AOk E (Cx.of Tryd.f40 false 0) lease_Ask_e
noncomputable def lease_Ask_1M (epoch now : Int) (h_2 b1 : Hold) : M := ⟨[.code (lease_Ask_c [1, 1])], [(1, .int .i64 epoch), (2, .int .i64 now), (3, .ptr 0 0 0), (6, .ptr 1 0 0)], [some ⟨4, false, [(Hold.enc h_2)]⟩, some ⟨4, false, [(Hold.enc b1)]⟩]⟩
noncomputable def lease_Ask_1 (epoch now : Int) (h_2 b1 : Hold) : Option Hold := (some (⟨epoch, now, 0, h_2.Until⟩ : Hold))
theorem lease_Ask_1_ok {epoch now h_2 b1} : lease_Ask_W epoch now (lease_Ask_1M epoch now h_2 b1) (lease_Ask_1 epoch now h_2 b1) := by
 intro r h; unfold lease_Ask_1 at h
 exact zu 14 h
noncomputable def lease_Ask (h_ : Hold) (epoch now : Int) : Option Hold := (bif ((h_.Epoch : Int) != epoch) then (lease_Ask_1 epoch now (⟨h_.Epoch, h_.Nonce, h_.Grants, 0⟩ : Hold) (⟨0, 0, 0, 0⟩ : Hold)) else (lease_Ask_1 epoch now h_ (⟨0, 0, 0, 0⟩ : Hold)))
theorem lease_Ask_ok {h_ : Hold} {epoch now : Int} {r : Hold} (h : lease_Ask h_ epoch now = some r) : Sound E 40 [.agg [.int .i64 h_.Epoch, .int .i64 h_.Nonce, .int .u64 h_.Grants, .int .i64 h_.Until], .int .i64 epoch, .int .i64 now] [] (Rs lease_Ask_e r) := so (fn := Tryd.f40) (k := false) (m := 0) h <| by
 intro r h; unfold lease_Ask at h
 refine zs 15 h (fun h => ?_) fun h => ?_
 ·
  exact zg 6 (lease_Ask_1_ok h)
 exact zg 1 (lease_Ask_1_ok h)
end Go.RX.L

namespace Go.RX.L
open Go Go.RX
def cnt (g : Nat) : Nat → Nat
  | 0 => 0
  | n + 1 => cnt g n + (if g.testBit n then 1 else 0)
theorem cnt_mod (m k : Nat) : ∀ n, cnt (m % 2 ^ k) n = cnt m (min k n)
  | 0 => by simp [cnt]
  | n + 1 => by
    unfold cnt
    rw [cnt_mod m k n, Nat.testBit_mod_two_pow]
    by_cases h : n < k
    · rw [show min k n = n by omega, show min k (n + 1) = n + 1 by omega]
      simp [cnt, h]
    · rw [show min k n = k by omega, show min k (n + 1) = k by omega]
      simp [h]
      cases k <;> simp [cnt]
noncomputable def onesAll : Bool := (List.range 128).all fun n => decide (math_bits_OnesCount64 (n : Int) = some (cnt n 7 : Int))
theorem onesAll_ok : onesAll = true := by kernel_rfl
theorem ones_ok {n : Nat} (h : n < 128) : math_bits_OnesCount64 (n : Int) = some (cnt n 7 : Int) := by
  have := List.all_eq_true.1 onesAll_ok n (List.mem_range.2 h)
  exact of_decide_eq_true this
def fN (c : Config) : Nat := (mnI (mxI c.F_ 0) 3).toNat
theorem fN_le (c : Config) : fN c ≤ 3 := by unfold fN mnI mxI; split <;> split <;> omega
theorem fN_eq (c : Config) : mnI (mxI c.F_ 0) 3 = (fN c : Int) := by unfold fN mnI mxI; split <;> split <;> omega
def mostP (c : Config) (g : Nat) : Bool := decide (fN c < cnt g (2 * fN c + 1))
theorem most_ok (c : Config) {g : Nat} (hg : g < 18446744073709551616) : proposer_Most c g = some (mostP c g) := by
  have hf := fN_le c
  have p1 : (2 : Nat) ^ (2 * fN c + 1) ≤ 2 ^ 7 := Nat.pow_le_pow_right (by decide) (by omega)
  have p0 : 0 < (2 : Nat) ^ (2 * fN c + 1) := Nat.pow_pos (by decide)
  have e1 : IntKind.i64.wrap ((IntKind.i64.wrap ((2 : Int) * (fN c : Int))) + 1) = ((2 * fN c + 1 : Nat) : Int) := by
    rw [wI64 (n := 2 * (fN c : Int)) (by omega) (by omega), wI64 (by omega) (by omega)]; rfl
  have e2 : IntKind.u64.wrap (((2 ^ (2 * fN c + 1) : Nat) : Int) - 1) = ((2 ^ (2 * fN c + 1) - 1 : Nat) : Int) := by
    rw [wU64 (by omega) (by omega)]; omega
  have e3 : g &&& (2 ^ (2 * fN c + 1) - 1) = g % 2 ^ (2 * fN c + 1) := Nat.and_two_pow_sub_one_eq_mod g _
  have l3 : g % 2 ^ (2 * fN c + 1) < 128 := Nat.lt_of_lt_of_le (Nat.mod_lt _ p0) (by omega)
  unfold proposer_Most proposer_more
  simp only [Option.bind_some, fN_eq, e1, nn0, cond_true]
  rw [shlI64 (by omega), e2, andI64 hg (by omega), e3, ones_ok l3, cnt_mod, show min (2 * fN c + 1) 7 = 2 * fN c + 1 by omega]
  simp [mostP]
def askP (h : Hold) (e n : Int) : Hold := ⟨e, n, 0, if h.Epoch = e then h.Until else 0⟩
theorem ask_ok (h : Hold) (e n : Int) : lease_Ask h e n = some (askP h e n) := by
  unfold lease_Ask lease_Ask_1 askP
  by_cases x : h.Epoch = e
  · simp [x]
  · simp [x, bne, beq_eq_false_iff_ne.2 x]
def liveP (h : Hold) (e n : Int) : Bool := decide (h.Epoch = e) && decide (n < h.Until)
theorem live_ok (h : Hold) (e n : Int) : lease_Live h e n = some (liveP h e n) := by
  unfold lease_Live liveP
  by_cases x : h.Epoch = e
  · simp [x]
  · simp [x, bne, beq_eq_false_iff_ne.2 x]
def goodP (h : Hold) (c : Config) (m : Msg) : Bool := decide (m.Kind = 11) && (decide (h.Epoch = m.Epoch) && (decide (h.Nonce = m.Nonce) && (!decide (m.From < 0) && (!decide (m.From > 2 * (fN c : Int)) && (!decide (h.Nonce < 0) && !decide (h.Nonce > 1099511627776))))))
def lP (c : Config) : Int := mnI (mxI c.L_ 0) 1048576
theorem lP_le (c : Config) : 0 ≤ lP c ∧ lP c ≤ 1048576 := by unfold lP mnI mxI; split <;> split <;> omega
def givenP (h : Hold) (c : Config) (k : Nat) : Hold := ⟨h.Epoch, h.Nonce, (h.Grants.toNat ||| 2 ^ k : Nat), bif mostP c (h.Grants.toNat ||| 2 ^ k) then mxI h.Until (h.Nonce + lP c) else h.Until⟩
def grantP (h : Hold) (c : Config) (m : Msg) : Hold := if goodP h c m then givenP h c m.From.toNat else h
theorem or_lt {g k : Nat} (hg : g < 18446744073709551616) (hk : k ≤ 6) : g ||| 2 ^ k < 18446744073709551616 :=
  Nat.or_lt_two_pow (n := 64) (by omega) (Nat.lt_of_le_of_lt (Nat.pow_le_pow_right (by decide) hk) (by decide))
theorem given_ok (h : Hold) (c : Config) (m : Msg) (b : Hold) (hg : inK .u64 h.Grants) (hh : goodP h c m = true) : lease_Grant_1 h c m false b = some (givenP h c m.From.toNat) := by
  have hg' := inU64.1 hg
  have hf := fN_le c
  have hl := lP_le c
  simp only [goodP, Bool.and_eq_true, Bool.not_eq_true', decide_eq_true_eq, decide_eq_false_iff_not] at hh
  obtain ⟨-, -, -, h1, h2, h3, h4⟩ := hh
  obtain ⟨k, hk⟩ := Int.eq_ofNat_of_zero_le (show 0 ≤ m.From by omega)
  obtain ⟨g, hgg⟩ := Int.eq_ofNat_of_zero_le hg'.1
  have hgl : g < 18446744073709551616 := by omega
  have hp : (2 : Nat) ^ k ≤ 2 ^ 6 := Nat.pow_le_pow_right (by decide) (by omega)
  have w : IntKind.i64.wrap (h.Nonce + lP c) = h.Nonce + lP c := wI64 (by omega) (by omega)
  unfold lease_Grant_1
  rw [hk, hgg, shlI64 (by omega), orI64 hgl (by omega), most_ok c (or_lt hgl (by omega))]
  change (bif _ then _ else _) = _
  simp only [cond_false, nn0, cond_true, Option.bind_some]
  rw [show mnI (mxI c.L_ 0) 1048576 = lP c from rfl, w]
  unfold givenP
  rw [hgg]
  simp only [Int.toNat_natCast]
  cases mostP c (g ||| 2 ^ k) <;> rfl
theorem grant_ok (h : Hold) (c : Config) (m : Msg) (hg : inK .u64 h.Grants) : lease_Grant h c m = some (grantP h c m) := by
  have hf := fN_le c
  have e2 : IntKind.i64.wrap ((2 : Int) * (fN c : Int)) = 2 * (fN c : Int) := wI64 (by omega) (by omega)
  have no : ∀ b, lease_Grant_1 h c m true b = some h := fun b => rfl
  unfold lease_Grant
  rw [fN_eq, e2]
  by_cases h1 : m.Kind = 11
  · by_cases h2 : h.Epoch = m.Epoch
    · by_cases h3 : h.Nonce = m.Nonce
      · by_cases h4 : m.From < 0
        · simp [grantP, goodP, h1, h2, h3, h4, no]
        · by_cases h5 : m.From > 2 * (fN c : Int)
          · simp [grantP, goodP, h1, h2, h3, h4, h5, no]
          · by_cases h6 : h.Nonce < 0
            · have h6' := h6
              rw [h3] at h6'
              simp [grantP, goodP, h1, h2, h3, h4, h5, h6', no]
            · by_cases h7 : h.Nonce > 1099511627776
              · have h6' := h6
                have h7' := h7
                rw [h3] at h6' h7'
                rw [show grantP h c m = h from if_neg (by simp [goodP, decide_eq_true h7])]
                simp only [h1, h2, ← h3, h4, h5, bne_self_eq_false, beq_self_eq_true, Bool.and_true, Bool.not_true, cond_false, decide_false, h6, decide_eq_true h7, no]
              · have gd : goodP h c m = true := by simp only [goodP, decide_eq_true h1, decide_eq_true h2, decide_eq_true h3, decide_eq_false h4, decide_eq_false h5, decide_eq_false h6, decide_eq_false h7]; rfl
                rw [show grantP h c m = givenP h c m.From.toNat from if_pos gd]
                simp only [h1, h2, ← h3, h4, h5, bne_self_eq_false, beq_self_eq_true, Bool.and_true, Bool.not_true, cond_false, decide_false, h6, h7]
                exact given_ok h c m _ hg gd
      · simp [grantP, goodP, h1, h2, h3, no, beq_eq_false_iff_ne.2 h3]
    · simp [grantP, goodP, h1, h2, no, beq_eq_false_iff_ne.2 h2]
  · have hb : (m.Kind != 11) = true := by simpa using h1
    simp [grantP, goodP, hb, h1, no]
end Go.RX.L

namespace Go.RX.L
open Go Go.RX Go.Proofs
attribute [local irreducible] FinQ
noncomputable def Target_Tick_c := codeAt (bodyOf Tryd.f15)
noncomputable def Target_Tick_e (fence : Int) (known : Plan) (begun filled : Int) (c : Config) (index : Int) (well : Bool) (b1 : List Entry) (b2 : List (List Int)) (fuse : Int) (down : Bool) (b4 b5 : List Int) (y : (List Msg) × Hold) : D × Sto := (.sl false 26 (List.map Msg.enc y.1), [some ⟨54, true, [([.int .i64 fence] ++ Plan.encL known ([.int .i64 y.2.Epoch, .int .i64 y.2.Nonce, .int .u64 y.2.Grants, .int .i64 y.2.Until, (grD 1 (List.map Entry.enc b1)), (grD 2 (List.map (eSl 1 (eInt .i64)) b2)), .int .i64 begun, .int .i64 filled] ++ Config.encL c [.int .i64 index, .ptr 3 0 0, .bool well]))]⟩, some ⟨3, false, (List.map Entry.enc b1)⟩, some ⟨1, false, (List.map (eSl 1 (eInt .i64)) b2)⟩, some ⟨4, true, [[(grD 4 (List.map (eInt .u8) b4)), (grD 5 (List.map (eInt .u8) b5)), .int .i64 fuse, .bool down]]⟩, some ⟨1, false, (List.map (eInt .u8) b4)⟩, some ⟨1, false, (List.map (eInt .u8) b5)⟩])
inductive Target_Tick_S where
 | s0
 | s3 (epoch : Int) (t14 : Bool)
 | s2 (epoch : Int) (t35 : Bool)
 | s1 (epoch t78 t79 : Int) (hold2 : Hold) (out : List Msg)
noncomputable def Target_Tick_M (now fence : Int) (known : Plan) (hold : Hold) (begun filled : Int) (c : Config) (index : Int) (well : Bool) (b1 : List Entry) (b2 : List (List Int)) (fuse : Int) (down : Bool) (b4 b5 : List Int) : Target_Tick_S → M
 | .s0 => startM Tryd.f15 [.ptr 0 0 0, .int .i64 now] [some ⟨54, true, [([.int .i64 fence] ++ Plan.encL known ([.int .i64 hold.Epoch, .int .i64 hold.Nonce, .int .u64 hold.Grants, .int .i64 hold.Until, (grD 1 (List.map Entry.enc b1)), (grD 2 (List.map (eSl 1 (eInt .i64)) b2)), .int .i64 begun, .int .i64 filled] ++ Config.encL c [.int .i64 index, .ptr 3 0 0, .bool well]))]⟩, some ⟨3, false, (List.map Entry.enc b1)⟩, some ⟨1, false, (List.map (eSl 1 (eInt .i64)) b2)⟩, some ⟨4, true, [[(grD 4 (List.map (eInt .u8) b4)), (grD 5 (List.map (eInt .u8) b5)), .int .i64 fuse, .bool down]]⟩, some ⟨1, false, (List.map (eInt .u8) b4)⟩, some ⟨1, false, (List.map (eInt .u8) b5)⟩]
 | .s3 epoch t14 => ⟨[.code (Target_Tick_c [1, 1, 0, 0, 1]), .blk 0, .code (Target_Tick_c [1, 1, 1])], [(0, .ptr 0 0 0), (1, .int .i64 now), (5, .int .i64 epoch), (14, .bool t14)], [some ⟨54, true, [([.int .i64 fence] ++ Plan.encL known ([.int .i64 hold.Epoch, .int .i64 hold.Nonce, .int .u64 hold.Grants, .int .i64 hold.Until, (grD 1 (List.map Entry.enc b1)), (grD 2 (List.map (eSl 1 (eInt .i64)) b2)), .int .i64 begun, .int .i64 filled] ++ Config.encL c [.int .i64 index, .ptr 3 0 0, .bool well]))]⟩, some ⟨3, false, (List.map Entry.enc b1)⟩, some ⟨1, false, (List.map (eSl 1 (eInt .i64)) b2)⟩, some ⟨4, true, [[(grD 4 (List.map (eInt .u8) b4)), (grD 5 (List.map (eInt .u8) b5)), .int .i64 fuse, .bool down]]⟩, some ⟨1, false, (List.map (eInt .u8) b4)⟩, some ⟨1, false, (List.map (eInt .u8) b5)⟩]⟩
 | .s2 epoch t35 => ⟨[.code (Target_Tick_c [1, 1, 0, 0, 1, 1, 1]), .blk 0, .code (Target_Tick_c [1, 1, 1])], [(0, .ptr 0 0 0), (1, .int .i64 now), (5, .int .i64 epoch), (35, .bool t35)], [some ⟨54, true, [([.int .i64 fence] ++ Plan.encL known ([.int .i64 hold.Epoch, .int .i64 hold.Nonce, .int .u64 hold.Grants, .int .i64 hold.Until, (grD 1 (List.map Entry.enc b1)), (grD 2 (List.map (eSl 1 (eInt .i64)) b2)), .int .i64 begun, .int .i64 filled] ++ Config.encL c [.int .i64 index, .ptr 3 0 0, .bool well]))]⟩, some ⟨3, false, (List.map Entry.enc b1)⟩, some ⟨1, false, (List.map (eSl 1 (eInt .i64)) b2)⟩, some ⟨4, true, [[(grD 4 (List.map (eInt .u8) b4)), (grD 5 (List.map (eInt .u8) b5)), .int .i64 fuse, .bool down]]⟩, some ⟨1, false, (List.map (eInt .u8) b4)⟩, some ⟨1, false, (List.map (eInt .u8) b5)⟩]⟩
 | .s1 epoch t78 t79 hold2 out => ⟨[.lpc (Target_Tick_c [1, 1, 1, 1, 1, 0, 1, 0, 0]) 906694364710971881029731, .blk 1, .code (Target_Tick_c [1, 1, 1, 1, 1, 1])], [(0, .ptr 0 0 0), (1, .int .i64 now), (5, .int .i64 epoch), (6, (grD 6 (List.map Msg.enc out))), (78, .int .i64 t78), (79, .int .i64 t79)], [some ⟨54, true, [([.int .i64 fence] ++ Plan.encL known ([.int .i64 hold2.Epoch, .int .i64 hold2.Nonce, .int .u64 hold2.Grants, .int .i64 hold2.Until, (grD 1 (List.map Entry.enc b1)), (grD 2 (List.map (eSl 1 (eInt .i64)) b2)), .int .i64 begun, .int .i64 filled] ++ Config.encL c [.int .i64 index, .ptr 3 0 0, .bool well]))]⟩, some ⟨3, false, (List.map Entry.enc b1)⟩, some ⟨1, false, (List.map (eSl 1 (eInt .i64)) b2)⟩, some ⟨4, true, [[(grD 4 (List.map (eInt .u8) b4)), (grD 5 (List.map (eInt .u8) b5)), .int .i64 fuse, .bool down]]⟩, some ⟨1, false, (List.map (eInt .u8) b4)⟩, some ⟨1, false, (List.map (eInt .u8) b5)⟩, some ⟨26, false, (List.map Msg.enc out)⟩]⟩
abbrev Target_Tick_W (now fence : Int) (known : Plan) (hold : Hold) (begun filled : Int) (c : Config) (index : Int) (well : Bool) (b1 : List Entry) (b2 : List (List Int)) (fuse : Int) (down : Bool) (b4 b5 : List Int) := SOk E (Cx.of Tryd.f15 true 6) (Target_Tick_e fence known begun filled c index well b1 b2 fuse down b4 b5) (Target_Tick_M now fence known hold begun filled c index well b1 b2 fuse down b4 b5)
noncomputable def Target_Tick_0 (now fence : Int) (known : Plan) (hold : Hold) (begun filled : Int) (c : Config) (index : Int) (well : Bool) (b1 : List Entry) (b2 : List (List Int)) (fuse : Int) (down : Bool) (b4 b5 : List Int) : Option (Target_Tick_S ⊕ ((List Msg) × Hold)) := (bif (decide ((now : Int) < 0)) then (some (.inl (.s3 known.Epoch (decide ((now : Int) < 0))))) else (bif (decide ((now : Int) > 1099511627776)) then (some (.inl (.s3 known.Epoch (decide ((now : Int) > 1099511627776))))) else ((Journal_Down (⟨b4, b5, fuse, down⟩ : Journal)).bind fun y3 => (bif y3 then (some (.inl (.s3 known.Epoch y3))) else ((plan_Names known index).bind fun y5 => (some (.inl (.s3 known.Epoch (!y5)))))))))
noncomputable def Target_Tick_3 (now fence : Int) (known : Plan) (hold : Hold) (begun filled : Int) (c : Config) (index : Int) (well : Bool) (b1 : List Entry) (b2 : List (List Int)) (fuse : Int) (down : Bool) (b4 b5 : List Int) (epoch : Int) (t14 : Bool) : Option (Target_Tick_S ⊕ ((List Msg) × Hold)) := (bif t14 then (some (.inr ([], hold))) else (bif ((hold.Epoch : Int) == epoch) then (some (.inl (.s2 epoch (decide ((now : Int) < (IntKind.i64.wrap (hold.Nonce + (mxI (IntKind.i64.wrap (Int.tdiv c.L_ 2)) 1)))))))) else (some (.inl (.s2 epoch false)))))
noncomputable def Target_Tick_2 (now fence : Int) (known : Plan) (hold : Hold) (begun filled : Int) (c : Config) (index : Int) (well : Bool) (b1 : List Entry) (b2 : List (List Int)) (fuse : Int) (down : Bool) (b4 b5 : List Int) (epoch : Int) (t35 : Bool) : Option (Target_Tick_S ⊕ ((List Msg) × Hold)) := (bif t35 then (some (.inr ([], hold))) else ((lease_Ask hold epoch now).bind fun y2 => ((api_Acceptors c).bind fun y3 => (some (.inl (.s1 epoch y3 0 y2 ([])))))))
noncomputable def Target_Tick_1 (now fence : Int) (known : Plan) (hold : Hold) (begun filled : Int) (c : Config) (index : Int) (well : Bool) (b1 : List Entry) (b2 : List (List Int)) (fuse : Int) (down : Bool) (b4 b5 : List Int) (epoch t78 t79 : Int) (hold2 : Hold) (out : List Msg) : Option (Target_Tick_S ⊕ ((List Msg) × Hold)) := (bif (decide ((t79 : Int) < t78)) then ((api_TargetNode c index).bind fun y2 => (bif (decide (((List.map Msg.enc out).length + 1) * 288 ≤ bytesLim)) then (some (.inl (.s1 epoch t78 (IntKind.i64.wrap (t79 + 1)) hold2 (out ++ [(⟨10, y2, t79, epoch, 0, 0, now, 0, 0, 1, false, (⟨0, 0, 0, 0, 0, 0, 0, 0, 0, 0, [], []⟩ : Plan), [], [], []⟩ : Msg)])))) else none)) else (some (.inr (out, hold2))))
noncomputable def Target_Tick_step (now fence : Int) (known : Plan) (hold : Hold) (begun filled : Int) (c : Config) (index : Int) (well : Bool) (b1 : List Entry) (b2 : List (List Int)) (fuse : Int) (down : Bool) (b4 b5 : List Int) : Target_Tick_S → Option (Target_Tick_S ⊕ ((List Msg) × Hold))
 | .s0 => Target_Tick_0 now fence known hold begun filled c index well b1 b2 fuse down b4 b5
 | .s3 epoch t14 => Target_Tick_3 now fence known hold begun filled c index well b1 b2 fuse down b4 b5 epoch t14
 | .s2 epoch t35 => Target_Tick_2 now fence known hold begun filled c index well b1 b2 fuse down b4 b5 epoch t35
 | .s1 epoch t78 t79 hold2 out => Target_Tick_1 now fence known hold begun filled c index well b1 b2 fuse down b4 b5 epoch t78 t79 hold2 out
theorem Target_Tick_0_ok {now fence known hold begun filled c index well b1 b2 fuse down b4 b5} : Target_Tick_W now fence known hold begun filled c index well b1 b2 fuse down b4 b5 .s0 (Target_Tick_0 now fence known hold begun filled c index well b1 b2 fuse down b4 b5) := by
 intro r x h ha; unfold Target_Tick_0 at h
 refine zs 25 h (fun h => ?_) fun h => ?_
 ·
  exact zk 1 h ha
 refine zs 7 h (fun h => ?_) fun h => ?_
 ·
  exact zk 1 h ha
 refine zm 8 (b := (Nat.ble (0 + (List.map (eInt .u8) b4).length) ((List.map (eInt .u8) b4).length))) (ble_full _) ?_
 refine zm 0 (b := (Nat.ble (0 + (List.map (eInt .u8) b5).length) ((List.map (eInt .u8) b5).length))) (ble_full _) ?_
 refine zcE 0 [] (args1 := [.iptr 4 [[.sl false 1 (List.take ((List.map (eInt .u8) b4).length) (List.drop 0 (List.map (eInt .u8) b4))), .sl false 1 (List.take ((List.map (eInt .u8) b5).length) (List.drop 0 (List.map (eInt .u8) b5))), .int .i64 fuse, .bool down]] 0 0]) h (fun _ => Journal_Down_ok) ⟨by simp [List.take_of_length_le, List.map_take, List.map_drop], rfl⟩ fun y3 h => ?_
 refine zs 3 h (fun h => ?_) fun h => ?_
 ·
  exact zk 1 h ha
 refine zd 3 [] h (fun _ => plan_Names_ok) fun y5 h => ?_
 exact zk 0 h ha
theorem Target_Tick_3_ok {now fence known hold begun filled c index well b1 b2 fuse down b4 b5 epoch t14} : Target_Tick_W now fence known hold begun filled c index well b1 b2 fuse down b4 b5 (.s3 epoch t14) (Target_Tick_3 now fence known hold begun filled c index well b1 b2 fuse down b4 b5 epoch t14) := by
 intro r x h ha; unfold Target_Tick_3 at h
 refine zs 1 h (fun h => ?_) fun h => ?_
 ·
  exact zt 5 h ha [.slot 0 [some 26]]
 refine zs 3 h (fun h => ?_) fun h => ?_
 ·
  exact zk 19 h ha
 exact zk 16 h ha
theorem Target_Tick_2_ok {now fence known hold begun filled c index well b1 b2 fuse down b4 b5 epoch t35} : Target_Tick_W now fence known hold begun filled c index well b1 b2 fuse down b4 b5 (.s2 epoch t35) (Target_Tick_2 now fence known hold begun filled c index well b1 b2 fuse down b4 b5 epoch t35) := by
 intro r x h ha; unfold Target_Tick_2 at h
 refine zs 1 h (fun h => ?_) fun h => ?_
 ·
  exact zt 5 h ha [.slot 0 [some 26]]
 refine zc 14 [] h (fun _ => lease_Ask_ok) fun y2 h => ?_
 refine zc 20 [] h (fun _ => api_Acceptors_ok) fun y3 h => ?_
 refine adv_ok hm 5 _ ?_
 obtain rfl := Option.some.inj h
 refine r_cut 906694364710971881029731 [.mat 6 26] (m' := ⟨[.lpc (Target_Tick_c [1, 1, 1, 1, 1, 0, 1, 0, 0]) 906694364710971881029731, .blk 1, .code (Target_Tick_c [1, 1, 1, 1, 1, 1])], [(0, .ptr 0 0 0), (1, .int .i64 now), (5, .int .i64 epoch), (6, .msl 6 0 0 0 false), (78, .int .i64 y3), (79, .int .i64 0)], [some ⟨54, true, [([.int .i64 fence] ++ Plan.encL known ([.int .i64 y2.Epoch, .int .i64 y2.Nonce, .int .u64 y2.Grants, .int .i64 y2.Until, (grD 1 (List.map Entry.enc b1)), (grD 2 (List.map (eSl 1 (eInt .i64)) b2)), .int .i64 begun, .int .i64 filled] ++ Config.encL c [.int .i64 index, .ptr 3 0 0, .bool well]))]⟩, some ⟨3, false, (List.map Entry.enc b1)⟩, some ⟨1, false, (List.map (eSl 1 (eInt .i64)) b2)⟩, some ⟨4, true, [[(grD 4 (List.map (eInt .u8) b4)), (grD 5 (List.map (eInt .u8) b5)), .int .i64 fuse, .bool down]]⟩, some ⟨1, false, (List.map (eInt .u8) b4)⟩, some ⟨1, false, (List.map (eInt .u8) b5)⟩, some ⟨26, false, []⟩]⟩) (by kernel_rfl) ?_
 refine r_len (n1 := 0) (n2 := (List.map Msg.enc ([])).length) (fun n_len => .go ⟨[.lpc (Target_Tick_c [1, 1, 1, 1, 1, 0, 1, 0, 0]) 906694364710971881029731, .blk 1, .code (Target_Tick_c [1, 1, 1, 1, 1, 1])], [(0, .ptr 0 0 0), (1, .int .i64 now), (5, .int .i64 epoch), (6, .msl 6 0 n_len n_len false), (78, .int .i64 y3), (79, .int .i64 0)], [some ⟨54, true, [([.int .i64 fence] ++ Plan.encL known ([.int .i64 y2.Epoch, .int .i64 y2.Nonce, .int .u64 y2.Grants, .int .i64 y2.Until, (grD 1 (List.map Entry.enc b1)), (grD 2 (List.map (eSl 1 (eInt .i64)) b2)), .int .i64 begun, .int .i64 filled] ++ Config.encL c [.int .i64 index, .ptr 3 0 0, .bool well]))]⟩, some ⟨3, false, (List.map Entry.enc b1)⟩, some ⟨1, false, (List.map (eSl 1 (eInt .i64)) b2)⟩, some ⟨4, true, [[(grD 4 (List.map (eInt .u8) b4)), (grD 5 (List.map (eInt .u8) b5)), .int .i64 fuse, .bool down]]⟩, some ⟨1, false, (List.map (eInt .u8) b4)⟩, some ⟨1, false, (List.map (eInt .u8) b5)⟩, some ⟨26, false, []⟩]⟩) (by simp) ?_
 exact ha
theorem Target_Tick_1_ok {now fence known hold begun filled c index well b1 b2 fuse down b4 b5 epoch t78 t79 hold2 out} : Target_Tick_W now fence known hold begun filled c index well b1 b2 fuse down b4 b5 (.s1 epoch t78 t79 hold2 out) (Target_Tick_1 now fence known hold begun filled c index well b1 b2 fuse down b4 b5 epoch t78 t79 hold2 out) := by
 intro r x h ha; unfold Target_Tick_1 at h
 refine zs 7 h (fun h => ?_) fun h => ?_
 ·
  refine zd 11 [] h (fun _ => api_TargetNode_ok) fun y2 h => ?_
  refine zn 0 h fun h => ?_
  refine za 0 Msg.enc out ([(⟨10, y2, t79, epoch, 0, 0, now, 0, 0, 1, false, (⟨0, 0, 0, 0, 0, 0, 0, 0, 0, 0, [], []⟩ : Plan), [], [], []⟩ : Msg)]) ?_
  exact zj 6 h ha
 refine adv_ok hm 6 _ ?_
 refine r_fzT 4 (n1 := (0 + (List.map Msg.enc out).length)) (n2 := ((List.map Msg.enc out).length)) (raw := (List.take ((List.map Msg.enc out).length) (List.drop 0 (List.map Msg.enc out)))) (rs := (List.map Msg.enc out)) (by kernel_rfl) (ble_full _) (by simp only [take_full, take_full', List.map_take, List.map_drop]) ?_
 exact zt 1 h ha
noncomputable def Target_Tick (now fence : Int) (known : Plan) (hold : Hold) (begun filled : Int) (c : Config) (index : Int) (well : Bool) (b1 : List Entry) (b2 : List (List Int)) (fuse : Int) (down : Bool) (b4 b5 : List Int) : Option ((List Msg) × Hold) := evf (Target_Tick_step now fence known hold begun filled c index well b1 b2 fuse down b4 b5) (.s0)
theorem Target_Tick_ok {now fence : Int} {known : Plan} {hold : Hold} {begun filled : Int} {c : Config} {index : Int} {well : Bool} {b1 : List Entry} {b2 : List (List Int)} {fuse : Int} {down : Bool} {b4 b5 : List Int} {r : (List Msg) × Hold} (h : Target_Tick now fence known hold begun filled c index well b1 b2 fuse down b4 b5 = some r) : Sound E 15 [.ptr 0 0 0, .int .i64 now] [some ⟨54, true, [([.int .i64 fence] ++ Plan.encL known ([.int .i64 hold.Epoch, .int .i64 hold.Nonce, .int .u64 hold.Grants, .int .i64 hold.Until, (grD 1 (List.map Entry.enc b1)), (grD 2 (List.map (eSl 1 (eInt .i64)) b2)), .int .i64 begun, .int .i64 filled] ++ Config.encL c [.int .i64 index, .ptr 3 0 0, .bool well]))]⟩, some ⟨3, false, (List.map Entry.enc b1)⟩, some ⟨1, false, (List.map (eSl 1 (eInt .i64)) b2)⟩, some ⟨4, true, [[(grD 4 (List.map (eInt .u8) b4)), (grD 5 (List.map (eInt .u8) b5)), .int .i64 fuse, .bool down]]⟩, some ⟨1, false, (List.map (eInt .u8) b4)⟩, some ⟨1, false, (List.map (eInt .u8) b5)⟩] (Rs (Target_Tick_e fence known begun filled c index well b1 b2 fuse down b4 b5) r) := sc (fn := Tryd.f15) (k := true) (m := 6) (stM := (Target_Tick_M now fence known hold begun filled c index well b1 b2 fuse down b4 b5)) h fun s => by
 cases s with
 | s0 => exact Target_Tick_0_ok
 | s3 => exact Target_Tick_3_ok
 | s2 => exact Target_Tick_2_ok
 | s1 => exact Target_Tick_1_ok
end Go.RX.L

namespace Go.RX.L
open Go Go.RX
theorem tsame_ok {a : List Int} {m : Msg} (h : a.length < 9223372036854775807) : Target_same a m = some (decide (a = m.ID)) := by
  simp only [Target_same, equal_v2_ok h, Option.bind_some]
theorem tis_ok {e : Entry} {m : Msg} (h : e.ID.length < 9223372036854775807) : Target_is e m = some (decide (e.ID = m.ID)) := by
  simp only [Target_is, tsame_ok h, Option.bind_some]
theorem ixis_ok {l : List Entry} {m : Msg} (hl : l.length < 1000000) (hs : ∀ e ∈ l, e.ID.length < 9223372036854775807) :
    ∃ r, slices_IndexFunc__is l m = some r ∧ ((∃ (i : Nat) (h : i < l.length), r = (i : Int) ∧ (l[i]).ID = m.ID) ∨ (r = -1 ∧ ∀ e ∈ l, e.ID ≠ m.ID)) := by
  have loop : ∀ (j k : Nat), k + j = l.length → (∀ (i : Nat) (h : i < l.length), i < k → (l[i]).ID ≠ m.ID) → ∃ r, Ev slices_IndexFunc__is_step (.s1 l m l.length (k : Int)) r ∧ ((∃ (i : Nat) (h : i < l.length), r = (i : Int) ∧ (l[i]).ID = m.ID) ∨ (r = -1 ∧ ∀ e ∈ l, e.ID ≠ m.ID)) := by
    intro j
    induction j with
    | zero =>
      intro k hk ha
      refine ⟨-1, .done ?_, .inr ⟨rfl, fun e he => ?_⟩⟩
      · have : decide ((k : Int) < (l.length : Int)) = false := by simp; omega
        simp only [slices_IndexFunc__is_step, slices_IndexFunc__is_1, this, cond_false]
      · obtain ⟨i, hi, rfl⟩ := List.mem_iff_getElem.1 he
        exact ha i hi (by omega)
    | succ j ih =>
      intro k hk ha
      have hlt : k < l.length := by omega
      have e := tis_ok (e := l[k]) (m := m) (hs _ (List.getElem_mem hlt))
      have w : IntKind.i64.wrap ((k : Int) + 1) = ((k + 1 : Nat) : Int) := by rw [wI64 (by omega) (by omega)]; norm_cast
      by_cases h : (l[k]).ID = m.ID
      · refine ⟨k, .done ?_, .inl ⟨k, hlt, rfl, h⟩⟩
        simp only [slices_IndexFunc__is_step, slices_IndexFunc__is_1, List.length_map, ltB hlt, le0, Bool.and_self, cond_true, Int.toNat_natCast, List.getE hlt, Option.bind_some, e, decide_eq_true h]
      · obtain ⟨r, h1, h2⟩ := ih (k + 1) (by omega) (fun i hi hik => by
          by_cases h3 : i = k
          · subst h3; exact h
          · exact ha i hi (by omega))
        refine ⟨r, .next (s' := .s1 l m l.length ((k + 1 : Nat) : Int)) ?_ h1, h2⟩
        simp only [slices_IndexFunc__is_step, slices_IndexFunc__is_1, List.length_map, ltB hlt, le0, Bool.and_self, cond_true, Int.toNat_natCast, List.getE hlt, Option.bind_some, e, decide_eq_false h, cond_false, w]
  obtain ⟨r, h1, h2⟩ := loop l.length 0 (by omega) (fun i _ h => by omega)
  exact ⟨r, evf_of (.next (s' := .s1 l m l.length 0) (by simp [slices_IndexFunc__is_step, slices_IndexFunc__is_0]) h1), h2⟩
theorem cfsame_ok {l : List (List Int)} {m : Msg} (hl : l.length < 1000000) (hs : ∀ e ∈ l, e.length < 9223372036854775807) :
    slices_ContainsFunc__same l m = some (decide (m.ID ∈ l)) := by
  have loop : ∀ (j k : Nat), k + j = l.length → (∀ (i : Nat) (h : i < l.length), i < k → l[i] ≠ m.ID) → ∃ r, Ev slices_IndexFunc__same_step (.s1 l m l.length (k : Int)) r ∧ decide (r ≥ 0) = decide (m.ID ∈ l) := by
    intro j
    induction j with
    | zero =>
      intro k hk ha
      refine ⟨-1, .done ?_, ?_⟩
      · have : decide ((k : Int) < (l.length : Int)) = false := by simp; omega
        simp only [slices_IndexFunc__same_step, slices_IndexFunc__same_1, this, cond_false]
      · have : ¬ m.ID ∈ l := fun he => by
          obtain ⟨i, hi, e⟩ := List.mem_iff_getElem.1 he
          exact ha i hi (by omega) e
        rw [decide_eq_false this]; rfl
    | succ j ih =>
      intro k hk ha
      have hlt : k < l.length := by omega
      have e := tsame_ok (a := l[k]) (m := m) (hs _ (List.getElem_mem hlt))
      have w : IntKind.i64.wrap ((k : Int) + 1) = ((k + 1 : Nat) : Int) := by rw [wI64 (by omega) (by omega)]; norm_cast
      by_cases h : l[k] = m.ID
      · refine ⟨k, .done ?_, ?_⟩
        · simp only [slices_IndexFunc__same_step, slices_IndexFunc__same_1, List.length_map, ltB hlt, le0, Bool.and_self, cond_true, Int.toNat_natCast, List.getE hlt, Option.bind_some, e, decide_eq_true h]
        · have : m.ID ∈ l := h ▸ List.getElem_mem hlt
          rw [decide_eq_true this]; simp
      · obtain ⟨r, h1, h2⟩ := ih (k + 1) (by omega) (fun i hi hik => by
          by_cases h3 : i = k
          · subst h3; exact h
          · exact ha i hi (by omega))
        refine ⟨r, .next (s' := .s1 l m l.length ((k + 1 : Nat) : Int)) ?_ h1, h2⟩
        simp only [slices_IndexFunc__same_step, slices_IndexFunc__same_1, List.length_map, ltB hlt, le0, Bool.and_self, cond_true, Int.toNat_natCast, List.getE hlt, Option.bind_some, e, decide_eq_false h, cond_false, w]
  obtain ⟨r, h1, h2⟩ := loop l.length 0 (by omega) (fun i _ h => by omega)
  have h3 : slices_IndexFunc__same l m = some r := evf_of (.next (s' := .s1 l m l.length 0) (by simp [slices_IndexFunc__same_step, slices_IndexFunc__same_0]) h1)
  simp only [slices_ContainsFunc__same, h3, Option.bind_some, h2]
theorem names_ok (p : Plan) (t : Int) : plan_Names p t = some (namesP p t) := by
  have hb : ∀ x y : Int, (x == y) = decide (x = y) := fun x y => by by_cases h : x = y <;> simp [h]
  unfold plan_Names namesP
  simp only [hb, ge_iff_le]
  cases decide (0 ≤ t) <;> cases decide (t = p.Target) <;> cases decide (t = p.Prev) <;> cases decide (p.Percent < 100) <;> cases decide (t = p.Spill) <;> rfl
/-! ### a request -/
/-- What it loses when it goes down. -/
structure TZ where
  known : Plan
  hold : Hold
  begun : Int
  filled : Int
inductive ActT where
  | say (out : List Msg)
  | note (r : Msg) (out : List Msg) (begun filled post : Int)
def roomB (c : Config) (z : TZ) (now : Int) : Int × Int := if IntKind.i64.wrap (now - z.begun) ≥ c.Span then (now, 0) else (z.begun, z.filled)
def repW (c : Config) (index : Int) (m : Msg) (e co : Int) : Msg := ⟨15, nodeT c index, m.From, e, 0, 0, 0, 0, 0, co, false, zeroPl, m.ID, [], []⟩
def recC (m : Msg) : Msg := ⟨18, 0, 0, 0, 0, 0, 0, 0, 0, 0, false, zeroPl, m.ID, [], []⟩
def recW (m : Msg) : Msg := ⟨14, 0, 0, m.Epoch, 0, 0, 0, 0, 0, 0, false, zeroPl, m.ID, [], m.Payload⟩
def recF (m : Msg) : Msg := ⟨19, 0, 0, m.Epoch, 0, 0, 0, 0, 0, 0, false, zeroPl, [], [], []⟩
def runT (fence : Int) (l : List Entry) (cl : List (List Int)) (z : TZ) (fuse : Int) (s : List Int) : ActT → List Msg × Int × Int × Int × Int × Bool × List Entry × List (List Int) × List Int × List Int
  | .say out => (out, fence, z.begun, z.filled, fuse, false, l, cl, s, [])
  | .note r out b fi post => (match eff fuse false with
    | none => ([], fence, b, fi, fd fuse false, true, l, cl, s, [])
    | some f => (match eff f false with
      | none => ([], fence, b, fi, fd f false, true, l, cl, s, log [r])
      | some g => (out, (takeT r fence l cl).1, b, post, g, false, (takeT r fence l cl).2.1, (takeT r fence l cl).2.2, s ++ log [r], [])))
inductive WAct (c : Config) (index fence : Int) (l : List Entry) (cl : List (List Int)) (z : TZ) (m : Msg) (now : Int) : ActT → Prop
  | short : m.ID.length ≠ 3 → WAct c index fence l cl z m now (.say [])
  | had (e : Entry) : m.ID.length = 3 → e ∈ l → e.ID = m.ID → WAct c index fence l cl z m now (.say [repW c index m e.Epoch 0])
  | shut : m.ID.length = 3 → (∀ e ∈ l, e.ID ≠ m.ID) → m.ID ∈ cl → WAct c index fence l cl z m now (.say [repW c index m m.Epoch 1])
  | late : m.ID.length = 3 → (∀ e ∈ l, e.ID ≠ m.ID) → ¬ m.ID ∈ cl → (m.Epoch > z.known.Epoch ∨ (m.Epoch = z.known.Epoch ∧ liveP z.hold m.Epoch now = false)) → WAct c index fence l cl z m now (.say [])
  | write : m.ID.length = 3 → (∀ e ∈ l, e.ID ≠ m.ID) → ¬ m.ID ∈ cl → m.Epoch = z.known.Epoch → namesP z.known index = true → fence ≤ m.Epoch → liveP z.hold m.Epoch now = true → (roomB c z now).2 < c.Cap →
      WAct c index fence l cl z m now (.note (recW m) [repW c index m m.Epoch 0] (roomB c z now).1 (roomB c z now).2 (IntKind.i64.wrap ((roomB c z now).2 + 1)))
  | full : m.ID.length = 3 → (∀ e ∈ l, e.ID ≠ m.ID) → ¬ m.ID ∈ cl → m.Epoch = z.known.Epoch → namesP z.known index = true → fence ≤ m.Epoch → liveP z.hold m.Epoch now = true → ¬ (roomB c z now).2 < c.Cap →
      WAct c index fence l cl z m now (.note (recC m) [repW c index m m.Epoch 1] (roomB c z now).1 (roomB c z now).2 (roomB c z now).2)
  | close : m.ID.length = 3 → (∀ e ∈ l, e.ID ≠ m.ID) → ¬ m.ID ∈ cl → ¬ m.Epoch > z.known.Epoch → ¬ (m.Epoch = z.known.Epoch ∧ namesP z.known index = true ∧ fence ≤ m.Epoch) →
      WAct c index fence l cl z m now (.note (recC m) [repW c index m m.Epoch 1] z.begun z.filled z.filled)
theorem recC_ok {m : Msg} (hf : FineM m) (hr : rightM m = true) : okRec (recC m) := by
  have tx := txt_in hr
  unfold txM at tx
  obtain ⟨h1, h2, h3, h4, h5, h6, h7⟩ := hf
  refine ⟨⟨⟨⟨by simp [recC, zeroPl], by simp [recC, zeroPl]⟩, inU64.2 (by simp [recC, zeroPl]), inU64.2 (by simp [recC, zeroPl])⟩, zeroFine, ?_, by simp [recC], h5, fun x hx => by simp [recC] at hx, fun x hx => by simp [recC] at hx⟩, ?_⟩
  · intro x hx
    simp only [recC, List.mem_cons, List.not_mem_nil, or_false] at hx
    rcases hx with rfl | rfl | rfl | rfl | rfl <;> exact inI64.2 (by decide)
  · simp only [rightM, Bool.and_eq_true, decide_eq_true_eq, planB, recC, cond_false]
    refine ⟨by unfold hdM; simp, ?_, by rw [sameP_iff]⟩
    exact decide_eq_true ⟨tx.1, by simp, by simp⟩
theorem recW_ok {m : Msg} (hf : FineM m) (hr : rightM m = true) : okRec (recW m) := by
  have tx := txt_in hr
  unfold txM at tx
  obtain ⟨h1, h2, h3, h4, h5, h6, h7⟩ := hf
  have he : inK .i64 m.Epoch := h3 _ (by simp)
  refine ⟨⟨⟨⟨by simp [recW, zeroPl], by simp [recW, zeroPl]⟩, inU64.2 (by simp [recW, zeroPl]), inU64.2 (by simp [recW, zeroPl])⟩, zeroFine, ?_, by simp [recW], h5, fun x hx => by simp [recW] at hx, h7⟩, ?_⟩
  · intro x hx
    simp only [recW, List.mem_cons, List.not_mem_nil, or_false] at hx
    rcases hx with rfl | rfl | rfl | rfl | rfl <;> first | assumption | exact inI64.2 (by decide)
  · simp only [rightM, Bool.and_eq_true, decide_eq_true_eq, planB, recW, cond_false]
    refine ⟨by unfold hdM; simp, ?_, by rw [sameP_iff]⟩
    exact decide_eq_true ⟨tx.1, by simp, tx.2.2⟩
section
variable {fence : Int} {c : Config} {index : Int} {well : Bool} {l : List Entry} {cl : List (List Int)} {fuse : Int} {s : List Int} {z : TZ} {m : Msg} {now : Int}
theorem room_ok {d : Bool} {t : List Int} : Target_room now fence z.known z.hold z.begun z.filled c index well l cl fuse d s t = some (decide ((roomB c z now).2 < c.Cap), (roomB c z now).1, (roomB c z now).2) := by
  unfold Target_room roomB
  by_cases h : IntKind.i64.wrap (now - z.begun) ≥ c.Span
  · simp only [decide_eq_true h, cond_true, Target_room_1, if_pos h]
  · simp only [decide_eq_false h, cond_false, Target_room_1, if_neg h]
theorem write_ok (hc : rightC c = true) (hi : 0 ≤ index ∧ index ≤ 16) (hf : FineM m) (hr : rightM m = true) (hfu : okFuse fuse) (hs : s.length ≤ 10000000) (hl : l.length ≤ 100000) (hcl : cl.length ≤ 100000) (hls : ∀ e ∈ l, e.ID.length = 3) (hcs : ∀ e ∈ cl, e.length = 3) :
    ∃ A, WAct c index fence l cl z m now A ∧ Target_write m now fence z.known z.hold z.begun z.filled c index well l cl fuse false s [] = some (runT fence l cl z fuse s A) := by
  have nd := node_ok hc hi
  have e3 : ((((m.ID.length : Nat) : Int) : Int) != 3) = !decide (m.ID.length = 3) := by
    by_cases h : m.ID.length = 3
    · simp [h]
    · have : ¬ (((m.ID.length : Nat) : Int) = 3) := by omega
      simp [h, bneT this]
  have rep : ∀ (f b fi fu : Int) (d : Bool) (l' : List Entry) (cl' : List (List Int)) (s' t' : List Int) (e co : Int), Target_reply m 15 ⟨0, 0, 0, e, 0, 0, 0, 0, 0, co, false, ⟨0, 0, 0, 0, 0, 0, 0, 0, 0, 0, [], []⟩, m.ID, [], []⟩ f z.known z.hold b fi c index well l' cl' fu d s' t' = some [repW c index m e co] := fun f b fi fu d l' cl' s' t' e co => by
    simp only [Target_reply, nd, Option.bind_some, repW, zeroPl]
  have close : ∀ b fi, Target_write_1 m now fence z.known z.hold z.begun z.filled c index well l cl fuse false s [] b fi ⟨0, 0, 0, m.Epoch, 0, 0, 0, 0, 0, 1, false, ⟨0, 0, 0, 0, 0, 0, 0, 0, 0, 0, [], []⟩, m.ID, [], []⟩ = some (runT fence l cl z fuse s (.note (recC m) [repW c index m m.Epoch 1] b fi fi)) := fun b fi => by
    have hrem := remember_ok (known := z.known) (hold := z.hold) (begun := b) (filled := fi) (c := c) (index := index) (well := well) (fence := fence) (recC_ok hf hr) hfu hs hl hcl
    simp only [recC, zeroPl] at hrem
    simp only [Target_write_1, hrem, Option.bind_some, runT, recC, zeroPl]
    cases h1 : eff fuse false with
    | none => simp
    | some f => cases h2 : eff f false with
      | none => simp [h2]
      | some g => simp [h2, rep]
  unfold Target_write
  simp only [List.length_map, e3]
  by_cases h3 : ¬ m.ID.length = 3
  · exact ⟨_, .short h3, by simp only [decide_eq_false h3, Bool.not_false, cond_true, runT]⟩
  rw [Classical.not_not] at h3
  simp only [decide_eq_true h3, Bool.not_true, cond_false]
  obtain ⟨r, hix, hr2⟩ := ixis_ok (l := l) (m := m) (by omega) (fun e he => by rw [hls e he]; decide)
  simp only [hix, Option.bind_some]
  rcases hr2 with ⟨i, hlt, rfl, hid⟩ | ⟨rfl, hno⟩
  · have a1 : decide ((i : Int) ≥ 0) = true := by simp
    exact ⟨_, .had (l[i]) h3 (List.getElem_mem hlt) hid, by simp only [a1, cond_true, ltB hlt, le0, Bool.and_self, Int.toNat_natCast, Nat.zero_add, List.getE hlt, Option.bind_some, rep, runT]⟩
  have a1 : decide ((-1 : Int) ≥ 0) = false := rfl
  simp only [a1, cond_false, cfsame_ok (l := cl) (m := m) (by omega) (fun e he => by rw [hcs e he]; decide), Option.bind_some]
  by_cases h4 : m.ID ∈ cl
  · exact ⟨_, .shut h3 hno h4, by simp only [decide_eq_true h4, cond_true, rep, Option.bind_some, runT]⟩
  simp only [decide_eq_false h4, cond_false]
  by_cases h5 : m.Epoch > z.known.Epoch
  · exact ⟨_, .late h3 hno h4 (.inl h5), by simp only [decide_eq_true h5, cond_true, runT]⟩
  simp only [decide_eq_false h5, cond_false]
  have w2f : Target_write_2 m now fence z.known z.hold z.begun z.filled c index well l cl fuse false s [] false ⟨0, 0, 0, m.Epoch, 0, 0, 0, 0, 0, 1, false, ⟨0, 0, 0, 0, 0, 0, 0, 0, 0, 0, [], []⟩, m.ID, [], []⟩ = some (runT fence l cl z fuse s (.note (recC m) [repW c index m m.Epoch 1] z.begun z.filled z.filled)) := by
    simp only [Target_write_2, cond_false]
    exact close _ _
  by_cases h6 : ¬ m.Epoch = z.known.Epoch
  · exact ⟨_, .close h3 hno h4 h5 (fun h => h6 h.1), by simp only [beqF h6, cond_false, w2f]⟩
  rw [Classical.not_not] at h6
  simp only [beq_iff_eq.2 h6, cond_true, names_ok, Option.bind_some]
  cases h7 : namesP z.known index with
  | false => exact ⟨_, .close h3 hno h4 h5 (fun h => by rw [h7] at h; exact absurd h.2.1 (by simp)), by simp only [cond_false, w2f]⟩
  | true =>
    simp only [cond_true]
    by_cases h8 : ¬ fence ≤ m.Epoch
    · exact ⟨_, .close h3 hno h4 h5 (fun h => h8 h.2.2), by simp only [ge_iff_le, decide_eq_false h8, w2f]⟩
    rw [Classical.not_not] at h8
    simp only [ge_iff_le, decide_eq_true h8, Target_write_2, cond_true, live_ok, Option.bind_some]
    cases h9 : liveP z.hold m.Epoch now with
    | false => exact ⟨_, .late h3 hno h4 (.inr ⟨h6, h9⟩), by simp only [Bool.not_false, cond_true, runT]⟩
    | true =>
      simp only [Bool.not_true, cond_false, room_ok, Option.bind_some]
      by_cases h10 : (roomB c z now).2 < c.Cap
      · refine ⟨_, .write h3 hno h4 h6 h7 h8 h9 h10, ?_⟩
        have hrem := remember_ok (known := z.known) (hold := z.hold) (begun := (roomB c z now).1) (filled := (roomB c z now).2) (c := c) (index := index) (well := well) (fence := fence) (recW_ok hf hr) hfu hs hl hcl
        simp only [recW, zeroPl] at hrem
        simp only [decide_eq_true h10, cond_true, hrem, Option.bind_some, runT, recW, zeroPl]
        cases h1 : eff fuse false with
        | none => simp
        | some f => cases h2 : eff f false with
          | none => simp [h2]
          | some g => simp [h2, rep]
      · exact ⟨_, .full h3 hno h4 h6 h7 h8 h9 h10, by simp only [decide_eq_false h10, cond_false, close]⟩
end
end Go.RX.L

namespace Go.RX.L
open Go Go.RX Go.Proofs
attribute [local irreducible] FinQ
end Go.RX.L

namespace Go.RX.L
open Go Go.RX Go.Proofs
attribute [local irreducible] FinQ
end Go.RX.L

namespace Go.RX.L
open Go Go.RX Go.Proofs
attribute [local irreducible] FinQ
noncomputable def Target_Restart_c := codeAt (bodyOf Tryd.f44)
noncomputable def Target_Restart_e (c : Config) (index : Int) (well : Bool) (b1 : List Entry) (b2 : List (List Int)) (y : Int × Int × Plan × Hold × Int × Int × Int × Bool × (List Entry) × (List (List Int)) × (List Int) × (List Int)) : D × Sto := (.int .i64 y.1, [some ⟨54, true, [([.int .i64 y.2.1, .int .i64 y.2.2.1.Epoch, .int .i64 y.2.2.1.Target, .int .i64 y.2.2.1.Prev, .int .i64 y.2.2.1.Spill, .int .i64 y.2.2.1.Percent, .int .i64 y.2.2.1.Stamp, .int .i64 y.2.2.1.Since, .int .i64 y.2.2.1.Ramped, .int .u64 y.2.2.1.Up, .int .u64 y.2.2.1.Sup, .sl false 1 (List.map (eInt .i64) y.2.2.1.Pen), .sl false 1 (List.map (eInt .i64) y.2.2.1.Changes), .int .i64 y.2.2.2.1.Epoch, .int .i64 y.2.2.2.1.Nonce, .int .u64 y.2.2.2.1.Grants, .int .i64 y.2.2.2.1.Until, (grD 6 (List.map Entry.enc y.2.2.2.2.2.2.2.2.1)), (grD 7 (List.map (eSl 1 (eInt .i64)) y.2.2.2.2.2.2.2.2.2.1)), .int .i64 y.2.2.2.2.1, .int .i64 y.2.2.2.2.2.1] ++ Config.encL c [.int .i64 index, .ptr 3 0 0, .bool well])]⟩, some ⟨3, false, (List.map Entry.enc b1)⟩, some ⟨1, false, (List.map (eSl 1 (eInt .i64)) b2)⟩, some ⟨4, true, [[(grD 8 (List.map (eInt .u8) y.2.2.2.2.2.2.2.2.2.2.1)), (grD 9 (List.map (eInt .u8) y.2.2.2.2.2.2.2.2.2.2.2)), .int .i64 y.2.2.2.2.2.2.1, .bool y.2.2.2.2.2.2.2.1]]⟩, none, none, some ⟨3, false, (List.map Entry.enc y.2.2.2.2.2.2.2.2.1)⟩, some ⟨1, false, (List.map (eSl 1 (eInt .i64)) y.2.2.2.2.2.2.2.2.2.1)⟩, some ⟨1, false, (List.map (eInt .u8) y.2.2.2.2.2.2.2.2.2.2.1)⟩, some ⟨1, false, (List.map (eInt .u8) y.2.2.2.2.2.2.2.2.2.2.2)⟩])
inductive Target_Restart_S where
 | s0 (fence : Int) (known : Plan) (hold : Hold) (begun filled fuse : Int) (down : Bool) (b4 b5 : List Int)
 | s1 (bodies : List (List Int)) (t33 : List Int) (t34 t35 fence2 : Int) (known2 : Plan) (hold2 : Hold) (begun2 filled2 fuse2 : Int) (down2 : Bool) (b6 : List Entry) (b7 : List (List Int)) (b8 b9 : List Int)
noncomputable def Target_Restart_M (now : Int) (c : Config) (index : Int) (well : Bool) (b1 : List Entry) (b2 : List (List Int)) : Target_Restart_S → M
 | .s0 fence known hold begun filled fuse down b4 b5 => startM Tryd.f44 [.ptr 0 0 0, .int .i64 now] [some ⟨54, true, [([.int .i64 fence] ++ Plan.encL known ([.int .i64 hold.Epoch, .int .i64 hold.Nonce, .int .u64 hold.Grants, .int .i64 hold.Until, (grD 1 (List.map Entry.enc b1)), (grD 2 (List.map (eSl 1 (eInt .i64)) b2)), .int .i64 begun, .int .i64 filled] ++ Config.encL c [.int .i64 index, .ptr 3 0 0, .bool well]))]⟩, some ⟨3, false, (List.map Entry.enc b1)⟩, some ⟨1, false, (List.map (eSl 1 (eInt .i64)) b2)⟩, some ⟨4, true, [[(grD 4 (List.map (eInt .u8) b4)), (grD 5 (List.map (eInt .u8) b5)), .int .i64 fuse, .bool down]]⟩, some ⟨1, false, (List.map (eInt .u8) b4)⟩, some ⟨1, false, (List.map (eInt .u8) b5)⟩]
 | .s1 bodies t33 t34 t35 fence2 known2 hold2 begun2 filled2 fuse2 down2 b6 b7 b8 b9 => ⟨[.lpc (Target_Restart_c [1, 1, 1, 1, 0, 1, 0, 0]) 60129542211, .blk 0, .code (Target_Restart_c [1, 1, 1, 1, 1])], [(0, .ptr 0 0 0), (1, .int .i64 now), (6, .sl false 1 (List.map (eSl 1 (eInt .u8)) bodies)), (33, .sl false 1 (List.map (eInt .u8) t33)), (34, .int .i64 t34), (35, .int .i64 t35)], [some ⟨54, true, [([.int .i64 fence2] ++ Plan.encL known2 ([.int .i64 hold2.Epoch, .int .i64 hold2.Nonce, .int .u64 hold2.Grants, .int .i64 hold2.Until, (grD 6 (List.map Entry.enc b6)), (grD 7 (List.map (eSl 1 (eInt .i64)) b7)), .int .i64 begun2, .int .i64 filled2] ++ Config.encL c [.int .i64 index, .ptr 3 0 0, .bool well]))]⟩, some ⟨3, false, (List.map Entry.enc b1)⟩, some ⟨1, false, (List.map (eSl 1 (eInt .i64)) b2)⟩, some ⟨4, true, [[(grD 8 (List.map (eInt .u8) b8)), (grD 9 (List.map (eInt .u8) b9)), .int .i64 fuse2, .bool down2]]⟩, none, none, some ⟨3, false, (List.map Entry.enc b6)⟩, some ⟨1, false, (List.map (eSl 1 (eInt .i64)) b7)⟩, some ⟨1, false, (List.map (eInt .u8) b8)⟩, some ⟨1, false, (List.map (eInt .u8) b9)⟩]⟩
abbrev Target_Restart_W (now : Int) (c : Config) (index : Int) (well : Bool) (b1 : List Entry) (b2 : List (List Int)) := SOk E (Cx.of Tryd.f44 true 6) (Target_Restart_e c index well b1 b2) (Target_Restart_M now c index well b1 b2)
end Go.RX.L

namespace Go.RX.L
open Go Go.RX Go.Proofs
attribute [local irreducible] FinQ
end Go.RX.L

namespace Go.RX.L
open Go Go.RX
/-- What records tell: the fence, the log, what is shut. -/
structure TR where
  f : Int
  l : List Entry
  cl : List (List Int)
def tk (x : TR) (m : Msg) : TR := ⟨(takeT m x.f x.l x.cl).1, (takeT m x.f x.l x.cl).2.1, (takeT m x.f x.l x.cl).2.2⟩
def replayT (rs : List Msg) : TR := rs.foldl tk ⟨0, [], []⟩
def fitsT (x : TR) (m : Msg) : Prop :=
  (m.Kind = 19 ∧ 1 ≤ m.Epoch ∧ x.f < m.Epoch) ∨
  (m.Kind = 14 ∧ x.f ≤ m.Epoch ∧ m.ID.length = 3 ∧ (∀ e ∈ x.l, e.ID ≠ m.ID) ∧ ¬ m.ID ∈ x.cl) ∨
  (m.Kind = 18 ∧ m.ID.length = 3 ∧ (∀ e ∈ x.l, e.ID ≠ m.ID) ∧ ¬ m.ID ∈ x.cl)
structure KT (x : TR) : Prop where
  f0 : 0 ≤ x.f
  srt : x.l.Pairwise fun a b => a.Epoch ≤ b.Epoch
  top : ∀ e ∈ x.l, e.Epoch ≤ x.f
  ids : x.l.Pairwise fun a b => a.ID ≠ b.ID
  dis : ∀ e ∈ x.l, ¬ e.ID ∈ x.cl
  len : ∀ e ∈ x.l, e.ID.length = 3
  pay : ∀ e ∈ x.l, e.Payload.length ≤ 1024
  shut : ∀ y ∈ x.cl, y.length = 3
theorem KT.take {x : TR} (h : KT x) {m : Msg} (hr : rightM m = true) (hm : fitsT x m) : KT (tk x m) := by
  have tx := txt_in hr
  unfold txM at tx
  obtain ⟨h1, h2, h3, h4, h5, h6, h7, h8⟩ := h
  rcases hm with ⟨a1, a2, a3⟩ | ⟨a1, a2, a3, a4, a5⟩ | ⟨a1, a3, a4, a5⟩
  · have e : tk x m = ⟨m.Epoch, x.l, x.cl⟩ := by
      unfold tk takeT
      simp only [if_pos a1]
      have : mxI x.f m.Epoch = m.Epoch := by unfold mxI; split <;> omega
      rw [this]
    rw [e]
    exact ⟨by simp only; omega, h2, fun y hy => by have := h3 y hy; simp only; omega, h4, h5, h6, h7, h8⟩
  · have e : tk x m = ⟨m.Epoch, x.l ++ [⟨m.ID, m.Epoch, m.Payload⟩], x.cl⟩ := by
      unfold tk takeT
      have n1 : ¬ m.Kind = 19 := by omega
      simp only [if_neg n1, if_pos a1]
      have : mxI x.f m.Epoch = m.Epoch := by unfold mxI; split <;> omega
      rw [this]
    rw [e]
    refine ⟨by simp only; omega, ?_, ?_, ?_, ?_, ?_, ?_, h8⟩
    · refine List.pairwise_append.2 ⟨h2, by simp, fun y hy z hz => ?_⟩
      rw [List.mem_singleton.1 hz]
      have := h3 y hy; simp only; omega
    · intro y hy
      rcases List.mem_append.1 hy with hy | hy
      · have := h3 y hy; simp only; omega
      · rw [List.mem_singleton.1 hy]; exact Int.le_refl _
    · refine List.pairwise_append.2 ⟨h4, by simp, fun y hy z hz => ?_⟩
      rw [List.mem_singleton.1 hz]
      exact a4 y hy
    · intro y hy
      rcases List.mem_append.1 hy with hy | hy
      · exact h5 y hy
      · rw [List.mem_singleton.1 hy]; exact a5
    · intro y hy
      rcases List.mem_append.1 hy with hy | hy
      · exact h6 y hy
      · rw [List.mem_singleton.1 hy]; exact a3
    · intro y hy
      rcases List.mem_append.1 hy with hy | hy
      · exact h7 y hy
      · rw [List.mem_singleton.1 hy]; exact tx.2.2
  · have e : tk x m = ⟨x.f, x.l, x.cl ++ [m.ID]⟩ := by
      unfold tk takeT
      have n1 : ¬ m.Kind = 19 := by omega
      have n2 : ¬ m.Kind = 14 := by omega
      simp only [if_neg n1, if_neg n2, if_pos a1]
    rw [e]
    refine ⟨h1, h2, h3, h4, ?_, h6, h7, ?_⟩
    · intro y hy hz
      rcases List.mem_append.1 hz with hz | hz
      · exact h5 y hy hz
      · exact a4 y hy (List.mem_singleton.1 hz)
    · intro y hy
      rcases List.mem_append.1 hy with hy | hy
      · exact h8 y hy
      · rw [List.mem_singleton.1 hy]; exact a3
/-! ### the state -/
structure TS where
  rs : List Msg
  pend : Option Msg
  x : TR
  z : TZ
  well : Bool
  down : Bool
structure RepT (a : TS) (fuse : Int) (s t : List Int) (i : Nat) : Prop where
  kr : KT (replayT a.rs)
  km : KT a.x
  up : a.down = false → a.x = replayT a.rs
  pd : ∀ m, a.pend = some m → okRec m ∧ fitsT (replayT a.rs) m
  pn : a.down = false → a.pend = none
  fu : okFuse fuse
  dk : ∃ J, Disk a.rs J s ∧ (a.down = false → J = []) ∧ (a.pend ≠ none → J = [])
  tl : t = (match a.pend with | some m => log [m] | none => [])
  len : s.length + t.length ≤ 4408 * i
  cnt : a.rs.length + a.pend.toList.length ≤ i
  ml : a.x.l.length ≤ i ∧ a.x.cl.length ≤ i
  gz : inK .u64 a.z.hold.Grants
theorem log_lenT {m : Msg} (h : okRec m) : (log [m]).length ≤ 4408 := by
  have h3 := encB_len h.1 h.2
  rw [log_one, encF_len]; omega
def hvalT (m : Msg) (now : Int) : Prop := rightM m = true ∧ 0 ≤ now ∧ now ≤ 1099511627776
noncomputable def fitsP (c : Config) (p : Plan) : Bool := rightP p && (decide ((p.Pen.length : Int) = c.Targets) && (decide (mxI (mxI p.Target p.Prev) p.Spill < c.Targets) && (decide (andNotI .u64 (orI .u64 p.Up p.Sup) (IntKind.u64.wrap (shlI .u64 1 c.Targets - 1)) = 0) && decide ((p.Changes.length : Int) ≤ c.B_))))
def sealM (c : Config) (index : Int) (m : Msg) : Msg := ⟨13, nodeT c index, m.From, m.Epoch, 0, 0, 0, 0, 0, 0, false, zeroPl, [], [], []⟩
def aliveM (c : Config) (index : Int) (m : Msg) : Msg := ⟨2, nodeT c index, m.From, 0, 0, 0, m.Nonce, 0, 0, 0, false, zeroPl, [], [], []⟩
/-- What is noted, what is said then, and the window. -/
inductive NoteT (c : Config) (index : Int) (a : TS) (m : Msg) (now : Int) : Msg → List Msg → Int → Int → Int → Prop
  | fnc : m.Kind = 12 → 1 ≤ m.Epoch → a.x.f < m.Epoch → NoteT c index a m now (recF m) [sealM c index m] a.z.begun a.z.filled a.z.filled
  | wr {r : Msg} {out : List Msg} {b fi post : Int} : m.Kind = 14 → WAct c index a.x.f a.x.l a.x.cl a.z m now (.note r out b fi post) → NoteT c index a m now r out b fi post
inductive THs (c : Config) (index : Int) (a : TS) (m : Msg) (now : Int) : List Msg → TS → Prop
  | off : (a.down = true ∨ ¬ hvalT m now) → THs c index a m now [] a
  | same : a.down = false → hvalT m now → THs c index a m now [] a
  | known : a.down = false → hvalT m now → m.Kind = 9 → m.HasPlan = true → fitsP c m.Plan = true → m.Plan.Epoch > a.z.known.Epoch → THs c index a m now [] { a with z := { a.z with known := m.Plan } }
  | grant : a.down = false → hvalT m now → m.Kind = 11 → m.Code = 1 → THs c index a m now [] { a with z := { a.z with hold := grantP a.z.hold c m } }
  | alive : a.down = false → hvalT m now → m.Kind = 1 → a.well = true → THs c index a m now [aliveM c index m] a
  | sealed : a.down = false → hvalT m now → m.Kind = 12 → 1 ≤ m.Epoch → m.Epoch ≤ a.x.f → THs c index a m now [sealM c index m] a
  | said {out : List Msg} : a.down = false → hvalT m now → m.Kind = 14 → WAct c index a.x.f a.x.l a.x.cl a.z m now (.say out) → THs c index a m now out a
  | lost {r : Msg} {out : List Msg} {b fi post : Int} (p : Option Msg) : a.down = false → hvalT m now → NoteT c index a m now r out b fi post → (p = none ∨ p = some r) → THs c index a m now [] ⟨a.rs, p, a.x, ⟨a.z.known, a.z.hold, b, fi⟩, a.well, true⟩
  | kept {r : Msg} {out : List Msg} {b fi post : Int} : a.down = false → hvalT m now → NoteT c index a m now r out b fi post → THs c index a m now out ⟨a.rs ++ [r], none, tk a.x r, ⟨a.z.known, a.z.hold, b, post⟩, a.well, false⟩
section
variable {c : Config} {index : Int} {a : TS} {fuse : Int} {s t : List Int} {i : Nat}
def TS.out (a : TS) (o : List Msg) (fuse : Int) (s t : List Int) : List Msg × Int × Plan × Hold × Int × Int × Int × Bool × List Entry × List (List Int) × List Int × List Int :=
  (o, a.x.f, a.z.known, a.z.hold, a.z.begun, a.z.filled, fuse, a.down, a.x.l, a.x.cl, s, t)
theorem fits_ok {p : Plan} (hs : Shrt p) (hu : 0 ≤ p.Up) (hv : 0 ≤ p.Sup) (hc : rightC c = true) {fence : Int} {known : Plan} {hold : Hold} {begun filled : Int} {well : Bool} {l : List Entry} {cl : List (List Int)} {d : Bool} :
    Target_fits p fence known hold begun filled c index well l cl fuse d s t = some (fitsP c p) := by
  have hb : ∀ x y : Int, (x == y) = decide (x = y) := fun x y => by by_cases h : x = y <;> simp [h]
  have h0 : decide (c.Targets < 0) = false := by have := (rightC_n hc).2.2; simp; omega
  unfold Target_fits fitsP
  simp only [h0, Bool.not_false, cond_true, right_ok hs hu hv, Option.bind_some, hb, List.length_map]
  cases rightP p <;> cases decide ((p.Pen.length : Int) = c.Targets) <;> cases decide (mxI (mxI p.Target p.Prev) p.Spill < c.Targets) <;> cases decide (andNotI .u64 (orI .u64 p.Up p.Sup) (IntKind.u64.wrap (shlI .u64 1 c.Targets - 1)) = 0) <;> rfl
theorem RepT.z {z : TZ} {w : Bool} (h : RepT a fuse s t i) (hz : inK .u64 z.hold.Grants) : RepT ⟨a.rs, a.pend, a.x, z, w, a.down⟩ fuse s t i := ⟨h.kr, h.km, h.up, h.pd, h.pn, h.fu, h.dk, h.tl, h.len, h.cnt, h.ml, hz⟩
end
end Go.RX.L

namespace Go.RX.L
open Go Go.RX Go.Proofs
attribute [local irreducible] FinQ
noncomputable def Target_Log_c := codeAt (bodyOf Tryd.f16)
noncomputable def Target_Log_e (fence : Int) (known : Plan) (hold : Hold) (begun filled : Int) (c : Config) (index : Int) (well : Bool) (b1 : List Entry) (b2 : List (List Int)) (fuse : Int) (down : Bool) (b4 b5 : List Int) (y : List Entry) : D × Sto := (.sl false 3 (List.map Entry.enc y), [some ⟨54, true, [([.int .i64 fence] ++ Plan.encL known ([.int .i64 hold.Epoch, .int .i64 hold.Nonce, .int .u64 hold.Grants, .int .i64 hold.Until, (grD 1 (List.map Entry.enc b1)), (grD 2 (List.map (eSl 1 (eInt .i64)) b2)), .int .i64 begun, .int .i64 filled] ++ Config.encL c [.int .i64 index, .ptr 3 0 0, .bool well]))]⟩, some ⟨3, false, (List.map Entry.enc b1)⟩, some ⟨1, false, (List.map (eSl 1 (eInt .i64)) b2)⟩, some ⟨4, true, [[(grD 4 (List.map (eInt .u8) b4)), (grD 5 (List.map (eInt .u8) b5)), .int .i64 fuse, .bool down]]⟩, some ⟨1, false, (List.map (eInt .u8) b4)⟩, some ⟨1, false, (List.map (eInt .u8) b5)⟩])
inductive Target_Log_S where
 | s0
 | s1 (t11 t12 : Int) (out : List Entry)
noncomputable def Target_Log_M (fence : Int) (known : Plan) (hold : Hold) (begun filled : Int) (c : Config) (index : Int) (well : Bool) (b1 : List Entry) (b2 : List (List Int)) (fuse : Int) (down : Bool) (b4 b5 : List Int) : Target_Log_S → M
 | .s0 => startM Tryd.f16 [.ptr 0 0 0] [some ⟨54, true, [([.int .i64 fence] ++ Plan.encL known ([.int .i64 hold.Epoch, .int .i64 hold.Nonce, .int .u64 hold.Grants, .int .i64 hold.Until, (grD 1 (List.map Entry.enc b1)), (grD 2 (List.map (eSl 1 (eInt .i64)) b2)), .int .i64 begun, .int .i64 filled] ++ Config.encL c [.int .i64 index, .ptr 3 0 0, .bool well]))]⟩, some ⟨3, false, (List.map Entry.enc b1)⟩, some ⟨1, false, (List.map (eSl 1 (eInt .i64)) b2)⟩, some ⟨4, true, [[(grD 4 (List.map (eInt .u8) b4)), (grD 5 (List.map (eInt .u8) b5)), .int .i64 fuse, .bool down]]⟩, some ⟨1, false, (List.map (eInt .u8) b4)⟩, some ⟨1, false, (List.map (eInt .u8) b5)⟩]
 | .s1 t11 t12 out => ⟨[.lpc (Target_Log_c [1, 1, 0, 1, 0, 0]) 7176, .blk 0, .code (Target_Log_c [1, 1, 1])], [(3, (grD 6 (List.map Entry.enc out))), (10, (grD 1 (List.map Entry.enc b1))), (11, .int .i64 t11), (12, .int .i64 t12)], [some ⟨54, true, [([.int .i64 fence] ++ Plan.encL known ([.int .i64 hold.Epoch, .int .i64 hold.Nonce, .int .u64 hold.Grants, .int .i64 hold.Until, (grD 1 (List.map Entry.enc b1)), (grD 2 (List.map (eSl 1 (eInt .i64)) b2)), .int .i64 begun, .int .i64 filled] ++ Config.encL c [.int .i64 index, .ptr 3 0 0, .bool well]))]⟩, some ⟨3, false, (List.map Entry.enc b1)⟩, some ⟨1, false, (List.map (eSl 1 (eInt .i64)) b2)⟩, some ⟨4, true, [[(grD 4 (List.map (eInt .u8) b4)), (grD 5 (List.map (eInt .u8) b5)), .int .i64 fuse, .bool down]]⟩, some ⟨1, false, (List.map (eInt .u8) b4)⟩, some ⟨1, false, (List.map (eInt .u8) b5)⟩, some ⟨3, false, (List.map Entry.enc out)⟩]⟩
abbrev Target_Log_W (fence : Int) (known : Plan) (hold : Hold) (begun filled : Int) (c : Config) (index : Int) (well : Bool) (b1 : List Entry) (b2 : List (List Int)) (fuse : Int) (down : Bool) (b4 b5 : List Int) := SOk E (Cx.of Tryd.f16 true 6) (Target_Log_e fence known hold begun filled c index well b1 b2 fuse down b4 b5) (Target_Log_M fence known hold begun filled c index well b1 b2 fuse down b4 b5)
noncomputable def Target_Log_0 (fence : Int) (known : Plan) (hold : Hold) (begun filled : Int) (c : Config) (index : Int) (well : Bool) (b1 : List Entry) (b2 : List (List Int)) (fuse : Int) (down : Bool) (b4 b5 : List Int) : Option (Target_Log_S ⊕ (List Entry)) := (some (.inl (.s1 (((List.map Entry.enc b1).length : Nat) : Int) 0 ([]))))
noncomputable def Target_Log_1 (fence : Int) (known : Plan) (hold : Hold) (begun filled : Int) (c : Config) (index : Int) (well : Bool) (b1 : List Entry) (b2 : List (List Int)) (fuse : Int) (down : Bool) (b4 b5 : List Int) (t11 t12 : Int) (out : List Entry) : Option (Target_Log_S ⊕ (List Entry)) := (bif (decide ((t12 : Int) < t11)) then (bif ((decide ((0 : Int) ≤ t12)) && (decide ((t12 : Int) < (((List.map Entry.enc b1).length : Nat) : Int)))) then (((b1)[(0 + t12.toNat)]?).bind fun y3 => ((slices_Clone y3.ID).bind fun y5 => ((bytes_Clone y3.Payload).bind fun y6 => (bif (decide (((List.map Entry.enc out).length + 1) * 56 ≤ bytesLim)) then (some (.inl (.s1 t11 (IntKind.i64.wrap (t12 + 1)) (out ++ [(⟨y5, y3.Epoch, y6⟩ : Entry)])))) else none)))) else none) else (some (.inr out)))
noncomputable def Target_Log_step (fence : Int) (known : Plan) (hold : Hold) (begun filled : Int) (c : Config) (index : Int) (well : Bool) (b1 : List Entry) (b2 : List (List Int)) (fuse : Int) (down : Bool) (b4 b5 : List Int) : Target_Log_S → Option (Target_Log_S ⊕ (List Entry))
 | .s0 => Target_Log_0 fence known hold begun filled c index well b1 b2 fuse down b4 b5
 | .s1 t11 t12 out => Target_Log_1 fence known hold begun filled c index well b1 b2 fuse down b4 b5 t11 t12 out
theorem Target_Log_0_ok {fence known hold begun filled c index well b1 b2 fuse down b4 b5} : Target_Log_W fence known hold begun filled c index well b1 b2 fuse down b4 b5 .s0 (Target_Log_0 fence known hold begun filled c index well b1 b2 fuse down b4 b5) := by
 intro r x h ha; unfold Target_Log_0 at h
 refine adv_ok hm 23 _ ?_
 obtain rfl := Option.some.inj h
 refine r_cut 7176 [.mat 3 3] (m' := ⟨[.lpc (Target_Log_c [1, 1, 0, 1, 0, 0]) 7176, .blk 0, .code (Target_Log_c [1, 1, 1])], [(3, .msl 6 0 0 0 false), (10, (grD 1 (List.map Entry.enc b1))), (11, .int .i64 (((List.map Entry.enc b1).length : Nat) : Int)), (12, .int .i64 0)], [some ⟨54, true, [([.int .i64 fence] ++ Plan.encL known ([.int .i64 hold.Epoch, .int .i64 hold.Nonce, .int .u64 hold.Grants, .int .i64 hold.Until, (grD 1 (List.map Entry.enc b1)), (grD 2 (List.map (eSl 1 (eInt .i64)) b2)), .int .i64 begun, .int .i64 filled] ++ Config.encL c [.int .i64 index, .ptr 3 0 0, .bool well]))]⟩, some ⟨3, false, (List.map Entry.enc b1)⟩, some ⟨1, false, (List.map (eSl 1 (eInt .i64)) b2)⟩, some ⟨4, true, [[(grD 4 (List.map (eInt .u8) b4)), (grD 5 (List.map (eInt .u8) b5)), .int .i64 fuse, .bool down]]⟩, some ⟨1, false, (List.map (eInt .u8) b4)⟩, some ⟨1, false, (List.map (eInt .u8) b5)⟩, some ⟨3, false, []⟩]⟩) (by kernel_rfl) ?_
 refine r_len (n1 := 0) (n2 := (List.map Entry.enc ([])).length) (fun n_len => .go ⟨[.lpc (Target_Log_c [1, 1, 0, 1, 0, 0]) 7176, .blk 0, .code (Target_Log_c [1, 1, 1])], [(3, .msl 6 0 n_len n_len false), (10, (grD 1 (List.map Entry.enc b1))), (11, .int .i64 (((List.map Entry.enc b1).length : Nat) : Int)), (12, .int .i64 0)], [some ⟨54, true, [([.int .i64 fence] ++ Plan.encL known ([.int .i64 hold.Epoch, .int .i64 hold.Nonce, .int .u64 hold.Grants, .int .i64 hold.Until, (grD 1 (List.map Entry.enc b1)), (grD 2 (List.map (eSl 1 (eInt .i64)) b2)), .int .i64 begun, .int .i64 filled] ++ Config.encL c [.int .i64 index, .ptr 3 0 0, .bool well]))]⟩, some ⟨3, false, (List.map Entry.enc b1)⟩, some ⟨1, false, (List.map (eSl 1 (eInt .i64)) b2)⟩, some ⟨4, true, [[(grD 4 (List.map (eInt .u8) b4)), (grD 5 (List.map (eInt .u8) b5)), .int .i64 fuse, .bool down]]⟩, some ⟨1, false, (List.map (eInt .u8) b4)⟩, some ⟨1, false, (List.map (eInt .u8) b5)⟩, some ⟨3, false, []⟩]⟩) (by simp) ?_
 exact ha
theorem Target_Log_1_ok {fence known hold begun filled c index well b1 b2 fuse down b4 b5 t11 t12 out} : Target_Log_W fence known hold begun filled c index well b1 b2 fuse down b4 b5 (.s1 t11 t12 out) (Target_Log_1 fence known hold begun filled c index well b1 b2 fuse down b4 b5 t11 t12 out) := by
 intro r x h ha; unfold Target_Log_1 at h
 refine zs 7 h (fun h => ?_) fun h => ?_
 ·
  refine zn 6 h fun h => ?_
  refine zr 1 Entry.enc h fun y3 h => ?_
  refine zd 7 [] h (fun _ => slices_Clone_ok) fun y5 h => ?_
  refine zdR 2 [] h (fun _ => bytes_Clone_ok) fun y6 h => ?_
  refine zn 0 h fun h => ?_
  refine za 0 Entry.enc out ([(⟨y5, y3.Epoch, y6⟩ : Entry)]) ?_
  exact zj 6 h ha
 refine adv_ok hm 6 _ ?_
 refine r_fzT 2 (n1 := (0 + (List.map Entry.enc out).length)) (n2 := ((List.map Entry.enc out).length)) (raw := (List.take ((List.map Entry.enc out).length) (List.drop 0 (List.map Entry.enc out)))) (rs := (List.map Entry.enc out)) (by kernel_rfl) (ble_full _) (by simp only [take_full, take_full', List.map_take, List.map_drop]) ?_
 exact zt 1 h ha
noncomputable def Target_Log (fence : Int) (known : Plan) (hold : Hold) (begun filled : Int) (c : Config) (index : Int) (well : Bool) (b1 : List Entry) (b2 : List (List Int)) (fuse : Int) (down : Bool) (b4 b5 : List Int) : Option (List Entry) := evf (Target_Log_step fence known hold begun filled c index well b1 b2 fuse down b4 b5) (.s0)
theorem Target_Log_ok {fence : Int} {known : Plan} {hold : Hold} {begun filled : Int} {c : Config} {index : Int} {well : Bool} {b1 : List Entry} {b2 : List (List Int)} {fuse : Int} {down : Bool} {b4 b5 : List Int} {r : List Entry} (h : Target_Log fence known hold begun filled c index well b1 b2 fuse down b4 b5 = some r) : Sound E 16 [.ptr 0 0 0] [some ⟨54, true, [([.int .i64 fence] ++ Plan.encL known ([.int .i64 hold.Epoch, .int .i64 hold.Nonce, .int .u64 hold.Grants, .int .i64 hold.Until, (grD 1 (List.map Entry.enc b1)), (grD 2 (List.map (eSl 1 (eInt .i64)) b2)), .int .i64 begun, .int .i64 filled] ++ Config.encL c [.int .i64 index, .ptr 3 0 0, .bool well]))]⟩, some ⟨3, false, (List.map Entry.enc b1)⟩, some ⟨1, false, (List.map (eSl 1 (eInt .i64)) b2)⟩, some ⟨4, true, [[(grD 4 (List.map (eInt .u8) b4)), (grD 5 (List.map (eInt .u8) b5)), .int .i64 fuse, .bool down]]⟩, some ⟨1, false, (List.map (eInt .u8) b4)⟩, some ⟨1, false, (List.map (eInt .u8) b5)⟩] (Rs (Target_Log_e fence known hold begun filled c index well b1 b2 fuse down b4 b5) r) := sc (fn := Tryd.f16) (k := true) (m := 6) (stM := (Target_Log_M fence known hold begun filled c index well b1 b2 fuse down b4 b5)) h fun s => by
 cases s with
 | s0 => exact Target_Log_0_ok
 | s1 => exact Target_Log_1_ok
end Go.RX.L

namespace Go.RX.L
open Go Go.RX
inductive CStepT (a : TS) : TS → Prop
  | none : CStepT a ⟨a.rs, none, a.x, a.z, a.well, true⟩
  | one {m : Msg} : a.pend = some m → CStepT a ⟨a.rs ++ [m], none, a.x, a.z, a.well, true⟩
inductive RStepT (c : Config) (a : TS) (now : Int) : TS → Prop
  | up : RStepT c a now ⟨a.rs, none, replayT a.rs, ⟨zeroC_ c, ⟨0, 0, 0, 0⟩, now, 0⟩, a.well, false⟩
  | fail : RStepT c a now ⟨a.rs, none, ⟨0, [], []⟩, ⟨zeroC_ c, ⟨0, 0, 0, 0⟩, 0, 0⟩, a.well, true⟩
def askL (c : Config) (index e now : Int) : List Msg := (List.range (2 * c.F_ + 1).toNat).map fun (k : Nat) => ⟨10, nodeT c index, (k : Int), e, 0, 0, now, 0, 0, 1, false, zeroPl, [], [], []⟩
inductive KStep (c : Config) (index : Int) (a : TS) (now : Int) : List Msg → TS → Prop
  | idle : KStep c index a now [] a
  | ask : a.down = false → 0 ≤ now ∧ now ≤ 1099511627776 → namesP a.z.known index = true → ¬ (a.z.hold.Epoch = a.z.known.Epoch ∧ now < IntKind.i64.wrap (a.z.hold.Nonce + mxI (IntKind.i64.wrap (Int.tdiv c.L_ 2)) 1)) → KStep c index a now (askL c index a.z.known.Epoch now) { a with z := { a.z with hold := askP a.z.hold a.z.known.Epoch now } }
section
variable {c : Config} {index : Int} {a : TS} {fuse : Int} {s t : List Int} {i : Nat}
/-- One step of whatever is done. -/
inductive FStep (c : Config) (index : Int) (a : TS) (o : Op) : List Msg → TS → Prop
  | fuse : andI .i64 o.What 7 = 1 → FStep c index a o [] a
  | crash {a' : TS} : andI .i64 o.What 7 = 2 → a'.down = true → a'.x = a.x → a'.z = a.z → CStepT a a' → FStep c index a o [] a'
  | back {a' : TS} : andI .i64 o.What 7 = 3 → RStepT c a (mxI 0 (mnI o.Now 1099511627776)) a' → FStep c index a o [] a'
  | tick {out : List Msg} {a' : TS} : andI .i64 o.What 7 = 4 → KStep c index a o.Now out a' → FStep c index a o out a'
  | flip (w : Bool) : andI .i64 o.What 7 = 5 → FStep c index a o [] { a with well := w }
  | msg {out : List Msg} {a' : TS} : andI .i64 o.What 7 ≠ 1 → andI .i64 o.What 7 ≠ 2 → andI .i64 o.What 7 ≠ 3 → andI .i64 o.What 7 ≠ 4 → andI .i64 o.What 7 ≠ 5 → THs c index a o.M_ o.Now out a' → FStep c index a o out a'
theorem logT_ok {l : List Entry} (hl : l.length ≤ 90000) (hi : ∀ e ∈ l, e.ID.length = 3) (hp : ∀ e ∈ l, e.Payload.length ≤ 1024) {f : Int} {known : Plan} {hold : Hold} {begun filled : Int} {w : Bool} {cl : List (List Int)} {d : Bool} :
    Target_Log f known hold begun filled c index w l cl fuse d s t = some l := by
  have loop : ∀ (j k : Nat), k + j = l.length → Ev (Target_Log_step f known hold begun filled c index w l cl fuse d s t) (.s1 (l.length : Int) (k : Int) (l.take k)) l := by
    intro j
    induction j with
    | zero =>
      intro k hk
      refine .done ?_
      have : decide ((k : Int) < (l.length : Int)) = false := by simp; omega
      simp only [Target_Log_step, Target_Log_1, this, cond_false]
      rw [List.take_of_length_le (by omega)]
    | succ j ih =>
      intro k hk
      have hlt : k < l.length := by omega
      have e1 := sclone_ok (b := (l[k]).ID) (by rw [hi _ (List.getElem_mem hlt)]; decide)
      have e2 := clone_ok (b := (l[k]).Payload) (by have := hp _ (List.getElem_mem hlt); omega)
      have w : IntKind.i64.wrap ((k : Int) + 1) = ((k + 1 : Nat) : Int) := by rw [wI64 (by omega) (by omega)]; norm_cast
      have lim : decide (((l.take k).length + 1) * 56 ≤ bytesLim) = true := limOk (by rw [List.length_take]; omega)
      refine .next (s' := .s1 (l.length : Int) ((k + 1 : Nat) : Int) (l.take (k + 1))) ?_ (ih (k + 1) (by omega))
      have tk : l.take (k + 1) = l.take k ++ [l[k]] := by rw [List.take_succ_eq_append_getElem hlt]
      simp only [Target_Log_step, Target_Log_1, ltB hlt, cond_true, List.length_map, le0, Bool.and_self, Int.toNat_natCast, Nat.zero_add, List.getE hlt, Option.bind_some, e1, e2, lim, w, tk]
  refine evf_of (.next (s' := .s1 (l.length : Int) 0 []) ?_ (by have := loop l.length 0 (by omega); simpa using this))
  simp only [Target_Log_step, Target_Log_0, List.length_map]
end
end Go.RX.L

namespace Go.RX.L
open Go Go.RX Go.Proofs
attribute [local irreducible] FinQ
noncomputable def Target_Closed_c := codeAt (bodyOf Tryd.f17)
noncomputable def Target_Closed_e (fence : Int) (known : Plan) (hold : Hold) (begun filled : Int) (c : Config) (index : Int) (well : Bool) (b1 : List Entry) (b2 : List (List Int)) (fuse : Int) (down : Bool) (b4 b5 : List Int) (y : List (List Int)) : D × Sto := (.sl false 1 (List.map (eSl 1 (eInt .i64)) y), [some ⟨54, true, [([.int .i64 fence] ++ Plan.encL known ([.int .i64 hold.Epoch, .int .i64 hold.Nonce, .int .u64 hold.Grants, .int .i64 hold.Until, (grD 1 (List.map Entry.enc b1)), (grD 2 (List.map (eSl 1 (eInt .i64)) b2)), .int .i64 begun, .int .i64 filled] ++ Config.encL c [.int .i64 index, .ptr 3 0 0, .bool well]))]⟩, some ⟨3, false, (List.map Entry.enc b1)⟩, some ⟨1, false, (List.map (eSl 1 (eInt .i64)) b2)⟩, some ⟨4, true, [[(grD 4 (List.map (eInt .u8) b4)), (grD 5 (List.map (eInt .u8) b5)), .int .i64 fuse, .bool down]]⟩, some ⟨1, false, (List.map (eInt .u8) b4)⟩, some ⟨1, false, (List.map (eInt .u8) b5)⟩])
inductive Target_Closed_S where
 | s0
 | s1 (t11 t12 : Int) (out : List (List Int))
noncomputable def Target_Closed_M (fence : Int) (known : Plan) (hold : Hold) (begun filled : Int) (c : Config) (index : Int) (well : Bool) (b1 : List Entry) (b2 : List (List Int)) (fuse : Int) (down : Bool) (b4 b5 : List Int) : Target_Closed_S → M
 | .s0 => startM Tryd.f17 [.ptr 0 0 0] [some ⟨54, true, [([.int .i64 fence] ++ Plan.encL known ([.int .i64 hold.Epoch, .int .i64 hold.Nonce, .int .u64 hold.Grants, .int .i64 hold.Until, (grD 1 (List.map Entry.enc b1)), (grD 2 (List.map (eSl 1 (eInt .i64)) b2)), .int .i64 begun, .int .i64 filled] ++ Config.encL c [.int .i64 index, .ptr 3 0 0, .bool well]))]⟩, some ⟨3, false, (List.map Entry.enc b1)⟩, some ⟨1, false, (List.map (eSl 1 (eInt .i64)) b2)⟩, some ⟨4, true, [[(grD 4 (List.map (eInt .u8) b4)), (grD 5 (List.map (eInt .u8) b5)), .int .i64 fuse, .bool down]]⟩, some ⟨1, false, (List.map (eInt .u8) b4)⟩, some ⟨1, false, (List.map (eInt .u8) b5)⟩]
 | .s1 t11 t12 out => ⟨[.lpc (Target_Closed_c [1, 1, 0, 1, 0, 0]) 7176, .blk 0, .code (Target_Closed_c [1, 1, 1])], [(3, (grD 6 (List.map (eSl 1 (eInt .i64)) out))), (10, (grD 2 (List.map (eSl 1 (eInt .i64)) b2))), (11, .int .i64 t11), (12, .int .i64 t12)], [some ⟨54, true, [([.int .i64 fence] ++ Plan.encL known ([.int .i64 hold.Epoch, .int .i64 hold.Nonce, .int .u64 hold.Grants, .int .i64 hold.Until, (grD 1 (List.map Entry.enc b1)), (grD 2 (List.map (eSl 1 (eInt .i64)) b2)), .int .i64 begun, .int .i64 filled] ++ Config.encL c [.int .i64 index, .ptr 3 0 0, .bool well]))]⟩, some ⟨3, false, (List.map Entry.enc b1)⟩, some ⟨1, false, (List.map (eSl 1 (eInt .i64)) b2)⟩, some ⟨4, true, [[(grD 4 (List.map (eInt .u8) b4)), (grD 5 (List.map (eInt .u8) b5)), .int .i64 fuse, .bool down]]⟩, some ⟨1, false, (List.map (eInt .u8) b4)⟩, some ⟨1, false, (List.map (eInt .u8) b5)⟩, some ⟨1, false, (List.map (eSl 1 (eInt .i64)) out)⟩]⟩
abbrev Target_Closed_W (fence : Int) (known : Plan) (hold : Hold) (begun filled : Int) (c : Config) (index : Int) (well : Bool) (b1 : List Entry) (b2 : List (List Int)) (fuse : Int) (down : Bool) (b4 b5 : List Int) := SOk E (Cx.of Tryd.f17 true 6) (Target_Closed_e fence known hold begun filled c index well b1 b2 fuse down b4 b5) (Target_Closed_M fence known hold begun filled c index well b1 b2 fuse down b4 b5)
noncomputable def Target_Closed_0 (fence : Int) (known : Plan) (hold : Hold) (begun filled : Int) (c : Config) (index : Int) (well : Bool) (b1 : List Entry) (b2 : List (List Int)) (fuse : Int) (down : Bool) (b4 b5 : List Int) : Option (Target_Closed_S ⊕ (List (List Int))) := (some (.inl (.s1 (((List.map (eSl 1 (eInt .i64)) b2).length : Nat) : Int) 0 ([]))))
noncomputable def Target_Closed_1 (fence : Int) (known : Plan) (hold : Hold) (begun filled : Int) (c : Config) (index : Int) (well : Bool) (b1 : List Entry) (b2 : List (List Int)) (fuse : Int) (down : Bool) (b4 b5 : List Int) (t11 t12 : Int) (out : List (List Int)) : Option (Target_Closed_S ⊕ (List (List Int))) := (bif (decide ((t12 : Int) < t11)) then (bif ((decide ((0 : Int) ≤ t12)) && (decide ((t12 : Int) < (((List.map (eSl 1 (eInt .i64)) b2).length : Nat) : Int)))) then (((b2)[(0 + t12.toNat)]?).bind fun y3 => ((slices_Clone y3).bind fun y5 => (bif (decide (((List.map (eSl 1 (eInt .i64)) out).length + 1) * 24 ≤ bytesLim)) then (some (.inl (.s1 t11 (IntKind.i64.wrap (t12 + 1)) (out ++ [y5])))) else none))) else none) else (some (.inr out)))
noncomputable def Target_Closed_step (fence : Int) (known : Plan) (hold : Hold) (begun filled : Int) (c : Config) (index : Int) (well : Bool) (b1 : List Entry) (b2 : List (List Int)) (fuse : Int) (down : Bool) (b4 b5 : List Int) : Target_Closed_S → Option (Target_Closed_S ⊕ (List (List Int)))
 | .s0 => Target_Closed_0 fence known hold begun filled c index well b1 b2 fuse down b4 b5
 | .s1 t11 t12 out => Target_Closed_1 fence known hold begun filled c index well b1 b2 fuse down b4 b5 t11 t12 out
theorem Target_Closed_0_ok {fence known hold begun filled c index well b1 b2 fuse down b4 b5} : Target_Closed_W fence known hold begun filled c index well b1 b2 fuse down b4 b5 .s0 (Target_Closed_0 fence known hold begun filled c index well b1 b2 fuse down b4 b5) := by
 intro r x h ha; unfold Target_Closed_0 at h
 refine adv_ok hm 23 _ ?_
 obtain rfl := Option.some.inj h
 refine r_cut 7176 [.mat 3 1] (m' := ⟨[.lpc (Target_Closed_c [1, 1, 0, 1, 0, 0]) 7176, .blk 0, .code (Target_Closed_c [1, 1, 1])], [(3, .msl 6 0 0 0 false), (10, (grD 2 (List.map (eSl 1 (eInt .i64)) b2))), (11, .int .i64 (((List.map (eSl 1 (eInt .i64)) b2).length : Nat) : Int)), (12, .int .i64 0)], [some ⟨54, true, [([.int .i64 fence] ++ Plan.encL known ([.int .i64 hold.Epoch, .int .i64 hold.Nonce, .int .u64 hold.Grants, .int .i64 hold.Until, (grD 1 (List.map Entry.enc b1)), (grD 2 (List.map (eSl 1 (eInt .i64)) b2)), .int .i64 begun, .int .i64 filled] ++ Config.encL c [.int .i64 index, .ptr 3 0 0, .bool well]))]⟩, some ⟨3, false, (List.map Entry.enc b1)⟩, some ⟨1, false, (List.map (eSl 1 (eInt .i64)) b2)⟩, some ⟨4, true, [[(grD 4 (List.map (eInt .u8) b4)), (grD 5 (List.map (eInt .u8) b5)), .int .i64 fuse, .bool down]]⟩, some ⟨1, false, (List.map (eInt .u8) b4)⟩, some ⟨1, false, (List.map (eInt .u8) b5)⟩, some ⟨1, false, []⟩]⟩) (by kernel_rfl) ?_
 refine r_len (n1 := 0) (n2 := (List.map (eSl 1 (eInt .i64)) ([])).length) (fun n_len => .go ⟨[.lpc (Target_Closed_c [1, 1, 0, 1, 0, 0]) 7176, .blk 0, .code (Target_Closed_c [1, 1, 1])], [(3, .msl 6 0 n_len n_len false), (10, (grD 2 (List.map (eSl 1 (eInt .i64)) b2))), (11, .int .i64 (((List.map (eSl 1 (eInt .i64)) b2).length : Nat) : Int)), (12, .int .i64 0)], [some ⟨54, true, [([.int .i64 fence] ++ Plan.encL known ([.int .i64 hold.Epoch, .int .i64 hold.Nonce, .int .u64 hold.Grants, .int .i64 hold.Until, (grD 1 (List.map Entry.enc b1)), (grD 2 (List.map (eSl 1 (eInt .i64)) b2)), .int .i64 begun, .int .i64 filled] ++ Config.encL c [.int .i64 index, .ptr 3 0 0, .bool well]))]⟩, some ⟨3, false, (List.map Entry.enc b1)⟩, some ⟨1, false, (List.map (eSl 1 (eInt .i64)) b2)⟩, some ⟨4, true, [[(grD 4 (List.map (eInt .u8) b4)), (grD 5 (List.map (eInt .u8) b5)), .int .i64 fuse, .bool down]]⟩, some ⟨1, false, (List.map (eInt .u8) b4)⟩, some ⟨1, false, (List.map (eInt .u8) b5)⟩, some ⟨1, false, []⟩]⟩) (by simp) ?_
 exact ha
theorem Target_Closed_1_ok {fence known hold begun filled c index well b1 b2 fuse down b4 b5 t11 t12 out} : Target_Closed_W fence known hold begun filled c index well b1 b2 fuse down b4 b5 (.s1 t11 t12 out) (Target_Closed_1 fence known hold begun filled c index well b1 b2 fuse down b4 b5 t11 t12 out) := by
 intro r x h ha; unfold Target_Closed_1 at h
 refine zs 7 h (fun h => ?_) fun h => ?_
 ·
  refine zn 6 h fun h => ?_
  refine zr 1 (eSl 1 (eInt .i64)) h fun y3 h => ?_
  refine zc 6 [] h (fun _ => slices_Clone_ok) fun y5 h => ?_
  refine zn 3 h fun h => ?_
  refine za 0 (eSl 1 (eInt .i64)) out ([y5]) ?_
  exact zj 8 h ha
 refine adv_ok hm 6 _ ?_
 refine r_fzT 2 (n1 := (0 + (List.map (eSl 1 (eInt .i64)) out).length)) (n2 := ((List.map (eSl 1 (eInt .i64)) out).length)) (raw := (List.take ((List.map (eSl 1 (eInt .i64)) out).length) (List.drop 0 (List.map (eSl 1 (eInt .i64)) out)))) (rs := (List.map (eSl 1 (eInt .i64)) out)) (by kernel_rfl) (ble_full _) (by simp only [take_full, take_full', List.map_take, List.map_drop]) ?_
 exact zt 1 h ha
noncomputable def Target_Closed (fence : Int) (known : Plan) (hold : Hold) (begun filled : Int) (c : Config) (index : Int) (well : Bool) (b1 : List Entry) (b2 : List (List Int)) (fuse : Int) (down : Bool) (b4 b5 : List Int) : Option (List (List Int)) := evf (Target_Closed_step fence known hold begun filled c index well b1 b2 fuse down b4 b5) (.s0)
theorem Target_Closed_ok {fence : Int} {known : Plan} {hold : Hold} {begun filled : Int} {c : Config} {index : Int} {well : Bool} {b1 : List Entry} {b2 : List (List Int)} {fuse : Int} {down : Bool} {b4 b5 : List Int} {r : List (List Int)} (h : Target_Closed fence known hold begun filled c index well b1 b2 fuse down b4 b5 = some r) : Sound E 17 [.ptr 0 0 0] [some ⟨54, true, [([.int .i64 fence] ++ Plan.encL known ([.int .i64 hold.Epoch, .int .i64 hold.Nonce, .int .u64 hold.Grants, .int .i64 hold.Until, (grD 1 (List.map Entry.enc b1)), (grD 2 (List.map (eSl 1 (eInt .i64)) b2)), .int .i64 begun, .int .i64 filled] ++ Config.encL c [.int .i64 index, .ptr 3 0 0, .bool well]))]⟩, some ⟨3, false, (List.map Entry.enc b1)⟩, some ⟨1, false, (List.map (eSl 1 (eInt .i64)) b2)⟩, some ⟨4, true, [[(grD 4 (List.map (eInt .u8) b4)), (grD 5 (List.map (eInt .u8) b5)), .int .i64 fuse, .bool down]]⟩, some ⟨1, false, (List.map (eInt .u8) b4)⟩, some ⟨1, false, (List.map (eInt .u8) b5)⟩] (Rs (Target_Closed_e fence known hold begun filled c index well b1 b2 fuse down b4 b5) r) := sc (fn := Tryd.f17) (k := true) (m := 6) (stM := (Target_Closed_M fence known hold begun filled c index well b1 b2 fuse down b4 b5)) h fun s => by
 cases s with
 | s0 => exact Target_Closed_0_ok
 | s1 => exact Target_Closed_1_ok
end Go.RX.L

namespace Go.RX.L
open Go Go.RX Go.Proofs
attribute [local irreducible] FinQ
noncomputable def law18_FenceWrites_c := codeAt (bodyOf Tryd.f4)
noncomputable def law18_FenceWrites_e (y : Bool) : D × Sto := (.bool y, [])
inductive law18_FenceWrites_S where
 | s0
 | s1 (up : Bool)
 | s2 (up : Bool) (fence : Int) (known : Plan) (hold : Hold) (begun filled index : Int) (well : Bool) (b2 : List Entry) (b3 : List (List Int)) (fuse : Int) (down : Bool) (b5 b6 : List Int)
 | s3 (up : Bool)
 | s4 (up t30 : Bool) (fence : Int) (known : Plan) (hold : Hold) (begun filled index : Int) (well : Bool) (b2 : List Entry) (b3 : List (List Int)) (fuse : Int) (down : Bool) (b5 b6 : List Int)
 | s5 (up : Bool) (a fence : Int) (known : Plan) (hold : Hold) (begun filled index : Int) (well : Bool) (b2 : List Entry) (b3 : List (List Int)) (fuse : Int) (down : Bool) (b5 b6 : List Int)
 | s6 (up : Bool) (twice fence : Int) (known : Plan) (hold : Hold) (begun filled index : Int) (well : Bool) (b2 : List Entry) (b3 : List (List Int)) (fuse : Int) (down : Bool) (b5 b6 : List Int)
 | s7 (up : Bool) (twice i fence : Int) (known : Plan) (hold : Hold) (begun filled index : Int) (well : Bool) (b2 : List Entry) (b3 : List (List Int)) (fuse : Int) (down : Bool) (b5 b6 : List Int)
 | s8 (up : Bool) (log : List Entry) (t113 : Bool)
 | s9 (up : Bool) (log : List Entry) (i : Int)
noncomputable def law18_FenceWrites_M (c : Config) (n : Int) (payload : List Int) : law18_FenceWrites_S → M
 | .s0 => startM Tryd.f4 [.agg (Config.enc c), .int .u8 n, .sl false 1 (List.map (eInt .u8) payload)] []
 | .s1 up => ⟨[.code (law18_FenceWrites_c [1, 1, 1])], [(1, .int .u8 n), (2, .sl false 1 (List.map (eInt .u8) payload)), (3, .ptr 0 0 0), (7, .bool up), (8, .nilp)], [some ⟨30, false, [(Config.enc c)]⟩]⟩
 | .s2 up fence known hold begun filled index well b2 b3 fuse down b5 b6 => ⟨[.code (law18_FenceWrites_c [1, 1, 1])], [(1, .int .u8 n), (2, .sl false 1 (List.map (eInt .u8) payload)), (3, .ptr 0 0 0), (7, .bool up), (8, .ptr 1 0 0)], [some ⟨30, false, [(Config.enc c)]⟩, some ⟨54, true, [([.int .i64 fence] ++ Plan.encL known ([.int .i64 hold.Epoch, .int .i64 hold.Nonce, .int .u64 hold.Grants, .int .i64 hold.Until, (grD 2 (List.map Entry.enc b2)), (grD 3 (List.map (eSl 1 (eInt .i64)) b3)), .int .i64 begun, .int .i64 filled] ++ Config.encL c [.int .i64 index, .ptr 4 0 0, .bool well]))]⟩, some ⟨3, false, (List.map Entry.enc b2)⟩, some ⟨1, false, (List.map (eSl 1 (eInt .i64)) b3)⟩, some ⟨4, true, [[(grD 5 (List.map (eInt .u8) b5)), (grD 6 (List.map (eInt .u8) b6)), .int .i64 fuse, .bool down]]⟩, some ⟨1, false, (List.map (eInt .u8) b5)⟩, some ⟨1, false, (List.map (eInt .u8) b6)⟩]⟩
 | .s3 up => ⟨[.code (law18_FenceWrites_c [1, 1, 1, 0, 1]), .code (law18_FenceWrites_c [1, 1, 1, 1])], [(1, .int .u8 n), (2, .sl false 1 (List.map (eInt .u8) payload)), (3, .ptr 0 0 0), (7, .bool up), (8, .nilp), (30, .bool true)], [some ⟨30, false, [(Config.enc c)]⟩]⟩
 | .s4 up t30 fence known hold begun filled index well b2 b3 fuse down b5 b6 => ⟨[.code (law18_FenceWrites_c [1, 1, 1, 0, 1]), .code (law18_FenceWrites_c [1, 1, 1, 1])], [(1, .int .u8 n), (2, .sl false 1 (List.map (eInt .u8) payload)), (3, .ptr 0 0 0), (7, .bool up), (8, .ptr 1 0 0), (30, .bool t30)], [some ⟨30, false, [(Config.enc c)]⟩, some ⟨54, true, [([.int .i64 fence] ++ Plan.encL known ([.int .i64 hold.Epoch, .int .i64 hold.Nonce, .int .u64 hold.Grants, .int .i64 hold.Until, (grD 2 (List.map Entry.enc b2)), (grD 3 (List.map (eSl 1 (eInt .i64)) b3)), .int .i64 begun, .int .i64 filled] ++ Config.encL c [.int .i64 index, .ptr 4 0 0, .bool well]))]⟩, some ⟨3, false, (List.map Entry.enc b2)⟩, some ⟨1, false, (List.map (eSl 1 (eInt .i64)) b3)⟩, some ⟨4, true, [[(grD 5 (List.map (eInt .u8) b5)), (grD 6 (List.map (eInt .u8) b6)), .int .i64 fuse, .bool down]]⟩, some ⟨1, false, (List.map (eInt .u8) b5)⟩, some ⟨1, false, (List.map (eInt .u8) b6)⟩]⟩
 | .s5 up a fence known hold begun filled index well b2 b3 fuse down b5 b6 => ⟨[.lpc (law18_FenceWrites_c [1, 1, 1, 1, 1, 1, 1, 0, 1, 0, 0]) 1422, .blk 0, .code (law18_FenceWrites_c [1, 1, 1, 1, 1, 1, 1, 1])], [(1, .int .u8 n), (2, .sl false 1 (List.map (eInt .u8) payload)), (3, .ptr 0 0 0), (7, .bool up), (8, .ptr 1 0 0), (10, .int .i64 a)], [some ⟨30, false, [(Config.enc c)]⟩, some ⟨54, true, [([.int .i64 fence] ++ Plan.encL known ([.int .i64 hold.Epoch, .int .i64 hold.Nonce, .int .u64 hold.Grants, .int .i64 hold.Until, (grD 2 (List.map Entry.enc b2)), (grD 3 (List.map (eSl 1 (eInt .i64)) b3)), .int .i64 begun, .int .i64 filled] ++ Config.encL c [.int .i64 index, .ptr 4 0 0, .bool well]))]⟩, some ⟨3, false, (List.map Entry.enc b2)⟩, some ⟨1, false, (List.map (eSl 1 (eInt .i64)) b3)⟩, some ⟨4, true, [[(grD 5 (List.map (eInt .u8) b5)), (grD 6 (List.map (eInt .u8) b6)), .int .i64 fuse, .bool down]]⟩, some ⟨1, false, (List.map (eInt .u8) b5)⟩, some ⟨1, false, (List.map (eInt .u8) b6)⟩]⟩
 | .s6 up twice fence known hold begun filled index well b2 b3 fuse down b5 b6 => ⟨[.lpc (law18_FenceWrites_c [1, 1, 1, 1, 1, 1, 1, 1, 0, 1, 0, 0]) 2446, .blk 2, .code (law18_FenceWrites_c [1, 1, 1, 1, 1, 1, 1, 1, 1])], [(1, .int .u8 n), (2, .sl false 1 (List.map (eInt .u8) payload)), (3, .ptr 0 0 0), (7, .bool up), (8, .ptr 1 0 0), (11, .int .i64 twice)], [some ⟨30, false, [(Config.enc c)]⟩, some ⟨54, true, [([.int .i64 fence] ++ Plan.encL known ([.int .i64 hold.Epoch, .int .i64 hold.Nonce, .int .u64 hold.Grants, .int .i64 hold.Until, (grD 2 (List.map Entry.enc b2)), (grD 3 (List.map (eSl 1 (eInt .i64)) b3)), .int .i64 begun, .int .i64 filled] ++ Config.encL c [.int .i64 index, .ptr 4 0 0, .bool well]))]⟩, some ⟨3, false, (List.map Entry.enc b2)⟩, some ⟨1, false, (List.map (eSl 1 (eInt .i64)) b3)⟩, some ⟨4, true, [[(grD 5 (List.map (eInt .u8) b5)), (grD 6 (List.map (eInt .u8) b6)), .int .i64 fuse, .bool down]]⟩, some ⟨1, false, (List.map (eInt .u8) b5)⟩, some ⟨1, false, (List.map (eInt .u8) b6)⟩]⟩
 | .s7 up twice i fence known hold begun filled index well b2 b3 fuse down b5 b6 => ⟨[.lpc (law18_FenceWrites_c [1, 1, 1, 1, 1, 1, 1, 1, 0, 1, 0, 0, 1, 0, 0, 1, 0, 0]) 6542, .blk 4, .blk 3, .code (law18_FenceWrites_c [1, 1, 1, 1, 1, 1, 1, 1, 0, 1, 0, 0, 1, 1]), .lp (law18_FenceWrites_c [1, 1, 1, 1, 1, 1, 1, 1, 0, 1, 0, 0]) 2446, .blk 2, .code (law18_FenceWrites_c [1, 1, 1, 1, 1, 1, 1, 1, 1])], [(1, .int .u8 n), (2, .sl false 1 (List.map (eInt .u8) payload)), (3, .ptr 0 0 0), (7, .bool up), (8, .ptr 1 0 0), (11, .int .i64 twice), (12, .int .i64 i)], [some ⟨30, false, [(Config.enc c)]⟩, some ⟨54, true, [([.int .i64 fence] ++ Plan.encL known ([.int .i64 hold.Epoch, .int .i64 hold.Nonce, .int .u64 hold.Grants, .int .i64 hold.Until, (grD 2 (List.map Entry.enc b2)), (grD 3 (List.map (eSl 1 (eInt .i64)) b3)), .int .i64 begun, .int .i64 filled] ++ Config.encL c [.int .i64 index, .ptr 4 0 0, .bool well]))]⟩, some ⟨3, false, (List.map Entry.enc b2)⟩, some ⟨1, false, (List.map (eSl 1 (eInt .i64)) b3)⟩, some ⟨4, true, [[(grD 5 (List.map (eInt .u8) b5)), (grD 6 (List.map (eInt .u8) b6)), .int .i64 fuse, .bool down]]⟩, some ⟨1, false, (List.map (eInt .u8) b5)⟩, some ⟨1, false, (List.map (eInt .u8) b6)⟩]⟩
 | .s8 up log t113 => ⟨[.code (law18_FenceWrites_c [1, 1, 1, 1, 1, 1, 1, 1, 1, 1, 0, 1]), .code (law18_FenceWrites_c [1, 1, 1, 1, 1, 1, 1, 1, 1, 1, 1])], [(2, .sl false 1 (List.map (eInt .u8) payload)), (7, .bool up), (14, .sl false 3 (List.map Entry.enc log)), (113, .bool t113)], []⟩
 | .s9 up log i => ⟨[.lpc (law18_FenceWrites_c [1, 1, 1, 1, 1, 1, 1, 1, 1, 1, 1, 0, 1, 0, 0]) 49284, .blk 6, .code (law18_FenceWrites_c [1, 1, 1, 1, 1, 1, 1, 1, 1, 1, 1, 1])], [(2, .sl false 1 (List.map (eInt .u8) payload)), (7, .bool up), (14, .sl false 3 (List.map Entry.enc log)), (15, .int .i64 i)], []⟩
abbrev law18_FenceWrites_W (c : Config) (n : Int) (payload : List Int) := SOk E (Cx.of Tryd.f4 false 0) law18_FenceWrites_e (law18_FenceWrites_M c n payload)
noncomputable def law18_FenceWrites_0 (c : Config) (n : Int) (payload : List Int) : Option (law18_FenceWrites_S ⊕ Bool) := ((law18_head ).bind fun y1 => ((fence_New c 0).bind fun y2 => match y2 with | .r0 => (some (.inl (.s1 y1))) | .r1 y2a0 y2a1 y2a2 y2a3 y2a4 y2a5 y2a6 y2a7 y2a8 y2a9 y2a10 y2a11 => (some (.inl (.s2 y1 y2a0 y2a1 y2a2 y2a3 y2a4 0 y2a5 y2a6 y2a7 y2a8 y2a9 y2a10 y2a11)))))
noncomputable def law18_FenceWrites_1 (c : Config) (n : Int) (payload : List Int) (up : Bool) : Option (law18_FenceWrites_S ⊕ Bool) := (some (.inl (.s3 up)))
noncomputable def law18_FenceWrites_2 (c : Config) (n : Int) (payload : List Int) (up : Bool) (fence : Int) (known : Plan) (hold : Hold) (begun filled index : Int) (well : Bool) (b2 : List Entry) (b3 : List (List Int)) (fuse : Int) (down : Bool) (b5 b6 : List Int) : Option (law18_FenceWrites_S ⊕ Bool) := (bif (decide (((((List.map (eInt .u8) payload).length : Nat) : Int) : Int) > 1024)) then (some (.inl (.s4 up true fence known hold begun filled index well b2 b3 fuse down b5 b6))) else (some (.inl (.s4 up (decide ((c.L_ : Int) < 4)) fence known hold begun filled index well b2 b3 fuse down b5 b6))))
noncomputable def law18_FenceWrites_3 (c : Config) (n : Int) (payload : List Int) (up : Bool) : Option (law18_FenceWrites_S ⊕ Bool) := (some (.inr up))
noncomputable def law18_FenceWrites_4 (c : Config) (n : Int) (payload : List Int) (up t30 : Bool) (fence : Int) (known : Plan) (hold : Hold) (begun filled index : Int) (well : Bool) (b2 : List Entry) (b3 : List (List Int)) (fuse : Int) (down : Bool) (b5 b6 : List Int) : Option (law18_FenceWrites_S ⊕ Bool) := (bif t30 then (some (.inr up)) else (bif (decide ((0 : Int) ≤ c.Targets) && (decide ((c.Targets : Int) ≤ c.Targets) && (decide ((c.Targets : Int) ≤ 9223372036854775807) && decide (c.Targets.toNat * 8 ≤ bytesLim)))) then ((Target_Handle (⟨9, 0, 0, 0, 0, 0, 0, 0, 0, 0, true, (⟨1, 0, (-1), (-1), 100, 0, 0, 0, 0, 0, (List.replicate c.Targets.toNat 0), []⟩ : Plan), [], [], []⟩ : Msg) 1 fence known hold begun filled c index well b2 b3 fuse down b5 b6).bind fun y3 => ((Target_Tick 1 y3.2.1 y3.2.2.1 y3.2.2.2.1 y3.2.2.2.2.1 y3.2.2.2.2.2.1 c index well y3.2.2.2.2.2.2.2.2.1 y3.2.2.2.2.2.2.2.2.2.1 y3.2.2.2.2.2.2.1 y3.2.2.2.2.2.2.2.1 y3.2.2.2.2.2.2.2.2.2.2.1 y3.2.2.2.2.2.2.2.2.2.2.2).bind fun y4 => (some (.inl (.s5 up 0 y3.2.1 y3.2.2.1 y4.2 y3.2.2.2.2.1 y3.2.2.2.2.2.1 index well y3.2.2.2.2.2.2.2.2.1 y3.2.2.2.2.2.2.2.2.2.1 y3.2.2.2.2.2.2.1 y3.2.2.2.2.2.2.2.1 y3.2.2.2.2.2.2.2.2.2.2.1 y3.2.2.2.2.2.2.2.2.2.2.2))))) else none))
noncomputable def law18_FenceWrites_5 (c : Config) (n : Int) (payload : List Int) (up : Bool) (a fence : Int) (known : Plan) (hold : Hold) (begun filled index : Int) (well : Bool) (b2 : List Entry) (b3 : List (List Int)) (fuse : Int) (down : Bool) (b5 b6 : List Int) : Option (law18_FenceWrites_S ⊕ Bool) := (bif (decide ((a : Int) ≤ c.F_)) then ((Target_Handle (⟨11, a, 0, 1, 0, 0, 1, 0, 0, 1, false, (⟨0, 0, 0, 0, 0, 0, 0, 0, 0, 0, [], []⟩ : Plan), [], [], []⟩ : Msg) 1 fence known hold begun filled c index well b2 b3 fuse down b5 b6).bind fun y2 => (some (.inl (.s5 up (IntKind.i64.wrap (a + 1)) y2.2.1 y2.2.2.1 y2.2.2.2.1 y2.2.2.2.2.1 y2.2.2.2.2.2.1 index well y2.2.2.2.2.2.2.2.2.1 y2.2.2.2.2.2.2.2.2.2.1 y2.2.2.2.2.2.2.1 y2.2.2.2.2.2.2.2.1 y2.2.2.2.2.2.2.2.2.2.2.1 y2.2.2.2.2.2.2.2.2.2.2.2)))) else (some (.inl (.s6 up 0 fence known hold begun filled index well b2 b3 fuse down b5 b6))))
noncomputable def law18_FenceWrites_6 (c : Config) (n : Int) (payload : List Int) (up : Bool) (twice fence : Int) (known : Plan) (hold : Hold) (begun filled index : Int) (well : Bool) (b2 : List Entry) (b3 : List (List Int)) (fuse : Int) (down : Bool) (b5 b6 : List Int) : Option (law18_FenceWrites_S ⊕ Bool) := (bif (decide ((twice : Int) < 2)) then (some (.inl (.s7 up twice 0 fence known hold begun filled index well b2 b3 fuse down b5 b6))) else ((Target_Log fence known hold begun filled c index well b2 b3 fuse down b5 b6).bind fun y2 => (bif (((((List.map Entry.enc y2).length : Nat) : Int) : Int) != (mnI (IntKind.i64.wrap ((Int.tmod n 12))) c.Cap)) then (some (.inl (.s8 up y2 true))) else ((Target_Closed fence known hold begun filled c index well b2 b3 fuse down b5 b6).bind fun y4 => (some (.inl (.s8 up y2 (((((List.map (eSl 1 (eInt .i64)) y4).length : Nat) : Int) : Int) != (IntKind.i64.wrap ((IntKind.i64.wrap ((Int.tmod n 12))) - (((List.map Entry.enc y2).length : Nat) : Int)))))))))))
noncomputable def law18_FenceWrites_7 (c : Config) (n : Int) (payload : List Int) (up : Bool) (twice i fence : Int) (known : Plan) (hold : Hold) (begun filled index : Int) (well : Bool) (b2 : List Entry) (b3 : List (List Int)) (fuse : Int) (down : Bool) (b5 b6 : List Int) : Option (law18_FenceWrites_S ⊕ Bool) := (bif (decide ((i : Int) < (IntKind.i64.wrap ((Int.tmod n 12))))) then ((Target_Handle (⟨14, 9, 0, 1, 0, 0, 0, 0, 0, 0, false, (⟨0, 0, 0, 0, 0, 0, 0, 0, 0, 0, [], []⟩ : Plan), [0, 1, i], [], payload⟩ : Msg) 1 fence known hold begun filled c index well b2 b3 fuse down b5 b6).bind fun y2 => (bif (((((List.map Msg.enc y2.1).length : Nat) : Int) : Int) != 1) then (some (.inr false)) else (bif (decide ((0 : Int) < (((List.map Msg.enc y2.1).length : Nat) : Int))) then (((y2.1)[0]?).bind fun y5 => (bif ((y5.Kind : Int) != 15) then (some (.inr false)) else (bif (decide ((0 : Int) < (((List.map Msg.enc y2.1).length : Nat) : Int))) then (((y2.1)[0]?).bind fun y9 => (bif (!(((y9.Code : Int) == 0) == (decide ((i : Int) < c.Cap)))) then (some (.inr false)) else (some (.inl (.s7 up twice (IntKind.i64.wrap (i + 1)) y2.2.1 y2.2.2.1 y2.2.2.2.1 y2.2.2.2.2.1 y2.2.2.2.2.2.1 index well y2.2.2.2.2.2.2.2.2.1 y2.2.2.2.2.2.2.2.2.2.1 y2.2.2.2.2.2.2.1 y2.2.2.2.2.2.2.2.1 y2.2.2.2.2.2.2.2.2.2.2.1 y2.2.2.2.2.2.2.2.2.2.2.2))))) else none))) else none))) else (some (.inl (.s6 up (IntKind.i64.wrap (twice + 1)) fence known hold begun filled index well b2 b3 fuse down b5 b6))))
noncomputable def law18_FenceWrites_8 (c : Config) (n : Int) (payload : List Int) (up : Bool) (log : List Entry) (t113 : Bool) : Option (law18_FenceWrites_S ⊕ Bool) := (bif t113 then (some (.inr false)) else (some (.inl (.s9 up log 0))))
noncomputable def law18_FenceWrites_9 (c : Config) (n : Int) (payload : List Int) (up : Bool) (log : List Entry) (i : Int) : Option (law18_FenceWrites_S ⊕ Bool) := (bif (decide ((i : Int) < (((List.map Entry.enc log).length : Nat) : Int))) then (bif ((decide ((0 : Int) ≤ i)) && (decide ((i : Int) < (((List.map Entry.enc log).length : Nat) : Int)))) then (((log)[i.toNat]?).bind fun y3 => (bif ((y3.Epoch : Int) != 1) then (some (.inr false)) else (bif ((decide ((0 : Int) ≤ i)) && (decide ((i : Int) < (((List.map Entry.enc log).length : Nat) : Int)))) then (((log)[i.toNat]?).bind fun y7 => (bif (decide ((2 : Int) < (((List.map (eInt .i64) y7.ID).length : Nat) : Int))) then (((y7.ID)[2]?).bind fun y10 => (bif ((y10 : Int) != i) then (some (.inr false)) else (bif ((decide ((0 : Int) ≤ i)) && (decide ((i : Int) < (((List.map Entry.enc log).length : Nat) : Int)))) then (((log)[i.toNat]?).bind fun y14 => (bif (!(((List.map b8 y14.Payload) : List UInt8) == (List.map b8 payload))) then (some (.inr false)) else (some (.inl (.s9 up log (IntKind.i64.wrap (i + 1))))))) else none))) else none)) else none))) else none) else (some (.inr up)))
noncomputable def law18_FenceWrites_step (c : Config) (n : Int) (payload : List Int) : law18_FenceWrites_S → Option (law18_FenceWrites_S ⊕ Bool)
 | .s0 => law18_FenceWrites_0 c n payload
 | .s1 up => law18_FenceWrites_1 c n payload up
 | .s2 up fence known hold begun filled index well b2 b3 fuse down b5 b6 => law18_FenceWrites_2 c n payload up fence known hold begun filled index well b2 b3 fuse down b5 b6
 | .s3 up => law18_FenceWrites_3 c n payload up
 | .s4 up t30 fence known hold begun filled index well b2 b3 fuse down b5 b6 => law18_FenceWrites_4 c n payload up t30 fence known hold begun filled index well b2 b3 fuse down b5 b6
 | .s5 up a fence known hold begun filled index well b2 b3 fuse down b5 b6 => law18_FenceWrites_5 c n payload up a fence known hold begun filled index well b2 b3 fuse down b5 b6
 | .s6 up twice fence known hold begun filled index well b2 b3 fuse down b5 b6 => law18_FenceWrites_6 c n payload up twice fence known hold begun filled index well b2 b3 fuse down b5 b6
 | .s7 up twice i fence known hold begun filled index well b2 b3 fuse down b5 b6 => law18_FenceWrites_7 c n payload up twice i fence known hold begun filled index well b2 b3 fuse down b5 b6
 | .s8 up log t113 => law18_FenceWrites_8 c n payload up log t113
 | .s9 up log i => law18_FenceWrites_9 c n payload up log i
theorem law18_FenceWrites_0_ok {c n payload} : law18_FenceWrites_W c n payload .s0 (law18_FenceWrites_0 c n payload) := by
 intro r x h ha; unfold law18_FenceWrites_0 at h
 refine zc 8 [] h (fun _ => law18_head_ok) fun y1 h => ?_
 refine zc 7 [] h (fun _ => fence_New_ok) fun y2 h => ?_
 cases y2 with
 | r0 =>
  dsimp only at h
  exact zk 2 h ha
 | r1 y2a0 y2a1 y2a2 y2a3 y2a4 y2a5 y2a6 y2a7 y2a8 y2a9 y2a10 y2a11 =>
  dsimp only at h
  exact zk 2 h ha
theorem law18_FenceWrites_1_ok {c n payload up} : law18_FenceWrites_W c n payload (.s1 up) (law18_FenceWrites_1 c n payload up) := by
 intro r x h ha; unfold law18_FenceWrites_1 at h
 exact zk 24 h ha
theorem law18_FenceWrites_2_ok {c n payload up fence known hold begun filled index well b2 b3 fuse down b5 b6} : law18_FenceWrites_W c n payload (.s2 up fence known hold begun filled index well b2 b3 fuse down b5 b6) (law18_FenceWrites_2 c n payload up fence known hold begun filled index well b2 b3 fuse down b5 b6) := by
 intro r x h ha; unfold law18_FenceWrites_2 at h
 refine zs 16 h (fun h => ?_) fun h => ?_
 ·
  exact zk 7 h ha
 exact zk 8 h ha
theorem law18_FenceWrites_3_ok {c n payload up} : law18_FenceWrites_W c n payload (.s3 up) (law18_FenceWrites_3 c n payload up) := by
 intro r x h ha; unfold law18_FenceWrites_3 at h
 exact zt 8 h ha
theorem law18_FenceWrites_4_ok {c n payload up t30 fence known hold begun filled index well b2 b3 fuse down b5 b6} : law18_FenceWrites_W c n payload (.s4 up t30 fence known hold begun filled index well b2 b3 fuse down b5 b6) (law18_FenceWrites_4 c n payload up t30 fence known hold begun filled index well b2 b3 fuse down b5 b6) := by
 intro r x h ha; unfold law18_FenceWrites_4 at h
 refine zs 1 h (fun h => ?_) fun h => ?_
 ·
  exact zt 6 h ha
 refine zn 7 h fun h => ?_
 refine zw 0 (a := (List.replicate c.Targets.toNat ((eInt .i64) 0))) (b := (List.map (eInt .i64) (List.replicate c.Targets.toNat 0))) (rows_rep _ _ _) ?_
 refine r_fzT 34 (n1 := (0 + (List.map (eInt .i64) (List.replicate c.Targets.toNat 0)).length)) (n2 := ((List.map (eInt .i64) (List.replicate c.Targets.toNat 0)).length)) (raw := (List.take ((List.map (eInt .i64) (List.replicate c.Targets.toNat 0)).length) (List.drop 0 (List.map (eInt .i64) (List.replicate c.Targets.toNat 0))))) (rs := (List.map (eInt .i64) (List.replicate c.Targets.toNat 0))) (by kernel_rfl) (ble_full _) (by simp only [take_full, take_full', List.map_take, List.map_drop]) ?_
 refine adv_ok hm 13 _ ?_
 have ok3 := fun (y : (List Msg) × Int × Plan × Hold × Int × Int × Int × Bool × (List Entry) × (List (List Int)) × (List Int) × (List Int)) (hy : Target_Handle (⟨9, 0, 0, 0, 0, 0, 0, 0, 0, 0, true, (⟨1, 0, (-1), (-1), 100, 0, 0, 0, 0, 0, (List.replicate c.Targets.toNat 0), []⟩ : Plan), [], [], []⟩ : Msg) 1 fence known hold begun filled c index well b2 b3 fuse down b5 b6 = some y) => @Eq.mp (Sound E 11 [.ptr 0 0 0, .agg [.int .i64 9, .int .i64 0, .int .i64 0, .int .i64 0, .int .i64 0, .int .i64 0, .int .i64 0, .int .i64 0, .int .u64 0, .int .i64 0, .bool true, .int .i64 1, .int .i64 0, .int .i64 (-1), .int .i64 (-1), .int .i64 100, .int .i64 0, .int .i64 0, .int .i64 0, .int .u64 0, .int .u64 0, .sl false 1 (List.map (eInt .i64) (List.replicate c.Targets.toNat 0)), .sl false 1 (List.map (eInt .i64) ([])), .sl false 1 (List.map (eInt .i64) ([])), .sl false 1 (List.map (eInt .u8) ([])), .sl false 1 (List.map (eInt .u8) ([]))], .int .i64 1] [some ⟨54, true, [([.int .i64 fence] ++ Plan.encL known ([.int .i64 hold.Epoch, .int .i64 hold.Nonce, .int .u64 hold.Grants, .int .i64 hold.Until, (grD 1 (List.map Entry.enc b2)), (grD 2 (List.map (eSl 1 (eInt .i64)) b3)), .int .i64 begun, .int .i64 filled] ++ Config.encL c [.int .i64 index, .ptr 3 0 0, .bool well]))]⟩, some ⟨3, false, (List.map Entry.enc b2)⟩, some ⟨1, false, (List.map (eSl 1 (eInt .i64)) b3)⟩, some ⟨4, true, [[(grD 4 (List.map (eInt .u8) b5)), (grD 5 (List.map (eInt .u8) b6)), .int .i64 fuse, .bool down]]⟩, some ⟨1, false, (List.map (eInt .u8) b5)⟩, some ⟨1, false, (List.map (eInt .u8) b6)⟩] (Rs (Target_Handle_e c index well) y)) (Sound E 11 [.ptr 0 0 0, .agg [.int .i64 9, .int .i64 0, .int .i64 0, .int .i64 0, .int .i64 0, .int .i64 0, .int .i64 0, .int .i64 0, .int .u64 0, .int .i64 0, .bool true, .int .i64 1, .int .i64 0, .int .i64 (-1), .int .i64 (-1), .int .i64 100, .int .i64 0, .int .i64 0, .int .i64 0, .int .u64 0, .int .u64 0, .sl false 1 (List.map (eInt .i64) (List.replicate c.Targets.toNat 0)), .sl false 1 [], .sl false 1 [], .sl false 1 [], .sl false 1 []], .int .i64 1] [some ⟨54, true, [([.int .i64 fence] ++ Plan.encL known ([.int .i64 hold.Epoch, .int .i64 hold.Nonce, .int .u64 hold.Grants, .int .i64 hold.Until, (grD 1 (List.map Entry.enc b2)), (grD 2 (List.map (eSl 1 (eInt .i64)) b3)), .int .i64 begun, .int .i64 filled] ++ Config.encL c [.int .i64 index, .ptr 3 0 0, .bool well]))]⟩, some ⟨3, false, (List.map Entry.enc b2)⟩, some ⟨1, false, (List.map (eSl 1 (eInt .i64)) b3)⟩, some ⟨4, true, [[(grD 4 (List.map (eInt .u8) b5)), (grD 5 (List.map (eInt .u8) b6)), .int .i64 fuse, .bool down]]⟩, some ⟨1, false, (List.map (eInt .u8) b5)⟩, some ⟨1, false, (List.map (eInt .u8) b6)⟩] (Rs (Target_Handle_e c index well) y)) (by kernel_rfl) (Target_Handle_ok hy)
 refine zc 0 [some 1, some 1, some 1, some 1] h ok3 fun y3 h => ?_
 refine adv_ok hm 5 _ ?_
 have ok4 := fun (y : (List Msg) × Hold) (hy : Target_Tick 1 y3.2.1 y3.2.2.1 y3.2.2.2.1 y3.2.2.2.2.1 y3.2.2.2.2.2.1 c index well y3.2.2.2.2.2.2.2.2.1 y3.2.2.2.2.2.2.2.2.2.1 y3.2.2.2.2.2.2.1 y3.2.2.2.2.2.2.2.1 y3.2.2.2.2.2.2.2.2.2.2.1 y3.2.2.2.2.2.2.2.2.2.2.2 = some y) => @Eq.mp (Sound E 15 [.ptr 0 0 0, .int .i64 1] [some ⟨54, true, [([.int .i64 y3.2.1, .int .i64 y3.2.2.1.Epoch, .int .i64 y3.2.2.1.Target, .int .i64 y3.2.2.1.Prev, .int .i64 y3.2.2.1.Spill, .int .i64 y3.2.2.1.Percent, .int .i64 y3.2.2.1.Stamp, .int .i64 y3.2.2.1.Since, .int .i64 y3.2.2.1.Ramped, .int .u64 y3.2.2.1.Up, .int .u64 y3.2.2.1.Sup, .sl false 1 (List.map (eInt .i64) y3.2.2.1.Pen), .sl false 1 (List.map (eInt .i64) y3.2.2.1.Changes), .int .i64 y3.2.2.2.1.Epoch, .int .i64 y3.2.2.2.1.Nonce, .int .u64 y3.2.2.2.1.Grants, .int .i64 y3.2.2.2.1.Until, (grD 1 (List.map Entry.enc y3.2.2.2.2.2.2.2.2.1)), (grD 2 (List.map (eSl 1 (eInt .i64)) y3.2.2.2.2.2.2.2.2.2.1)), .int .i64 y3.2.2.2.2.1, .int .i64 y3.2.2.2.2.2.1] ++ Config.encL c [.int .i64 index, .ptr 3 0 0, .bool well])]⟩, some ⟨3, false, (List.map Entry.enc y3.2.2.2.2.2.2.2.2.1)⟩, some ⟨1, false, (List.map (eSl 1 (eInt .i64)) y3.2.2.2.2.2.2.2.2.2.1)⟩, some ⟨4, true, [[(grD 4 (List.map (eInt .u8) y3.2.2.2.2.2.2.2.2.2.2.1)), (grD 5 (List.map (eInt .u8) y3.2.2.2.2.2.2.2.2.2.2.2)), .int .i64 y3.2.2.2.2.2.2.1, .bool y3.2.2.2.2.2.2.2.1]]⟩, some ⟨1, false, (List.map (eInt .u8) y3.2.2.2.2.2.2.2.2.2.2.1)⟩, some ⟨1, false, (List.map (eInt .u8) y3.2.2.2.2.2.2.2.2.2.2.2)⟩] (Rs (Target_Tick_e y3.2.1 y3.2.2.1 y3.2.2.2.2.1 y3.2.2.2.2.2.1 c index well y3.2.2.2.2.2.2.2.2.1 y3.2.2.2.2.2.2.2.2.2.1 y3.2.2.2.2.2.2.1 y3.2.2.2.2.2.2.2.1 y3.2.2.2.2.2.2.2.2.2.2.1 y3.2.2.2.2.2.2.2.2.2.2.2) y)) (Sound E 15 [.ptr 0 0 0, .int .i64 1] [some ⟨54, true, [([.int .i64 y3.2.1, .int .i64 y3.2.2.1.Epoch, .int .i64 y3.2.2.1.Target, .int .i64 y3.2.2.1.Prev, .int .i64 y3.2.2.1.Spill, .int .i64 y3.2.2.1.Percent, .int .i64 y3.2.2.1.Stamp, .int .i64 y3.2.2.1.Since, .int .i64 y3.2.2.1.Ramped, .int .u64 y3.2.2.1.Up, .int .u64 y3.2.2.1.Sup, .sl false 1 (List.map (eInt .i64) y3.2.2.1.Pen), .sl false 1 (List.map (eInt .i64) y3.2.2.1.Changes), .int .i64 y3.2.2.2.1.Epoch, .int .i64 y3.2.2.2.1.Nonce, .int .u64 y3.2.2.2.1.Grants, .int .i64 y3.2.2.2.1.Until, (grD 1 (List.map Entry.enc y3.2.2.2.2.2.2.2.2.1)), (grD 2 (List.map (eSl 1 (eInt .i64)) y3.2.2.2.2.2.2.2.2.2.1)), .int .i64 y3.2.2.2.2.1, .int .i64 y3.2.2.2.2.2.1] ++ Config.encL c [.int .i64 index, .ptr 3 0 0, .bool well])]⟩, some ⟨3, false, (List.map Entry.enc y3.2.2.2.2.2.2.2.2.1)⟩, some ⟨1, false, (List.map (eSl 1 (eInt .i64)) y3.2.2.2.2.2.2.2.2.2.1)⟩, some ⟨4, true, [[(grD 4 (List.map (eInt .u8) y3.2.2.2.2.2.2.2.2.2.2.1)), (grD 5 (List.map (eInt .u8) y3.2.2.2.2.2.2.2.2.2.2.2)), .int .i64 y3.2.2.2.2.2.2.1, .bool y3.2.2.2.2.2.2.2.1]]⟩, some ⟨1, false, (List.map (eInt .u8) y3.2.2.2.2.2.2.2.2.2.2.1)⟩, some ⟨1, false, (List.map (eInt .u8) y3.2.2.2.2.2.2.2.2.2.2.2)⟩] (Rs (Target_Tick_e y3.2.1 y3.2.2.1 y3.2.2.2.2.1 y3.2.2.2.2.2.1 c index well y3.2.2.2.2.2.2.2.2.1 y3.2.2.2.2.2.2.2.2.2.1 y3.2.2.2.2.2.2.1 y3.2.2.2.2.2.2.2.1 y3.2.2.2.2.2.2.2.2.2.2.1 y3.2.2.2.2.2.2.2.2.2.2.2) y)) (by kernel_rfl) (Target_Tick_ok hy)
 refine zc 0 [] h ok4 fun y4 h => ?_
 exact zj 9 h ha
theorem law18_FenceWrites_5_ok {c n payload up a fence known hold begun filled index well b2 b3 fuse down b5 b6} : law18_FenceWrites_W c n payload (.s5 up a fence known hold begun filled index well b2 b3 fuse down b5 b6) (law18_FenceWrites_5 c n payload up a fence known hold begun filled index well b2 b3 fuse down b5 b6) := by
 intro r x h ha; unfold law18_FenceWrites_5 at h
 refine zs 11 h (fun h => ?_) fun h => ?_
 ·
  refine adv_ok hm 8 _ ?_
  have ok2 := fun (y : (List Msg) × Int × Plan × Hold × Int × Int × Int × Bool × (List Entry) × (List (List Int)) × (List Int) × (List Int)) (hy : Target_Handle (⟨11, a, 0, 1, 0, 0, 1, 0, 0, 1, false, (⟨0, 0, 0, 0, 0, 0, 0, 0, 0, 0, [], []⟩ : Plan), [], [], []⟩ : Msg) 1 fence known hold begun filled c index well b2 b3 fuse down b5 b6 = some y) => @Eq.mp (Sound E 11 [.ptr 0 0 0, .agg [.int .i64 11, .int .i64 a, .int .i64 0, .int .i64 1, .int .i64 0, .int .i64 0, .int .i64 1, .int .i64 0, .int .u64 0, .int .i64 1, .bool false, .int .i64 0, .int .i64 0, .int .i64 0, .int .i64 0, .int .i64 0, .int .i64 0, .int .i64 0, .int .i64 0, .int .u64 0, .int .u64 0, .sl false 1 (List.map (eInt .i64) ([])), .sl false 1 (List.map (eInt .i64) ([])), .sl false 1 (List.map (eInt .i64) ([])), .sl false 1 (List.map (eInt .u8) ([])), .sl false 1 (List.map (eInt .u8) ([]))], .int .i64 1] [some ⟨54, true, [([.int .i64 fence] ++ Plan.encL known ([.int .i64 hold.Epoch, .int .i64 hold.Nonce, .int .u64 hold.Grants, .int .i64 hold.Until, (grD 1 (List.map Entry.enc b2)), (grD 2 (List.map (eSl 1 (eInt .i64)) b3)), .int .i64 begun, .int .i64 filled] ++ Config.encL c [.int .i64 index, .ptr 3 0 0, .bool well]))]⟩, some ⟨3, false, (List.map Entry.enc b2)⟩, some ⟨1, false, (List.map (eSl 1 (eInt .i64)) b3)⟩, some ⟨4, true, [[(grD 4 (List.map (eInt .u8) b5)), (grD 5 (List.map (eInt .u8) b6)), .int .i64 fuse, .bool down]]⟩, some ⟨1, false, (List.map (eInt .u8) b5)⟩, some ⟨1, false, (List.map (eInt .u8) b6)⟩] (Rs (Target_Handle_e c index well) y)) (Sound E 11 [.ptr 0 0 0, .agg [.int .i64 11, .int .i64 a, .int .i64 0, .int .i64 1, .int .i64 0, .int .i64 0, .int .i64 1, .int .i64 0, .int .u64 0, .int .i64 1, .bool false, .int .i64 0, .int .i64 0, .int .i64 0, .int .i64 0, .int .i64 0, .int .i64 0, .int .i64 0, .int .i64 0, .int .u64 0, .int .u64 0, .sl false 1 [], .sl false 1 [], .sl false 1 [], .sl false 1 [], .sl false 1 []], .int .i64 1] [some ⟨54, true, [([.int .i64 fence] ++ Plan.encL known ([.int .i64 hold.Epoch, .int .i64 hold.Nonce, .int .u64 hold.Grants, .int .i64 hold.Until, (grD 1 (List.map Entry.enc b2)), (grD 2 (List.map (eSl 1 (eInt .i64)) b3)), .int .i64 begun, .int .i64 filled] ++ Config.encL c [.int .i64 index, .ptr 3 0 0, .bool well]))]⟩, some ⟨3, false, (List.map Entry.enc b2)⟩, some ⟨1, false, (List.map (eSl 1 (eInt .i64)) b3)⟩, some ⟨4, true, [[(grD 4 (List.map (eInt .u8) b5)), (grD 5 (List.map (eInt .u8) b6)), .int .i64 fuse, .bool down]]⟩, some ⟨1, false, (List.map (eInt .u8) b5)⟩, some ⟨1, false, (List.map (eInt .u8) b6)⟩] (Rs (Target_Handle_e c index well) y)) (by kernel_rfl) (Target_Handle_ok hy)
  refine zc 0 [some 1, some 1, some 1, some 1, some 1] h ok2 fun y2 h => ?_
  exact zj 8 h ha
 exact zj 9 h ha
theorem law18_FenceWrites_6_ok {c n payload up twice fence known hold begun filled index well b2 b3 fuse down b5 b6} : law18_FenceWrites_W c n payload (.s6 up twice fence known hold begun filled index well b2 b3 fuse down b5 b6) (law18_FenceWrites_6 c n payload up twice fence known hold begun filled index well b2 b3 fuse down b5 b6) := by
 intro r x h ha; unfold law18_FenceWrites_6 at h
 refine zs 8 h (fun h => ?_) fun h => ?_
 ·
  exact zj 10 h ha
 refine adv_ok hm 5 _ ?_
 have ok2 := fun (y : List Entry) (hy : Target_Log fence known hold begun filled c index well b2 b3 fuse down b5 b6 = some y) => @Eq.mp (Sound E 16 [.ptr 0 0 0] [some ⟨54, true, [([.int .i64 fence] ++ Plan.encL known ([.int .i64 hold.Epoch, .int .i64 hold.Nonce, .int .u64 hold.Grants, .int .i64 hold.Until, (grD 1 (List.map Entry.enc b2)), (grD 2 (List.map (eSl 1 (eInt .i64)) b3)), .int .i64 begun, .int .i64 filled] ++ Config.encL c [.int .i64 index, .ptr 3 0 0, .bool well]))]⟩, some ⟨3, false, (List.map Entry.enc b2)⟩, some ⟨1, false, (List.map (eSl 1 (eInt .i64)) b3)⟩, some ⟨4, true, [[(grD 4 (List.map (eInt .u8) b5)), (grD 5 (List.map (eInt .u8) b6)), .int .i64 fuse, .bool down]]⟩, some ⟨1, false, (List.map (eInt .u8) b5)⟩, some ⟨1, false, (List.map (eInt .u8) b6)⟩] (Rs (Target_Log_e fence known hold begun filled c index well b2 b3 fuse down b5 b6) y)) (Sound E 16 [.ptr 0 0 0] [some ⟨54, true, [([.int .i64 fence] ++ Plan.encL known ([.int .i64 hold.Epoch, .int .i64 hold.Nonce, .int .u64 hold.Grants, .int .i64 hold.Until, (grD 1 (List.map Entry.enc b2)), (grD 2 (List.map (eSl 1 (eInt .i64)) b3)), .int .i64 begun, .int .i64 filled] ++ Config.encL c [.int .i64 index, .ptr 3 0 0, .bool well]))]⟩, some ⟨3, false, (List.map Entry.enc b2)⟩, some ⟨1, false, (List.map (eSl 1 (eInt .i64)) b3)⟩, some ⟨4, true, [[(grD 4 (List.map (eInt .u8) b5)), (grD 5 (List.map (eInt .u8) b6)), .int .i64 fuse, .bool down]]⟩, some ⟨1, false, (List.map (eInt .u8) b5)⟩, some ⟨1, false, (List.map (eInt .u8) b6)⟩] (Rs (Target_Log_e fence known hold begun filled c index well b2 b3 fuse down b5 b6) y)) (by kernel_rfl) (Target_Log_ok hy)
 refine zc 0 [] h ok2 fun y2 h => ?_
 refine zs 18 h (fun h => ?_) fun h => ?_
 ·
  exact zk 21 h ha
 refine adv_ok hm 2 _ ?_
 have ok4 := fun (y : List (List Int)) (hy : Target_Closed fence known hold begun filled c index well b2 b3 fuse down b5 b6 = some y) => @Eq.mp (Sound E 17 [.ptr 0 0 0] [some ⟨54, true, [([.int .i64 fence] ++ Plan.encL known ([.int .i64 hold.Epoch, .int .i64 hold.Nonce, .int .u64 hold.Grants, .int .i64 hold.Until, (grD 1 (List.map Entry.enc b2)), (grD 2 (List.map (eSl 1 (eInt .i64)) b3)), .int .i64 begun, .int .i64 filled] ++ Config.encL c [.int .i64 index, .ptr 3 0 0, .bool well]))]⟩, some ⟨3, false, (List.map Entry.enc b2)⟩, some ⟨1, false, (List.map (eSl 1 (eInt .i64)) b3)⟩, some ⟨4, true, [[(grD 4 (List.map (eInt .u8) b5)), (grD 5 (List.map (eInt .u8) b6)), .int .i64 fuse, .bool down]]⟩, some ⟨1, false, (List.map (eInt .u8) b5)⟩, some ⟨1, false, (List.map (eInt .u8) b6)⟩] (Rs (Target_Closed_e fence known hold begun filled c index well b2 b3 fuse down b5 b6) y)) (Sound E 17 [.ptr 0 0 0] [some ⟨54, true, [([.int .i64 fence] ++ Plan.encL known ([.int .i64 hold.Epoch, .int .i64 hold.Nonce, .int .u64 hold.Grants, .int .i64 hold.Until, (grD 1 (List.map Entry.enc b2)), (grD 2 (List.map (eSl 1 (eInt .i64)) b3)), .int .i64 begun, .int .i64 filled] ++ Config.encL c [.int .i64 index, .ptr 3 0 0, .bool well]))]⟩, some ⟨3, false, (List.map Entry.enc b2)⟩, some ⟨1, false, (List.map (eSl 1 (eInt .i64)) b3)⟩, some ⟨4, true, [[(grD 4 (List.map (eInt .u8) b5)), (grD 5 (List.map (eInt .u8) b6)), .int .i64 fuse, .bool down]]⟩, some ⟨1, false, (List.map (eInt .u8) b5)⟩, some ⟨1, false, (List.map (eInt .u8) b6)⟩] (Rs (Target_Closed_e fence known hold begun filled c index well b2 b3 fuse down b5 b6) y)) (by kernel_rfl) (Target_Closed_ok hy)
 refine zc 0 [] h ok4 fun y4 h => ?_
 exact zk 20 h ha
theorem law18_FenceWrites_7_ok {c n payload up twice i fence known hold begun filled index well b2 b3 fuse down b5 b6} : law18_FenceWrites_W c n payload (.s7 up twice i fence known hold begun filled index well b2 b3 fuse down b5 b6) (law18_FenceWrites_7 c n payload up twice i fence known hold begun filled index well b2 b3 fuse down b5 b6) := by
 intro r x h ha; unfold law18_FenceWrites_7 at h
 refine zs 12 h (fun h => ?_) fun h => ?_
 ·
  refine adv_ok hm 8 _ ?_
  refine r_fzT 65 (n1 := 3) (n2 := 3) (raw := ([[.int .i64 0], [.int .i64 1], [.int .i64 i]])) (rs := ([[.int .i64 0], [.int .i64 1], [.int .i64 i]])) (by kernel_rfl) rfl rfl ?_
  refine adv_ok hm 3 _ ?_
  have ok2 := fun (y : (List Msg) × Int × Plan × Hold × Int × Int × Int × Bool × (List Entry) × (List (List Int)) × (List Int) × (List Int)) (hy : Target_Handle (⟨14, 9, 0, 1, 0, 0, 0, 0, 0, 0, false, (⟨0, 0, 0, 0, 0, 0, 0, 0, 0, 0, [], []⟩ : Plan), [0, 1, i], [], payload⟩ : Msg) 1 fence known hold begun filled c index well b2 b3 fuse down b5 b6 = some y) => @Eq.mp (Sound E 11 [.ptr 0 0 0, .agg [.int .i64 14, .int .i64 9, .int .i64 0, .int .i64 1, .int .i64 0, .int .i64 0, .int .i64 0, .int .i64 0, .int .u64 0, .int .i64 0, .bool false, .int .i64 0, .int .i64 0, .int .i64 0, .int .i64 0, .int .i64 0, .int .i64 0, .int .i64 0, .int .i64 0, .int .u64 0, .int .u64 0, .sl false 1 (List.map (eInt .i64) ([])), .sl false 1 (List.map (eInt .i64) ([])), .sl false 1 (List.map (eInt .i64) ([0, 1, i])), .sl false 1 (List.map (eInt .u8) ([])), .sl false 1 (List.map (eInt .u8) payload)], .int .i64 1] [some ⟨54, true, [([.int .i64 fence] ++ Plan.encL known ([.int .i64 hold.Epoch, .int .i64 hold.Nonce, .int .u64 hold.Grants, .int .i64 hold.Until, (grD 1 (List.map Entry.enc b2)), (grD 2 (List.map (eSl 1 (eInt .i64)) b3)), .int .i64 begun, .int .i64 filled] ++ Config.encL c [.int .i64 index, .ptr 3 0 0, .bool well]))]⟩, some ⟨3, false, (List.map Entry.enc b2)⟩, some ⟨1, false, (List.map (eSl 1 (eInt .i64)) b3)⟩, some ⟨4, true, [[(grD 4 (List.map (eInt .u8) b5)), (grD 5 (List.map (eInt .u8) b6)), .int .i64 fuse, .bool down]]⟩, some ⟨1, false, (List.map (eInt .u8) b5)⟩, some ⟨1, false, (List.map (eInt .u8) b6)⟩] (Rs (Target_Handle_e c index well) y)) (Sound E 11 [.ptr 0 0 0, .agg [.int .i64 14, .int .i64 9, .int .i64 0, .int .i64 1, .int .i64 0, .int .i64 0, .int .i64 0, .int .i64 0, .int .u64 0, .int .i64 0, .bool false, .int .i64 0, .int .i64 0, .int .i64 0, .int .i64 0, .int .i64 0, .int .i64 0, .int .i64 0, .int .i64 0, .int .u64 0, .int .u64 0, .sl false 1 [], .sl false 1 [], .sl false 1 [[.int .i64 0], [.int .i64 1], [.int .i64 i]], .sl false 1 [], .sl false 1 (List.map (eInt .u8) payload)], .int .i64 1] [some ⟨54, true, [([.int .i64 fence] ++ Plan.encL known ([.int .i64 hold.Epoch, .int .i64 hold.Nonce, .int .u64 hold.Grants, .int .i64 hold.Until, (grD 1 (List.map Entry.enc b2)), (grD 2 (List.map (eSl 1 (eInt .i64)) b3)), .int .i64 begun, .int .i64 filled] ++ Config.encL c [.int .i64 index, .ptr 3 0 0, .bool well]))]⟩, some ⟨3, false, (List.map Entry.enc b2)⟩, some ⟨1, false, (List.map (eSl 1 (eInt .i64)) b3)⟩, some ⟨4, true, [[(grD 4 (List.map (eInt .u8) b5)), (grD 5 (List.map (eInt .u8) b6)), .int .i64 fuse, .bool down]]⟩, some ⟨1, false, (List.map (eInt .u8) b5)⟩, some ⟨1, false, (List.map (eInt .u8) b6)⟩] (Rs (Target_Handle_e c index well) y)) (by kernel_rfl) (Target_Handle_ok hy)
  refine zc 0 [some 1, some 1, some 1] h ok2 fun y2 h => ?_
  refine zs 4 h (fun h => ?_) fun h => ?_
  ·
   exact zt 23 h ha
  refine zn 1 h fun h => ?_
  refine zr 2 Msg.enc h fun y5 h => ?_
  refine zs 2 h (fun h => ?_) fun h => ?_
  ·
   exact zt 17 h ha
  refine zn 1 h fun h => ?_
  refine zr 2 Msg.enc h fun y9 h => ?_
  refine zs 9 h (fun h => ?_) fun h => ?_
  ·
   exact zt 5 h ha
  exact zj 8 h ha
 exact zj 8 h ha
theorem law18_FenceWrites_8_ok {c n payload up log t113} : law18_FenceWrites_W c n payload (.s8 up log t113) (law18_FenceWrites_8 c n payload up log t113) := by
 intro r x h ha; unfold law18_FenceWrites_8 at h
 refine zs 1 h (fun h => ?_) fun h => ?_
 ·
  exact zt 5 h ha
 exact zj 9 h ha
theorem law18_FenceWrites_9_ok {c n payload up log i} : law18_FenceWrites_W c n payload (.s9 up log i) (law18_FenceWrites_9 c n payload up log i) := by
 intro r x h ha; unfold law18_FenceWrites_9 at h
 refine zs 10 h (fun h => ?_) fun h => ?_
 ·
  refine zn 5 h fun h => ?_
  refine zr 0 Entry.enc h fun y3 h => ?_
  refine zs 0 h (fun h => ?_) fun h => ?_
  ·
   exact zt 26 h ha
  refine zn 2 h fun h => ?_
  refine zr 2 Entry.enc h fun y7 h => ?_
  refine zn 1 h fun h => ?_
  refine zr 1 (eInt .i64) h fun y10 h => ?_
  refine zs 3 h (fun h => ?_) fun h => ?_
  ·
   exact zt 16 h ha
  refine zn 2 h fun h => ?_
  refine zr 2 Entry.enc h fun y14 h => ?_
  refine adv_ok hm 1 _ ?_
  refine r_str (rowsStr (List.map (eInt .u8) y14.Payload)) (List.map b8 y14.Payload) (by kernel_rfl) (rows_bytes _) ?_
  refine adv_ok hm 2 _ ?_
  refine r_str (rowsStr (List.map (eInt .u8) payload)) (List.map b8 payload) (by kernel_rfl) (rows_bytes _) ?_
  refine zs 3 h (fun h => ?_) fun h => ?_
  ·
   exact zt 5 h ha
  exact zj 8 h ha
 exact zt 7 h ha
noncomputable def law18_FenceWrites (c : Config) (n : Int) (payload : List Int) : Option Bool := evf (law18_FenceWrites_step c n payload) (.s0)
theorem law18_FenceWrites_ok {c : Config} {n : Int} {payload : List Int} {r : Bool} (h : law18_FenceWrites c n payload = some r) : Sound E 4 [.agg (Config.enc c), .int .u8 n, .sl false 1 (List.map (eInt .u8) payload)] [] (Rs law18_FenceWrites_e r) := sc (fn := Tryd.f4) (k := false) (m := 0) (stM := (law18_FenceWrites_M c n payload)) h fun s => by
 cases s with
 | s0 => exact law18_FenceWrites_0_ok
 | s1 => exact law18_FenceWrites_1_ok
 | s2 => exact law18_FenceWrites_2_ok
 | s3 => exact law18_FenceWrites_3_ok
 | s4 => exact law18_FenceWrites_4_ok
 | s5 => exact law18_FenceWrites_5_ok
 | s6 => exact law18_FenceWrites_6_ok
 | s7 => exact law18_FenceWrites_7_ok
 | s8 => exact law18_FenceWrites_8_ok
 | s9 => exact law18_FenceWrites_9_ok
end Go.RX.L
