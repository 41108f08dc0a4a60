/-
  Words and walks for FenceOnce. No condition.
-/
import Derived.Test.YtflpengopdhhhaaDoorFenceOnceY9
set_option linter.unusedSectionVars false
set_option linter.unnecessarySimpa false
set_option linter.unusedSimpArgs false
set_option linter.unusedVariables false
set_option maxRecDepth 100000
set_option maxHeartbeats 4000000
namespace Go.RX.L
open Go Go.RX Go.Proofs
attribute [local irreducible] FinQ
noncomputable def law18_FenceOnce_c := codeAt (bodyOf Tryd.f7)
noncomputable def law18_FenceOnce_e (y : Bool) : D × Sto := (.bool y, [])
inductive law18_FenceOnce_S where
 | s0
 | s1 (up : Bool)
 | s2 (up : Bool) (fence : Int) (known : Plan) (hold : Hold) (begun filled index : Int) (well : Bool) (b1 : List Entry) (b2 : List (List Int)) (fuse : Int) (down : Bool) (b4 b5 : List Int)
 | s3 (up : Bool) (i fence : Int) (known : Plan) (hold : Hold) (begun filled index : Int) (well : Bool) (done no : List (List Int)) (b3 : List Entry) (b4 : List (List Int)) (fuse : Int) (down : Bool) (b6 b7 : List Int)
 | s4 (up : Bool) (i : Int) (x_ : List Msg) (k fence : Int) (known : Plan) (hold : Hold) (begun filled index : Int) (well : Bool) (done no : List (List Int)) (b3 : List Entry) (b4 : List (List Int)) (fuse : Int) (down : Bool) (b6 b7 : List Int)
 | s7 (up : Bool) (i : Int) (x_ : List Msg) (k : Int) (t57 : Bool) (fence : Int) (known : Plan) (hold : Hold) (begun filled index : Int) (well : Bool) (done no : List (List Int)) (b3 : List Entry) (b4 : List (List Int)) (fuse : Int) (down : Bool) (b6 b7 : List Int)
 | s8 (up : Bool) (i : Int) (log : List Entry) (k fence : Int) (known : Plan) (hold : Hold) (begun filled index : Int) (well : Bool) (done no ids : List (List Int)) (b4 : List Entry) (b5 : List (List Int)) (fuse : Int) (down : Bool) (b7 b8 : List Int)
 | s6 (up : Bool) (i : Int) (x_ : List Msg) (k fence : Int) (known : Plan) (hold : Hold) (begun filled index : Int) (well : Bool) (done no : List (List Int)) (b3 : List Entry) (b4 : List (List Int)) (fuse : Int) (down : Bool) (b6 b7 : List Int)
 | s9 (up : Bool) (i : Int) (log : List Entry) (k : Int) (t124 : Bool) (fence : Int) (known : Plan) (hold : Hold) (begun filled index : Int) (well : Bool) (done no ids : List (List Int)) (b4 : List Entry) (b5 : List (List Int)) (fuse : Int) (down : Bool) (b7 b8 : List Int)
 | s10 (up : Bool) (i k fence : Int) (known : Plan) (hold : Hold) (begun filled index : Int) (well : Bool) (done no ids : List (List Int)) (b4 : List Entry) (b5 : List (List Int)) (fuse : Int) (down : Bool) (b7 b8 : List Int)
 | s5 (up : Bool) (i : Int) (x_ : List Msg) (k : Int) (t79 : Bool) (fence : Int) (known : Plan) (hold : Hold) (begun filled index : Int) (well : Bool) (done no : List (List Int)) (b3 : List Entry) (b4 : List (List Int)) (fuse : Int) (down : Bool) (b6 b7 : List Int)
noncomputable def law18_FenceOnce_M (c : Config) (l_ : List Op) : law18_FenceOnce_S → M
 | .s0 => startM Tryd.f7 [.agg (Config.enc c), .sl false 29 (List.map Op.enc l_)] []
 | .s1 up => ⟨[.code (law18_FenceOnce_c [1, 1, 1])], [(1, .sl false 29 (List.map Op.enc l_)), (5, .bool up), (6, .nilp)], []⟩
 | .s2 up fence known hold begun filled index well b1 b2 fuse down b4 b5 => ⟨[.code (law18_FenceOnce_c [1, 1, 1])], [(1, .sl false 29 (List.map Op.enc l_)), (5, .bool up), (6, .ptr 0 0 0)], [some ⟨54, true, [([.int .i64 fence] ++ Plan.encL known ([.int .i64 hold.Epoch, .int .i64 hold.Nonce, .int .u64 hold.Grants, .int .i64 hold.Until, (grD 1 (List.map Entry.enc b1)), (grD 2 (List.map (eSl 1 (eInt .i64)) b2)), .int .i64 begun, .int .i64 filled] ++ Config.encL c [.int .i64 index, .ptr 3 0 0, .bool well]))]⟩, some ⟨3, false, (List.map Entry.enc b1)⟩, some ⟨1, false, (List.map (eSl 1 (eInt .i64)) b2)⟩, some ⟨4, true, [[(grD 4 (List.map (eInt .u8) b4)), (grD 5 (List.map (eInt .u8) b5)), .int .i64 fuse, .bool down]]⟩, some ⟨1, false, (List.map (eInt .u8) b4)⟩, some ⟨1, false, (List.map (eInt .u8) b5)⟩]⟩
 | .s3 up i fence known hold begun filled index well done no b3 b4 fuse down b6 b7 => ⟨[.lpc (law18_FenceOnce_c [1, 1, 1, 1, 1, 1, 0, 1, 0, 0]) 994, .blk 0, .code (law18_FenceOnce_c [1, 1, 1, 1, 1, 1, 1])], [(1, .sl false 29 (List.map Op.enc l_)), (5, .bool up), (6, .ptr 0 0 0), (7, (grD 1 (List.map (eSl 1 (eInt .i64)) done))), (8, (grD 2 (List.map (eSl 1 (eInt .i64)) no))), (9, .int .i64 i)], [some ⟨54, true, [([.int .i64 fence] ++ Plan.encL known ([.int .i64 hold.Epoch, .int .i64 hold.Nonce, .int .u64 hold.Grants, .int .i64 hold.Until, (grD 3 (List.map Entry.enc b3)), (grD 4 (List.map (eSl 1 (eInt .i64)) b4)), .int .i64 begun, .int .i64 filled] ++ Config.encL c [.int .i64 index, .ptr 5 0 0, .bool well]))]⟩, some ⟨1, false, (List.map (eSl 1 (eInt .i64)) done)⟩, some ⟨1, false, (List.map (eSl 1 (eInt .i64)) no)⟩, some ⟨3, false, (List.map Entry.enc b3)⟩, some ⟨1, false, (List.map (eSl 1 (eInt .i64)) b4)⟩, some ⟨4, true, [[(grD 6 (List.map (eInt .u8) b6)), (grD 7 (List.map (eInt .u8) b7)), .int .i64 fuse, .bool down]]⟩, some ⟨1, false, (List.map (eInt .u8) b6)⟩, some ⟨1, false, (List.map (eInt .u8) b7)⟩]⟩
 | .s4 up i x_ k fence known hold begun filled index well done no b3 b4 fuse down b6 b7 => ⟨[.lpc (law18_FenceOnce_c [1, 1, 1, 1, 1, 1, 0, 1, 0, 0, 1, 0, 0, 1, 0, 1, 0, 0]) 4066, .blk 2, .code (law18_FenceOnce_c [1, 1, 1, 1, 1, 1, 0, 1, 0, 0, 1, 0, 0, 1, 1]), .blk 1, .code (law18_FenceOnce_c [1, 1, 1, 1, 1, 1, 0, 1, 0, 0, 1, 1]), .lp (law18_FenceOnce_c [1, 1, 1, 1, 1, 1, 0, 1, 0, 0]) 994, .blk 0, .code (law18_FenceOnce_c [1, 1, 1, 1, 1, 1, 1])], [(1, .sl false 29 (List.map Op.enc l_)), (5, .bool up), (6, .ptr 0 0 0), (7, (grD 1 (List.map (eSl 1 (eInt .i64)) done))), (8, (grD 2 (List.map (eSl 1 (eInt .i64)) no))), (9, .int .i64 i), (10, .sl false 26 (List.map Msg.enc x_)), (11, .int .i64 k)], [some ⟨54, true, [([.int .i64 fence] ++ Plan.encL known ([.int .i64 hold.Epoch, .int .i64 hold.Nonce, .int .u64 hold.Grants, .int .i64 hold.Until, (grD 3 (List.map Entry.enc b3)), (grD 4 (List.map (eSl 1 (eInt .i64)) b4)), .int .i64 begun, .int .i64 filled] ++ Config.encL c [.int .i64 index, .ptr 5 0 0, .bool well]))]⟩, some ⟨1, false, (List.map (eSl 1 (eInt .i64)) done)⟩, some ⟨1, false, (List.map (eSl 1 (eInt .i64)) no)⟩, some ⟨3, false, (List.map Entry.enc b3)⟩, some ⟨1, false, (List.map (eSl 1 (eInt .i64)) b4)⟩, some ⟨4, true, [[(grD 6 (List.map (eInt .u8) b6)), (grD 7 (List.map (eInt .u8) b7)), .int .i64 fuse, .bool down]]⟩, some ⟨1, false, (List.map (eInt .u8) b6)⟩, some ⟨1, false, (List.map (eInt .u8) b7)⟩]⟩
 | .s7 up i x_ k t57 fence known hold begun filled index well done no b3 b4 fuse down b6 b7 => ⟨[.code (law18_FenceOnce_c [1, 1, 1, 1, 1, 1, 0, 1, 0, 0, 1, 0, 0, 1, 0, 1, 0, 0, 1, 0, 0, 0, 1]), .code (law18_FenceOnce_c [1, 1, 1, 1, 1, 1, 0, 1, 0, 0, 1, 0, 0, 1, 0, 1, 0, 0, 1, 0, 0, 1]), .blk 3, .code (law18_FenceOnce_c [1, 1, 1, 1, 1, 1, 0, 1, 0, 0, 1, 0, 0, 1, 0, 1, 0, 0, 1, 1]), .lp (law18_FenceOnce_c [1, 1, 1, 1, 1, 1, 0, 1, 0, 0, 1, 0, 0, 1, 0, 1, 0, 0]) 4066, .blk 2, .code (law18_FenceOnce_c [1, 1, 1, 1, 1, 1, 0, 1, 0, 0, 1, 0, 0, 1, 1]), .blk 1, .code (law18_FenceOnce_c [1, 1, 1, 1, 1, 1, 0, 1, 0, 0, 1, 1]), .lp (law18_FenceOnce_c [1, 1, 1, 1, 1, 1, 0, 1, 0, 0]) 994, .blk 0, .code (law18_FenceOnce_c [1, 1, 1, 1, 1, 1, 1])], [(1, .sl false 29 (List.map Op.enc l_)), (5, .bool up), (6, .ptr 0 0 0), (7, (grD 1 (List.map (eSl 1 (eInt .i64)) done))), (8, (grD 2 (List.map (eSl 1 (eInt .i64)) no))), (9, .int .i64 i), (10, .sl false 26 (List.map Msg.enc x_)), (11, .int .i64 k), (57, .bool t57)], [some ⟨54, true, [([.int .i64 fence] ++ Plan.encL known ([.int .i64 hold.Epoch, .int .i64 hold.Nonce, .int .u64 hold.Grants, .int .i64 hold.Until, (grD 3 (List.map Entry.enc b3)), (grD 4 (List.map (eSl 1 (eInt .i64)) b4)), .int .i64 begun, .int .i64 filled] ++ Config.encL c [.int .i64 index, .ptr 5 0 0, .bool well]))]⟩, some ⟨1, false, (List.map (eSl 1 (eInt .i64)) done)⟩, some ⟨1, false, (List.map (eSl 1 (eInt .i64)) no)⟩, some ⟨3, false, (List.map Entry.enc b3)⟩, some ⟨1, false, (List.map (eSl 1 (eInt .i64)) b4)⟩, some ⟨4, true, [[(grD 6 (List.map (eInt .u8) b6)), (grD 7 (List.map (eInt .u8) b7)), .int .i64 fuse, .bool down]]⟩, some ⟨1, false, (List.map (eInt .u8) b6)⟩, some ⟨1, false, (List.map (eInt .u8) b7)⟩]⟩
 | .s8 up i log k fence known hold begun filled index well done no ids b4 b5 fuse down b7 b8 => ⟨[.lpc (law18_FenceOnce_c [1, 1, 1, 1, 1, 1, 0, 1, 0, 0, 1, 0, 0, 1, 1, 1, 1, 1, 0, 1, 0, 0]) 29666, .blk 4, .code (law18_FenceOnce_c [1, 1, 1, 1, 1, 1, 0, 1, 0, 0, 1, 0, 0, 1, 1, 1, 1, 1, 1]), .blk 1, .code (law18_FenceOnce_c [1, 1, 1, 1, 1, 1, 0, 1, 0, 0, 1, 1]), .lp (law18_FenceOnce_c [1, 1, 1, 1, 1, 1, 0, 1, 0, 0]) 994, .blk 0, .code (law18_FenceOnce_c [1, 1, 1, 1, 1, 1, 1])], [(1, .sl false 29 (List.map Op.enc l_)), (5, .bool up), (6, .ptr 0 0 0), (7, (grD 1 (List.map (eSl 1 (eInt .i64)) done))), (8, (grD 2 (List.map (eSl 1 (eInt .i64)) no))), (9, .int .i64 i), (12, .sl false 3 (List.map Entry.enc log)), (13, (grD 3 (List.map (eSl 1 (eInt .i64)) ids))), (14, .int .i64 k)], [some ⟨54, true, [([.int .i64 fence] ++ Plan.encL known ([.int .i64 hold.Epoch, .int .i64 hold.Nonce, .int .u64 hold.Grants, .int .i64 hold.Until, (grD 4 (List.map Entry.enc b4)), (grD 5 (List.map (eSl 1 (eInt .i64)) b5)), .int .i64 begun, .int .i64 filled] ++ Config.encL c [.int .i64 index, .ptr 6 0 0, .bool well]))]⟩, some ⟨1, false, (List.map (eSl 1 (eInt .i64)) done)⟩, some ⟨1, false, (List.map (eSl 1 (eInt .i64)) no)⟩, some ⟨1, false, (List.map (eSl 1 (eInt .i64)) ids)⟩, some ⟨3, false, (List.map Entry.enc b4)⟩, some ⟨1, false, (List.map (eSl 1 (eInt .i64)) b5)⟩, some ⟨4, true, [[(grD 7 (List.map (eInt .u8) b7)), (grD 8 (List.map (eInt .u8) b8)), .int .i64 fuse, .bool down]]⟩, some ⟨1, false, (List.map (eInt .u8) b7)⟩, some ⟨1, false, (List.map (eInt .u8) b8)⟩]⟩
 | .s6 up i x_ k fence known hold begun filled index well done no b3 b4 fuse down b6 b7 => ⟨[.code (law18_FenceOnce_c [1, 1, 1, 1, 1, 1, 0, 1, 0, 0, 1, 0, 0, 1, 0, 1, 0, 0, 1, 0, 0, 1]), .blk 3, .code (law18_FenceOnce_c [1, 1, 1, 1, 1, 1, 0, 1, 0, 0, 1, 0, 0, 1, 0, 1, 0, 0, 1, 1]), .lp (law18_FenceOnce_c [1, 1, 1, 1, 1, 1, 0, 1, 0, 0, 1, 0, 0, 1, 0, 1, 0, 0]) 4066, .blk 2, .code (law18_FenceOnce_c [1, 1, 1, 1, 1, 1, 0, 1, 0, 0, 1, 0, 0, 1, 1]), .blk 1, .code (law18_FenceOnce_c [1, 1, 1, 1, 1, 1, 0, 1, 0, 0, 1, 1]), .lp (law18_FenceOnce_c [1, 1, 1, 1, 1, 1, 0, 1, 0, 0]) 994, .blk 0, .code (law18_FenceOnce_c [1, 1, 1, 1, 1, 1, 1])], [(1, .sl false 29 (List.map Op.enc l_)), (5, .bool up), (6, .ptr 0 0 0), (7, (grD 1 (List.map (eSl 1 (eInt .i64)) done))), (8, (grD 2 (List.map (eSl 1 (eInt .i64)) no))), (9, .int .i64 i), (10, .sl false 26 (List.map Msg.enc x_)), (11, .int .i64 k)], [some ⟨54, true, [([.int .i64 fence] ++ Plan.encL known ([.int .i64 hold.Epoch, .int .i64 hold.Nonce, .int .u64 hold.Grants, .int .i64 hold.Until, (grD 3 (List.map Entry.enc b3)), (grD 4 (List.map (eSl 1 (eInt .i64)) b4)), .int .i64 begun, .int .i64 filled] ++ Config.encL c [.int .i64 index, .ptr 5 0 0, .bool well]))]⟩, some ⟨1, false, (List.map (eSl 1 (eInt .i64)) done)⟩, some ⟨1, false, (List.map (eSl 1 (eInt .i64)) no)⟩, some ⟨3, false, (List.map Entry.enc b3)⟩, some ⟨1, false, (List.map (eSl 1 (eInt .i64)) b4)⟩, some ⟨4, true, [[(grD 6 (List.map (eInt .u8) b6)), (grD 7 (List.map (eInt .u8) b7)), .int .i64 fuse, .bool down]]⟩, some ⟨1, false, (List.map (eInt .u8) b6)⟩, some ⟨1, false, (List.map (eInt .u8) b7)⟩]⟩
 | .s9 up i log k t124 fence known hold begun filled index well done no ids b4 b5 fuse down b7 b8 => ⟨[.code (law18_FenceOnce_c [1, 1, 1, 1, 1, 1, 0, 1, 0, 0, 1, 0, 0, 1, 1, 1, 1, 1, 0, 1, 0, 0, 1, 0, 0, 0, 1]), .code (law18_FenceOnce_c [1, 1, 1, 1, 1, 1, 0, 1, 0, 0, 1, 0, 0, 1, 1, 1, 1, 1, 0, 1, 0, 0, 1, 0, 0, 1]), .blk 5, .code (law18_FenceOnce_c [1, 1, 1, 1, 1, 1, 0, 1, 0, 0, 1, 0, 0, 1, 1, 1, 1, 1, 0, 1, 0, 0, 1, 1]), .lp (law18_FenceOnce_c [1, 1, 1, 1, 1, 1, 0, 1, 0, 0, 1, 0, 0, 1, 1, 1, 1, 1, 0, 1, 0, 0]) 29666, .blk 4, .code (law18_FenceOnce_c [1, 1, 1, 1, 1, 1, 0, 1, 0, 0, 1, 0, 0, 1, 1, 1, 1, 1, 1]), .blk 1, .code (law18_FenceOnce_c [1, 1, 1, 1, 1, 1, 0, 1, 0, 0, 1, 1]), .lp (law18_FenceOnce_c [1, 1, 1, 1, 1, 1, 0, 1, 0, 0]) 994, .blk 0, .code (law18_FenceOnce_c [1, 1, 1, 1, 1, 1, 1])], [(1, .sl false 29 (List.map Op.enc l_)), (5, .bool up), (6, .ptr 0 0 0), (7, (grD 1 (List.map (eSl 1 (eInt .i64)) done))), (8, (grD 2 (List.map (eSl 1 (eInt .i64)) no))), (9, .int .i64 i), (12, .sl false 3 (List.map Entry.enc log)), (13, (grD 3 (List.map (eSl 1 (eInt .i64)) ids))), (14, .int .i64 k), (124, .bool t124)], [some ⟨54, true, [([.int .i64 fence] ++ Plan.encL known ([.int .i64 hold.Epoch, .int .i64 hold.Nonce, .int .u64 hold.Grants, .int .i64 hold.Until, (grD 4 (List.map Entry.enc b4)), (grD 5 (List.map (eSl 1 (eInt .i64)) b5)), .int .i64 begun, .int .i64 filled] ++ Config.encL c [.int .i64 index, .ptr 6 0 0, .bool well]))]⟩, some ⟨1, false, (List.map (eSl 1 (eInt .i64)) done)⟩, some ⟨1, false, (List.map (eSl 1 (eInt .i64)) no)⟩, some ⟨1, false, (List.map (eSl 1 (eInt .i64)) ids)⟩, some ⟨3, false, (List.map Entry.enc b4)⟩, some ⟨1, false, (List.map (eSl 1 (eInt .i64)) b5)⟩, some ⟨4, true, [[(grD 7 (List.map (eInt .u8) b7)), (grD 8 (List.map (eInt .u8) b8)), .int .i64 fuse, .bool down]]⟩, some ⟨1, false, (List.map (eInt .u8) b7)⟩, some ⟨1, false, (List.map (eInt .u8) b8)⟩]⟩
 | .s10 up i k fence known hold begun filled index well done no ids b4 b5 fuse down b7 b8 => ⟨[.lpc (law18_FenceOnce_c [1, 1, 1, 1, 1, 1, 0, 1, 0, 0, 1, 0, 0, 1, 1, 1, 1, 1, 1, 1, 0, 0]) 41954, .blk 6, .blk 1, .code (law18_FenceOnce_c [1, 1, 1, 1, 1, 1, 0, 1, 0, 0, 1, 1]), .lp (law18_FenceOnce_c [1, 1, 1, 1, 1, 1, 0, 1, 0, 0]) 994, .blk 0, .code (law18_FenceOnce_c [1, 1, 1, 1, 1, 1, 1])], [(1, .sl false 29 (List.map Op.enc l_)), (5, .bool up), (6, .ptr 0 0 0), (7, (grD 1 (List.map (eSl 1 (eInt .i64)) done))), (8, (grD 2 (List.map (eSl 1 (eInt .i64)) no))), (9, .int .i64 i), (13, (grD 3 (List.map (eSl 1 (eInt .i64)) ids))), (15, .int .i64 k)], [some ⟨54, true, [([.int .i64 fence] ++ Plan.encL known ([.int .i64 hold.Epoch, .int .i64 hold.Nonce, .int .u64 hold.Grants, .int .i64 hold.Until, (grD 4 (List.map Entry.enc b4)), (grD 5 (List.map (eSl 1 (eInt .i64)) b5)), .int .i64 begun, .int .i64 filled] ++ Config.encL c [.int .i64 index, .ptr 6 0 0, .bool well]))]⟩, some ⟨1, false, (List.map (eSl 1 (eInt .i64)) done)⟩, some ⟨1, false, (List.map (eSl 1 (eInt .i64)) no)⟩, some ⟨1, false, (List.map (eSl 1 (eInt .i64)) ids)⟩, some ⟨3, false, (List.map Entry.enc b4)⟩, some ⟨1, false, (List.map (eSl 1 (eInt .i64)) b5)⟩, some ⟨4, true, [[(grD 7 (List.map (eInt .u8) b7)), (grD 8 (List.map (eInt .u8) b8)), .int .i64 fuse, .bool down]]⟩, some ⟨1, false, (List.map (eInt .u8) b7)⟩, some ⟨1, false, (List.map (eInt .u8) b8)⟩]⟩
 | .s5 up i x_ k t79 fence known hold begun filled index well done no b3 b4 fuse down b6 b7 => ⟨[.code (law18_FenceOnce_c [1, 1, 1, 1, 1, 1, 0, 1, 0, 0, 1, 0, 0, 1, 0, 1, 0, 0, 1, 0, 0, 1, 1]), .blk 3, .code (law18_FenceOnce_c [1, 1, 1, 1, 1, 1, 0, 1, 0, 0, 1, 0, 0, 1, 0, 1, 0, 0, 1, 1]), .lp (law18_FenceOnce_c [1, 1, 1, 1, 1, 1, 0, 1, 0, 0, 1, 0, 0, 1, 0, 1, 0, 0]) 4066, .blk 2, .code (law18_FenceOnce_c [1, 1, 1, 1, 1, 1, 0, 1, 0, 0, 1, 0, 0, 1, 1]), .blk 1, .code (law18_FenceOnce_c [1, 1, 1, 1, 1, 1, 0, 1, 0, 0, 1, 1]), .lp (law18_FenceOnce_c [1, 1, 1, 1, 1, 1, 0, 1, 0, 0]) 994, .blk 0, .code (law18_FenceOnce_c [1, 1, 1, 1, 1, 1, 1])], [(1, .sl false 29 (List.map Op.enc l_)), (5, .bool up), (6, .ptr 0 0 0), (7, (grD 1 (List.map (eSl 1 (eInt .i64)) done))), (8, (grD 2 (List.map (eSl 1 (eInt .i64)) no))), (9, .int .i64 i), (10, .sl false 26 (List.map Msg.enc x_)), (11, .int .i64 k), (79, .bool t79)], [some ⟨54, true, [([.int .i64 fence] ++ Plan.encL known ([.int .i64 hold.Epoch, .int .i64 hold.Nonce, .int .u64 hold.Grants, .int .i64 hold.Until, (grD 3 (List.map Entry.enc b3)), (grD 4 (List.map (eSl 1 (eInt .i64)) b4)), .int .i64 begun, .int .i64 filled] ++ Config.encL c [.int .i64 index, .ptr 5 0 0, .bool well]))]⟩, some ⟨1, false, (List.map (eSl 1 (eInt .i64)) done)⟩, some ⟨1, false, (List.map (eSl 1 (eInt .i64)) no)⟩, some ⟨3, false, (List.map Entry.enc b3)⟩, some ⟨1, false, (List.map (eSl 1 (eInt .i64)) b4)⟩, some ⟨4, true, [[(grD 6 (List.map (eInt .u8) b6)), (grD 7 (List.map (eInt .u8) b7)), .int .i64 fuse, .bool down]]⟩, some ⟨1, false, (List.map (eInt .u8) b6)⟩, some ⟨1, false, (List.map (eInt .u8) b7)⟩]⟩
abbrev law18_FenceOnce_W (c : Config) (l_ : List Op) := SOk E (Cx.of Tryd.f7 false 0) law18_FenceOnce_e (law18_FenceOnce_M c l_)
noncomputable def law18_FenceOnce_0 (c : Config) (l_ : List Op) : Option (law18_FenceOnce_S ⊕ Bool) := ((law18_head ).bind fun y1 => ((fence_New c 0).bind fun y2 => match y2 with | .r0 => (some (.inl (.s1 y1))) | .r1 y2a0 y2a1 y2a2 y2a3 y2a4 y2a5 y2a6 y2a7 y2a8 y2a9 y2a10 y2a11 => (some (.inl (.s2 y1 y2a0 y2a1 y2a2 y2a3 y2a4 0 y2a5 y2a6 y2a7 y2a8 y2a9 y2a10 y2a11)))))
noncomputable def law18_FenceOnce_1 (c : Config) (l_ : List Op) (up : Bool) : Option (law18_FenceOnce_S ⊕ Bool) := (some (.inr up))
noncomputable def law18_FenceOnce_2 (c : Config) (l_ : List Op) (up : Bool) (fence : Int) (known : Plan) (hold : Hold) (begun filled index : Int) (well : Bool) (b1 : List Entry) (b2 : List (List Int)) (fuse : Int) (down : Bool) (b4 b5 : List Int) : Option (law18_FenceOnce_S ⊕ Bool) := ((law18_Great l_).bind fun y1 => (bif y1 then (some (.inr up)) else (some (.inl (.s3 up 0 fence known hold begun filled index well ([]) ([]) b1 b2 fuse down b4 b5)))))
noncomputable def law18_FenceOnce_3 (c : Config) (l_ : List Op) (up : Bool) (i fence : Int) (known : Plan) (hold : Hold) (begun filled index : Int) (well : Bool) (done no : List (List Int)) (b3 : List Entry) (b4 : List (List Int)) (fuse : Int) (down : Bool) (b6 b7 : List Int) : Option (law18_FenceOnce_S ⊕ Bool) := (bif (decide ((i : Int) < (((List.map Op.enc l_).length : Nat) : Int))) then (bif ((decide ((0 : Int) ≤ i)) && (decide ((i : Int) < (((List.map Op.enc l_).length : Nat) : Int)))) then (((l_)[i.toNat]?).bind fun y3 => ((law18_Fuzz y3 fence known hold begun filled c index well b3 b4 fuse down b6 b7).bind fun y5 => (some (.inl (.s4 up i y5.1 0 y5.2.1 y5.2.2.1 y5.2.2.2.1 y5.2.2.2.2.1 y5.2.2.2.2.2.1 index y5.2.2.2.2.2.2.1 done no y5.2.2.2.2.2.2.2.2.2.1 y5.2.2.2.2.2.2.2.2.2.2.1 y5.2.2.2.2.2.2.2.1 y5.2.2.2.2.2.2.2.2.1 y5.2.2.2.2.2.2.2.2.2.2.2.1 y5.2.2.2.2.2.2.2.2.2.2.2.2))))) else none) else (some (.inr up)))
noncomputable def law18_FenceOnce_4 (c : Config) (l_ : List Op) (up : Bool) (i : Int) (x_ : List Msg) (k fence : Int) (known : Plan) (hold : Hold) (begun filled index : Int) (well : Bool) (done no : List (List Int)) (b3 : List Entry) (b4 : List (List Int)) (fuse : Int) (down : Bool) (b6 b7 : List Int) : Option (law18_FenceOnce_S ⊕ Bool) := (bif (decide ((k : Int) < (((List.map Msg.enc x_).length : Nat) : Int))) then (bif ((decide ((0 : Int) ≤ k)) && (decide ((k : Int) < (((List.map Msg.enc x_).length : Nat) : Int)))) then (((x_)[k.toNat]?).bind fun y3 => (bif ((y3.Kind : Int) == 15) then (bif ((decide ((0 : Int) ≤ k)) && (decide ((k : Int) < (((List.map Msg.enc x_).length : Nat) : Int)))) then (((x_)[k.toNat]?).bind fun y7 => (some (.inl (.s7 up i x_ k ((y7.Code : Int) == 0) fence known hold begun filled index well done no b3 b4 fuse down b6 b7)))) else none) else (some (.inl (.s7 up i x_ k false fence known hold begun filled index well done no b3 b4 fuse down b6 b7))))) else none) else ((Target_Journal fence known hold begun filled c index well b3 b4 fuse down b6 b7).bind fun y9 => ((Journal_Down (⟨b6, b7, fuse, down⟩ : Journal)).bind fun y10 => (bif y10 then (some (.inl (.s3 up (IntKind.i64.wrap (i + 1)) fence known hold begun filled index well done no b3 b4 fuse down b6 b7))) else ((Target_Log fence known hold begun filled c index well b3 b4 fuse down b6 b7).bind fun y12 => (some (.inl (.s8 up i y12 0 fence known hold begun filled index well done no ([]) b3 b4 fuse down b6 b7))))))))
noncomputable def law18_FenceOnce_7 (c : Config) (l_ : List Op) (up : Bool) (i : Int) (x_ : List Msg) (k : Int) (t57 : Bool) (fence : Int) (known : Plan) (hold : Hold) (begun filled index : Int) (well : Bool) (done no : List (List Int)) (b3 : List Entry) (b4 : List (List Int)) (fuse : Int) (down : Bool) (b6 b7 : List Int) : Option (law18_FenceOnce_S ⊕ Bool) := (bif t57 then (bif ((decide ((0 : Int) ≤ k)) && (decide ((k : Int) < (((List.map Msg.enc x_).length : Nat) : Int)))) then (((x_)[k.toNat]?).bind fun y3 => (bif (decide (((List.map (eSl 1 (eInt .i64)) done).length + 1) * 24 ≤ bytesLim)) then (some (.inl (.s6 up i x_ k fence known hold begun filled index well (done ++ [y3.ID]) no b3 b4 fuse down b6 b7))) else none)) else none) else (some (.inl (.s6 up i x_ k fence known hold begun filled index well done no b3 b4 fuse down b6 b7))))
noncomputable def law18_FenceOnce_8 (c : Config) (l_ : List Op) (up : Bool) (i : Int) (log : List Entry) (k fence : Int) (known : Plan) (hold : Hold) (begun filled index : Int) (well : Bool) (done no ids : List (List Int)) (b4 : List Entry) (b5 : List (List Int)) (fuse : Int) (down : Bool) (b7 b8 : List Int) : Option (law18_FenceOnce_S ⊕ Bool) := (bif (decide ((k : Int) < (((List.map Entry.enc log).length : Nat) : Int))) then (bif ((decide ((0 : Int) ≤ k)) && (decide ((k : Int) < (((List.map Entry.enc log).length : Nat) : Int)))) then (((log)[k.toNat]?).bind fun y3 => ((law18_has ids y3.ID).bind fun y5 => (bif y5 then (some (.inl (.s9 up i log k true fence known hold begun filled index well done no ids b4 b5 fuse down b7 b8))) else (bif ((decide ((0 : Int) ≤ k)) && (decide ((k : Int) < (((List.map Entry.enc log).length : Nat) : Int)))) then (((log)[k.toNat]?).bind fun y8 => ((law18_has no y8.ID).bind fun y10 => (bif y10 then (some (.inl (.s9 up i log k true fence known hold begun filled index well done no ids b4 b5 fuse down b7 b8))) else ((Target_Closed fence known hold begun filled c index well b4 b5 fuse down b7 b8).bind fun y12 => (bif ((decide ((0 : Int) ≤ k)) && (decide ((k : Int) < (((List.map Entry.enc log).length : Nat) : Int)))) then (((log)[k.toNat]?).bind fun y14 => ((law18_has y12 y14.ID).bind fun y16 => (some (.inl (.s9 up i log k y16 fence known hold begun filled index well done no ids b4 b5 fuse down b7 b8))))) else none))))) else none)))) else none) else (some (.inl (.s10 up i 0 fence known hold begun filled index well done no ids b4 b5 fuse down b7 b8))))
noncomputable def law18_FenceOnce_6 (c : Config) (l_ : List Op) (up : Bool) (i : Int) (x_ : List Msg) (k fence : Int) (known : Plan) (hold : Hold) (begun filled index : Int) (well : Bool) (done no : List (List Int)) (b3 : List Entry) (b4 : List (List Int)) (fuse : Int) (down : Bool) (b6 b7 : List Int) : Option (law18_FenceOnce_S ⊕ Bool) := (bif ((decide ((0 : Int) ≤ k)) && (decide ((k : Int) < (((List.map Msg.enc x_).length : Nat) : Int)))) then (((x_)[k.toNat]?).bind fun y2 => (bif ((y2.Kind : Int) == 15) then (bif ((decide ((0 : Int) ≤ k)) && (decide ((k : Int) < (((List.map Msg.enc x_).length : Nat) : Int)))) then (((x_)[k.toNat]?).bind fun y6 => (some (.inl (.s5 up i x_ k ((y6.Code : Int) == 1) fence known hold begun filled index well done no b3 b4 fuse down b6 b7)))) else none) else (some (.inl (.s5 up i x_ k false fence known hold begun filled index well done no b3 b4 fuse down b6 b7))))) else none)
noncomputable def law18_FenceOnce_9 (c : Config) (l_ : List Op) (up : Bool) (i : Int) (log : List Entry) (k : Int) (t124 : Bool) (fence : Int) (known : Plan) (hold : Hold) (begun filled index : Int) (well : Bool) (done no ids : List (List Int)) (b4 : List Entry) (b5 : List (List Int)) (fuse : Int) (down : Bool) (b7 b8 : List Int) : Option (law18_FenceOnce_S ⊕ Bool) := (bif t124 then (some (.inr false)) else (bif ((decide ((0 : Int) ≤ k)) && (decide ((k : Int) < (((List.map Entry.enc log).length : Nat) : Int)))) then (((log)[k.toNat]?).bind fun y3 => (bif (decide (((List.map (eSl 1 (eInt .i64)) ids).length + 1) * 24 ≤ bytesLim)) then (some (.inl (.s8 up i log (IntKind.i64.wrap (k + 1)) fence known hold begun filled index well done no (ids ++ [y3.ID]) b4 b5 fuse down b7 b8))) else none)) else none))
noncomputable def law18_FenceOnce_10 (c : Config) (l_ : List Op) (up : Bool) (i k fence : Int) (known : Plan) (hold : Hold) (begun filled index : Int) (well : Bool) (done no ids : List (List Int)) (b4 : List Entry) (b5 : List (List Int)) (fuse : Int) (down : Bool) (b7 b8 : List Int) : Option (law18_FenceOnce_S ⊕ Bool) := (bif (decide ((k : Int) < (((List.map (eSl 1 (eInt .i64)) done).length : Nat) : Int))) then (bif ((decide ((0 : Int) ≤ k)) && (decide ((k : Int) < (((List.map (eSl 1 (eInt .i64)) done).length : Nat) : Int)))) then (((done)[(0 + k.toNat)]?).bind fun y3 => ((law18_has ids y3).bind fun y5 => (bif (!y5) then (some (.inr false)) else (some (.inl (.s10 up i (IntKind.i64.wrap (k + 1)) fence known hold begun filled index well done no ids b4 b5 fuse down b7 b8)))))) else none) else (some (.inl (.s3 up (IntKind.i64.wrap (i + 1)) fence known hold begun filled index well done no b4 b5 fuse down b7 b8))))
noncomputable def law18_FenceOnce_5 (c : Config) (l_ : List Op) (up : Bool) (i : Int) (x_ : List Msg) (k : Int) (t79 : Bool) (fence : Int) (known : Plan) (hold : Hold) (begun filled index : Int) (well : Bool) (done no : List (List Int)) (b3 : List Entry) (b4 : List (List Int)) (fuse : Int) (down : Bool) (b6 b7 : List Int) : Option (law18_FenceOnce_S ⊕ Bool) := (bif t79 then (bif ((decide ((0 : Int) ≤ k)) && (decide ((k : Int) < (((List.map Msg.enc x_).length : Nat) : Int)))) then (((x_)[k.toNat]?).bind fun y3 => (bif (decide (((List.map (eSl 1 (eInt .i64)) no).length + 1) * 24 ≤ bytesLim)) then (some (.inl (.s4 up i x_ (IntKind.i64.wrap (k + 1)) fence known hold begun filled index well done (no ++ [y3.ID]) b3 b4 fuse down b6 b7))) else none)) else none) else (some (.inl (.s4 up i x_ (IntKind.i64.wrap (k + 1)) fence known hold begun filled index well done no b3 b4 fuse down b6 b7))))
noncomputable def law18_FenceOnce_step (c : Config) (l_ : List Op) : law18_FenceOnce_S → Option (law18_FenceOnce_S ⊕ Bool)
 | .s0 => law18_FenceOnce_0 c l_
 | .s1 up => law18_FenceOnce_1 c l_ up
 | .s2 up fence known hold begun filled index well b1 b2 fuse down b4 b5 => law18_FenceOnce_2 c l_ up fence known hold begun filled index well b1 b2 fuse down b4 b5
 | .s3 up i fence known hold begun filled index well done no b3 b4 fuse down b6 b7 => law18_FenceOnce_3 c l_ up i fence known hold begun filled index well done no b3 b4 fuse down b6 b7
 | .s4 up i x_ k fence known hold begun filled index well done no b3 b4 fuse down b6 b7 => law18_FenceOnce_4 c l_ up i x_ k fence known hold begun filled index well done no b3 b4 fuse down b6 b7
 | .s7 up i x_ k t57 fence known hold begun filled index well done no b3 b4 fuse down b6 b7 => law18_FenceOnce_7 c l_ up i x_ k t57 fence known hold begun filled index well done no b3 b4 fuse down b6 b7
 | .s8 up i log k fence known hold begun filled index well done no ids b4 b5 fuse down b7 b8 => law18_FenceOnce_8 c l_ up i log k fence known hold begun filled index well done no ids b4 b5 fuse down b7 b8
 | .s6 up i x_ k fence known hold begun filled index well done no b3 b4 fuse down b6 b7 => law18_FenceOnce_6 c l_ up i x_ k fence known hold begun filled index well done no b3 b4 fuse down b6 b7
 | .s9 up i log k t124 fence known hold begun filled index well done no ids b4 b5 fuse down b7 b8 => law18_FenceOnce_9 c l_ up i log k t124 fence known hold begun filled index well done no ids b4 b5 fuse down b7 b8
 | .s10 up i k fence known hold begun filled index well done no ids b4 b5 fuse down b7 b8 => law18_FenceOnce_10 c l_ up i k fence known hold begun filled index well done no ids b4 b5 fuse down b7 b8
 | .s5 up i x_ k t79 fence known hold begun filled index well done no b3 b4 fuse down b6 b7 => law18_FenceOnce_5 c l_ up i x_ k t79 fence known hold begun filled index well done no b3 b4 fuse down b6 b7
theorem law18_FenceOnce_0_ok {c l_} : law18_FenceOnce_W c l_ .s0 (law18_FenceOnce_0 c l_) := by
 intro r x h ha; unfold law18_FenceOnce_0 at h
 refine zc 8 [] h (fun _ => law18_head_ok) fun y1 h => ?_
 refine zc 7 [] h (fun _ => fence_New_ok) fun y2 h => ?_
 cases y2 with
 | r0 =>
  dsimp only at h
  exact zk 2 h ha
 | r1 y2a0 y2a1 y2a2 y2a3 y2a4 y2a5 y2a6 y2a7 y2a8 y2a9 y2a10 y2a11 =>
  dsimp only at h
  exact zk 2 h ha
theorem law18_FenceOnce_1_ok {c l_ up} : law18_FenceOnce_W c l_ (.s1 up) (law18_FenceOnce_1 c l_ up) := by
 intro r x h ha; unfold law18_FenceOnce_1 at h
 exact zt 21 h ha
theorem law18_FenceOnce_2_ok {c l_ up fence known hold begun filled index well b1 b2 fuse down b4 b5} : law18_FenceOnce_W c l_ (.s2 up fence known hold begun filled index well b1 b2 fuse down b4 b5) (law18_FenceOnce_2 c l_ up fence known hold begun filled index well b1 b2 fuse down b4 b5) := by
 intro r x h ha; unfold law18_FenceOnce_2 at h
 refine zc 10 [] h (fun _ => law18_Great_ok) fun y1 h => ?_
 refine zs 4 h (fun h => ?_) fun h => ?_
 ·
  exact zt 6 h ha
 refine adv_ok hm 17 _ ?_
 obtain rfl := Option.some.inj h
 refine r_cut 994 [.mat 7 1, .mat 8 1] (m' := ⟨[.lpc (law18_FenceOnce_c [1, 1, 1, 1, 1, 1, 0, 1, 0, 0]) 994, .blk 0, .code (law18_FenceOnce_c [1, 1, 1, 1, 1, 1, 1])], [(1, .sl false 29 (List.map Op.enc l_)), (5, .bool up), (6, .ptr 0 0 0), (7, .msl 1 0 0 0 false), (8, .msl 2 0 0 0 false), (9, .int .i64 0)], [some ⟨54, true, [([.int .i64 fence] ++ Plan.encL known ([.int .i64 hold.Epoch, .int .i64 hold.Nonce, .int .u64 hold.Grants, .int .i64 hold.Until, (grD 3 (List.map Entry.enc b1)), (grD 4 (List.map (eSl 1 (eInt .i64)) b2)), .int .i64 begun, .int .i64 filled] ++ Config.encL c [.int .i64 index, .ptr 5 0 0, .bool well]))]⟩, some ⟨1, false, []⟩, some ⟨1, false, []⟩, some ⟨3, false, (List.map Entry.enc b1)⟩, some ⟨1, false, (List.map (eSl 1 (eInt .i64)) b2)⟩, some ⟨4, true, [[(grD 6 (List.map (eInt .u8) b4)), (grD 7 (List.map (eInt .u8) b5)), .int .i64 fuse, .bool down]]⟩, some ⟨1, false, (List.map (eInt .u8) b4)⟩, some ⟨1, false, (List.map (eInt .u8) b5)⟩]⟩) (by kernel_rfl) ?_
 refine r_len (n1 := 0) (n2 := (List.map (eSl 1 (eInt .i64)) ([])).length) (fun n_len => .go ⟨[.lpc (law18_FenceOnce_c [1, 1, 1, 1, 1, 1, 0, 1, 0, 0]) 994, .blk 0, .code (law18_FenceOnce_c [1, 1, 1, 1, 1, 1, 1])], [(1, .sl false 29 (List.map Op.enc l_)), (5, .bool up), (6, .ptr 0 0 0), (7, .msl 1 0 n_len n_len false), (8, .msl 2 0 0 0 false), (9, .int .i64 0)], [some ⟨54, true, [([.int .i64 fence] ++ Plan.encL known ([.int .i64 hold.Epoch, .int .i64 hold.Nonce, .int .u64 hold.Grants, .int .i64 hold.Until, (grD 3 (List.map Entry.enc b1)), (grD 4 (List.map (eSl 1 (eInt .i64)) b2)), .int .i64 begun, .int .i64 filled] ++ Config.encL c [.int .i64 index, .ptr 5 0 0, .bool well]))]⟩, some ⟨1, false, []⟩, some ⟨1, false, []⟩, some ⟨3, false, (List.map Entry.enc b1)⟩, some ⟨1, false, (List.map (eSl 1 (eInt .i64)) b2)⟩, some ⟨4, true, [[(grD 6 (List.map (eInt .u8) b4)), (grD 7 (List.map (eInt .u8) b5)), .int .i64 fuse, .bool down]]⟩, some ⟨1, false, (List.map (eInt .u8) b4)⟩, some ⟨1, false, (List.map (eInt .u8) b5)⟩]⟩) (by simp) ?_
 refine r_len (n1 := 0) (n2 := (List.map (eSl 1 (eInt .i64)) ([])).length) (fun n_len => .go ⟨[.lpc (law18_FenceOnce_c [1, 1, 1, 1, 1, 1, 0, 1, 0, 0]) 994, .blk 0, .code (law18_FenceOnce_c [1, 1, 1, 1, 1, 1, 1])], [(1, .sl false 29 (List.map Op.enc l_)), (5, .bool up), (6, .ptr 0 0 0), (7, .msl 1 0 ((List.map (eSl 1 (eInt .i64)) ([])).length) ((List.map (eSl 1 (eInt .i64)) ([])).length) false), (8, .msl 2 0 n_len n_len false), (9, .int .i64 0)], [some ⟨54, true, [([.int .i64 fence] ++ Plan.encL known ([.int .i64 hold.Epoch, .int .i64 hold.Nonce, .int .u64 hold.Grants, .int .i64 hold.Until, (grD 3 (List.map Entry.enc b1)), (grD 4 (List.map (eSl 1 (eInt .i64)) b2)), .int .i64 begun, .int .i64 filled] ++ Config.encL c [.int .i64 index, .ptr 5 0 0, .bool well]))]⟩, some ⟨1, false, []⟩, some ⟨1, false, []⟩, some ⟨3, false, (List.map Entry.enc b1)⟩, some ⟨1, false, (List.map (eSl 1 (eInt .i64)) b2)⟩, some ⟨4, true, [[(grD 6 (List.map (eInt .u8) b4)), (grD 7 (List.map (eInt .u8) b5)), .int .i64 fuse, .bool down]]⟩, some ⟨1, false, (List.map (eInt .u8) b4)⟩, some ⟨1, false, (List.map (eInt .u8) b5)⟩]⟩) (by simp) ?_
 exact ha
theorem law18_FenceOnce_3_ok {c l_ up i fence known hold begun filled index well done no b3 b4 fuse down b6 b7} : law18_FenceOnce_W c l_ (.s3 up i fence known hold begun filled index well done no b3 b4 fuse down b6 b7) (law18_FenceOnce_3 c l_ up i fence known hold begun filled index well done no b3 b4 fuse down b6 b7) := by
 intro r x h ha; unfold law18_FenceOnce_3 at h
 refine zs 10 h (fun h => ?_) fun h => ?_
 ·
  refine zn 9 h fun h => ?_
  refine zr 1 Op.enc h fun y3 h => ?_
  refine adv_ok hm 1 _ ?_
  have ok5 := fun (y : (List Msg) × Int × Plan × Hold × Int × Int × Bool × Int × Bool × (List Entry) × (List (List Int)) × (List Int) × (List Int)) (hy : law18_Fuzz y3 fence known hold begun filled c index well b3 b4 fuse down b6 b7 = some y) => @Eq.mp (Sound E 19 [.ptr 0 0 0, .agg (Op.enc y3)] [some ⟨54, true, [([.int .i64 fence] ++ Plan.encL known ([.int .i64 hold.Epoch, .int .i64 hold.Nonce, .int .u64 hold.Grants, .int .i64 hold.Until, (grD 1 (List.map Entry.enc b3)), (grD 2 (List.map (eSl 1 (eInt .i64)) b4)), .int .i64 begun, .int .i64 filled] ++ Config.encL c [.int .i64 index, .ptr 3 0 0, .bool well]))]⟩, some ⟨3, false, (List.map Entry.enc b3)⟩, some ⟨1, false, (List.map (eSl 1 (eInt .i64)) b4)⟩, some ⟨4, true, [[(grD 4 (List.map (eInt .u8) b6)), (grD 5 (List.map (eInt .u8) b7)), .int .i64 fuse, .bool down]]⟩, some ⟨1, false, (List.map (eInt .u8) b6)⟩, some ⟨1, false, (List.map (eInt .u8) b7)⟩] (Rs (law18_Fuzz_e c index) y)) (Sound E 19 [.ptr 0 0 0, .agg (Op.enc y3)] [some ⟨54, true, [([.int .i64 fence] ++ Plan.encL known ([.int .i64 hold.Epoch, .int .i64 hold.Nonce, .int .u64 hold.Grants, .int .i64 hold.Until, (grD 1 (List.map Entry.enc b3)), (grD 2 (List.map (eSl 1 (eInt .i64)) b4)), .int .i64 begun, .int .i64 filled] ++ Config.encL c [.int .i64 index, .ptr 3 0 0, .bool well]))]⟩, some ⟨3, false, (List.map Entry.enc b3)⟩, some ⟨1, false, (List.map (eSl 1 (eInt .i64)) b4)⟩, some ⟨4, true, [[(grD 4 (List.map (eInt .u8) b6)), (grD 5 (List.map (eInt .u8) b7)), .int .i64 fuse, .bool down]]⟩, some ⟨1, false, (List.map (eInt .u8) b6)⟩, some ⟨1, false, (List.map (eInt .u8) b7)⟩] (Rs (law18_Fuzz_e c index) y)) (by kernel_rfl) (law18_Fuzz_ok hy)
  refine zc 0 [] h ok5 fun y5 h => ?_
  exact zj 10 h ha
 exact zt 7 h ha
theorem law18_FenceOnce_4_ok {c l_ up i x_ k fence known hold begun filled index well done no b3 b4 fuse down b6 b7} : law18_FenceOnce_W c l_ (.s4 up i x_ k fence known hold begun filled index well done no b3 b4 fuse down b6 b7) (law18_FenceOnce_4 c l_ up i x_ k fence known hold begun filled index well done no b3 b4 fuse down b6 b7) := by
 intro r x h ha; unfold law18_FenceOnce_4 at h
 refine zs 10 h (fun h => ?_) fun h => ?_
 ·
  refine zn 9 h fun h => ?_
  refine zr 2 Msg.enc h fun y3 h => ?_
  refine zs 3 h (fun h => ?_) fun h => ?_
  ·
   refine zn 4 h fun h => ?_
   refine zr 4 Msg.enc h fun y7 h => ?_
   exact zk 5 h ha
  exact zk 13 h ha
 refine adv_ok hm 6 _ ?_
 have ok9 := fun (y : Unit) (hy : Target_Journal fence known hold begun filled c index well b3 b4 fuse down b6 b7 = some y) => @Eq.mp (Sound E 12 [.ptr 0 0 0] [some ⟨54, true, [([.int .i64 fence] ++ Plan.encL known ([.int .i64 hold.Epoch, .int .i64 hold.Nonce, .int .u64 hold.Grants, .int .i64 hold.Until, (grD 1 (List.map Entry.enc b3)), (grD 2 (List.map (eSl 1 (eInt .i64)) b4)), .int .i64 begun, .int .i64 filled] ++ Config.encL c [.int .i64 index, .ptr 3 0 0, .bool well]))]⟩, some ⟨3, false, (List.map Entry.enc b3)⟩, some ⟨1, false, (List.map (eSl 1 (eInt .i64)) b4)⟩, some ⟨4, true, [[(grD 4 (List.map (eInt .u8) b6)), (grD 5 (List.map (eInt .u8) b7)), .int .i64 fuse, .bool down]]⟩, some ⟨1, false, (List.map (eInt .u8) b6)⟩, some ⟨1, false, (List.map (eInt .u8) b7)⟩] (Rs (Target_Journal_e fence known hold begun filled c index well b3 b4 fuse down b6 b7) y)) (Sound E 12 [.ptr 0 0 0] [some ⟨54, true, [([.int .i64 fence] ++ Plan.encL known ([.int .i64 hold.Epoch, .int .i64 hold.Nonce, .int .u64 hold.Grants, .int .i64 hold.Until, (grD 1 (List.map Entry.enc b3)), (grD 2 (List.map (eSl 1 (eInt .i64)) b4)), .int .i64 begun, .int .i64 filled] ++ Config.encL c [.int .i64 index, .ptr 3 0 0, .bool well]))]⟩, some ⟨3, false, (List.map Entry.enc b3)⟩, some ⟨1, false, (List.map (eSl 1 (eInt .i64)) b4)⟩, some ⟨4, true, [[(grD 4 (List.map (eInt .u8) b6)), (grD 5 (List.map (eInt .u8) b7)), .int .i64 fuse, .bool down]]⟩, some ⟨1, false, (List.map (eInt .u8) b6)⟩, some ⟨1, false, (List.map (eInt .u8) b7)⟩] (Rs (Target_Journal_e fence known hold begun filled c index well b3 b4 fuse down b6 b7) y)) (by kernel_rfl) (Target_Journal_ok hy)
 refine zc 0 [] h ok9 fun y9 h => ?_
 refine zm 1 (b := (Nat.ble (0 + (List.map (eInt .u8) b6).length) ((List.map (eInt .u8) b6).length))) (ble_full _) ?_
 refine zm 0 (b := (Nat.ble (0 + (List.map (eInt .u8) b7).length) ((List.map (eInt .u8) b7).length))) (ble_full _) ?_
 refine zcE 0 [] (args1 := [.iptr 4 [[.sl false 1 (List.take ((List.map (eInt .u8) b6).length) (List.drop 0 (List.map (eInt .u8) b6))), .sl false 1 (List.take ((List.map (eInt .u8) b7).length) (List.drop 0 (List.map (eInt .u8) b7))), .int .i64 fuse, .bool down]] 0 0]) h (fun _ => Journal_Down_ok) ⟨by simp [List.take_of_length_le, List.map_take, List.map_drop], rfl⟩ fun y10 h => ?_
 refine zs 2 h (fun h => ?_) fun h => ?_
 ·
  exact zj 7 h ha
 refine adv_ok hm 5 _ ?_
 have ok12 := fun (y : List Entry) (hy : Target_Log fence known hold begun filled c index well b3 b4 fuse down b6 b7 = some y) => @Eq.mp (Sound E 16 [.ptr 0 0 0] [some ⟨54, true, [([.int .i64 fence] ++ Plan.encL known ([.int .i64 hold.Epoch, .int .i64 hold.Nonce, .int .u64 hold.Grants, .int .i64 hold.Until, (grD 1 (List.map Entry.enc b3)), (grD 2 (List.map (eSl 1 (eInt .i64)) b4)), .int .i64 begun, .int .i64 filled] ++ Config.encL c [.int .i64 index, .ptr 3 0 0, .bool well]))]⟩, some ⟨3, false, (List.map Entry.enc b3)⟩, some ⟨1, false, (List.map (eSl 1 (eInt .i64)) b4)⟩, some ⟨4, true, [[(grD 4 (List.map (eInt .u8) b6)), (grD 5 (List.map (eInt .u8) b7)), .int .i64 fuse, .bool down]]⟩, some ⟨1, false, (List.map (eInt .u8) b6)⟩, some ⟨1, false, (List.map (eInt .u8) b7)⟩] (Rs (Target_Log_e fence known hold begun filled c index well b3 b4 fuse down b6 b7) y)) (Sound E 16 [.ptr 0 0 0] [some ⟨54, true, [([.int .i64 fence] ++ Plan.encL known ([.int .i64 hold.Epoch, .int .i64 hold.Nonce, .int .u64 hold.Grants, .int .i64 hold.Until, (grD 1 (List.map Entry.enc b3)), (grD 2 (List.map (eSl 1 (eInt .i64)) b4)), .int .i64 begun, .int .i64 filled] ++ Config.encL c [.int .i64 index, .ptr 3 0 0, .bool well]))]⟩, some ⟨3, false, (List.map Entry.enc b3)⟩, some ⟨1, false, (List.map (eSl 1 (eInt .i64)) b4)⟩, some ⟨4, true, [[(grD 4 (List.map (eInt .u8) b6)), (grD 5 (List.map (eInt .u8) b7)), .int .i64 fuse, .bool down]]⟩, some ⟨1, false, (List.map (eInt .u8) b6)⟩, some ⟨1, false, (List.map (eInt .u8) b7)⟩] (Rs (Target_Log_e fence known hold begun filled c index well b3 b4 fuse down b6 b7) y)) (by kernel_rfl) (Target_Log_ok hy)
 refine zc 0 [] h ok12 fun y12 h => ?_
 refine adv_ok hm 14 _ ?_
 obtain rfl := Option.some.inj h
 refine r_cut 29666 [.mat 13 1] (m' := ⟨[.lpc (law18_FenceOnce_c [1, 1, 1, 1, 1, 1, 0, 1, 0, 0, 1, 0, 0, 1, 1, 1, 1, 1, 0, 1, 0, 0]) 29666, .blk 4, .code (law18_FenceOnce_c [1, 1, 1, 1, 1, 1, 0, 1, 0, 0, 1, 0, 0, 1, 1, 1, 1, 1, 1]), .blk 1, .code (law18_FenceOnce_c [1, 1, 1, 1, 1, 1, 0, 1, 0, 0, 1, 1]), .lp (law18_FenceOnce_c [1, 1, 1, 1, 1, 1, 0, 1, 0, 0]) 994, .blk 0, .code (law18_FenceOnce_c [1, 1, 1, 1, 1, 1, 1])], [(1, .sl false 29 (List.map Op.enc l_)), (5, .bool up), (6, .ptr 0 0 0), (7, (grD 1 (List.map (eSl 1 (eInt .i64)) done))), (8, (grD 2 (List.map (eSl 1 (eInt .i64)) no))), (9, .int .i64 i), (12, .sl false 3 (List.map Entry.enc y12)), (13, .msl 3 0 0 0 false), (14, .int .i64 0)], [some ⟨54, true, [([.int .i64 fence] ++ Plan.encL known ([.int .i64 hold.Epoch, .int .i64 hold.Nonce, .int .u64 hold.Grants, .int .i64 hold.Until, (grD 4 (List.map Entry.enc b3)), (grD 5 (List.map (eSl 1 (eInt .i64)) b4)), .int .i64 begun, .int .i64 filled] ++ Config.encL c [.int .i64 index, .ptr 6 0 0, .bool well]))]⟩, some ⟨1, false, (List.map (eSl 1 (eInt .i64)) done)⟩, some ⟨1, false, (List.map (eSl 1 (eInt .i64)) no)⟩, some ⟨1, false, []⟩, some ⟨3, false, (List.map Entry.enc b3)⟩, some ⟨1, false, (List.map (eSl 1 (eInt .i64)) b4)⟩, some ⟨4, true, [[(grD 7 (List.map (eInt .u8) b6)), (grD 8 (List.map (eInt .u8) b7)), .int .i64 fuse, .bool down]]⟩, some ⟨1, false, (List.map (eInt .u8) b6)⟩, some ⟨1, false, (List.map (eInt .u8) b7)⟩]⟩) (by kernel_rfl) ?_
 refine r_len (n1 := 0) (n2 := (List.map (eSl 1 (eInt .i64)) ([])).length) (fun n_len => .go ⟨[.lpc (law18_FenceOnce_c [1, 1, 1, 1, 1, 1, 0, 1, 0, 0, 1, 0, 0, 1, 1, 1, 1, 1, 0, 1, 0, 0]) 29666, .blk 4, .code (law18_FenceOnce_c [1, 1, 1, 1, 1, 1, 0, 1, 0, 0, 1, 0, 0, 1, 1, 1, 1, 1, 1]), .blk 1, .code (law18_FenceOnce_c [1, 1, 1, 1, 1, 1, 0, 1, 0, 0, 1, 1]), .lp (law18_FenceOnce_c [1, 1, 1, 1, 1, 1, 0, 1, 0, 0]) 994, .blk 0, .code (law18_FenceOnce_c [1, 1, 1, 1, 1, 1, 1])], [(1, .sl false 29 (List.map Op.enc l_)), (5, .bool up), (6, .ptr 0 0 0), (7, (grD 1 (List.map (eSl 1 (eInt .i64)) done))), (8, (grD 2 (List.map (eSl 1 (eInt .i64)) no))), (9, .int .i64 i), (12, .sl false 3 (List.map Entry.enc y12)), (13, .msl 3 0 n_len n_len false), (14, .int .i64 0)], [some ⟨54, true, [([.int .i64 fence] ++ Plan.encL known ([.int .i64 hold.Epoch, .int .i64 hold.Nonce, .int .u64 hold.Grants, .int .i64 hold.Until, (grD 4 (List.map Entry.enc b3)), (grD 5 (List.map (eSl 1 (eInt .i64)) b4)), .int .i64 begun, .int .i64 filled] ++ Config.encL c [.int .i64 index, .ptr 6 0 0, .bool well]))]⟩, some ⟨1, false, (List.map (eSl 1 (eInt .i64)) done)⟩, some ⟨1, false, (List.map (eSl 1 (eInt .i64)) no)⟩, some ⟨1, false, []⟩, some ⟨3, false, (List.map Entry.enc b3)⟩, some ⟨1, false, (List.map (eSl 1 (eInt .i64)) b4)⟩, some ⟨4, true, [[(grD 7 (List.map (eInt .u8) b6)), (grD 8 (List.map (eInt .u8) b7)), .int .i64 fuse, .bool down]]⟩, some ⟨1, false, (List.map (eInt .u8) b6)⟩, some ⟨1, false, (List.map (eInt .u8) b7)⟩]⟩) (by simp) ?_
 exact ha
theorem law18_FenceOnce_7_ok {c l_ up i x_ k t57 fence known hold begun filled index well done no b3 b4 fuse down b6 b7} : law18_FenceOnce_W c l_ (.s7 up i x_ k t57 fence known hold begun filled index well done no b3 b4 fuse down b6 b7) (law18_FenceOnce_7 c l_ up i x_ k t57 fence known hold begun filled index well done no b3 b4 fuse down b6 b7) := by
 intro r x h ha; unfold law18_FenceOnce_7 at h
 refine zs 1 h (fun h => ?_) fun h => ?_
 ·
  refine zn 5 h fun h => ?_
  refine zr 2 Msg.enc h fun y3 h => ?_
  refine zn 3 h fun h => ?_
  refine za 0 (eSl 1 (eInt .i64)) done ([y3.ID]) ?_
  exact zk 2 h ha
 exact zk 1 h ha
theorem law18_FenceOnce_8_ok {c l_ up i log k fence known hold begun filled index well done no ids b4 b5 fuse down b7 b8} : law18_FenceOnce_W c l_ (.s8 up i log k fence known hold begun filled index well done no ids b4 b5 fuse down b7 b8) (law18_FenceOnce_8 c l_ up i log k fence known hold begun filled index well done no ids b4 b5 fuse down b7 b8) := by
 intro r x h ha; unfold law18_FenceOnce_8 at h
 refine zs 10 h (fun h => ?_) fun h => ?_
 ·
  refine zn 6 h fun h => ?_
  refine zr 0 Entry.enc h fun y3 h => ?_
  refine zm 0 (b := (Nat.ble (0 + (List.map (eSl 1 (eInt .i64)) ids).length) ((List.map (eSl 1 (eInt .i64)) ids).length))) (ble_full _) ?_
  refine zdE 0 [] (args1 := [.sl false 1 (List.take ((List.map (eSl 1 (eInt .i64)) ids).length) (List.drop 0 (List.map (eSl 1 (eInt .i64)) ids))), .sl false 1 (List.map (eInt .i64) y3.ID)]) h (fun _ => law18_has_ok) (by simp [List.take_of_length_le, List.map_take, List.map_drop]) fun y5 h => ?_
  refine zs 0 h (fun h => ?_) fun h => ?_
  ·
   exact zk 16 h ha
  refine zn 3 h fun h => ?_
  refine zr 2 Entry.enc h fun y8 h => ?_
  refine zm 1 (b := (Nat.ble (0 + (List.map (eSl 1 (eInt .i64)) no).length) ((List.map (eSl 1 (eInt .i64)) no).length))) (ble_full _) ?_
  refine zdE 0 [] (args1 := [.sl false 1 (List.take ((List.map (eSl 1 (eInt .i64)) no).length) (List.drop 0 (List.map (eSl 1 (eInt .i64)) no))), .sl false 1 (List.map (eInt .i64) y8.ID)]) h (fun _ => law18_has_ok) (by simp [List.take_of_length_le, List.map_take, List.map_drop]) fun y10 h => ?_
  refine zs 1 h (fun h => ?_) fun h => ?_
  ·
   exact zk 8 h ha
  refine zdR 1 [] h (fun _ => Target_Closed_ok) fun y12 h => ?_
  refine zn 3 h fun h => ?_
  refine zr 2 Entry.enc h fun y14 h => ?_
  refine zd 1 [] h (fun _ => law18_has_ok) fun y16 h => ?_
  exact zk 1 h ha
 exact zj 8 h ha
theorem law18_FenceOnce_6_ok {c l_ up i x_ k fence known hold begun filled index well done no b3 b4 fuse down b6 b7} : law18_FenceOnce_W c l_ (.s6 up i x_ k fence known hold begun filled index well done no b3 b4 fuse down b6 b7) (law18_FenceOnce_6 c l_ up i x_ k fence known hold begun filled index well done no b3 b4 fuse down b6 b7) := by
 intro r x h ha; unfold law18_FenceOnce_6 at h
 refine zn 5 h fun h => ?_
 refine zr 2 Msg.enc h fun y2 h => ?_
 refine zs 3 h (fun h => ?_) fun h => ?_
 ·
  refine zn 4 h fun h => ?_
  refine zr 4 Msg.enc h fun y6 h => ?_
  exact zk 5 h ha
 exact zk 13 h ha
theorem law18_FenceOnce_9_ok {c l_ up i log k t124 fence known hold begun filled index well done no ids b4 b5 fuse down b7 b8} : law18_FenceOnce_W c l_ (.s9 up i log k t124 fence known hold begun filled index well done no ids b4 b5 fuse down b7 b8) (law18_FenceOnce_9 c l_ up i log k t124 fence known hold begun filled index well done no ids b4 b5 fuse down b7 b8) := by
 intro r x h ha; unfold law18_FenceOnce_9 at h
 refine zs 1 h (fun h => ?_) fun h => ?_
 ·
  exact zt 5 h ha
 refine zn 6 h fun h => ?_
 refine zr 2 Entry.enc h fun y3 h => ?_
 refine zn 3 h fun h => ?_
 refine za 0 (eSl 1 (eInt .i64)) ids ([y3.ID]) ?_
 exact zj 9 h ha
theorem law18_FenceOnce_10_ok {c l_ up i k fence known hold begun filled index well done no ids b4 b5 fuse down b7 b8} : law18_FenceOnce_W c l_ (.s10 up i k fence known hold begun filled index well done no ids b4 b5 fuse down b7 b8) (law18_FenceOnce_10 c l_ up i k fence known hold begun filled index well done no ids b4 b5 fuse down b7 b8) := by
 intro r x h ha; unfold law18_FenceOnce_10 at h
 refine zs 10 h (fun h => ?_) fun h => ?_
 ·
  refine zn 9 h fun h => ?_
  refine zr 1 (eSl 1 (eInt .i64)) h fun y3 h => ?_
  refine zm 1 (b := (Nat.ble (0 + (List.map (eSl 1 (eInt .i64)) ids).length) ((List.map (eSl 1 (eInt .i64)) ids).length))) (ble_full _) ?_
  have ok5 := fun (y : Bool) (hy : law18_has ids y3 = some y) => @Eq.mp (Sound E 24 [.sl false 1 (List.map (eSl 1 (eInt .i64)) ids), .sl false 1 (List.map (eInt .i64) y3)] [] (Rs (law18_has_e) y)) (Sound E 24 [.sl false 1 (List.map (eSl 1 (eInt .i64)) ids), .sl false 1 (List.map (eInt .i64) y3)] [] (Rs (law18_has_e) y)) (by kernel_rfl) (law18_has_ok hy)
  refine zcE 0 [] (args1 := [.sl false 1 (List.take ((List.map (eSl 1 (eInt .i64)) ids).length) (List.drop 0 (List.map (eSl 1 (eInt .i64)) ids))), .sl false 1 (List.map (eInt .i64) y3)]) h ok5 ⟨by simp [List.take_of_length_le, List.map_take, List.map_drop], rfl⟩ fun y5 h => ?_
  refine zs 3 h (fun h => ?_) fun h => ?_
  ·
   exact zt 5 h ha
  exact zj 8 h ha
 exact zj 8 h ha
theorem law18_FenceOnce_5_ok {c l_ up i x_ k t79 fence known hold begun filled index well done no b3 b4 fuse down b6 b7} : law18_FenceOnce_W c l_ (.s5 up i x_ k t79 fence known hold begun filled index well done no b3 b4 fuse down b6 b7) (law18_FenceOnce_5 c l_ up i x_ k t79 fence known hold begun filled index well done no b3 b4 fuse down b6 b7) := by
 intro r x h ha; unfold law18_FenceOnce_5 at h
 refine zs 1 h (fun h => ?_) fun h => ?_
 ·
  refine zn 5 h fun h => ?_
  refine zr 2 Msg.enc h fun y3 h => ?_
  refine zn 3 h fun h => ?_
  refine za 0 (eSl 1 (eInt .i64)) no ([y3.ID]) ?_
  exact zj 9 h ha
 exact zj 8 h ha
noncomputable def law18_FenceOnce (c : Config) (l_ : List Op) : Option Bool := evf (law18_FenceOnce_step c l_) (.s0)
theorem law18_FenceOnce_ok {c : Config} {l_ : List Op} {r : Bool} (h : law18_FenceOnce c l_ = some r) : Sound E 7 [.agg (Config.enc c), .sl false 29 (List.map Op.enc l_)] [] (Rs law18_FenceOnce_e r) := sc (fn := Tryd.f7) (k := false) (m := 0) (stM := (law18_FenceOnce_M c l_)) h fun s => by
 cases s with
 | s0 => exact law18_FenceOnce_0_ok
 | s1 => exact law18_FenceOnce_1_ok
 | s2 => exact law18_FenceOnce_2_ok
 | s3 => exact law18_FenceOnce_3_ok
 | s4 => exact law18_FenceOnce_4_ok
 | s7 => exact law18_FenceOnce_7_ok
 | s8 => exact law18_FenceOnce_8_ok
 | s6 => exact law18_FenceOnce_6_ok
 | s9 => exact law18_FenceOnce_9_ok
 | s10 => exact law18_FenceOnce_10_ok
 | s5 => exact law18_FenceOnce_5_ok
end Go.RX.L

namespace Go.RX.L
open Go Go.RX Go.Proofs
theorem law18_FenceOnce_of_t3 {n : Nat} {ds : List D} (h : wtF Tryd.prog (n + 1) 3 ds) : ∃ x : Int, ds = (eInt .i64) x ∧ inK .i64 x := by
  obtain ⟨m, rfl, o⟩ := wt_int (k := .i64) (by kernel_rfl) h
  exact ⟨m, rfl, o⟩
theorem law18_FenceOnce_of_t22 {n : Nat} {ds : List D} (h : wtF Tryd.prog (n + 2) 22 ds) : ∃ x : List Int, ds = (eSl 1 (eInt .i64)) x ∧ (x.length * 8 ≤ reachBytes ∧ ∀ y ∈ x, inK .i64 y) := by
  obtain ⟨rows, rfl, o, w⟩ := wt_slice (n := n + 1) (e := 3) (sz := 1) (by_ := 8) (by kernel_rfl) (by kernel_rfl) (by kernel_rfl) h
  obtain ⟨l, rfl, q⟩ := wt_rows (en := (eInt .i64)) (Ok := fun y => inK .i64 y) (fun r hr => law18_FenceOnce_of_t3 (n := n + 0) hr) rows w
  exact ⟨l, rfl, by simpa using o, q⟩
theorem law18_FenceOnce_of_t2 {n : Nat} {ds : List D} (h : wtF Tryd.prog (n + 1) 2 ds) : ∃ x : Int, ds = (eInt .i64) x ∧ inK .i64 x := by
  obtain ⟨m, rfl, o⟩ := wt_int (k := .i64) (by kernel_rfl) h
  exact ⟨m, rfl, o⟩
theorem law18_FenceOnce_of_t24 {n : Nat} {ds : List D} (h : wtF Tryd.prog (n + 3) 24 ds) : ∃ x : Config, ds = Config.enc x ∧ x.Ok := by
  have h0 := wt_struct (n := n + 2) (ts := [3, 3, 3, 3, 3, 22, 2, 2, 3, 3, 2, 2, 2, 2, 2, 2, 3, 3, 3, 3, 2, 3, 3, 2, 2, 3, 2, 3, 3, 2]) (by kernel_rfl) h
  obtain ⟨a0, b0, rfl, w0, h1⟩ := wtL_cons h0
  obtain ⟨x0, rfl, o0⟩ := law18_FenceOnce_of_t3 (n := n + 1) w0
  obtain ⟨a1, b1, rfl, w1, h2⟩ := wtL_cons h1
  obtain ⟨x1, rfl, o1⟩ := law18_FenceOnce_of_t3 (n := n + 1) w1
  obtain ⟨a2, b2, rfl, w2, h3⟩ := wtL_cons h2
  obtain ⟨x2, rfl, o2⟩ := law18_FenceOnce_of_t3 (n := n + 1) w2
  obtain ⟨a3, b3, rfl, w3, h4⟩ := wtL_cons h3
  obtain ⟨x3, rfl, o3⟩ := law18_FenceOnce_of_t3 (n := n + 1) w3
  obtain ⟨a4, b4, rfl, w4, h5⟩ := wtL_cons h4
  obtain ⟨x4, rfl, o4⟩ := law18_FenceOnce_of_t3 (n := n + 1) w4
  obtain ⟨a5, b5, rfl, w5, h6⟩ := wtL_cons h5
  obtain ⟨x5, rfl, o5⟩ := law18_FenceOnce_of_t22 (n := n + 0) w5
  obtain ⟨a6, b6, rfl, w6, h7⟩ := wtL_cons h6
  obtain ⟨x6, rfl, o6⟩ := law18_FenceOnce_of_t2 (n := n + 1) w6
  obtain ⟨a7, b7, rfl, w7, h8⟩ := wtL_cons h7
  obtain ⟨x7, rfl, o7⟩ := law18_FenceOnce_of_t2 (n := n + 1) w7
  obtain ⟨a8, b8, rfl, w8, h9⟩ := wtL_cons h8
  obtain ⟨x8, rfl, o8⟩ := law18_FenceOnce_of_t3 (n := n + 1) w8
  obtain ⟨a9, b9, rfl, w9, h10⟩ := wtL_cons h9
  obtain ⟨x9, rfl, o9⟩ := law18_FenceOnce_of_t3 (n := n + 1) w9
  obtain ⟨a10, b10, rfl, w10, h11⟩ := wtL_cons h10
  obtain ⟨x10, rfl, o10⟩ := law18_FenceOnce_of_t2 (n := n + 1) w10
  obtain ⟨a11, b11, rfl, w11, h12⟩ := wtL_cons h11
  obtain ⟨x11, rfl, o11⟩ := law18_FenceOnce_of_t2 (n := n + 1) w11
  obtain ⟨a12, b12, rfl, w12, h13⟩ := wtL_cons h12
  obtain ⟨x12, rfl, o12⟩ := law18_FenceOnce_of_t2 (n := n + 1) w12
  obtain ⟨a13, b13, rfl, w13, h14⟩ := wtL_cons h13
  obtain ⟨x13, rfl, o13⟩ := law18_FenceOnce_of_t2 (n := n + 1) w13
  obtain ⟨a14, b14, rfl, w14, h15⟩ := wtL_cons h14
  obtain ⟨x14, rfl, o14⟩ := law18_FenceOnce_of_t2 (n := n + 1) w14
  obtain ⟨a15, b15, rfl, w15, h16⟩ := wtL_cons h15
  obtain ⟨x15, rfl, o15⟩ := law18_FenceOnce_of_t2 (n := n + 1) w15
  obtain ⟨a16, b16, rfl, w16, h17⟩ := wtL_cons h16
  obtain ⟨x16, rfl, o16⟩ := law18_FenceOnce_of_t3 (n := n + 1) w16
  obtain ⟨a17, b17, rfl, w17, h18⟩ := wtL_cons h17
  obtain ⟨x17, rfl, o17⟩ := law18_FenceOnce_of_t3 (n := n + 1) w17
  obtain ⟨a18, b18, rfl, w18, h19⟩ := wtL_cons h18
  obtain ⟨x18, rfl, o18⟩ := law18_FenceOnce_of_t3 (n := n + 1) w18
  obtain ⟨a19, b19, rfl, w19, h20⟩ := wtL_cons h19
  obtain ⟨x19, rfl, o19⟩ := law18_FenceOnce_of_t3 (n := n + 1) w19
  obtain ⟨a20, b20, rfl, w20, h21⟩ := wtL_cons h20
  obtain ⟨x20, rfl, o20⟩ := law18_FenceOnce_of_t2 (n := n + 1) w20
  obtain ⟨a21, b21, rfl, w21, h22⟩ := wtL_cons h21
  obtain ⟨x21, rfl, o21⟩ := law18_FenceOnce_of_t3 (n := n + 1) w21
  obtain ⟨a22, b22, rfl, w22, h23⟩ := wtL_cons h22
  obtain ⟨x22, rfl, o22⟩ := law18_FenceOnce_of_t3 (n := n + 1) w22
  obtain ⟨a23, b23, rfl, w23, h24⟩ := wtL_cons h23
  obtain ⟨x23, rfl, o23⟩ := law18_FenceOnce_of_t2 (n := n + 1) w23
  obtain ⟨a24, b24, rfl, w24, h25⟩ := wtL_cons h24
  obtain ⟨x24, rfl, o24⟩ := law18_FenceOnce_of_t2 (n := n + 1) w24
  obtain ⟨a25, b25, rfl, w25, h26⟩ := wtL_cons h25
  obtain ⟨x25, rfl, o25⟩ := law18_FenceOnce_of_t3 (n := n + 1) w25
  obtain ⟨a26, b26, rfl, w26, h27⟩ := wtL_cons h26
  obtain ⟨x26, rfl, o26⟩ := law18_FenceOnce_of_t2 (n := n + 1) w26
  obtain ⟨a27, b27, rfl, w27, h28⟩ := wtL_cons h27
  obtain ⟨x27, rfl, o27⟩ := law18_FenceOnce_of_t3 (n := n + 1) w27
  obtain ⟨a28, b28, rfl, w28, h29⟩ := wtL_cons h28
  obtain ⟨x28, rfl, o28⟩ := law18_FenceOnce_of_t3 (n := n + 1) w28
  obtain ⟨a29, b29, rfl, w29, h30⟩ := wtL_cons h29
  obtain ⟨x29, rfl, o29⟩ := law18_FenceOnce_of_t2 (n := n + 1) w29
  obtain rfl := wtL_nil h30
  exact ⟨⟨x0, x1, x2, x3, x4, x5, x6, x7, x8, x9, x10, x11, x12, x13, x14, x15, x16, x17, x18, x19, x20, x21, x22, x23, x24, x25, x26, x27, x28, x29⟩, rfl, o0, o1, o2, o3, o4, o5, o6, o7, o8, o9, o10, o11, o12, o13, o14, o15, o16, o17, o18, o19, o20, o21, o22, o23, o24, o25, o26, o27, o28, o29⟩
theorem law18_FenceOnce_of_t32 {n : Nat} {ds : List D} (h : wtF Tryd.prog (n + 1) 32 ds) : ∃ x : Int, ds = (eInt .i64) x ∧ inK .i64 x := by
  obtain ⟨m, rfl, o⟩ := wt_int (k := .i64) (by kernel_rfl) h
  exact ⟨m, rfl, o⟩
theorem law18_FenceOnce_of_t33 {n : Nat} {ds : List D} (h : wtF Tryd.prog (n + 1) 33 ds) : ∃ x : Int, ds = (eInt .u64) x ∧ inK .u64 x := by
  obtain ⟨m, rfl, o⟩ := wt_int (k := .u64) (by kernel_rfl) h
  exact ⟨m, rfl, o⟩
theorem law18_FenceOnce_of_t4 {n : Nat} {ds : List D} (h : wtF Tryd.prog (n + 1) 4 ds) : ∃ x : Bool, ds = eBool x ∧ True := by
  obtain ⟨m, rfl⟩ := wt_bool (by kernel_rfl) h
  exact ⟨m, rfl, trivial⟩
theorem law18_FenceOnce_of_t34 {n : Nat} {ds : List D} (h : wtF Tryd.prog (n + 2) 34 ds) : ∃ x : List Int, ds = (eSl 1 (eInt .i64)) x ∧ (x.length * 8 ≤ reachBytes ∧ ∀ y ∈ x, inK .i64 y) := by
  obtain ⟨rows, rfl, o, w⟩ := wt_slice (n := n + 1) (e := 2) (sz := 1) (by_ := 8) (by kernel_rfl) (by kernel_rfl) (by kernel_rfl) h
  obtain ⟨l, rfl, q⟩ := wt_rows (en := (eInt .i64)) (Ok := fun y => inK .i64 y) (fun r hr => law18_FenceOnce_of_t2 (n := n + 0) hr) rows w
  exact ⟨l, rfl, by simpa using o, q⟩
theorem law18_FenceOnce_of_t36 {n : Nat} {ds : List D} (h : wtF Tryd.prog (n + 3) 36 ds) : ∃ x : Plan, ds = Plan.enc x ∧ x.Ok := by
  have h0 := wt_struct (n := n + 2) (ts := [2, 3, 3, 3, 3, 2, 2, 2, 33, 33, 22, 34]) (by kernel_rfl) h
  obtain ⟨a0, b0, rfl, w0, h1⟩ := wtL_cons h0
  obtain ⟨x0, rfl, o0⟩ := law18_FenceOnce_of_t2 (n := n + 1) w0
  obtain ⟨a1, b1, rfl, w1, h2⟩ := wtL_cons h1
  obtain ⟨x1, rfl, o1⟩ := law18_FenceOnce_of_t3 (n := n + 1) w1
  obtain ⟨a2, b2, rfl, w2, h3⟩ := wtL_cons h2
  obtain ⟨x2, rfl, o2⟩ := law18_FenceOnce_of_t3 (n := n + 1) w2
  obtain ⟨a3, b3, rfl, w3, h4⟩ := wtL_cons h3
  obtain ⟨x3, rfl, o3⟩ := law18_FenceOnce_of_t3 (n := n + 1) w3
  obtain ⟨a4, b4, rfl, w4, h5⟩ := wtL_cons h4
  obtain ⟨x4, rfl, o4⟩ := law18_FenceOnce_of_t3 (n := n + 1) w4
  obtain ⟨a5, b5, rfl, w5, h6⟩ := wtL_cons h5
  obtain ⟨x5, rfl, o5⟩ := law18_FenceOnce_of_t2 (n := n + 1) w5
  obtain ⟨a6, b6, rfl, w6, h7⟩ := wtL_cons h6
  obtain ⟨x6, rfl, o6⟩ := law18_FenceOnce_of_t2 (n := n + 1) w6
  obtain ⟨a7, b7, rfl, w7, h8⟩ := wtL_cons h7
  obtain ⟨x7, rfl, o7⟩ := law18_FenceOnce_of_t2 (n := n + 1) w7
  obtain ⟨a8, b8, rfl, w8, h9⟩ := wtL_cons h8
  obtain ⟨x8, rfl, o8⟩ := law18_FenceOnce_of_t33 (n := n + 1) w8
  obtain ⟨a9, b9, rfl, w9, h10⟩ := wtL_cons h9
  obtain ⟨x9, rfl, o9⟩ := law18_FenceOnce_of_t33 (n := n + 1) w9
  obtain ⟨a10, b10, rfl, w10, h11⟩ := wtL_cons h10
  obtain ⟨x10, rfl, o10⟩ := law18_FenceOnce_of_t22 (n := n + 0) w10
  obtain ⟨a11, b11, rfl, w11, h12⟩ := wtL_cons h11
  obtain ⟨x11, rfl, o11⟩ := law18_FenceOnce_of_t34 (n := n + 0) w11
  obtain rfl := wtL_nil h12
  exact ⟨⟨x0, x1, x2, x3, x4, x5, x6, x7, x8, x9, x10, x11⟩, rfl, o0, o1, o2, o3, o4, o5, o6, o7, o8, o9, o10, o11⟩
theorem law18_FenceOnce_of_t5 {n : Nat} {ds : List D} (h : wtF Tryd.prog (n + 1) 5 ds) : ∃ x : Int, ds = (eInt .u8) x ∧ inK .u8 x := by
  obtain ⟨m, rfl, o⟩ := wt_int (k := .u8) (by kernel_rfl) h
  exact ⟨m, rfl, o⟩
theorem law18_FenceOnce_of_t37 {n : Nat} {ds : List D} (h : wtF Tryd.prog (n + 2) 37 ds) : ∃ x : List Int, ds = (eSl 1 (eInt .u8)) x ∧ (x.length * 1 ≤ reachBytes ∧ ∀ y ∈ x, inK .u8 y) := by
  obtain ⟨rows, rfl, o, w⟩ := wt_slice (n := n + 1) (e := 5) (sz := 1) (by_ := 1) (by kernel_rfl) (by kernel_rfl) (by kernel_rfl) h
  obtain ⟨l, rfl, q⟩ := wt_rows (en := (eInt .u8)) (Ok := fun y => inK .u8 y) (fun r hr => law18_FenceOnce_of_t5 (n := n + 0) hr) rows w
  exact ⟨l, rfl, by simpa using o, q⟩
theorem law18_FenceOnce_of_t39 {n : Nat} {ds : List D} (h : wtF Tryd.prog (n + 4) 39 ds) : ∃ x : Msg, ds = Msg.enc x ∧ x.Ok := by
  have h0 := wt_struct (n := n + 3) (ts := [32, 3, 3, 2, 2, 2, 2, 2, 33, 3, 4, 36, 34, 37, 37]) (by kernel_rfl) h
  obtain ⟨a0, b0, rfl, w0, h1⟩ := wtL_cons h0
  obtain ⟨x0, rfl, o0⟩ := law18_FenceOnce_of_t32 (n := n + 2) w0
  obtain ⟨a1, b1, rfl, w1, h2⟩ := wtL_cons h1
  obtain ⟨x1, rfl, o1⟩ := law18_FenceOnce_of_t3 (n := n + 2) w1
  obtain ⟨a2, b2, rfl, w2, h3⟩ := wtL_cons h2
  obtain ⟨x2, rfl, o2⟩ := law18_FenceOnce_of_t3 (n := n + 2) w2
  obtain ⟨a3, b3, rfl, w3, h4⟩ := wtL_cons h3
  obtain ⟨x3, rfl, o3⟩ := law18_FenceOnce_of_t2 (n := n + 2) w3
  obtain ⟨a4, b4, rfl, w4, h5⟩ := wtL_cons h4
  obtain ⟨x4, rfl, o4⟩ := law18_FenceOnce_of_t2 (n := n + 2) w4
  obtain ⟨a5, b5, rfl, w5, h6⟩ := wtL_cons h5
  obtain ⟨x5, rfl, o5⟩ := law18_FenceOnce_of_t2 (n := n + 2) w5
  obtain ⟨a6, b6, rfl, w6, h7⟩ := wtL_cons h6
  obtain ⟨x6, rfl, o6⟩ := law18_FenceOnce_of_t2 (n := n + 2) w6
  obtain ⟨a7, b7, rfl, w7, h8⟩ := wtL_cons h7
  obtain ⟨x7, rfl, o7⟩ := law18_FenceOnce_of_t2 (n := n + 2) w7
  obtain ⟨a8, b8, rfl, w8, h9⟩ := wtL_cons h8
  obtain ⟨x8, rfl, o8⟩ := law18_FenceOnce_of_t33 (n := n + 2) w8
  obtain ⟨a9, b9, rfl, w9, h10⟩ := wtL_cons h9
  obtain ⟨x9, rfl, o9⟩ := law18_FenceOnce_of_t3 (n := n + 2) w9
  obtain ⟨a10, b10, rfl, w10, h11⟩ := wtL_cons h10
  obtain ⟨x10, rfl, o10⟩ := law18_FenceOnce_of_t4 (n := n + 2) w10
  obtain ⟨a11, b11, rfl, w11, h12⟩ := wtL_cons h11
  obtain ⟨x11, rfl, o11⟩ := law18_FenceOnce_of_t36 (n := n + 0) w11
  obtain ⟨a12, b12, rfl, w12, h13⟩ := wtL_cons h12
  obtain ⟨x12, rfl, o12⟩ := law18_FenceOnce_of_t34 (n := n + 1) w12
  obtain ⟨a13, b13, rfl, w13, h14⟩ := wtL_cons h13
  obtain ⟨x13, rfl, o13⟩ := law18_FenceOnce_of_t37 (n := n + 1) w13
  obtain ⟨a14, b14, rfl, w14, h15⟩ := wtL_cons h14
  obtain ⟨x14, rfl, o14⟩ := law18_FenceOnce_of_t37 (n := n + 1) w14
  obtain rfl := wtL_nil h15
  exact ⟨⟨x0, x1, x2, x3, x4, x5, x6, x7, x8, x9, x10, x11, x12, x13, x14⟩, rfl, o0, o1, o2, o3, o4, o5, o6, o7, o8, o9, o10, o11, o12, o13, o14⟩
theorem law18_FenceOnce_of_t57 {n : Nat} {ds : List D} (h : wtF Tryd.prog (n + 5) 57 ds) : ∃ x : Op, ds = Op.enc x ∧ x.Ok := by
  have h0 := wt_struct (n := n + 4) (ts := [3, 39, 2, 3]) (by kernel_rfl) h
  obtain ⟨a0, b0, rfl, w0, h1⟩ := wtL_cons h0
  obtain ⟨x0, rfl, o0⟩ := law18_FenceOnce_of_t3 (n := n + 3) w0
  obtain ⟨a1, b1, rfl, w1, h2⟩ := wtL_cons h1
  obtain ⟨x1, rfl, o1⟩ := law18_FenceOnce_of_t39 (n := n + 0) w1
  obtain ⟨a2, b2, rfl, w2, h3⟩ := wtL_cons h2
  obtain ⟨x2, rfl, o2⟩ := law18_FenceOnce_of_t2 (n := n + 3) w2
  obtain ⟨a3, b3, rfl, w3, h4⟩ := wtL_cons h3
  obtain ⟨x3, rfl, o3⟩ := law18_FenceOnce_of_t3 (n := n + 3) w3
  obtain rfl := wtL_nil h4
  exact ⟨⟨x0, x1, x2, x3⟩, rfl, o0, o1, o2, o3⟩
theorem law18_FenceOnce_of_t53 {n : Nat} {ds : List D} (h : wtF Tryd.prog (n + 6) 53 ds) : ∃ x : List Op, ds = (eSl 29 Op.enc) x ∧ (x.length * 312 ≤ reachBytes ∧ ∀ y ∈ x, y.Ok) := by
  obtain ⟨rows, rfl, o, w⟩ := wt_slice (n := n + 5) (e := 57) (sz := 29) (by_ := 312) (by kernel_rfl) (by kernel_rfl) (by kernel_rfl) h
  obtain ⟨l, rfl, q⟩ := wt_rows (en := Op.enc) (Ok := fun y => y.Ok) (fun r hr => law18_FenceOnce_of_t57 (n := n + 0) hr) rows w
  exact ⟨l, rfl, by simpa using o, q⟩
theorem law18_FenceOnce_sound (H : ∀ (c : Config) (l_ : List Op), c.Ok → (l_.length * 312 ≤ reachBytes ∧ ∀ y ∈ l_, y.Ok) → law18_FenceOnce c l_ = some true) : ∀ xs, wtA Tryd.prog Tryd.f7.params.toList xs → Sound E 7 xs [] fun d _ => d = .bool true := by
  intro xs h
  have h0 : wtA Tryd.prog [24, 53] xs := h
  obtain ⟨d0, r0, rfl, w0, h1⟩ := wtA_cons h0
  obtain ⟨c0, rfl, v0⟩ := wtP_agg (by kernel_rfl) w0
  obtain ⟨x0, rfl, o0⟩ := law18_FenceOnce_of_t24 (n := 3) v0
  obtain ⟨d1, r1, rfl, w1, h2⟩ := wtA_cons h1
  have v1 := wtP_flat (by kernel_rfl) w1
  obtain ⟨x1, e1, o1⟩ := law18_FenceOnce_of_t53 (n := 0) v1
  obtain ⟨rfl, -⟩ := List.cons.inj e1
  obtain rfl := wtA_nil h2
  exact (law18_FenceOnce_ok (H x0 x1 o0 o1)).mono fun d s h => h.1
end Go.RX.L

namespace Go.RX.L
open Go Go.RX
theorem tk_l (x : TR) (m : Msg) : (∀ e ∈ x.l, e ∈ (tk x m).l) ∧ (∀ y ∈ x.cl, y ∈ (tk x m).cl) := by
  unfold tk takeT
  split
  · exact ⟨fun e h => h, fun y h => h⟩
  · split
    · exact ⟨fun e h => List.mem_append_left _ h, fun y h => h⟩
    · split
      · exact ⟨fun e h => h, fun y h => List.mem_append_left _ h⟩
      · exact ⟨fun e h => h, fun y h => h⟩
theorem tkW_l (x : TR) (m : Msg) : ∃ e ∈ (tk x (recW m)).l, e.ID = m.ID :=
  ⟨⟨m.ID, m.Epoch, m.Payload⟩, List.mem_append_right _ (List.mem_singleton.2 rfl), rfl⟩
theorem tkC_l (x : TR) (m : Msg) : m.ID ∈ (tk x (recC m)).cl := List.mem_append_right _ (List.mem_singleton.2 rfl)
def told (x : TR) (y : Msg) : Prop := y.Kind = 15 → (y.Code = 0 → ∃ e ∈ x.l, e.ID = y.ID) ∧ (y.Code = 1 → y.ID ∈ x.cl)
theorem step_once {c : Config} {index : Int} {a a' : TS} {o : Op} {out : List Msg} (hup : a.down = false → a.x = replayT a.rs) (h : FStep c index a o out a') :
    (∀ e ∈ (replayT a.rs).l, e ∈ (replayT a'.rs).l) ∧ (∀ y ∈ (replayT a.rs).cl, y ∈ (replayT a'.rs).cl) ∧ ∀ y ∈ out, told (replayT a'.rs) y := by
  have nil : ∀ y ∈ ([] : List Msg), told (replayT a'.rs) y := fun y hy => by cases hy
  have id1 : ∀ {x : TR}, ∀ e ∈ x.l, e ∈ x.l := fun e h => h
  have id2 : ∀ {x : TR}, ∀ e ∈ x.cl, e ∈ x.cl := fun e h => h
  cases h with
  | fuse h => exact ⟨id1, id2, nil⟩
  | crash h hd hx hz hs =>
    cases hs with
    | none => exact ⟨id1, id2, nil⟩
    | one hp => exact ⟨by rw [replayT_app]; exact (tk_l _ _).1, by rw [replayT_app]; exact (tk_l _ _).2, nil⟩
  | back h hs =>
    cases hs with
    | up => exact ⟨id1, id2, nil⟩
    | fail => exact ⟨id1, id2, nil⟩
  | tick h hs =>
    cases hs with
    | idle => exact ⟨id1, id2, nil⟩
    | ask h1 h2 h3 h4 =>
      refine ⟨id1, id2, fun y hy hk => ?_⟩
      simp only [askL, List.mem_map] at hy
      obtain ⟨k, -, rfl⟩ := hy
      cases hk
  | flip w h => exact ⟨id1, id2, nil⟩
  | msg _ _ _ _ _ hs =>
    cases hs with
    | off h => exact ⟨id1, id2, nil⟩
    | same h1 h2 => exact ⟨id1, id2, nil⟩
    | known => exact ⟨id1, id2, nil⟩
    | grant => exact ⟨id1, id2, nil⟩
    | alive => exact ⟨id1, id2, fun y hy hk => by rw [List.mem_singleton.1 hy] at hk; cases hk⟩
    | sealed hd hv k he hle => exact ⟨id1, id2, fun y hy hk => by rw [List.mem_singleton.1 hy] at hk; cases hk⟩
    | said hd hv k hw =>
      refine ⟨id1, id2, ?_⟩
      rw [← hup hd]
      cases hw with
      | short h => exact fun y hy => by cases hy
      | had e h1 h2 h3 => exact fun y hy _ => by rw [List.mem_singleton.1 hy]; exact ⟨fun _ => ⟨e, h2, h3⟩, fun h => by cases h⟩
      | shut h1 h2 h3 => exact fun y hy _ => by rw [List.mem_singleton.1 hy]; exact ⟨fun h => by (cases h), fun _ => h3⟩
      | late h1 h2 h3 h4 => exact fun y hy => by cases hy
    | lost p hd hv hn hp => exact ⟨id1, id2, nil⟩
    | kept hd hv hn =>
      refine ⟨by rw [replayT_app]; exact (tk_l _ _).1, by rw [replayT_app]; exact (tk_l _ _).2, ?_⟩
      rw [replayT_app]
      cases hn with
      | fnc h1 h2 h3 => exact fun y hy hk => by rw [List.mem_singleton.1 hy] at hk; cases hk
      | wr h1 hw =>
        cases hw with
        | write h2 h3 h4 h5 h6 h7 h8 h9 => exact fun y hy _ => by rw [List.mem_singleton.1 hy]; exact ⟨fun _ => tkW_l _ _, fun h => by cases h⟩
        | full h2 h3 h4 h5 h6 h7 h8 h9 => exact fun y hy _ => by rw [List.mem_singleton.1 hy]; exact ⟨fun h => by (cases h), fun _ => tkC_l _ _⟩
        | close h2 h3 h4 h5 h6 => exact fun y hy _ => by rw [List.mem_singleton.1 hy]; exact ⟨fun h => by (cases h), fun _ => tkC_l _ _⟩
theorem nltT {l : List Op} {i : Nat} (h : l.length ≤ i) : decide ((i : Int) < (((List.map Op.enc l).length : Nat) : Int)) = false := by simp; omega
theorem wS1T {i : Nat} (h : i ≤ 200000) : IntKind.i64.wrap ((i : Int) + 1) = ((i + 1 : Nat) : Int) := by rw [wI64 (by omega) (by omega)]; norm_cast
theorem greatT {l : List Op} (h : l.length ≤ 150) : law18_Great l = some false := by
  have : decide ((l.length : Int) > 150) = false := by simp; omega
  simp only [law18_Great, List.length_map, this]
theorem greatF {l : List Op} (h : ¬ l.length ≤ 150) : law18_Great l = some true := by
  have : decide ((l.length : Int) > 150) = true := by simp; omega
  simp only [law18_Great, List.length_map, this]
theorem has_ok {l : List (List Int)} (hl : l.length ≤ 100000) (hs : ∀ y ∈ l, y.length < 9223372036854775807) (id_ : List Int) : law18_has l id_ = some (decide (id_ ∈ l)) := by
  have loop : ∀ (j k : Nat), k + j = l.length → (∀ (i : Nat) (h : i < l.length), i < k → l[i] ≠ id_) → Ev (law18_has_step l id_) (.s1 (k : Int)) (decide (id_ ∈ l)) := by
    intro j
    induction j with
    | zero =>
      intro k hk ha
      have : ¬ id_ ∈ l := fun he => by
        obtain ⟨i, hi, e⟩ := List.mem_iff_getElem.1 he
        exact ha i hi (by omega) e
      rw [decide_eq_false this]
      have g : decide ((k : Int) < (l.length : Int)) = false := by simp; omega
      exact .done (by simp only [law18_has_step, law18_has_1, List.length_map, g, cond_false])
    | succ j ih =>
      intro k hk ha
      have hlt : k < l.length := by omega
      have e := rsame1_ok (a := l[k]) (b := id_) (hs _ (List.getElem_mem hlt))
      by_cases h : l[k] = id_
      · have : id_ ∈ l := h ▸ List.getElem_mem hlt
        rw [decide_eq_true this]
        exact .done (by simp only [law18_has_step, law18_has_1, List.length_map, ltB hlt, le0, Bool.and_self, cond_true, Int.toNat_natCast, List.getE hlt, Option.bind_some, e, decide_eq_true h])
      · refine .next (s' := .s1 ((k + 1 : Nat) : Int)) ?_ (ih (k + 1) (by omega) (fun i hi hik => by
          by_cases h3 : i = k
          · subst h3; exact h
          · exact ha i hi (by omega)))
        simp only [law18_has_step, law18_has_1, List.length_map, ltB hlt, le0, Bool.and_self, cond_true, cond_false, Int.toNat_natCast, List.getE hlt, Option.bind_some, e, decide_eq_false h, wS1T (show k ≤ 200000 by omega)]
  exact evf_of (.next (s' := .s1 0) (by simp [law18_has_step, law18_has_0]) (loop l.length 0 (by omega) (fun i _ h => by omega)))
theorem closedT_ok {l : List Entry} {cl : List (List Int)} (hl : cl.length ≤ 90000) (hi : ∀ y ∈ cl, y.length = 3) {f : Int} {known : Plan} {hold : Hold} {begun filled : Int} {c : Config} {index : Int} {w : Bool} {fuse : Int} {d : Bool} {s t : List Int} :
    Target_Closed f known hold begun filled c index w l cl fuse d s t = some cl := by
  have loop : ∀ (j k : Nat), k + j = cl.length → Ev (Target_Closed_step f known hold begun filled c index w l cl fuse d s t) (.s1 (cl.length : Int) (k : Int) (cl.take k)) cl := by
    intro j
    induction j with
    | zero =>
      intro k hk
      refine .done ?_
      have : decide ((k : Int) < (cl.length : Int)) = false := by simp; omega
      simp only [Target_Closed_step, Target_Closed_1, this, cond_false]
      rw [List.take_of_length_le (by omega)]
    | succ j ih =>
      intro k hk
      have hlt : k < cl.length := by omega
      have e1 := sclone_ok (b := cl[k]) (by rw [hi _ (List.getElem_mem hlt)]; decide)
      have lim : decide (((cl.take k).length + 1) * 24 ≤ bytesLim) = true := limOk (by rw [List.length_take]; omega)
      refine .next (s' := .s1 (cl.length : Int) ((k + 1 : Nat) : Int) (cl.take (k + 1))) ?_ (ih (k + 1) (by omega))
      have tk : cl.take (k + 1) = cl.take k ++ [cl[k]] := by rw [List.take_succ_eq_append_getElem hlt]
      simp only [Target_Closed_step, Target_Closed_1, ltB hlt, cond_true, List.length_map, le0, Bool.and_self, Int.toNat_natCast, Nat.zero_add, List.getE hlt, Option.bind_some, e1, lim, wS1T (show k ≤ 200000 by omega), tk]
  refine evf_of (.next (s' := .s1 (cl.length : Int) 0 []) ?_ (by have := loop cl.length 0 (by omega); simpa using this))
  simp only [Target_Closed_step, Target_Closed_0, List.length_map]
/-- What was told. -/
structure OInv (x : TR) (done no : List (List Int)) (n : Nat) : Prop where
  dn : ∀ d ∈ done, ∃ e ∈ x.l, e.ID = d
  nc : ∀ d ∈ no, d ∈ x.cl
  dl : done.length ≤ n
  nl : no.length ≤ n
theorem fenceOnce (c : Config) (l_ : List Op) (hc : c.Ok) (hl : l_.length * 312 ≤ reachBytes ∧ ∀ y ∈ l_, y.Ok) : law18_FenceOnce c l_ = some true := by
  have ht : c.Tiers.length < 9223372036854775807 := by
    obtain ⟨-, -, -, -, -, ⟨h1, -⟩, -⟩ := hc
    exact short h1
  have hnew := new_ok (c := c) (index := 0) ht
  by_cases hr : ¬ rightC c = true
  · rw [if_neg (fun h => hr h.1)] at hnew
    exact evf_of (.next (s' := .s1 true) (by simp only [law18_FenceOnce_step, law18_FenceOnce_0, head18_ok, hnew, Option.bind_some]) (.done rfl))
  rw [Classical.not_not] at hr
  rw [if_pos ⟨hr, by decide, by have := (rightC_n hr).2.2; omega⟩] at hnew
  refine evf_of (.next (s' := .s2 true (aT c).x.f (aT c).z.known (aT c).z.hold (aT c).z.begun (aT c).z.filled 0 (aT c).well (aT c).x.l (aT c).x.cl (-1) (aT c).down [] []) (by simp only [law18_FenceOnce_step, law18_FenceOnce_0, head18_ok, hnew, Option.bind_some, aT]) ?_)
  by_cases hg : ¬ l_.length ≤ 150
  · exact .done (by simp only [law18_FenceOnce_step, law18_FenceOnce_2, greatF hg, Option.bind_some, cond_true])
  rw [Classical.not_not] at hg
  refine .next (s' := .s3 true ((0 : Nat) : Int) (aT c).x.f (aT c).z.known (aT c).z.hold (aT c).z.begun (aT c).z.filled 0 (aT c).well [] [] (aT c).x.l (aT c).x.cl (-1) (aT c).down [] []) (by simp only [law18_FenceOnce_step, law18_FenceOnce_2, greatT hg, Option.bind_some, cond_false]; rfl) ?_
  have loop : ∀ (j i : Nat) (a : TS) (fuse : Int) (s t : List Int) (dn no : List (List Int)), i + j = l_.length → RepT a fuse s t i → OInv (replayT a.rs) dn no (100 * i) → Ev (law18_FenceOnce_step c l_) (.s3 true (i : Int) a.x.f a.z.known a.z.hold a.z.begun a.z.filled 0 a.well dn no a.x.l a.x.cl fuse a.down s t) true := by
    intro j
    induction j with
    | zero =>
      intro i a fuse s t dn no hi h hx
      exact .done (by simp only [law18_FenceOnce_step, law18_FenceOnce_3, nltT (show l_.length ≤ i by omega), cond_false])
    | succ j ih =>
      intro i a fuse s t dn no hi h hx
      have hlt : i < l_.length := by omega
      have w := wS1T (show i ≤ 200000 by omega)
      obtain ⟨out, a', fuse', s', t', he, hrep, hst⟩ := fuzz_ok (index := 0) h (hl.2 _ (List.getElem_mem hlt)) hr ht (by decide) (by omega)
      obtain ⟨f1, f2, f3⟩ := step_once h.up hst
      have ml := hrep.ml
      have ol : out.length ≤ 50 := by
        cases hst with
        | tick h hs =>
          cases hs with
          | idle => simp
          | ask => obtain ⟨x1, -, -⟩ := rightC_n hr; simp only [askL, List.length_map, List.length_range]; omega
        | msg _ _ _ _ _ hs =>
          cases hs with
          | said hd hv k hw => cases hw <;> simp
          | kept hd hv hn => cases hn with
            | fnc => simp
            | wr h1 hw => cases hw <;> simp
          | _ => simp
        | _ => simp
      refine .next (s' := .s4 true (i : Int) out ((0 : Nat) : Int) a'.x.f a'.z.known a'.z.hold a'.z.begun a'.z.filled 0 a'.well dn no a'.x.l a'.x.cl fuse' a'.down s' t') ?_ ?_
      · simp only [law18_FenceOnce_step, law18_FenceOnce_3, List.length_map, ltB hlt, cond_true, Option.bind_some, le0, Bool.and_self, Int.toNat_natCast, List.getE hlt, he]
        rfl
      have fin : ∀ dn no, OInv (replayT a'.rs) dn no (100 * (i + 1)) → Ev (law18_FenceOnce_step c l_) (.s4 true (i : Int) out (out.length : Int) a'.x.f a'.z.known a'.z.hold a'.z.begun a'.z.filled 0 a'.well dn no a'.x.l a'.x.cl fuse' a'.down s' t') true := by
        intro dn no ho
        have g : decide ((out.length : Int) < (out.length : Int)) = false := by simp
        have rest := ih (i + 1) a' fuse' s' t' dn no (by omega) hrep ho
        cases hd : a'.down with
        | true =>
          rw [hd] at rest
          exact .next (s' := .s3 true ((i + 1 : Nat) : Int) a'.x.f a'.z.known a'.z.hold a'.z.begun a'.z.filled 0 a'.well dn no a'.x.l a'.x.cl fuse' true s' t') (by simp only [law18_FenceOnce_step, law18_FenceOnce_4, List.length_map, g, cond_false, Target_Journal, Option.bind_some, Journal_Down, cond_true, w]) rest
        | false =>
          have hxe := hrep.up hd
          rw [← hxe] at ho
          rw [hd] at rest
          have lg := logT_ok (c := c) (index := 0) (l := a'.x.l) (fuse := fuse') (s := s') (t := t') (by omega) hrep.km.len hrep.km.pay (f := a'.x.f) (known := a'.z.known) (hold := a'.z.hold) (begun := a'.z.begun) (filled := a'.z.filled) (w := a'.well) (cl := a'.x.cl) (d := false)
          have cls := closedT_ok (l := a'.x.l) (cl := a'.x.cl) (by omega) hrep.km.shut (f := a'.x.f) (known := a'.z.known) (hold := a'.z.hold) (begun := a'.z.begun) (filled := a'.z.filled) (c := c) (index := 0) (w := a'.well) (fuse := fuse') (d := false) (s := s') (t := t')
          have no3 : ∀ y ∈ no, y.length < 9223372036854775807 := fun y hy => by rw [hrep.km.shut y (ho.nc y hy)]; decide
          have cl3 : ∀ y ∈ a'.x.cl, y.length < 9223372036854775807 := fun y hy => by rw [hrep.km.shut y hy]; decide
          have nl := ho.nl
          have dl := ho.dl
          refine .next (s' := .s8 true (i : Int) a'.x.l ((0 : Nat) : Int) a'.x.f a'.z.known a'.z.hold a'.z.begun a'.z.filled 0 a'.well dn no [] a'.x.l a'.x.cl fuse' false s' t') (by simp only [law18_FenceOnce_step, law18_FenceOnce_4, List.length_map, g, cond_false, Target_Journal, Option.bind_some, Journal_Down, lg]; rfl) ?_
          have ids3 : ∀ k, ∀ y ∈ (a'.x.l.take k).map (·.ID), y.length < 9223372036854775807 := fun k y hy => by
            obtain ⟨e, he, rfl⟩ := List.mem_map.1 hy
            rw [hrep.km.len e (List.mem_of_mem_take he)]; decide
          have s10 : ∀ (q k : Nat), k + q = dn.length → Ev (law18_FenceOnce_step c l_) (.s10 true (i : Int) (k : Int) a'.x.f a'.z.known a'.z.hold a'.z.begun a'.z.filled 0 a'.well dn no ((a'.x.l.take a'.x.l.length).map (·.ID)) a'.x.l a'.x.cl fuse' false s' t') true := by
            intro q
            induction q with
            | zero =>
              intro k hk
              have g : decide ((k : Int) < (dn.length : Int)) = false := by simp; omega
              exact .next (s' := .s3 true ((i + 1 : Nat) : Int) a'.x.f a'.z.known a'.z.hold a'.z.begun a'.z.filled 0 a'.well dn no a'.x.l a'.x.cl fuse' false s' t') (by simp only [law18_FenceOnce_step, law18_FenceOnce_10, List.length_map, g, cond_false, w]) rest
            | succ q ihq =>
              intro k hk
              have hkd : k < dn.length := by omega
              obtain ⟨e, he1, he2⟩ := ho.dn _ (List.getElem_mem hkd)
              have hm : dn[k] ∈ (a'.x.l.take a'.x.l.length).map (·.ID) := List.mem_map.2 ⟨e, by rw [List.take_length]; exact he1, he2⟩
              have hh := has_ok (l := (a'.x.l.take a'.x.l.length).map (·.ID)) (by rw [List.length_map, List.take_length]; omega) (ids3 _) (dn[k])
              rw [decide_eq_true hm] at hh
              refine .next (s' := .s10 true (i : Int) ((k + 1 : Nat) : Int) a'.x.f a'.z.known a'.z.hold a'.z.begun a'.z.filled 0 a'.well dn no ((a'.x.l.take a'.x.l.length).map (·.ID)) a'.x.l a'.x.cl fuse' false s' t') ?_ (ihq (k + 1) (by omega))
              simp only [law18_FenceOnce_step, law18_FenceOnce_10, List.length_map, ltB hkd, cond_true, cond_false, le0, Bool.and_self, Int.toNat_natCast, Nat.zero_add, List.getE hkd, Option.bind_some, hh, Bool.not_true, wS1T (show k ≤ 200000 by omega)]
          have s8 : ∀ (q k : Nat), k + q = a'.x.l.length → Ev (law18_FenceOnce_step c l_) (.s8 true (i : Int) a'.x.l (k : Int) a'.x.f a'.z.known a'.z.hold a'.z.begun a'.z.filled 0 a'.well dn no ((a'.x.l.take k).map (·.ID)) a'.x.l a'.x.cl fuse' false s' t') true := by
            intro q
            induction q with
            | zero =>
              intro k hk
              have g : decide ((k : Int) < (a'.x.l.length : Int)) = false := by simp; omega
              have hk' : k = a'.x.l.length := by omega
              subst hk'
              exact .next (s' := .s10 true (i : Int) ((0 : Nat) : Int) a'.x.f a'.z.known a'.z.hold a'.z.begun a'.z.filled 0 a'.well dn no ((a'.x.l.take a'.x.l.length).map (·.ID)) a'.x.l a'.x.cl fuse' false s' t') (by simp only [law18_FenceOnce_step, law18_FenceOnce_8, List.length_map, g, cond_false]; rfl) (s10 dn.length 0 (by omega))
            | succ q ihq =>
              intro k hk
              have hkl : k < a'.x.l.length := by omega
              have hmem := List.getElem_mem hkl
              have n1 : ¬ (a'.x.l[k]).ID ∈ (a'.x.l.take k).map (·.ID) := fun hm => by
                obtain ⟨e, he1, he2⟩ := List.mem_map.1 hm
                obtain ⟨p, hp, rfl⟩ := List.mem_iff_getElem.1 he1
                have hp' : p < k := by rw [List.length_take] at hp; omega
                have := List.pairwise_iff_getElem.1 hrep.km.ids p k (by omega) hkl hp'
                rw [List.getElem_take] at he2
                exact this he2
              have n2 : ¬ (a'.x.l[k]).ID ∈ no := fun hm => hrep.km.dis _ hmem (ho.nc _ hm)
              have n3 : ¬ (a'.x.l[k]).ID ∈ a'.x.cl := hrep.km.dis _ hmem
              have h1 := has_ok (l := (a'.x.l.take k).map (·.ID)) (by rw [List.length_map, List.length_take]; omega) (ids3 _) (a'.x.l[k]).ID
              have h2 := has_ok (l := no) (by omega) no3 (a'.x.l[k]).ID
              have h3 := has_ok (l := a'.x.cl) (by omega) cl3 (a'.x.l[k]).ID
              rw [decide_eq_false n1] at h1
              rw [decide_eq_false n2] at h2
              rw [decide_eq_false n3] at h3
              have lim : decide (((a'.x.l.take k).length + 1) * 24 ≤ bytesLim) = true := limOk (by rw [List.length_take]; omega)
              have tk : (a'.x.l.take (k + 1)).map (·.ID) = (a'.x.l.take k).map (·.ID) ++ [(a'.x.l[k]).ID] := by rw [List.take_succ_eq_append_getElem hkl, List.map_append]; rfl
              refine .next (s' := .s9 true (i : Int) a'.x.l (k : Int) false a'.x.f a'.z.known a'.z.hold a'.z.begun a'.z.filled 0 a'.well dn no ((a'.x.l.take k).map (·.ID)) a'.x.l a'.x.cl fuse' false s' t') ?_ (.next (s' := .s8 true (i : Int) a'.x.l ((k + 1 : Nat) : Int) a'.x.f a'.z.known a'.z.hold a'.z.begun a'.z.filled 0 a'.well dn no ((a'.x.l.take (k + 1)).map (·.ID)) a'.x.l a'.x.cl fuse' false s' t') ?_ (ihq (k + 1) (by omega)))
              · simp only [law18_FenceOnce_step, law18_FenceOnce_8, List.length_map, ltB hkl, cond_true, cond_false, le0, Bool.and_self, Int.toNat_natCast, List.getE hkl, Option.bind_some, h1, h2, h3, cls]
              · rw [tk]
                simp only [law18_FenceOnce_step, law18_FenceOnce_9, List.length_map, ltB hkl, cond_true, cond_false, le0, Bool.and_self, Int.toNat_natCast, List.getE hkl, Option.bind_some, lim, wS1T (show k ≤ 200000 by omega)]
          exact s8 a'.x.l.length 0 (by omega)
      have st4 : ∀ (q k : Nat) (dn no : List (List Int)), k + q = out.length → OInv (replayT a'.rs) dn no (100 * i + k) → Ev (law18_FenceOnce_step c l_) (.s4 true (i : Int) out (k : Int) a'.x.f a'.z.known a'.z.hold a'.z.begun a'.z.filled 0 a'.well dn no a'.x.l a'.x.cl fuse' a'.down s' t') true := by
        intro q
        induction q with
        | zero =>
          intro k dn no hk ho
          have hk' : k = out.length := by omega
          subst hk'
          exact fin dn no { ho with dl := by have := ho.dl; omega, nl := by have := ho.nl; omega }
        | succ q ihq =>
          intro k dn no hk ho
          have hko : k < out.length := by omega
          have wk := wS1T (show k ≤ 200000 by omega)
          have ht3 := f3 _ (List.getElem_mem hko)
          have dl := ho.dl
          have nl := ho.nl
          have lim1 : decide ((dn.length + 1) * 24 ≤ bytesLim) = true := limOk (by omega)
          have lim2 : decide ((no.length + 1) * 24 ≤ bytesLim) = true := limOk (by omega)
          by_cases k15 : (out[k]).Kind = 15
          · obtain ⟨t0, t1⟩ := ht3 k15
            by_cases c0 : (out[k]).Code = 0
            · have c1 : ¬ (out[k]).Code = 1 := by omega
              refine .next (s' := .s7 true (i : Int) out (k : Int) true a'.x.f a'.z.known a'.z.hold a'.z.begun a'.z.filled 0 a'.well dn no a'.x.l a'.x.cl fuse' a'.down s' t') (by simp only [law18_FenceOnce_step, law18_FenceOnce_4, List.length_map, ltB hko, cond_true, le0, Bool.and_self, Int.toNat_natCast, List.getE hko, Option.bind_some, beq_iff_eq.2 k15, beq_iff_eq.2 c0]) ?_
              refine .next (s' := .s6 true (i : Int) out (k : Int) a'.x.f a'.z.known a'.z.hold a'.z.begun a'.z.filled 0 a'.well (dn ++ [(out[k]).ID]) no a'.x.l a'.x.cl fuse' a'.down s' t') (by simp only [law18_FenceOnce_step, law18_FenceOnce_7, List.length_map, ltB hko, cond_true, le0, Bool.and_self, Int.toNat_natCast, List.getE hko, Option.bind_some, lim1]) ?_
              refine .next (s' := .s5 true (i : Int) out (k : Int) false a'.x.f a'.z.known a'.z.hold a'.z.begun a'.z.filled 0 a'.well (dn ++ [(out[k]).ID]) no a'.x.l a'.x.cl fuse' a'.down s' t') (by simp only [law18_FenceOnce_step, law18_FenceOnce_6, List.length_map, ltB hko, cond_true, le0, Bool.and_self, Int.toNat_natCast, List.getE hko, Option.bind_some, beq_iff_eq.2 k15, beqF c1]) ?_
              refine .next (s' := .s4 true (i : Int) out ((k + 1 : Nat) : Int) a'.x.f a'.z.known a'.z.hold a'.z.begun a'.z.filled 0 a'.well (dn ++ [(out[k]).ID]) no a'.x.l a'.x.cl fuse' a'.down s' t') (by simp only [law18_FenceOnce_step, law18_FenceOnce_5, cond_false, wk]) (ihq (k + 1) _ _ (by omega) ⟨fun d hd => ?_, ho.nc, by simp; omega, by omega⟩)
              rcases List.mem_append.1 hd with hd | hd
              · exact ho.dn d hd
              · rw [List.mem_singleton.1 hd]; exact t0 c0
            · refine .next (s' := .s7 true (i : Int) out (k : Int) false a'.x.f a'.z.known a'.z.hold a'.z.begun a'.z.filled 0 a'.well dn no a'.x.l a'.x.cl fuse' a'.down s' t') (by simp only [law18_FenceOnce_step, law18_FenceOnce_4, List.length_map, ltB hko, cond_true, le0, Bool.and_self, Int.toNat_natCast, List.getE hko, Option.bind_some, beq_iff_eq.2 k15, beqF c0]) ?_
              refine .next (s' := .s6 true (i : Int) out (k : Int) a'.x.f a'.z.known a'.z.hold a'.z.begun a'.z.filled 0 a'.well dn no a'.x.l a'.x.cl fuse' a'.down s' t') (by simp only [law18_FenceOnce_step, law18_FenceOnce_7, cond_false]) ?_
              by_cases c1 : (out[k]).Code = 1
              · refine .next (s' := .s5 true (i : Int) out (k : Int) true a'.x.f a'.z.known a'.z.hold a'.z.begun a'.z.filled 0 a'.well dn no a'.x.l a'.x.cl fuse' a'.down s' t') (by simp only [law18_FenceOnce_step, law18_FenceOnce_6, List.length_map, ltB hko, cond_true, le0, Bool.and_self, Int.toNat_natCast, List.getE hko, Option.bind_some, beq_iff_eq.2 k15, beq_iff_eq.2 c1]) ?_
                refine .next (s' := .s4 true (i : Int) out ((k + 1 : Nat) : Int) a'.x.f a'.z.known a'.z.hold a'.z.begun a'.z.filled 0 a'.well dn (no ++ [(out[k]).ID]) a'.x.l a'.x.cl fuse' a'.down s' t') (by simp only [law18_FenceOnce_step, law18_FenceOnce_5, List.length_map, ltB hko, cond_true, le0, Bool.and_self, Int.toNat_natCast, List.getE hko, Option.bind_some, lim2, wk]) (ihq (k + 1) _ _ (by omega) ⟨ho.dn, fun d hd => ?_, by omega, by simp; omega⟩)
                rcases List.mem_append.1 hd with hd | hd
                · exact ho.nc d hd
                · rw [List.mem_singleton.1 hd]; exact t1 c1
              · refine .next (s' := .s5 true (i : Int) out (k : Int) false a'.x.f a'.z.known a'.z.hold a'.z.begun a'.z.filled 0 a'.well dn no a'.x.l a'.x.cl fuse' a'.down s' t') (by simp only [law18_FenceOnce_step, law18_FenceOnce_6, List.length_map, ltB hko, cond_true, le0, Bool.and_self, Int.toNat_natCast, List.getE hko, Option.bind_some, beq_iff_eq.2 k15, beqF c1]) ?_
                exact .next (s' := .s4 true (i : Int) out ((k + 1 : Nat) : Int) a'.x.f a'.z.known a'.z.hold a'.z.begun a'.z.filled 0 a'.well dn no a'.x.l a'.x.cl fuse' a'.down s' t') (by simp only [law18_FenceOnce_step, law18_FenceOnce_5, cond_false, wk]) (ihq (k + 1) _ _ (by omega) ⟨ho.dn, ho.nc, by omega, by omega⟩)
          · refine .next (s' := .s7 true (i : Int) out (k : Int) false a'.x.f a'.z.known a'.z.hold a'.z.begun a'.z.filled 0 a'.well dn no a'.x.l a'.x.cl fuse' a'.down s' t') (by simp only [law18_FenceOnce_step, law18_FenceOnce_4, List.length_map, ltB hko, cond_true, cond_false, le0, Bool.and_self, Int.toNat_natCast, List.getE hko, Option.bind_some, beqF k15]) ?_
            refine .next (s' := .s6 true (i : Int) out (k : Int) a'.x.f a'.z.known a'.z.hold a'.z.begun a'.z.filled 0 a'.well dn no a'.x.l a'.x.cl fuse' a'.down s' t') (by simp only [law18_FenceOnce_step, law18_FenceOnce_7, cond_false]) ?_
            refine .next (s' := .s5 true (i : Int) out (k : Int) false a'.x.f a'.z.known a'.z.hold a'.z.begun a'.z.filled 0 a'.well dn no a'.x.l a'.x.cl fuse' a'.down s' t') (by simp only [law18_FenceOnce_step, law18_FenceOnce_6, List.length_map, ltB hko, cond_true, cond_false, le0, Bool.and_self, Int.toNat_natCast, List.getE hko, Option.bind_some, beqF k15]) ?_
            exact .next (s' := .s4 true (i : Int) out ((k + 1 : Nat) : Int) a'.x.f a'.z.known a'.z.hold a'.z.begun a'.z.filled 0 a'.well dn no a'.x.l a'.x.cl fuse' a'.down s' t') (by simp only [law18_FenceOnce_step, law18_FenceOnce_5, cond_false, wk]) (ihq (k + 1) _ _ (by omega) ⟨ho.dn, ho.nc, by omega, by omega⟩)
      refine st4 out.length 0 dn no (by omega) ⟨fun d hd => ?_, fun d hd => f2 _ (hx.nc d hd), by have := hx.dl; omega, by have := hx.nl; omega⟩
      obtain ⟨e, he1, he2⟩ := hx.dn d hd
      exact ⟨e, f1 e he1, he2⟩
  exact loop l_.length 0 (aT c) (-1) [] [] [] [] (by omega) rep_newT ⟨fun d hd => (by cases hd), fun d hd => (by cases hd), by simp, by simp⟩
end Go.RX.L
