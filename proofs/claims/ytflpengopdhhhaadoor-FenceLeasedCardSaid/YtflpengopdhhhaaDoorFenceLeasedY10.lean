/-
  Words and walks for FenceLeased. No condition.
-/
import Derived.Test.YtflpengopdhhhaaDoorFenceLeasedY9
set_option linter.unusedSectionVars false
set_option linter.unnecessarySimpa false
set_option linter.unusedSimpArgs false
set_option linter.unusedVariables false
set_option maxRecDepth 100000
set_option maxHeartbeats 4000000
namespace Go.RX.L
open Go Go.RX Go.Proofs
attribute [local irreducible] FinQ
noncomputable def law18_FenceLeased_c := codeAt (bodyOf Tryd.f6)
noncomputable def law18_FenceLeased_e (y : Bool) : D × Sto := (.bool y, [])
inductive law18_FenceLeased_S where
 | s0
 | s1 (up : Bool)
 | s2 (up : Bool) (fence : Int) (known : Plan) (hold : Hold) (begun filled index : Int) (well : Bool) (b2 : List Entry) (b3 : List (List Int)) (fuse : Int) (down : Bool) (b5 b6 : List Int)
 | s3 (up : Bool) (asked of_ : Int) (until_ seen : Int) (i fence : Int) (known : Plan) (hold : Hold) (begun filled index : Int) (well : Bool) (b2 : List Entry) (b3 : List (List Int)) (fuse : Int) (down : Bool) (b5 b6 : List Int)
 | s7 (up : Bool) (asked of_ : Int) (until_ seen : Int) (i n : Int) (x_ : List Msg) (t60 : Bool) (fence : Int) (known : Plan) (hold : Hold) (begun filled index : Int) (well : Bool) (o : Op) (known2 : Plan) (b4 : List Entry) (b5 : List (List Int)) (fuse : Int) (down : Bool) (b7 b8 : List Int)
 | s6 (up : Bool) (until_ i n : Int) (x_ : List Msg) (t70 : Bool) (fence : Int) (known : Plan) (hold : Hold) (begun filled index : Int) (well : Bool) (o : Op) (known2 : Plan) (b4 : List Entry) (b5 : List (List Int)) (fuse : Int) (down : Bool) (b7 b8 : List Int)
 | s5 (up : Bool) (asked of_ : Int) (until_ seen : Int) (i n : Int) (t140 : Bool) (fence : Int) (known : Plan) (hold : Hold) (begun filled index : Int) (well : Bool) (o : Op) (known2 : Plan) (b4 : List Entry) (b5 : List (List Int)) (fuse : Int) (down : Bool) (b7 b8 : List Int)
 | s8 (up : Bool) (until_ i n : Int) (x_ : List Msg) (fence : Int) (known : Plan) (hold : Hold) (begun filled index : Int) (well : Bool) (o : Op) (known2 : Plan) (b4 : List Entry) (b5 : List (List Int)) (fuse : Int) (down : Bool) (b7 b8 : List Int)
 | s4 (up : Bool) (asked of_ : Int) (until_ seen : Int) (i n : Int) (k b fence : Int) (known : Plan) (hold : Hold) (begun filled index : Int) (well : Bool) (o : Op) (known2 : Plan) (b4 : List Entry) (b5 : List (List Int)) (fuse : Int) (down : Bool) (b7 b8 : List Int)
 | s9 (up : Bool) (asked of_ : Int) (until_ seen : Int) (i n fence : Int) (known : Plan) (hold : Hold) (begun filled index : Int) (well : Bool) (o : Op) (known2 : Plan) (b4 : List Entry) (b5 : List (List Int)) (fuse : Int) (down : Bool) (b7 b8 : List Int)
noncomputable def law18_FenceLeased_M (c : Config) (l_ : List Op) : law18_FenceLeased_S → M
 | .s0 => startM Tryd.f6 [.agg (Config.enc c), .sl false 29 (List.map Op.enc l_)] []
 | .s1 up => ⟨[.code (law18_FenceLeased_c [1, 1, 1])], [(1, .sl false 29 (List.map Op.enc l_)), (2, .ptr 0 0 0), (5, .bool up), (6, .nilp)], [some ⟨30, false, [(Config.enc c)]⟩]⟩
 | .s2 up fence known hold begun filled index well b2 b3 fuse down b5 b6 => ⟨[.code (law18_FenceLeased_c [1, 1, 1])], [(1, .sl false 29 (List.map Op.enc l_)), (2, .ptr 0 0 0), (5, .bool up), (6, .ptr 1 0 0)], [some ⟨30, false, [(Config.enc c)]⟩, some ⟨54, true, [([.int .i64 fence] ++ Plan.encL known ([.int .i64 hold.Epoch, .int .i64 hold.Nonce, .int .u64 hold.Grants, .int .i64 hold.Until, (grD 2 (List.map Entry.enc b2)), (grD 3 (List.map (eSl 1 (eInt .i64)) b3)), .int .i64 begun, .int .i64 filled] ++ Config.encL c [.int .i64 index, .ptr 4 0 0, .bool well]))]⟩, some ⟨3, false, (List.map Entry.enc b2)⟩, some ⟨1, false, (List.map (eSl 1 (eInt .i64)) b3)⟩, some ⟨4, true, [[(grD 5 (List.map (eInt .u8) b5)), (grD 6 (List.map (eInt .u8) b6)), .int .i64 fuse, .bool down]]⟩, some ⟨1, false, (List.map (eInt .u8) b5)⟩, some ⟨1, false, (List.map (eInt .u8) b6)⟩]⟩
 | .s3 up asked of_ until_ seen i fence known hold begun filled index well b2 b3 fuse down b5 b6 => ⟨[.lpc (law18_FenceLeased_c [1, 1, 1, 1, 1, 1, 1, 1, 0, 1, 0, 0]) 4070, .blk 0, .code (law18_FenceLeased_c [1, 1, 1, 1, 1, 1, 1, 1, 1])], [(1, .sl false 29 (List.map Op.enc l_)), (2, .ptr 0 0 0), (5, .bool up), (6, .ptr 1 0 0), (7, .int .i64 asked), (8, .int .i64 of_), (9, .int .i64 until_), (10, .int .u64 seen), (11, .int .i64 i)], [some ⟨30, false, [(Config.enc c)]⟩, some ⟨54, true, [([.int .i64 fence] ++ Plan.encL known ([.int .i64 hold.Epoch, .int .i64 hold.Nonce, .int .u64 hold.Grants, .int .i64 hold.Until, (grD 2 (List.map Entry.enc b2)), (grD 3 (List.map (eSl 1 (eInt .i64)) b3)), .int .i64 begun, .int .i64 filled] ++ Config.encL c [.int .i64 index, .ptr 4 0 0, .bool well]))]⟩, some ⟨3, false, (List.map Entry.enc b2)⟩, some ⟨1, false, (List.map (eSl 1 (eInt .i64)) b3)⟩, some ⟨4, true, [[(grD 5 (List.map (eInt .u8) b5)), (grD 6 (List.map (eInt .u8) b6)), .int .i64 fuse, .bool down]]⟩, some ⟨1, false, (List.map (eInt .u8) b5)⟩, some ⟨1, false, (List.map (eInt .u8) b6)⟩]⟩
 | .s7 up asked of_ until_ seen i n x_ t60 fence known hold begun filled index well o known2 b4 b5 fuse down b7 b8 => ⟨[.code (law18_FenceLeased_c [1, 1, 1, 1, 1, 1, 1, 1, 0, 1, 0, 0, 1, 0, 0, 1, 1, 1, 1, 1, 0, 1]), .code (law18_FenceLeased_c [1, 1, 1, 1, 1, 1, 1, 1, 0, 1, 0, 0, 1, 0, 0, 1, 1, 1, 1, 1, 1]), .blk 1, .code (law18_FenceLeased_c [1, 1, 1, 1, 1, 1, 1, 1, 0, 1, 0, 0, 1, 1]), .lp (law18_FenceLeased_c [1, 1, 1, 1, 1, 1, 1, 1, 0, 1, 0, 0]) 4070, .blk 0, .code (law18_FenceLeased_c [1, 1, 1, 1, 1, 1, 1, 1, 1])], [(1, .sl false 29 (List.map Op.enc l_)), (2, .ptr 0 0 0), (5, .bool up), (6, .ptr 1 0 0), (7, .int .i64 asked), (8, .int .i64 of_), (9, .int .i64 until_), (10, .int .u64 seen), (11, .int .i64 i), (12, .ptr 2 0 0), (13, .int .i64 n), (14, .ptr 3 0 0), (15, .sl false 26 (List.map Msg.enc x_)), (60, .bool t60)], [some ⟨30, false, [(Config.enc c)]⟩, some ⟨54, true, [([.int .i64 fence] ++ Plan.encL known ([.int .i64 hold.Epoch, .int .i64 hold.Nonce, .int .u64 hold.Grants, .int .i64 hold.Until, (grD 4 (List.map Entry.enc b4)), (grD 5 (List.map (eSl 1 (eInt .i64)) b5)), .int .i64 begun, .int .i64 filled] ++ Config.encL c [.int .i64 index, .ptr 6 0 0, .bool well]))]⟩, some ⟨29, false, [(Op.enc o)]⟩, some ⟨12, false, [(Plan.enc known2)]⟩, some ⟨3, false, (List.map Entry.enc b4)⟩, some ⟨1, false, (List.map (eSl 1 (eInt .i64)) b5)⟩, some ⟨4, true, [[(grD 7 (List.map (eInt .u8) b7)), (grD 8 (List.map (eInt .u8) b8)), .int .i64 fuse, .bool down]]⟩, some ⟨1, false, (List.map (eInt .u8) b7)⟩, some ⟨1, false, (List.map (eInt .u8) b8)⟩]⟩
 | .s6 up until_ i n x_ t70 fence known hold begun filled index well o known2 b4 b5 fuse down b7 b8 => ⟨[.code (law18_FenceLeased_c [1, 1, 1, 1, 1, 1, 1, 1, 0, 1, 0, 0, 1, 0, 0, 1, 1, 1, 1, 1, 0, 1, 0, 0, 1]), .code (law18_FenceLeased_c [1, 1, 1, 1, 1, 1, 1, 1, 0, 1, 0, 0, 1, 0, 0, 1, 1, 1, 1, 1, 0, 1, 0, 1]), .code (law18_FenceLeased_c [1, 1, 1, 1, 1, 1, 1, 1, 0, 1, 0, 0, 1, 0, 0, 1, 1, 1, 1, 1, 1]), .blk 1, .code (law18_FenceLeased_c [1, 1, 1, 1, 1, 1, 1, 1, 0, 1, 0, 0, 1, 1]), .lp (law18_FenceLeased_c [1, 1, 1, 1, 1, 1, 1, 1, 0, 1, 0, 0]) 4070, .blk 0, .code (law18_FenceLeased_c [1, 1, 1, 1, 1, 1, 1, 1, 1])], [(1, .sl false 29 (List.map Op.enc l_)), (2, .ptr 0 0 0), (5, .bool up), (6, .ptr 1 0 0), (9, .int .i64 until_), (11, .int .i64 i), (12, .ptr 2 0 0), (13, .int .i64 n), (14, .ptr 3 0 0), (15, .sl false 26 (List.map Msg.enc x_)), (70, .bool t70)], [some ⟨30, false, [(Config.enc c)]⟩, some ⟨54, true, [([.int .i64 fence] ++ Plan.encL known ([.int .i64 hold.Epoch, .int .i64 hold.Nonce, .int .u64 hold.Grants, .int .i64 hold.Until, (grD 4 (List.map Entry.enc b4)), (grD 5 (List.map (eSl 1 (eInt .i64)) b5)), .int .i64 begun, .int .i64 filled] ++ Config.encL c [.int .i64 index, .ptr 6 0 0, .bool well]))]⟩, some ⟨29, false, [(Op.enc o)]⟩, some ⟨12, false, [(Plan.enc known2)]⟩, some ⟨3, false, (List.map Entry.enc b4)⟩, some ⟨1, false, (List.map (eSl 1 (eInt .i64)) b5)⟩, some ⟨4, true, [[(grD 7 (List.map (eInt .u8) b7)), (grD 8 (List.map (eInt .u8) b8)), .int .i64 fuse, .bool down]]⟩, some ⟨1, false, (List.map (eInt .u8) b7)⟩, some ⟨1, false, (List.map (eInt .u8) b8)⟩]⟩
 | .s5 up asked of_ until_ seen i n t140 fence known hold begun filled index well o known2 b4 b5 fuse down b7 b8 => ⟨[.code (law18_FenceLeased_c [1, 1, 1, 1, 1, 1, 1, 1, 0, 1, 0, 0, 1, 0, 0, 1, 1, 1, 1, 1, 1, 0, 1]), .code (law18_FenceLeased_c [1, 1, 1, 1, 1, 1, 1, 1, 0, 1, 0, 0, 1, 0, 0, 1, 1, 1, 1, 1, 1, 1]), .blk 1, .code (law18_FenceLeased_c [1, 1, 1, 1, 1, 1, 1, 1, 0, 1, 0, 0, 1, 1]), .lp (law18_FenceLeased_c [1, 1, 1, 1, 1, 1, 1, 1, 0, 1, 0, 0]) 4070, .blk 0, .code (law18_FenceLeased_c [1, 1, 1, 1, 1, 1, 1, 1, 1])], [(1, .sl false 29 (List.map Op.enc l_)), (2, .ptr 0 0 0), (5, .bool up), (6, .ptr 1 0 0), (7, .int .i64 asked), (8, .int .i64 of_), (9, .int .i64 until_), (10, .int .u64 seen), (11, .int .i64 i), (12, .ptr 2 0 0), (13, .int .i64 n), (14, .ptr 3 0 0), (140, .bool t140)], [some ⟨30, false, [(Config.enc c)]⟩, some ⟨54, true, [([.int .i64 fence] ++ Plan.encL known ([.int .i64 hold.Epoch, .int .i64 hold.Nonce, .int .u64 hold.Grants, .int .i64 hold.Until, (grD 4 (List.map Entry.enc b4)), (grD 5 (List.map (eSl 1 (eInt .i64)) b5)), .int .i64 begun, .int .i64 filled] ++ Config.encL c [.int .i64 index, .ptr 6 0 0, .bool well]))]⟩, some ⟨29, false, [(Op.enc o)]⟩, some ⟨12, false, [(Plan.enc known2)]⟩, some ⟨3, false, (List.map Entry.enc b4)⟩, some ⟨1, false, (List.map (eSl 1 (eInt .i64)) b5)⟩, some ⟨4, true, [[(grD 7 (List.map (eInt .u8) b7)), (grD 8 (List.map (eInt .u8) b8)), .int .i64 fuse, .bool down]]⟩, some ⟨1, false, (List.map (eInt .u8) b7)⟩, some ⟨1, false, (List.map (eInt .u8) b8)⟩]⟩
 | .s8 up until_ i n x_ fence known hold begun filled index well o known2 b4 b5 fuse down b7 b8 => ⟨[.code (law18_FenceLeased_c [1, 1, 1, 1, 1, 1, 1, 1, 0, 1, 0, 0, 1, 0, 0, 1, 1, 1, 1, 1, 0, 1, 0, 1]), .code (law18_FenceLeased_c [1, 1, 1, 1, 1, 1, 1, 1, 0, 1, 0, 0, 1, 0, 0, 1, 1, 1, 1, 1, 1]), .blk 1, .code (law18_FenceLeased_c [1, 1, 1, 1, 1, 1, 1, 1, 0, 1, 0, 0, 1, 1]), .lp (law18_FenceLeased_c [1, 1, 1, 1, 1, 1, 1, 1, 0, 1, 0, 0]) 4070, .blk 0, .code (law18_FenceLeased_c [1, 1, 1, 1, 1, 1, 1, 1, 1])], [(1, .sl false 29 (List.map Op.enc l_)), (2, .ptr 0 0 0), (5, .bool up), (6, .ptr 1 0 0), (9, .int .i64 until_), (11, .int .i64 i), (12, .ptr 2 0 0), (13, .int .i64 n), (14, .ptr 3 0 0), (15, .sl false 26 (List.map Msg.enc x_))], [some ⟨30, false, [(Config.enc c)]⟩, some ⟨54, true, [([.int .i64 fence] ++ Plan.encL known ([.int .i64 hold.Epoch, .int .i64 hold.Nonce, .int .u64 hold.Grants, .int .i64 hold.Until, (grD 4 (List.map Entry.enc b4)), (grD 5 (List.map (eSl 1 (eInt .i64)) b5)), .int .i64 begun, .int .i64 filled] ++ Config.encL c [.int .i64 index, .ptr 6 0 0, .bool well]))]⟩, some ⟨29, false, [(Op.enc o)]⟩, some ⟨12, false, [(Plan.enc known2)]⟩, some ⟨3, false, (List.map Entry.enc b4)⟩, some ⟨1, false, (List.map (eSl 1 (eInt .i64)) b5)⟩, some ⟨4, true, [[(grD 7 (List.map (eInt .u8) b7)), (grD 8 (List.map (eInt .u8) b8)), .int .i64 fuse, .bool down]]⟩, some ⟨1, false, (List.map (eInt .u8) b7)⟩, some ⟨1, false, (List.map (eInt .u8) b8)⟩]⟩
 | .s4 up asked of_ until_ seen i n k b fence known hold begun filled index well o known2 b4 b5 fuse down b7 b8 => ⟨[.lpc (law18_FenceLeased_c [1, 1, 1, 1, 1, 1, 1, 1, 0, 1, 0, 0, 1, 0, 0, 1, 1, 1, 1, 1, 1, 0, 1, 0, 1, 1, 0, 1, 0, 0]) 229350, .blk 2, .code (law18_FenceLeased_c [1, 1, 1, 1, 1, 1, 1, 1, 0, 1, 0, 0, 1, 0, 0, 1, 1, 1, 1, 1, 1, 0, 1, 0, 1, 1, 1]), .code (law18_FenceLeased_c [1, 1, 1, 1, 1, 1, 1, 1, 0, 1, 0, 0, 1, 0, 0, 1, 1, 1, 1, 1, 1, 1]), .blk 1, .code (law18_FenceLeased_c [1, 1, 1, 1, 1, 1, 1, 1, 0, 1, 0, 0, 1, 1]), .lp (law18_FenceLeased_c [1, 1, 1, 1, 1, 1, 1, 1, 0, 1, 0, 0]) 4070, .blk 0, .code (law18_FenceLeased_c [1, 1, 1, 1, 1, 1, 1, 1, 1])], [(1, .sl false 29 (List.map Op.enc l_)), (2, .ptr 0 0 0), (5, .bool up), (6, .ptr 1 0 0), (7, .int .i64 asked), (8, .int .i64 of_), (9, .int .i64 until_), (10, .int .u64 seen), (11, .int .i64 i), (12, .ptr 2 0 0), (13, .int .i64 n), (14, .ptr 3 0 0), (16, .int .i64 k), (17, .int .i64 b)], [some ⟨30, false, [(Config.enc c)]⟩, some ⟨54, true, [([.int .i64 fence] ++ Plan.encL known ([.int .i64 hold.Epoch, .int .i64 hold.Nonce, .int .u64 hold.Grants, .int .i64 hold.Until, (grD 4 (List.map Entry.enc b4)), (grD 5 (List.map (eSl 1 (eInt .i64)) b5)), .int .i64 begun, .int .i64 filled] ++ Config.encL c [.int .i64 index, .ptr 6 0 0, .bool well]))]⟩, some ⟨29, false, [(Op.enc o)]⟩, some ⟨12, false, [(Plan.enc known2)]⟩, some ⟨3, false, (List.map Entry.enc b4)⟩, some ⟨1, false, (List.map (eSl 1 (eInt .i64)) b5)⟩, some ⟨4, true, [[(grD 7 (List.map (eInt .u8) b7)), (grD 8 (List.map (eInt .u8) b8)), .int .i64 fuse, .bool down]]⟩, some ⟨1, false, (List.map (eInt .u8) b7)⟩, some ⟨1, false, (List.map (eInt .u8) b8)⟩]⟩
 | .s9 up asked of_ until_ seen i n fence known hold begun filled index well o known2 b4 b5 fuse down b7 b8 => ⟨[.code (law18_FenceLeased_c [1, 1, 1, 1, 1, 1, 1, 1, 0, 1, 0, 0, 1, 0, 0, 1, 1, 1, 1, 1, 1, 1]), .blk 1, .code (law18_FenceLeased_c [1, 1, 1, 1, 1, 1, 1, 1, 0, 1, 0, 0, 1, 1]), .lp (law18_FenceLeased_c [1, 1, 1, 1, 1, 1, 1, 1, 0, 1, 0, 0]) 4070, .blk 0, .code (law18_FenceLeased_c [1, 1, 1, 1, 1, 1, 1, 1, 1])], [(1, .sl false 29 (List.map Op.enc l_)), (2, .ptr 0 0 0), (5, .bool up), (6, .ptr 1 0 0), (7, .int .i64 asked), (8, .int .i64 of_), (9, .int .i64 until_), (10, .int .u64 seen), (11, .int .i64 i), (12, .ptr 2 0 0), (13, .int .i64 n), (14, .ptr 3 0 0)], [some ⟨30, false, [(Config.enc c)]⟩, some ⟨54, true, [([.int .i64 fence] ++ Plan.encL known ([.int .i64 hold.Epoch, .int .i64 hold.Nonce, .int .u64 hold.Grants, .int .i64 hold.Until, (grD 4 (List.map Entry.enc b4)), (grD 5 (List.map (eSl 1 (eInt .i64)) b5)), .int .i64 begun, .int .i64 filled] ++ Config.encL c [.int .i64 index, .ptr 6 0 0, .bool well]))]⟩, some ⟨29, false, [(Op.enc o)]⟩, some ⟨12, false, [(Plan.enc known2)]⟩, some ⟨3, false, (List.map Entry.enc b4)⟩, some ⟨1, false, (List.map (eSl 1 (eInt .i64)) b5)⟩, some ⟨4, true, [[(grD 7 (List.map (eInt .u8) b7)), (grD 8 (List.map (eInt .u8) b8)), .int .i64 fuse, .bool down]]⟩, some ⟨1, false, (List.map (eInt .u8) b7)⟩, some ⟨1, false, (List.map (eInt .u8) b8)⟩]⟩
abbrev law18_FenceLeased_W (c : Config) (l_ : List Op) := SOk E (Cx.of Tryd.f6 false 0) law18_FenceLeased_e (law18_FenceLeased_M c l_)
noncomputable def law18_FenceLeased_0 (c : Config) (l_ : List Op) : Option (law18_FenceLeased_S ⊕ Bool) := ((law18_head ).bind fun y1 => ((fence_New c 0).bind fun y2 => match y2 with | .r0 => (some (.inl (.s1 y1))) | .r1 y2a0 y2a1 y2a2 y2a3 y2a4 y2a5 y2a6 y2a7 y2a8 y2a9 y2a10 y2a11 => (some (.inl (.s2 y1 y2a0 y2a1 y2a2 y2a3 y2a4 0 y2a5 y2a6 y2a7 y2a8 y2a9 y2a10 y2a11)))))
noncomputable def law18_FenceLeased_1 (c : Config) (l_ : List Op) (up : Bool) : Option (law18_FenceLeased_S ⊕ Bool) := (some (.inr up))
noncomputable def law18_FenceLeased_2 (c : Config) (l_ : List Op) (up : Bool) (fence : Int) (known : Plan) (hold : Hold) (begun filled index : Int) (well : Bool) (b2 : List Entry) (b3 : List (List Int)) (fuse : Int) (down : Bool) (b5 b6 : List Int) : Option (law18_FenceLeased_S ⊕ Bool) := ((law18_Great l_).bind fun y1 => (bif y1 then (some (.inr up)) else (some (.inl (.s3 up (-1) 0 0 0 0 fence known hold begun filled index well b2 b3 fuse down b5 b6)))))
noncomputable def law18_FenceLeased_3 (c : Config) (l_ : List Op) (up : Bool) (asked of_ : Int) (until_ seen : Int) (i fence : Int) (known : Plan) (hold : Hold) (begun filled index : Int) (well : Bool) (b2 : List Entry) (b3 : List (List Int)) (fuse : Int) (down : Bool) (b5 b6 : List Int) : Option (law18_FenceLeased_S ⊕ Bool) := (bif (decide ((i : Int) < (((List.map Op.enc l_).length : Nat) : Int))) then (bif ((decide ((0 : Int) ≤ i)) && (decide ((i : Int) < (((List.map Op.enc l_).length : Nat) : Int)))) then (((l_)[i.toNat]?).bind fun y3 => ((Target_Log fence known hold begun filled c index well b2 b3 fuse down b5 b6).bind fun y5 => ((Target_Known fence known hold begun filled c index well b2 b3 fuse down b5 b6).bind fun y6 => ((law18_Fuzz y3 fence known hold begun filled c index well b2 b3 fuse down b5 b6).bind fun y7 => (bif (((andI .i64 y3.What 7) : Int) == 3) then (some (.inl (.s3 up (-1) of_ 0 0 (IntKind.i64.wrap (i + 1)) y7.2.1 y7.2.2.1 y7.2.2.2.1 y7.2.2.2.2.1 y7.2.2.2.2.2.1 index y7.2.2.2.2.2.2.1 y7.2.2.2.2.2.2.2.2.2.1 y7.2.2.2.2.2.2.2.2.2.2.1 y7.2.2.2.2.2.2.2.1 y7.2.2.2.2.2.2.2.2.1 y7.2.2.2.2.2.2.2.2.2.2.2.1 y7.2.2.2.2.2.2.2.2.2.2.2.2))) else (bif (decide (((((List.map Msg.enc y7.1).length : Nat) : Int) : Int) > 0)) then (bif (decide ((0 : Int) < (((List.map Msg.enc y7.1).length : Nat) : Int))) then (((y7.1)[0]?).bind fun y11 => (some (.inl (.s7 up asked of_ until_ seen i (((List.map Entry.enc y5).length : Nat) : Int) y7.1 ((y11.Kind : Int) == 10) y7.2.1 y7.2.2.1 y7.2.2.2.1 y7.2.2.2.2.1 y7.2.2.2.2.2.1 index y7.2.2.2.2.2.2.1 y3 known y7.2.2.2.2.2.2.2.2.2.1 y7.2.2.2.2.2.2.2.2.2.2.1 y7.2.2.2.2.2.2.2.1 y7.2.2.2.2.2.2.2.2.1 y7.2.2.2.2.2.2.2.2.2.2.2.1 y7.2.2.2.2.2.2.2.2.2.2.2.2)))) else none) else (some (.inl (.s7 up asked of_ until_ seen i (((List.map Entry.enc y5).length : Nat) : Int) y7.1 false y7.2.1 y7.2.2.1 y7.2.2.2.1 y7.2.2.2.2.1 y7.2.2.2.2.2.1 index y7.2.2.2.2.2.2.1 y3 known y7.2.2.2.2.2.2.2.2.2.1 y7.2.2.2.2.2.2.2.2.2.2.1 y7.2.2.2.2.2.2.2.1 y7.2.2.2.2.2.2.2.2.1 y7.2.2.2.2.2.2.2.2.2.2.2.1 y7.2.2.2.2.2.2.2.2.2.2.2.2))))))))) else none) else (some (.inr up)))
noncomputable def law18_FenceLeased_7 (c : Config) (l_ : List Op) (up : Bool) (asked of_ : Int) (until_ seen : Int) (i n : Int) (x_ : List Msg) (t60 : Bool) (fence : Int) (known : Plan) (hold : Hold) (begun filled index : Int) (well : Bool) (o : Op) (known2 : Plan) (b4 : List Entry) (b5 : List (List Int)) (fuse : Int) (down : Bool) (b7 b8 : List Int) : Option (law18_FenceLeased_S ⊕ Bool) := (bif t60 then (bif (decide ((0 : Int) < (((List.map Msg.enc x_).length : Nat) : Int))) then (((x_)[0]?).bind fun y3 => (bif ((of_ : Int) != y3.Epoch) then (some (.inl (.s6 up until_ i n x_ true fence known hold begun filled index well o known2 b4 b5 fuse down b7 b8))) else (some (.inl (.s6 up until_ i n x_ (decide ((asked : Int) < 0)) fence known hold begun filled index well o known2 b4 b5 fuse down b7 b8))))) else none) else (bif (((andI .i64 o.What 7) : Int) != 1) then (bif (((andI .i64 o.What 7) : Int) != 2) then (bif (((andI .i64 o.What 7) : Int) != 4) then (bif (((andI .i64 o.What 7) : Int) != 5) then (bif ((o.M_.Kind : Int) == 11) then (bif ((o.M_.Epoch : Int) == of_) then (bif ((o.M_.Nonce : Int) == asked) then (bif ((o.M_.Code : Int) == 1) then (bif (decide ((o.M_.From : Int) ≥ 0)) then ((api_Acceptors c).bind fun y15 => (some (.inl (.s5 up asked of_ until_ seen i n (decide ((o.M_.From : Int) < y15)) fence known hold begun filled index well o known2 b4 b5 fuse down b7 b8)))) else (some (.inl (.s5 up asked of_ until_ seen i n false fence known hold begun filled index well o known2 b4 b5 fuse down b7 b8)))) else (some (.inl (.s5 up asked of_ until_ seen i n false fence known hold begun filled index well o known2 b4 b5 fuse down b7 b8)))) else (some (.inl (.s5 up asked of_ until_ seen i n false fence known hold begun filled index well o known2 b4 b5 fuse down b7 b8)))) else (some (.inl (.s5 up asked of_ until_ seen i n false fence known hold begun filled index well o known2 b4 b5 fuse down b7 b8)))) else (some (.inl (.s5 up asked of_ until_ seen i n false fence known hold begun filled index well o known2 b4 b5 fuse down b7 b8)))) else (some (.inl (.s5 up asked of_ until_ seen i n false fence known hold begun filled index well o known2 b4 b5 fuse down b7 b8)))) else (some (.inl (.s5 up asked of_ until_ seen i n false fence known hold begun filled index well o known2 b4 b5 fuse down b7 b8)))) else (some (.inl (.s5 up asked of_ until_ seen i n false fence known hold begun filled index well o known2 b4 b5 fuse down b7 b8)))) else (some (.inl (.s5 up asked of_ until_ seen i n false fence known hold begun filled index well o known2 b4 b5 fuse down b7 b8)))))
noncomputable def law18_FenceLeased_6 (c : Config) (l_ : List Op) (up : Bool) (until_ i n : Int) (x_ : List Msg) (t70 : Bool) (fence : Int) (known : Plan) (hold : Hold) (begun filled index : Int) (well : Bool) (o : Op) (known2 : Plan) (b4 : List Entry) (b5 : List (List Int)) (fuse : Int) (down : Bool) (b7 b8 : List Int) : Option (law18_FenceLeased_S ⊕ Bool) := (bif t70 then (some (.inl (.s8 up 0 i n x_ fence known hold begun filled index well o known2 b4 b5 fuse down b7 b8))) else (some (.inl (.s8 up until_ i n x_ fence known hold begun filled index well o known2 b4 b5 fuse down b7 b8))))
noncomputable def law18_FenceLeased_5 (c : Config) (l_ : List Op) (up : Bool) (asked of_ : Int) (until_ seen : Int) (i n : Int) (t140 : Bool) (fence : Int) (known : Plan) (hold : Hold) (begun filled index : Int) (well : Bool) (o : Op) (known2 : Plan) (b4 : List Entry) (b5 : List (List Int)) (fuse : Int) (down : Bool) (b7 b8 : List Int) : Option (law18_FenceLeased_S ⊕ Bool) := (bif t140 then (bif (!decide ((o.M_.From : Int) < 0)) then (some (.inl (.s4 up asked of_ until_ (orI .u64 seen (shlI .u64 1 o.M_.From)) i n 0 0 fence known hold begun filled index well o known2 b4 b5 fuse down b7 b8))) else none) else (some (.inl (.s9 up asked of_ until_ seen i n fence known hold begun filled index well o known2 b4 b5 fuse down b7 b8))))
noncomputable def law18_FenceLeased_8 (c : Config) (l_ : List Op) (up : Bool) (until_ i n : Int) (x_ : List Msg) (fence : Int) (known : Plan) (hold : Hold) (begun filled index : Int) (well : Bool) (o : Op) (known2 : Plan) (b4 : List Entry) (b5 : List (List Int)) (fuse : Int) (down : Bool) (b7 b8 : List Int) : Option (law18_FenceLeased_S ⊕ Bool) := (bif (decide ((0 : Int) < (((List.map Msg.enc x_).length : Nat) : Int))) then (((x_)[0]?).bind fun y2 => (bif (decide ((0 : Int) < (((List.map Msg.enc x_).length : Nat) : Int))) then (((x_)[0]?).bind fun y5 => (bif (((andI .i64 o.What 7) : Int) != 1) then (bif (((andI .i64 o.What 7) : Int) != 2) then (bif (((andI .i64 o.What 7) : Int) != 4) then (bif (((andI .i64 o.What 7) : Int) != 5) then (bif ((o.M_.Kind : Int) == 11) then (bif ((o.M_.Epoch : Int) == y5.Epoch) then (bif ((o.M_.Nonce : Int) == y2.Nonce) then (bif ((o.M_.Code : Int) == 1) then (bif (decide ((o.M_.From : Int) ≥ 0)) then ((api_Acceptors c).bind fun y16 => (some (.inl (.s5 up y2.Nonce y5.Epoch until_ 0 i n (decide ((o.M_.From : Int) < y16)) fence known hold begun filled index well o known2 b4 b5 fuse down b7 b8)))) else (some (.inl (.s5 up y2.Nonce y5.Epoch until_ 0 i n false fence known hold begun filled index well o known2 b4 b5 fuse down b7 b8)))) else (some (.inl (.s5 up y2.Nonce y5.Epoch until_ 0 i n false fence known hold begun filled index well o known2 b4 b5 fuse down b7 b8)))) else (some (.inl (.s5 up y2.Nonce y5.Epoch until_ 0 i n false fence known hold begun filled index well o known2 b4 b5 fuse down b7 b8)))) else (some (.inl (.s5 up y2.Nonce y5.Epoch until_ 0 i n false fence known hold begun filled index well o known2 b4 b5 fuse down b7 b8)))) else (some (.inl (.s5 up y2.Nonce y5.Epoch until_ 0 i n false fence known hold begun filled index well o known2 b4 b5 fuse down b7 b8)))) else (some (.inl (.s5 up y2.Nonce y5.Epoch until_ 0 i n false fence known hold begun filled index well o known2 b4 b5 fuse down b7 b8)))) else (some (.inl (.s5 up y2.Nonce y5.Epoch until_ 0 i n false fence known hold begun filled index well o known2 b4 b5 fuse down b7 b8)))) else (some (.inl (.s5 up y2.Nonce y5.Epoch until_ 0 i n false fence known hold begun filled index well o known2 b4 b5 fuse down b7 b8)))) else (some (.inl (.s5 up y2.Nonce y5.Epoch until_ 0 i n false fence known hold begun filled index well o known2 b4 b5 fuse down b7 b8))))) else none)) else none)
noncomputable def law18_FenceLeased_4 (c : Config) (l_ : List Op) (up : Bool) (asked of_ : Int) (until_ seen : Int) (i n : Int) (k b fence : Int) (known : Plan) (hold : Hold) (begun filled index : Int) (well : Bool) (o : Op) (known2 : Plan) (b4 : List Entry) (b5 : List (List Int)) (fuse : Int) (down : Bool) (b7 b8 : List Int) : Option (law18_FenceLeased_S ⊕ Bool) := ((api_Acceptors c).bind fun y1 => (bif (decide ((b : Int) < y1)) then (bif (!decide ((b : Int) < 0)) then (some (.inl (.s4 up asked of_ until_ seen i n (IntKind.i64.wrap (k + (IntKind.i64.wrap ((andI .u64 (shrI .u64 seen b) 1))))) (IntKind.i64.wrap (b + 1)) fence known hold begun filled index well o known2 b4 b5 fuse down b7 b8))) else none) else (bif (decide ((k : Int) > c.F_)) then (some (.inl (.s9 up asked of_ (mxI until_ (IntKind.i64.wrap (asked + c.L_))) seen i n fence known hold begun filled index well o known2 b4 b5 fuse down b7 b8))) else (some (.inl (.s9 up asked of_ until_ seen i n fence known hold begun filled index well o known2 b4 b5 fuse down b7 b8))))))
noncomputable def law18_FenceLeased_9 (c : Config) (l_ : List Op) (up : Bool) (asked of_ : Int) (until_ seen : Int) (i n fence : Int) (known : Plan) (hold : Hold) (begun filled index : Int) (well : Bool) (o : Op) (known2 : Plan) (b4 : List Entry) (b5 : List (List Int)) (fuse : Int) (down : Bool) (b7 b8 : List Int) : Option (law18_FenceLeased_S ⊕ Bool) := ((Target_Log fence known hold begun filled c index well b4 b5 fuse down b7 b8).bind fun y1 => (bif (decide (((((List.map Entry.enc y1).length : Nat) : Int) : Int) > n)) then (bif (((((List.map Entry.enc y1).length : Nat) : Int) : Int) != (IntKind.i64.wrap (n + 1))) then (some (.inr false)) else (bif ((decide ((0 : Int) ≤ n)) && (decide ((n : Int) < (((List.map Entry.enc y1).length : Nat) : Int)))) then (((y1)[n.toNat]?).bind fun y5 => (bif ((y5.Epoch : Int) != known2.Epoch) then (some (.inr false)) else ((ref04_Names known2 0).bind fun y8 => (bif (!y8) then (some (.inr false)) else (bif ((of_ : Int) != known2.Epoch) then (some (.inr false)) else (bif (decide ((o.Now : Int) ≥ until_)) then (some (.inr false)) else (some (.inl (.s3 up asked of_ until_ seen (IntKind.i64.wrap (i + 1)) fence known hold begun filled index well b4 b5 fuse down b7 b8))))))))) else none)) else (some (.inl (.s3 up asked of_ until_ seen (IntKind.i64.wrap (i + 1)) fence known hold begun filled index well b4 b5 fuse down b7 b8)))))
noncomputable def law18_FenceLeased_step (c : Config) (l_ : List Op) : law18_FenceLeased_S → Option (law18_FenceLeased_S ⊕ Bool)
 | .s0 => law18_FenceLeased_0 c l_
 | .s1 up => law18_FenceLeased_1 c l_ up
 | .s2 up fence known hold begun filled index well b2 b3 fuse down b5 b6 => law18_FenceLeased_2 c l_ up fence known hold begun filled index well b2 b3 fuse down b5 b6
 | .s3 up asked of_ until_ seen i fence known hold begun filled index well b2 b3 fuse down b5 b6 => law18_FenceLeased_3 c l_ up asked of_ until_ seen i fence known hold begun filled index well b2 b3 fuse down b5 b6
 | .s7 up asked of_ until_ seen i n x_ t60 fence known hold begun filled index well o known2 b4 b5 fuse down b7 b8 => law18_FenceLeased_7 c l_ up asked of_ until_ seen i n x_ t60 fence known hold begun filled index well o known2 b4 b5 fuse down b7 b8
 | .s6 up until_ i n x_ t70 fence known hold begun filled index well o known2 b4 b5 fuse down b7 b8 => law18_FenceLeased_6 c l_ up until_ i n x_ t70 fence known hold begun filled index well o known2 b4 b5 fuse down b7 b8
 | .s5 up asked of_ until_ seen i n t140 fence known hold begun filled index well o known2 b4 b5 fuse down b7 b8 => law18_FenceLeased_5 c l_ up asked of_ until_ seen i n t140 fence known hold begun filled index well o known2 b4 b5 fuse down b7 b8
 | .s8 up until_ i n x_ fence known hold begun filled index well o known2 b4 b5 fuse down b7 b8 => law18_FenceLeased_8 c l_ up until_ i n x_ fence known hold begun filled index well o known2 b4 b5 fuse down b7 b8
 | .s4 up asked of_ until_ seen i n k b fence known hold begun filled index well o known2 b4 b5 fuse down b7 b8 => law18_FenceLeased_4 c l_ up asked of_ until_ seen i n k b fence known hold begun filled index well o known2 b4 b5 fuse down b7 b8
 | .s9 up asked of_ until_ seen i n fence known hold begun filled index well o known2 b4 b5 fuse down b7 b8 => law18_FenceLeased_9 c l_ up asked of_ until_ seen i n fence known hold begun filled index well o known2 b4 b5 fuse down b7 b8
theorem law18_FenceLeased_0_ok {c l_} : law18_FenceLeased_W c l_ .s0 (law18_FenceLeased_0 c l_) := by
 intro r x h ha; unfold law18_FenceLeased_0 at h
 refine zc 8 [] h (fun _ => law18_head_ok) fun y1 h => ?_
 refine zc 7 [] h (fun _ => fence_New_ok) fun y2 h => ?_
 cases y2 with
 | r0 =>
  dsimp only at h
  exact zk 2 h ha
 | r1 y2a0 y2a1 y2a2 y2a3 y2a4 y2a5 y2a6 y2a7 y2a8 y2a9 y2a10 y2a11 =>
  dsimp only at h
  exact zk 2 h ha
theorem law18_FenceLeased_1_ok {c l_ up} : law18_FenceLeased_W c l_ (.s1 up) (law18_FenceLeased_1 c l_ up) := by
 intro r x h ha; unfold law18_FenceLeased_1 at h
 exact zt 21 h ha
theorem law18_FenceLeased_2_ok {c l_ up fence known hold begun filled index well b2 b3 fuse down b5 b6} : law18_FenceLeased_W c l_ (.s2 up fence known hold begun filled index well b2 b3 fuse down b5 b6) (law18_FenceLeased_2 c l_ up fence known hold begun filled index well b2 b3 fuse down b5 b6) := by
 intro r x h ha; unfold law18_FenceLeased_2 at h
 refine zc 10 [] h (fun _ => law18_Great_ok) fun y1 h => ?_
 refine zs 4 h (fun h => ?_) fun h => ?_
 ·
  exact zt 6 h ha
 exact zj 25 h ha
theorem law18_FenceLeased_3_ok {c l_ up asked of_ until_ seen i fence known hold begun filled index well b2 b3 fuse down b5 b6} : law18_FenceLeased_W c l_ (.s3 up asked of_ until_ seen i fence known hold begun filled index well b2 b3 fuse down b5 b6) (law18_FenceLeased_3 c l_ up asked of_ until_ seen i fence known hold begun filled index well b2 b3 fuse down b5 b6) := by
 intro r x h ha; unfold law18_FenceLeased_3 at h
 refine zs 10 h (fun h => ?_) fun h => ?_
 ·
  refine zn 8 h fun h => ?_
  refine zr 1 Op.enc h fun y3 h => ?_
  refine adv_ok hm 9 _ ?_
  have ok5 := fun (y : List Entry) (hy : Target_Log fence known hold begun filled c index well b2 b3 fuse down b5 b6 = some y) => @Eq.mp (Sound E 16 [.ptr 0 0 0] [some ⟨54, true, [([.int .i64 fence] ++ Plan.encL known ([.int .i64 hold.Epoch, .int .i64 hold.Nonce, .int .u64 hold.Grants, .int .i64 hold.Until, (grD 1 (List.map Entry.enc b2)), (grD 2 (List.map (eSl 1 (eInt .i64)) b3)), .int .i64 begun, .int .i64 filled] ++ Config.encL c [.int .i64 index, .ptr 3 0 0, .bool well]))]⟩, some ⟨3, false, (List.map Entry.enc b2)⟩, some ⟨1, false, (List.map (eSl 1 (eInt .i64)) b3)⟩, some ⟨4, true, [[(grD 4 (List.map (eInt .u8) b5)), (grD 5 (List.map (eInt .u8) b6)), .int .i64 fuse, .bool down]]⟩, some ⟨1, false, (List.map (eInt .u8) b5)⟩, some ⟨1, false, (List.map (eInt .u8) b6)⟩] (Rs (Target_Log_e fence known hold begun filled c index well b2 b3 fuse down b5 b6) y)) (Sound E 16 [.ptr 0 0 0] [some ⟨54, true, [([.int .i64 fence] ++ Plan.encL known ([.int .i64 hold.Epoch, .int .i64 hold.Nonce, .int .u64 hold.Grants, .int .i64 hold.Until, (grD 1 (List.map Entry.enc b2)), (grD 2 (List.map (eSl 1 (eInt .i64)) b3)), .int .i64 begun, .int .i64 filled] ++ Config.encL c [.int .i64 index, .ptr 3 0 0, .bool well]))]⟩, some ⟨3, false, (List.map Entry.enc b2)⟩, some ⟨1, false, (List.map (eSl 1 (eInt .i64)) b3)⟩, some ⟨4, true, [[(grD 4 (List.map (eInt .u8) b5)), (grD 5 (List.map (eInt .u8) b6)), .int .i64 fuse, .bool down]]⟩, some ⟨1, false, (List.map (eInt .u8) b5)⟩, some ⟨1, false, (List.map (eInt .u8) b6)⟩] (Rs (Target_Log_e fence known hold begun filled c index well b2 b3 fuse down b5 b6) y)) (by kernel_rfl) (Target_Log_ok hy)
  refine zc 0 [] h ok5 fun y5 h => ?_
  refine adv_ok hm 7 _ ?_
  have ok6 := fun (y : Unit) (hy : Target_Known fence known hold begun filled c index well b2 b3 fuse down b5 b6 = some y) => @Eq.mp (Sound E 20 [.ptr 0 0 0] [some ⟨54, true, [([.int .i64 fence] ++ Plan.encL known ([.int .i64 hold.Epoch, .int .i64 hold.Nonce, .int .u64 hold.Grants, .int .i64 hold.Until, (grD 1 (List.map Entry.enc b2)), (grD 2 (List.map (eSl 1 (eInt .i64)) b3)), .int .i64 begun, .int .i64 filled] ++ Config.encL c [.int .i64 index, .ptr 3 0 0, .bool well]))]⟩, some ⟨3, false, (List.map Entry.enc b2)⟩, some ⟨1, false, (List.map (eSl 1 (eInt .i64)) b3)⟩, some ⟨4, true, [[(grD 4 (List.map (eInt .u8) b5)), (grD 5 (List.map (eInt .u8) b6)), .int .i64 fuse, .bool down]]⟩, some ⟨1, false, (List.map (eInt .u8) b5)⟩, some ⟨1, false, (List.map (eInt .u8) b6)⟩] (Rs (Target_Known_e fence known hold begun filled c index well b2 b3 fuse down b5 b6) y)) (Sound E 20 [.ptr 0 0 0] [some ⟨54, true, [([.int .i64 fence] ++ Plan.encL known ([.int .i64 hold.Epoch, .int .i64 hold.Nonce, .int .u64 hold.Grants, .int .i64 hold.Until, (grD 1 (List.map Entry.enc b2)), (grD 2 (List.map (eSl 1 (eInt .i64)) b3)), .int .i64 begun, .int .i64 filled] ++ Config.encL c [.int .i64 index, .ptr 3 0 0, .bool well]))]⟩, some ⟨3, false, (List.map Entry.enc b2)⟩, some ⟨1, false, (List.map (eSl 1 (eInt .i64)) b3)⟩, some ⟨4, true, [[(grD 4 (List.map (eInt .u8) b5)), (grD 5 (List.map (eInt .u8) b6)), .int .i64 fuse, .bool down]]⟩, some ⟨1, false, (List.map (eInt .u8) b5)⟩, some ⟨1, false, (List.map (eInt .u8) b6)⟩] (Rs (Target_Known_e fence known hold begun filled c index well b2 b3 fuse down b5 b6) y)) (by kernel_rfl) (Target_Known_ok hy)
  refine zc 0 [] h ok6 fun y6 h => ?_
  refine adv_ok hm 11 _ ?_
  have ok7 := fun (y : (List Msg) × Int × Plan × Hold × Int × Int × Bool × Int × Bool × (List Entry) × (List (List Int)) × (List Int) × (List Int)) (hy : law18_Fuzz y3 fence known hold begun filled c index well b2 b3 fuse down b5 b6 = some y) => @Eq.mp (Sound E 19 [.ptr 0 0 0, .agg (Op.enc y3)] [some ⟨54, true, [([.int .i64 fence] ++ Plan.encL known ([.int .i64 hold.Epoch, .int .i64 hold.Nonce, .int .u64 hold.Grants, .int .i64 hold.Until, (grD 1 (List.map Entry.enc b2)), (grD 2 (List.map (eSl 1 (eInt .i64)) b3)), .int .i64 begun, .int .i64 filled] ++ Config.encL c [.int .i64 index, .ptr 3 0 0, .bool well]))]⟩, some ⟨3, false, (List.map Entry.enc b2)⟩, some ⟨1, false, (List.map (eSl 1 (eInt .i64)) b3)⟩, some ⟨4, true, [[(grD 4 (List.map (eInt .u8) b5)), (grD 5 (List.map (eInt .u8) b6)), .int .i64 fuse, .bool down]]⟩, some ⟨1, false, (List.map (eInt .u8) b5)⟩, some ⟨1, false, (List.map (eInt .u8) b6)⟩] (Rs (law18_Fuzz_e c index) y)) (Sound E 19 [.ptr 0 0 0, .agg (Op.enc y3)] [some ⟨54, true, [([.int .i64 fence] ++ Plan.encL known ([.int .i64 hold.Epoch, .int .i64 hold.Nonce, .int .u64 hold.Grants, .int .i64 hold.Until, (grD 1 (List.map Entry.enc b2)), (grD 2 (List.map (eSl 1 (eInt .i64)) b3)), .int .i64 begun, .int .i64 filled] ++ Config.encL c [.int .i64 index, .ptr 3 0 0, .bool well]))]⟩, some ⟨3, false, (List.map Entry.enc b2)⟩, some ⟨1, false, (List.map (eSl 1 (eInt .i64)) b3)⟩, some ⟨4, true, [[(grD 4 (List.map (eInt .u8) b5)), (grD 5 (List.map (eInt .u8) b6)), .int .i64 fuse, .bool down]]⟩, some ⟨1, false, (List.map (eInt .u8) b5)⟩, some ⟨1, false, (List.map (eInt .u8) b6)⟩] (Rs (law18_Fuzz_e c index) y)) (by kernel_rfl) (law18_Fuzz_ok hy)
  refine zc 0 [] h ok7 fun y7 h => ?_
  refine zs 12 h (fun h => ?_) fun h => ?_
  ·
   exact zj 19 h ha
  refine zs 9 h (fun h => ?_) fun h => ?_
  ·
   refine zn 2 h fun h => ?_
   refine zr 4 Msg.enc h fun y11 h => ?_
   exact zk 5 h ha
  exact zk 11 h ha
 exact zt 7 h ha
theorem law18_FenceLeased_7_ok {c l_ up asked of_ until_ seen i n x_ t60 fence known hold begun filled index well o known2 b4 b5 fuse down b7 b8} : law18_FenceLeased_W c l_ (.s7 up asked of_ until_ seen i n x_ t60 fence known hold begun filled index well o known2 b4 b5 fuse down b7 b8) (law18_FenceLeased_7 c l_ up asked of_ until_ seen i n x_ t60 fence known hold begun filled index well o known2 b4 b5 fuse down b7 b8) := by
 intro r x h ha; unfold law18_FenceLeased_7 at h
 refine zs 1 h (fun h => ?_) fun h => ?_
 ·
  refine zn 6 h fun h => ?_
  refine zr 2 Msg.enc h fun y3 h => ?_
  refine zs 3 h (fun h => ?_) fun h => ?_
  ·
   exact zk 5 h ha
  exact zk 5 h ha
 refine zs 5 h (fun h => ?_) fun h => ?_
 ·
  refine zs 5 h (fun h => ?_) fun h => ?_
  ·
   refine zs 5 h (fun h => ?_) fun h => ?_
   ·
    refine zs 5 h (fun h => ?_) fun h => ?_
    ·
     refine zs 5 h (fun h => ?_) fun h => ?_
     ·
      refine zs 6 h (fun h => ?_) fun h => ?_
      ·
       refine zs 6 h (fun h => ?_) fun h => ?_
       ·
        refine zs 5 h (fun h => ?_) fun h => ?_
        ·
         refine zs 5 h (fun h => ?_) fun h => ?_
         ·
          refine zd 6 [] h (fun _ => api_Acceptors_ok) fun y15 h => ?_
          exact zk 2 h ha
         exact zk 6 h ha
        exact zk 11 h ha
       exact zk 16 h ha
      exact zk 22 h ha
     exact zk 28 h ha
    exact zk 33 h ha
   exact zk 38 h ha
  exact zk 43 h ha
 exact zk 48 h ha
theorem law18_FenceLeased_6_ok {c l_ up until_ i n x_ t70 fence known hold begun filled index well o known2 b4 b5 fuse down b7 b8} : law18_FenceLeased_W c l_ (.s6 up until_ i n x_ t70 fence known hold begun filled index well o known2 b4 b5 fuse down b7 b8) (law18_FenceLeased_6 c l_ up until_ i n x_ t70 fence known hold begun filled index well o known2 b4 b5 fuse down b7 b8) := by
 intro r x h ha; unfold law18_FenceLeased_6 at h
 refine zs 1 h (fun h => ?_) fun h => ?_
 ·
  exact zk 3 h ha
 exact zk 1 h ha
theorem law18_FenceLeased_5_ok {c l_ up asked of_ until_ seen i n t140 fence known hold begun filled index well o known2 b4 b5 fuse down b7 b8} : law18_FenceLeased_W c l_ (.s5 up asked of_ until_ seen i n t140 fence known hold begun filled index well o known2 b4 b5 fuse down b7 b8) (law18_FenceLeased_5 c l_ up asked of_ until_ seen i n t140 fence known hold begun filled index well o known2 b4 b5 fuse down b7 b8) := by
 intro r x h ha; unfold law18_FenceLeased_5 at h
 refine zs 1 h (fun h => ?_) fun h => ?_
 ·
  refine zn 8 h fun h => ?_
  exact zj 15 h ha
 exact zk 1 h ha
theorem law18_FenceLeased_8_ok {c l_ up until_ i n x_ fence known hold begun filled index well o known2 b4 b5 fuse down b7 b8} : law18_FenceLeased_W c l_ (.s8 up until_ i n x_ fence known hold begun filled index well o known2 b4 b5 fuse down b7 b8) (law18_FenceLeased_8 c l_ up until_ i n x_ fence known hold begun filled index well o known2 b4 b5 fuse down b7 b8) := by
 intro r x h ha; unfold law18_FenceLeased_8 at h
 refine zn 4 h fun h => ?_
 refine zr 2 Msg.enc h fun y2 h => ?_
 refine zn 6 h fun h => ?_
 refine zr 2 Msg.enc h fun y5 h => ?_
 refine zs 9 h (fun h => ?_) fun h => ?_
 ·
  refine zs 5 h (fun h => ?_) fun h => ?_
  ·
   refine zs 5 h (fun h => ?_) fun h => ?_
   ·
    refine zs 5 h (fun h => ?_) fun h => ?_
    ·
     refine zs 5 h (fun h => ?_) fun h => ?_
     ·
      refine zs 6 h (fun h => ?_) fun h => ?_
      ·
       refine zs 6 h (fun h => ?_) fun h => ?_
       ·
        refine zs 5 h (fun h => ?_) fun h => ?_
        ·
         refine zs 5 h (fun h => ?_) fun h => ?_
         ·
          refine zd 6 [] h (fun _ => api_Acceptors_ok) fun y16 h => ?_
          exact zk 2 h ha
         exact zk 6 h ha
        exact zk 11 h ha
       exact zk 16 h ha
      exact zk 22 h ha
     exact zk 28 h ha
    exact zk 33 h ha
   exact zk 38 h ha
  exact zk 43 h ha
 exact zk 48 h ha
theorem law18_FenceLeased_4_ok {c l_ up asked of_ until_ seen i n k b fence known hold begun filled index well o known2 b4 b5 fuse down b7 b8} : law18_FenceLeased_W c l_ (.s4 up asked of_ until_ seen i n k b fence known hold begun filled index well o known2 b4 b5 fuse down b7 b8) (law18_FenceLeased_4 c l_ up asked of_ until_ seen i n k b fence known hold begun filled index well o known2 b4 b5 fuse down b7 b8) := by
 intro r x h ha; unfold law18_FenceLeased_4 at h
 refine zc 8 [] h (fun _ => api_Acceptors_ok) fun y1 h => ?_
 refine zs 3 h (fun h => ?_) fun h => ?_
 ·
  refine zn 8 h fun h => ?_
  exact zj 12 h ha
 refine zs 10 h (fun h => ?_) fun h => ?_
 ·
  exact zk 10 h ha
 exact zk 1 h ha
theorem law18_FenceLeased_9_ok {c l_ up asked of_ until_ seen i n fence known hold begun filled index well o known2 b4 b5 fuse down b7 b8} : law18_FenceLeased_W c l_ (.s9 up asked of_ until_ seen i n fence known hold begun filled index well o known2 b4 b5 fuse down b7 b8) (law18_FenceLeased_9 c l_ up asked of_ until_ seen i n fence known hold begun filled index well o known2 b4 b5 fuse down b7 b8) := by
 intro r x h ha; unfold law18_FenceLeased_9 at h
 refine adv_ok hm 4 _ ?_
 have ok1 := fun (y : List Entry) (hy : Target_Log fence known hold begun filled c index well b4 b5 fuse down b7 b8 = some y) => @Eq.mp (Sound E 16 [.ptr 0 0 0] [some ⟨54, true, [([.int .i64 fence] ++ Plan.encL known ([.int .i64 hold.Epoch, .int .i64 hold.Nonce, .int .u64 hold.Grants, .int .i64 hold.Until, (grD 1 (List.map Entry.enc b4)), (grD 2 (List.map (eSl 1 (eInt .i64)) b5)), .int .i64 begun, .int .i64 filled] ++ Config.encL c [.int .i64 index, .ptr 3 0 0, .bool well]))]⟩, some ⟨3, false, (List.map Entry.enc b4)⟩, some ⟨1, false, (List.map (eSl 1 (eInt .i64)) b5)⟩, some ⟨4, true, [[(grD 4 (List.map (eInt .u8) b7)), (grD 5 (List.map (eInt .u8) b8)), .int .i64 fuse, .bool down]]⟩, some ⟨1, false, (List.map (eInt .u8) b7)⟩, some ⟨1, false, (List.map (eInt .u8) b8)⟩] (Rs (Target_Log_e fence known hold begun filled c index well b4 b5 fuse down b7 b8) y)) (Sound E 16 [.ptr 0 0 0] [some ⟨54, true, [([.int .i64 fence] ++ Plan.encL known ([.int .i64 hold.Epoch, .int .i64 hold.Nonce, .int .u64 hold.Grants, .int .i64 hold.Until, (grD 1 (List.map Entry.enc b4)), (grD 2 (List.map (eSl 1 (eInt .i64)) b5)), .int .i64 begun, .int .i64 filled] ++ Config.encL c [.int .i64 index, .ptr 3 0 0, .bool well]))]⟩, some ⟨3, false, (List.map Entry.enc b4)⟩, some ⟨1, false, (List.map (eSl 1 (eInt .i64)) b5)⟩, some ⟨4, true, [[(grD 4 (List.map (eInt .u8) b7)), (grD 5 (List.map (eInt .u8) b8)), .int .i64 fuse, .bool down]]⟩, some ⟨1, false, (List.map (eInt .u8) b7)⟩, some ⟨1, false, (List.map (eInt .u8) b8)⟩] (Rs (Target_Log_e fence known hold begun filled c index well b4 b5 fuse down b7 b8) y)) (by kernel_rfl) (Target_Log_ok hy)
 refine zc 0 [] h ok1 fun y1 h => ?_
 refine zs 4 h (fun h => ?_) fun h => ?_
 ·
  refine zs 5 h (fun h => ?_) fun h => ?_
  ·
   exact zt 37 h ha
  refine zn 2 h fun h => ?_
  refine zr 2 Entry.enc h fun y5 h => ?_
  refine zs 7 h (fun h => ?_) fun h => ?_
  ·
   exact zt 26 h ha
  refine zd 2 [] h (fun _ => ref04_Names_ok) fun y8 h => ?_
  refine zs 4 h (fun h => ?_) fun h => ?_
  ·
   exact zt 20 h ha
  refine zs 7 h (fun h => ?_) fun h => ?_
  ·
   exact zt 13 h ha
  refine zs 8 h (fun h => ?_) fun h => ?_
  ·
   exact zt 5 h ha
  exact zj 8 h ha
 exact zj 23 h ha
noncomputable def law18_FenceLeased (c : Config) (l_ : List Op) : Option Bool := evf (law18_FenceLeased_step c l_) (.s0)
theorem law18_FenceLeased_ok {c : Config} {l_ : List Op} {r : Bool} (h : law18_FenceLeased c l_ = some r) : Sound E 6 [.agg (Config.enc c), .sl false 29 (List.map Op.enc l_)] [] (Rs law18_FenceLeased_e r) := sc (fn := Tryd.f6) (k := false) (m := 0) (stM := (law18_FenceLeased_M c l_)) h fun s => by
 cases s with
 | s0 => exact law18_FenceLeased_0_ok
 | s1 => exact law18_FenceLeased_1_ok
 | s2 => exact law18_FenceLeased_2_ok
 | s3 => exact law18_FenceLeased_3_ok
 | s7 => exact law18_FenceLeased_7_ok
 | s6 => exact law18_FenceLeased_6_ok
 | s5 => exact law18_FenceLeased_5_ok
 | s8 => exact law18_FenceLeased_8_ok
 | s4 => exact law18_FenceLeased_4_ok
 | s9 => exact law18_FenceLeased_9_ok
end Go.RX.L

namespace Go.RX.L
open Go Go.RX Go.Proofs
theorem law18_FenceLeased_of_t3 {n : Nat} {ds : List D} (h : wtF Tryd.prog (n + 1) 3 ds) : ∃ x : Int, ds = (eInt .i64) x ∧ inK .i64 x := by
  obtain ⟨m, rfl, o⟩ := wt_int (k := .i64) (by kernel_rfl) h
  exact ⟨m, rfl, o⟩
theorem law18_FenceLeased_of_t22 {n : Nat} {ds : List D} (h : wtF Tryd.prog (n + 2) 22 ds) : ∃ x : List Int, ds = (eSl 1 (eInt .i64)) x ∧ (x.length * 8 ≤ reachBytes ∧ ∀ y ∈ x, inK .i64 y) := by
  obtain ⟨rows, rfl, o, w⟩ := wt_slice (n := n + 1) (e := 3) (sz := 1) (by_ := 8) (by kernel_rfl) (by kernel_rfl) (by kernel_rfl) h
  obtain ⟨l, rfl, q⟩ := wt_rows (en := (eInt .i64)) (Ok := fun y => inK .i64 y) (fun r hr => law18_FenceLeased_of_t3 (n := n + 0) hr) rows w
  exact ⟨l, rfl, by simpa using o, q⟩
theorem law18_FenceLeased_of_t2 {n : Nat} {ds : List D} (h : wtF Tryd.prog (n + 1) 2 ds) : ∃ x : Int, ds = (eInt .i64) x ∧ inK .i64 x := by
  obtain ⟨m, rfl, o⟩ := wt_int (k := .i64) (by kernel_rfl) h
  exact ⟨m, rfl, o⟩
theorem law18_FenceLeased_of_t24 {n : Nat} {ds : List D} (h : wtF Tryd.prog (n + 3) 24 ds) : ∃ x : Config, ds = Config.enc x ∧ x.Ok := by
  have h0 := wt_struct (n := n + 2) (ts := [3, 3, 3, 3, 3, 22, 2, 2, 3, 3, 2, 2, 2, 2, 2, 2, 3, 3, 3, 3, 2, 3, 3, 2, 2, 3, 2, 3, 3, 2]) (by kernel_rfl) h
  obtain ⟨a0, b0, rfl, w0, h1⟩ := wtL_cons h0
  obtain ⟨x0, rfl, o0⟩ := law18_FenceLeased_of_t3 (n := n + 1) w0
  obtain ⟨a1, b1, rfl, w1, h2⟩ := wtL_cons h1
  obtain ⟨x1, rfl, o1⟩ := law18_FenceLeased_of_t3 (n := n + 1) w1
  obtain ⟨a2, b2, rfl, w2, h3⟩ := wtL_cons h2
  obtain ⟨x2, rfl, o2⟩ := law18_FenceLeased_of_t3 (n := n + 1) w2
  obtain ⟨a3, b3, rfl, w3, h4⟩ := wtL_cons h3
  obtain ⟨x3, rfl, o3⟩ := law18_FenceLeased_of_t3 (n := n + 1) w3
  obtain ⟨a4, b4, rfl, w4, h5⟩ := wtL_cons h4
  obtain ⟨x4, rfl, o4⟩ := law18_FenceLeased_of_t3 (n := n + 1) w4
  obtain ⟨a5, b5, rfl, w5, h6⟩ := wtL_cons h5
  obtain ⟨x5, rfl, o5⟩ := law18_FenceLeased_of_t22 (n := n + 0) w5
  obtain ⟨a6, b6, rfl, w6, h7⟩ := wtL_cons h6
  obtain ⟨x6, rfl, o6⟩ := law18_FenceLeased_of_t2 (n := n + 1) w6
  obtain ⟨a7, b7, rfl, w7, h8⟩ := wtL_cons h7
  obtain ⟨x7, rfl, o7⟩ := law18_FenceLeased_of_t2 (n := n + 1) w7
  obtain ⟨a8, b8, rfl, w8, h9⟩ := wtL_cons h8
  obtain ⟨x8, rfl, o8⟩ := law18_FenceLeased_of_t3 (n := n + 1) w8
  obtain ⟨a9, b9, rfl, w9, h10⟩ := wtL_cons h9
  obtain ⟨x9, rfl, o9⟩ := law18_FenceLeased_of_t3 (n := n + 1) w9
  obtain ⟨a10, b10, rfl, w10, h11⟩ := wtL_cons h10
  obtain ⟨x10, rfl, o10⟩ := law18_FenceLeased_of_t2 (n := n + 1) w10
  obtain ⟨a11, b11, rfl, w11, h12⟩ := wtL_cons h11
  obtain ⟨x11, rfl, o11⟩ := law18_FenceLeased_of_t2 (n := n + 1) w11
  obtain ⟨a12, b12, rfl, w12, h13⟩ := wtL_cons h12
  obtain ⟨x12, rfl, o12⟩ := law18_FenceLeased_of_t2 (n := n + 1) w12
  obtain ⟨a13, b13, rfl, w13, h14⟩ := wtL_cons h13
  obtain ⟨x13, rfl, o13⟩ := law18_FenceLeased_of_t2 (n := n + 1) w13
  obtain ⟨a14, b14, rfl, w14, h15⟩ := wtL_cons h14
  obtain ⟨x14, rfl, o14⟩ := law18_FenceLeased_of_t2 (n := n + 1) w14
  obtain ⟨a15, b15, rfl, w15, h16⟩ := wtL_cons h15
  obtain ⟨x15, rfl, o15⟩ := law18_FenceLeased_of_t2 (n := n + 1) w15
  obtain ⟨a16, b16, rfl, w16, h17⟩ := wtL_cons h16
  obtain ⟨x16, rfl, o16⟩ := law18_FenceLeased_of_t3 (n := n + 1) w16
  obtain ⟨a17, b17, rfl, w17, h18⟩ := wtL_cons h17
  obtain ⟨x17, rfl, o17⟩ := law18_FenceLeased_of_t3 (n := n + 1) w17
  obtain ⟨a18, b18, rfl, w18, h19⟩ := wtL_cons h18
  obtain ⟨x18, rfl, o18⟩ := law18_FenceLeased_of_t3 (n := n + 1) w18
  obtain ⟨a19, b19, rfl, w19, h20⟩ := wtL_cons h19
  obtain ⟨x19, rfl, o19⟩ := law18_FenceLeased_of_t3 (n := n + 1) w19
  obtain ⟨a20, b20, rfl, w20, h21⟩ := wtL_cons h20
  obtain ⟨x20, rfl, o20⟩ := law18_FenceLeased_of_t2 (n := n + 1) w20
  obtain ⟨a21, b21, rfl, w21, h22⟩ := wtL_cons h21
  obtain ⟨x21, rfl, o21⟩ := law18_FenceLeased_of_t3 (n := n + 1) w21
  obtain ⟨a22, b22, rfl, w22, h23⟩ := wtL_cons h22
  obtain ⟨x22, rfl, o22⟩ := law18_FenceLeased_of_t3 (n := n + 1) w22
  obtain ⟨a23, b23, rfl, w23, h24⟩ := wtL_cons h23
  obtain ⟨x23, rfl, o23⟩ := law18_FenceLeased_of_t2 (n := n + 1) w23
  obtain ⟨a24, b24, rfl, w24, h25⟩ := wtL_cons h24
  obtain ⟨x24, rfl, o24⟩ := law18_FenceLeased_of_t2 (n := n + 1) w24
  obtain ⟨a25, b25, rfl, w25, h26⟩ := wtL_cons h25
  obtain ⟨x25, rfl, o25⟩ := law18_FenceLeased_of_t3 (n := n + 1) w25
  obtain ⟨a26, b26, rfl, w26, h27⟩ := wtL_cons h26
  obtain ⟨x26, rfl, o26⟩ := law18_FenceLeased_of_t2 (n := n + 1) w26
  obtain ⟨a27, b27, rfl, w27, h28⟩ := wtL_cons h27
  obtain ⟨x27, rfl, o27⟩ := law18_FenceLeased_of_t3 (n := n + 1) w27
  obtain ⟨a28, b28, rfl, w28, h29⟩ := wtL_cons h28
  obtain ⟨x28, rfl, o28⟩ := law18_FenceLeased_of_t3 (n := n + 1) w28
  obtain ⟨a29, b29, rfl, w29, h30⟩ := wtL_cons h29
  obtain ⟨x29, rfl, o29⟩ := law18_FenceLeased_of_t2 (n := n + 1) w29
  obtain rfl := wtL_nil h30
  exact ⟨⟨x0, x1, x2, x3, x4, x5, x6, x7, x8, x9, x10, x11, x12, x13, x14, x15, x16, x17, x18, x19, x20, x21, x22, x23, x24, x25, x26, x27, x28, x29⟩, rfl, o0, o1, o2, o3, o4, o5, o6, o7, o8, o9, o10, o11, o12, o13, o14, o15, o16, o17, o18, o19, o20, o21, o22, o23, o24, o25, o26, o27, o28, o29⟩
theorem law18_FenceLeased_of_t32 {n : Nat} {ds : List D} (h : wtF Tryd.prog (n + 1) 32 ds) : ∃ x : Int, ds = (eInt .i64) x ∧ inK .i64 x := by
  obtain ⟨m, rfl, o⟩ := wt_int (k := .i64) (by kernel_rfl) h
  exact ⟨m, rfl, o⟩
theorem law18_FenceLeased_of_t33 {n : Nat} {ds : List D} (h : wtF Tryd.prog (n + 1) 33 ds) : ∃ x : Int, ds = (eInt .u64) x ∧ inK .u64 x := by
  obtain ⟨m, rfl, o⟩ := wt_int (k := .u64) (by kernel_rfl) h
  exact ⟨m, rfl, o⟩
theorem law18_FenceLeased_of_t4 {n : Nat} {ds : List D} (h : wtF Tryd.prog (n + 1) 4 ds) : ∃ x : Bool, ds = eBool x ∧ True := by
  obtain ⟨m, rfl⟩ := wt_bool (by kernel_rfl) h
  exact ⟨m, rfl, trivial⟩
theorem law18_FenceLeased_of_t34 {n : Nat} {ds : List D} (h : wtF Tryd.prog (n + 2) 34 ds) : ∃ x : List Int, ds = (eSl 1 (eInt .i64)) x ∧ (x.length * 8 ≤ reachBytes ∧ ∀ y ∈ x, inK .i64 y) := by
  obtain ⟨rows, rfl, o, w⟩ := wt_slice (n := n + 1) (e := 2) (sz := 1) (by_ := 8) (by kernel_rfl) (by kernel_rfl) (by kernel_rfl) h
  obtain ⟨l, rfl, q⟩ := wt_rows (en := (eInt .i64)) (Ok := fun y => inK .i64 y) (fun r hr => law18_FenceLeased_of_t2 (n := n + 0) hr) rows w
  exact ⟨l, rfl, by simpa using o, q⟩
theorem law18_FenceLeased_of_t36 {n : Nat} {ds : List D} (h : wtF Tryd.prog (n + 3) 36 ds) : ∃ x : Plan, ds = Plan.enc x ∧ x.Ok := by
  have h0 := wt_struct (n := n + 2) (ts := [2, 3, 3, 3, 3, 2, 2, 2, 33, 33, 22, 34]) (by kernel_rfl) h
  obtain ⟨a0, b0, rfl, w0, h1⟩ := wtL_cons h0
  obtain ⟨x0, rfl, o0⟩ := law18_FenceLeased_of_t2 (n := n + 1) w0
  obtain ⟨a1, b1, rfl, w1, h2⟩ := wtL_cons h1
  obtain ⟨x1, rfl, o1⟩ := law18_FenceLeased_of_t3 (n := n + 1) w1
  obtain ⟨a2, b2, rfl, w2, h3⟩ := wtL_cons h2
  obtain ⟨x2, rfl, o2⟩ := law18_FenceLeased_of_t3 (n := n + 1) w2
  obtain ⟨a3, b3, rfl, w3, h4⟩ := wtL_cons h3
  obtain ⟨x3, rfl, o3⟩ := law18_FenceLeased_of_t3 (n := n + 1) w3
  obtain ⟨a4, b4, rfl, w4, h5⟩ := wtL_cons h4
  obtain ⟨x4, rfl, o4⟩ := law18_FenceLeased_of_t3 (n := n + 1) w4
  obtain ⟨a5, b5, rfl, w5, h6⟩ := wtL_cons h5
  obtain ⟨x5, rfl, o5⟩ := law18_FenceLeased_of_t2 (n := n + 1) w5
  obtain ⟨a6, b6, rfl, w6, h7⟩ := wtL_cons h6
  obtain ⟨x6, rfl, o6⟩ := law18_FenceLeased_of_t2 (n := n + 1) w6
  obtain ⟨a7, b7, rfl, w7, h8⟩ := wtL_cons h7
  obtain ⟨x7, rfl, o7⟩ := law18_FenceLeased_of_t2 (n := n + 1) w7
  obtain ⟨a8, b8, rfl, w8, h9⟩ := wtL_cons h8
  obtain ⟨x8, rfl, o8⟩ := law18_FenceLeased_of_t33 (n := n + 1) w8
  obtain ⟨a9, b9, rfl, w9, h10⟩ := wtL_cons h9
  obtain ⟨x9, rfl, o9⟩ := law18_FenceLeased_of_t33 (n := n + 1) w9
  obtain ⟨a10, b10, rfl, w10, h11⟩ := wtL_cons h10
  obtain ⟨x10, rfl, o10⟩ := law18_FenceLeased_of_t22 (n := n + 0) w10
  obtain ⟨a11, b11, rfl, w11, h12⟩ := wtL_cons h11
  obtain ⟨x11, rfl, o11⟩ := law18_FenceLeased_of_t34 (n := n + 0) w11
  obtain rfl := wtL_nil h12
  exact ⟨⟨x0, x1, x2, x3, x4, x5, x6, x7, x8, x9, x10, x11⟩, rfl, o0, o1, o2, o3, o4, o5, o6, o7, o8, o9, o10, o11⟩
theorem law18_FenceLeased_of_t5 {n : Nat} {ds : List D} (h : wtF Tryd.prog (n + 1) 5 ds) : ∃ x : Int, ds = (eInt .u8) x ∧ inK .u8 x := by
  obtain ⟨m, rfl, o⟩ := wt_int (k := .u8) (by kernel_rfl) h
  exact ⟨m, rfl, o⟩
theorem law18_FenceLeased_of_t37 {n : Nat} {ds : List D} (h : wtF Tryd.prog (n + 2) 37 ds) : ∃ x : List Int, ds = (eSl 1 (eInt .u8)) x ∧ (x.length * 1 ≤ reachBytes ∧ ∀ y ∈ x, inK .u8 y) := by
  obtain ⟨rows, rfl, o, w⟩ := wt_slice (n := n + 1) (e := 5) (sz := 1) (by_ := 1) (by kernel_rfl) (by kernel_rfl) (by kernel_rfl) h
  obtain ⟨l, rfl, q⟩ := wt_rows (en := (eInt .u8)) (Ok := fun y => inK .u8 y) (fun r hr => law18_FenceLeased_of_t5 (n := n + 0) hr) rows w
  exact ⟨l, rfl, by simpa using o, q⟩
theorem law18_FenceLeased_of_t39 {n : Nat} {ds : List D} (h : wtF Tryd.prog (n + 4) 39 ds) : ∃ x : Msg, ds = Msg.enc x ∧ x.Ok := by
  have h0 := wt_struct (n := n + 3) (ts := [32, 3, 3, 2, 2, 2, 2, 2, 33, 3, 4, 36, 34, 37, 37]) (by kernel_rfl) h
  obtain ⟨a0, b0, rfl, w0, h1⟩ := wtL_cons h0
  obtain ⟨x0, rfl, o0⟩ := law18_FenceLeased_of_t32 (n := n + 2) w0
  obtain ⟨a1, b1, rfl, w1, h2⟩ := wtL_cons h1
  obtain ⟨x1, rfl, o1⟩ := law18_FenceLeased_of_t3 (n := n + 2) w1
  obtain ⟨a2, b2, rfl, w2, h3⟩ := wtL_cons h2
  obtain ⟨x2, rfl, o2⟩ := law18_FenceLeased_of_t3 (n := n + 2) w2
  obtain ⟨a3, b3, rfl, w3, h4⟩ := wtL_cons h3
  obtain ⟨x3, rfl, o3⟩ := law18_FenceLeased_of_t2 (n := n + 2) w3
  obtain ⟨a4, b4, rfl, w4, h5⟩ := wtL_cons h4
  obtain ⟨x4, rfl, o4⟩ := law18_FenceLeased_of_t2 (n := n + 2) w4
  obtain ⟨a5, b5, rfl, w5, h6⟩ := wtL_cons h5
  obtain ⟨x5, rfl, o5⟩ := law18_FenceLeased_of_t2 (n := n + 2) w5
  obtain ⟨a6, b6, rfl, w6, h7⟩ := wtL_cons h6
  obtain ⟨x6, rfl, o6⟩ := law18_FenceLeased_of_t2 (n := n + 2) w6
  obtain ⟨a7, b7, rfl, w7, h8⟩ := wtL_cons h7
  obtain ⟨x7, rfl, o7⟩ := law18_FenceLeased_of_t2 (n := n + 2) w7
  obtain ⟨a8, b8, rfl, w8, h9⟩ := wtL_cons h8
  obtain ⟨x8, rfl, o8⟩ := law18_FenceLeased_of_t33 (n := n + 2) w8
  obtain ⟨a9, b9, rfl, w9, h10⟩ := wtL_cons h9
  obtain ⟨x9, rfl, o9⟩ := law18_FenceLeased_of_t3 (n := n + 2) w9
  obtain ⟨a10, b10, rfl, w10, h11⟩ := wtL_cons h10
  obtain ⟨x10, rfl, o10⟩ := law18_FenceLeased_of_t4 (n := n + 2) w10
  obtain ⟨a11, b11, rfl, w11, h12⟩ := wtL_cons h11
  obtain ⟨x11, rfl, o11⟩ := law18_FenceLeased_of_t36 (n := n + 0) w11
  obtain ⟨a12, b12, rfl, w12, h13⟩ := wtL_cons h12
  obtain ⟨x12, rfl, o12⟩ := law18_FenceLeased_of_t34 (n := n + 1) w12
  obtain ⟨a13, b13, rfl, w13, h14⟩ := wtL_cons h13
  obtain ⟨x13, rfl, o13⟩ := law18_FenceLeased_of_t37 (n := n + 1) w13
  obtain ⟨a14, b14, rfl, w14, h15⟩ := wtL_cons h14
  obtain ⟨x14, rfl, o14⟩ := law18_FenceLeased_of_t37 (n := n + 1) w14
  obtain rfl := wtL_nil h15
  exact ⟨⟨x0, x1, x2, x3, x4, x5, x6, x7, x8, x9, x10, x11, x12, x13, x14⟩, rfl, o0, o1, o2, o3, o4, o5, o6, o7, o8, o9, o10, o11, o12, o13, o14⟩
theorem law18_FenceLeased_of_t57 {n : Nat} {ds : List D} (h : wtF Tryd.prog (n + 5) 57 ds) : ∃ x : Op, ds = Op.enc x ∧ x.Ok := by
  have h0 := wt_struct (n := n + 4) (ts := [3, 39, 2, 3]) (by kernel_rfl) h
  obtain ⟨a0, b0, rfl, w0, h1⟩ := wtL_cons h0
  obtain ⟨x0, rfl, o0⟩ := law18_FenceLeased_of_t3 (n := n + 3) w0
  obtain ⟨a1, b1, rfl, w1, h2⟩ := wtL_cons h1
  obtain ⟨x1, rfl, o1⟩ := law18_FenceLeased_of_t39 (n := n + 0) w1
  obtain ⟨a2, b2, rfl, w2, h3⟩ := wtL_cons h2
  obtain ⟨x2, rfl, o2⟩ := law18_FenceLeased_of_t2 (n := n + 3) w2
  obtain ⟨a3, b3, rfl, w3, h4⟩ := wtL_cons h3
  obtain ⟨x3, rfl, o3⟩ := law18_FenceLeased_of_t3 (n := n + 3) w3
  obtain rfl := wtL_nil h4
  exact ⟨⟨x0, x1, x2, x3⟩, rfl, o0, o1, o2, o3⟩
theorem law18_FenceLeased_of_t53 {n : Nat} {ds : List D} (h : wtF Tryd.prog (n + 6) 53 ds) : ∃ x : List Op, ds = (eSl 29 Op.enc) x ∧ (x.length * 312 ≤ reachBytes ∧ ∀ y ∈ x, y.Ok) := by
  obtain ⟨rows, rfl, o, w⟩ := wt_slice (n := n + 5) (e := 57) (sz := 29) (by_ := 312) (by kernel_rfl) (by kernel_rfl) (by kernel_rfl) h
  obtain ⟨l, rfl, q⟩ := wt_rows (en := Op.enc) (Ok := fun y => y.Ok) (fun r hr => law18_FenceLeased_of_t57 (n := n + 0) hr) rows w
  exact ⟨l, rfl, by simpa using o, q⟩
theorem law18_FenceLeased_sound (H : ∀ (c : Config) (l_ : List Op), c.Ok → (l_.length * 312 ≤ reachBytes ∧ ∀ y ∈ l_, y.Ok) → law18_FenceLeased c l_ = some true) : ∀ xs, wtA Tryd.prog Tryd.f6.params.toList xs → Sound E 6 xs [] fun d _ => d = .bool true := by
  intro xs h
  have h0 : wtA Tryd.prog [24, 53] xs := h
  obtain ⟨d0, r0, rfl, w0, h1⟩ := wtA_cons h0
  obtain ⟨c0, rfl, v0⟩ := wtP_agg (by kernel_rfl) w0
  obtain ⟨x0, rfl, o0⟩ := law18_FenceLeased_of_t24 (n := 3) v0
  obtain ⟨d1, r1, rfl, w1, h2⟩ := wtA_cons h1
  have v1 := wtP_flat (by kernel_rfl) w1
  obtain ⟨x1, e1, o1⟩ := law18_FenceLeased_of_t53 (n := 0) v1
  obtain ⟨rfl, -⟩ := List.cons.inj e1
  obtain rfl := wtA_nil h2
  exact (law18_FenceLeased_ok (H x0 x1 o0 o1)).mono fun d s h => h.1
end Go.RX.L

namespace Go.RX.L
open Go Go.RX
theorem wS1T {i : Nat} (h : i ≤ 200000) : IntKind.i64.wrap ((i : Int) + 1) = ((i + 1 : Nat) : Int) := by rw [wI64 (by omega) (by omega)]; norm_cast
theorem nltT {l : List Op} {i : Nat} (h : l.length ≤ i) : decide ((i : Int) < (((List.map Op.enc l).length : Nat) : Int)) = false := by simp; omega
theorem greatT {l : List Op} (h : l.length ≤ 150) : law18_Great l = some false := by
  have : decide ((l.length : Int) > 150) = false := by simp; omega
  simp only [law18_Great, List.length_map, this]
theorem greatF {l : List Op} (h : ¬ l.length ≤ 150) : law18_Great l = some true := by
  have : decide ((l.length : Int) > 150) = true := by simp; omega
  simp only [law18_Great, List.length_map, this]
theorem rnames_ok (p : Plan) (t : Int) : ref04_Names p t = some (namesP p t) := by
  have hb : ∀ x y : Int, (x == y) = decide (x = y) := fun x y => by by_cases h : x = y <;> simp [h]
  have h0 : decide (t < 0) = !decide (0 ≤ t) := by by_cases h : 0 ≤ t <;> simp [h] <;> omega
  unfold ref04_Names namesP
  simp only [hb, h0]
  cases decide (0 ≤ t) <;> cases decide (t = p.Target) <;> cases decide (t = p.Prev) <;> cases decide (p.Percent < 100) <;> cases decide (t = p.Spill) <;> rfl
def cond (c : Config) (o : Op) (asked of_ : Int) : Prop := andI .i64 o.What 7 ≠ 1 ∧ andI .i64 o.What 7 ≠ 2 ∧ andI .i64 o.What 7 ≠ 4 ∧ andI .i64 o.What 7 ≠ 5 ∧ o.M_.Kind = 11 ∧ o.M_.Epoch = of_ ∧ o.M_.Nonce = asked ∧ o.M_.Code = 1 ∧ 0 ≤ o.M_.From ∧ o.M_.From < 2 * c.F_ + 1
theorem fenceLeased (c : Config) (l_ : List Op) (hc : c.Ok) (hl : l_.length * 312 ≤ reachBytes ∧ ∀ y ∈ l_, y.Ok) : law18_FenceLeased c l_ = some true := by
  have ht : c.Tiers.length < 9223372036854775807 := by
    obtain ⟨-, -, -, -, -, ⟨h1, -⟩, -⟩ := hc
    exact short h1
  have hnew := new_ok (c := c) (index := 0) ht
  by_cases hr : ¬ rightC c = true
  · rw [if_neg (fun h => hr h.1)] at hnew
    exact evf_of (.next (s' := .s1 true) (by simp only [law18_FenceLeased_step, law18_FenceLeased_0, head18_ok, hnew, Option.bind_some]) (.done rfl))
  rw [Classical.not_not] at hr
  obtain ⟨⟨g1, g2⟩, ⟨g3, g4⟩, ⟨g5, g6⟩⟩ := rightC_n hr
  obtain ⟨-, ⟨l1, l2⟩, -⟩ := rightC_b hr
  rw [if_pos ⟨hr, by decide, by omega⟩] at hnew
  refine evf_of (.next (s' := .s2 true (aT c).x.f (aT c).z.known (aT c).z.hold (aT c).z.begun (aT c).z.filled 0 (aT c).well (aT c).x.l (aT c).x.cl (-1) (aT c).down [] []) (by simp only [law18_FenceLeased_step, law18_FenceLeased_0, head18_ok, hnew, Option.bind_some, aT]) ?_)
  by_cases hg : ¬ l_.length ≤ 150
  · exact .done (by simp only [law18_FenceLeased_step, law18_FenceLeased_2, greatF hg, Option.bind_some, cond_true])
  rw [Classical.not_not] at hg
  have hac : api_Acceptors c = some (2 * c.F_ + 1) := by
    simp only [api_Acceptors]
    rw [wI64 (n := 2 * c.F_) (by omega) (by omega), wI64 (by omega) (by omega)]
  refine .next (s' := .s3 true (-1) 0 0 ((0 : Nat) : Int) ((0 : Nat) : Int) (aT c).x.f (aT c).z.known (aT c).z.hold (aT c).z.begun (aT c).z.filled 0 (aT c).well (aT c).x.l (aT c).x.cl (-1) (aT c).down [] []) (by simp only [law18_FenceLeased_step, law18_FenceLeased_2, greatT hg, Option.bind_some, cond_false]; rfl) ?_
  have loop : ∀ (j i : Nat) (a : TS) (fuse : Int) (s t : List Int) (asked of_ until_ : Int) (seen : Nat), i + j = l_.length → RepT a fuse s t i → LI c a.z.hold asked of_ until_ seen → namedOk a.z.known → Ev (law18_FenceLeased_step c l_) (.s3 true asked of_ until_ (seen : Int) (i : Int) a.x.f a.z.known a.z.hold a.z.begun a.z.filled 0 a.well a.x.l a.x.cl fuse a.down s t) true := by
    intro j
    induction j with
    | zero =>
      intro i a fuse s t asked of_ until_ seen hi h hx hnm
      exact .done (by simp only [law18_FenceLeased_step, law18_FenceLeased_3, nltT (show l_.length ≤ i by omega), cond_false])
    | succ j ih =>
      intro i a fuse s t asked of_ until_ seen hi h hx hnm
      have hlt : i < l_.length := by omega
      have w := wS1T (show i ≤ 200000 by omega)
      obtain ⟨out, a', fuse', s', t', he, hrep, hst⟩ := fuzz_ok (index := 0) h (hl.2 _ (List.getElem_mem hlt)) hr ht (by decide) (by omega)
      have lg1 := logT_ok (c := c) (index := 0) (l := a.x.l) (fuse := fuse) (s := s) (t := t) (by have := h.ml; omega) h.km.len h.km.pay (f := a.x.f) (known := a.z.known) (hold := a.z.hold) (begun := a.z.begun) (filled := a.z.filled) (w := a.well) (cl := a.x.cl) (d := a.down)
      have lg2 := logT_ok (c := c) (index := 0) (l := a'.x.l) (fuse := fuse') (s := s') (t := t') (by have := hrep.ml; omega) hrep.km.len hrep.km.pay (f := a'.x.f) (known := a'.z.known) (hold := a'.z.hold) (begun := a'.z.begun) (filled := a'.z.filled) (w := a'.well) (cl := a'.x.cl) (d := a'.down)
      have ml := hrep.ml
      have rest : ∀ asked of_ until_ seen, LI c a'.z.hold asked of_ until_ seen → namedOk a'.z.known → Ev (law18_FenceLeased_step c l_) (.s3 true asked of_ until_ (seen : Int) ((i + 1 : Nat) : Int) a'.x.f a'.z.known a'.z.hold a'.z.begun a'.z.filled 0 a'.well a'.x.l a'.x.cl fuse' a'.down s' t') true := fun asked of_ until_ seen h1 h2 => ih (i + 1) a' fuse' s' t' asked of_ until_ seen (by omega) hrep h1 h2
      by_cases h3 : andI .i64 (l_[i]).What 7 = 3
      · refine .next (s' := .s3 true (-1) of_ 0 ((0 : Nat) : Int) ((i + 1 : Nat) : Int) a'.x.f a'.z.known a'.z.hold a'.z.begun a'.z.filled 0 a'.well a'.x.l a'.x.cl fuse' a'.down s' t') (by simp only [law18_FenceLeased_step, law18_FenceLeased_3, List.length_map, ltB hlt, cond_true, le0, Bool.and_self, Int.toNat_natCast, List.getE hlt, Option.bind_some, lg1, Target_Known, he, beq_iff_eq.2 h3, w]; rfl) (rest _ _ _ _ ?_ ?_)
        · cases hst with
          | back h hs => cases hs with
            | up => exact ⟨by decide, inU64.2 (by simp), .inl ⟨by decide, rfl⟩⟩
            | fail => exact ⟨by decide, inU64.2 (by simp), .inl ⟨by decide, rfl⟩⟩
          | fuse h => omega
          | crash h => omega
          | tick h => omega
          | flip w h => omega
          | msg _ _ h => exact absurd h3 h
        · cases hst with
          | back h hs => cases hs with
            | up => exact named0 c
            | fail => exact named0 c
          | fuse h => omega
          | crash h => omega
          | tick h => omega
          | flip w h => omega
          | msg _ _ h => exact absurd h3 h
      obtain ⟨ls, hnm'⟩ := step_l hnm h3 hst
      -- the log, told last
      have s9 : ∀ asked of_ until_ seen, LI c a'.z.hold asked of_ until_ seen → (a'.x.l = a.x.l ∨ ∃ e : Entry, a'.x.l = a.x.l ++ [e] ∧ e.Epoch = a.z.known.Epoch ∧ namesP a.z.known 0 = true ∧ of_ = a.z.known.Epoch ∧ (l_[i]).Now < until_) → Ev (law18_FenceLeased_step c l_) (.s9 true asked of_ until_ (seen : Int) (i : Int) (a.x.l.length : Int) a'.x.f a'.z.known a'.z.hold a'.z.begun a'.z.filled 0 a'.well (l_[i]) a.z.known a'.x.l a'.x.cl fuse' a'.down s' t') true := by
        intro asked of_ until_ seen h1 h2
        refine .next (s' := .s3 true asked of_ until_ (seen : Int) ((i + 1 : Nat) : Int) a'.x.f a'.z.known a'.z.hold a'.z.begun a'.z.filled 0 a'.well a'.x.l a'.x.cl fuse' a'.down s' t') ?_ (rest _ _ _ _ h1 hnm')
        rcases h2 with e | ⟨e, e1, e2, e3, e4, e5⟩
        · have g : decide ((a'.x.l.length : Int) > (a.x.l.length : Int)) = false := by rw [e]; simp
          simp only [law18_FenceLeased_step, law18_FenceLeased_9, lg2, Option.bind_some, List.length_map, g, cond_false, w]
        · have hlen : a'.x.l.length = a.x.l.length + 1 := by rw [e1]; simp
          have g : decide ((a'.x.l.length : Int) > (a.x.l.length : Int)) = true := by simp; omega
          have wn := wS1T (show a.x.l.length ≤ 200000 by omega)
          have g2 : (((a'.x.l.length : Nat) : Int) != ((a.x.l.length + 1 : Nat) : Int)) = false := by rw [hlen]; simp
          have hk : a.x.l.length < a'.x.l.length := by omega
          have ge : a'.x.l[a.x.l.length]'hk = e := by simp [e1]
          have g3 : ((a.z.known.Epoch : Int) != a.z.known.Epoch) = false := by simp
          have g4 : decide ((l_[i]).Now ≥ until_) = false := by simp; omega
          simp only [law18_FenceLeased_step, law18_FenceLeased_9, lg2, Option.bind_some, List.length_map, g, cond_true, cond_false, wn, g2, ltB hk, le0, Bool.and_self, Int.toNat_natCast, List.getE hk, ge, e2, g3, rnames_ok, e3, Bool.not_true, e4, g4, w]
      have to9 : ∀ asked of_ until_ (seen : Nat), Ev (law18_FenceLeased_step c l_) (.s9 true asked of_ until_ (seen : Int) (i : Int) (a.x.l.length : Int) a'.x.f a'.z.known a'.z.hold a'.z.begun a'.z.filled 0 a'.well (l_[i]) a.z.known a'.x.l a'.x.cl fuse' a'.down s' t') true → Ev (law18_FenceLeased_step c l_) (.s5 true asked of_ until_ (seen : Int) (i : Int) (a.x.l.length : Int) false a'.x.f a'.z.known a'.z.hold a'.z.begun a'.z.filled 0 a'.well (l_[i]) a.z.known a'.x.l a'.x.cl fuse' a'.down s' t') true := fun asked of_ until_ seen hE =>
        .next (s' := .s9 true asked of_ until_ (seen : Int) (i : Int) (a.x.l.length : Int) a'.x.f a'.z.known a'.z.hold a'.z.begun a'.z.filled 0 a'.well (l_[i]) a.z.known a'.x.l a'.x.cl fuse' a'.down s' t') (by simp only [law18_FenceLeased_step, law18_FenceLeased_5, cond_false]) hE
      have to7 : (∀ y ∈ out, y.Kind ≠ 10) → Ev (law18_FenceLeased_step c l_) (.s7 true asked of_ until_ (seen : Int) (i : Int) (a.x.l.length : Int) out false a'.x.f a'.z.known a'.z.hold a'.z.begun a'.z.filled 0 a'.well (l_[i]) a.z.known a'.x.l a'.x.cl fuse' a'.down s' t') true → Ev (law18_FenceLeased_step c l_) (.s3 true asked of_ until_ (seen : Int) (i : Int) a.x.f a.z.known a.z.hold a.z.begun a.z.filled 0 a.well a.x.l a.x.cl fuse a.down s t) true := fun h1 hE => by
        refine .next (s' := .s7 true asked of_ until_ (seen : Int) (i : Int) (a.x.l.length : Int) out false a'.x.f a'.z.known a'.z.hold a'.z.begun a'.z.filled 0 a'.well (l_[i]) a.z.known a'.x.l a'.x.cl fuse' a'.down s' t') ?_ hE
        cases out with
        | nil => simp only [law18_FenceLeased_step, law18_FenceLeased_3, List.length_map, ltB hlt, cond_true, cond_false, le0, Bool.and_self, Int.toNat_natCast, List.getE hlt, Option.bind_some, lg1, Target_Known, he, beqF h3, List.length_nil, show decide (((0 : Nat) : Int) > 0) = false from rfl]
        | cons y r =>
          have k10 := h1 y (by simp)
          have e1 : decide ((((y :: r).length : Nat) : Int) > 0) = true := by simp
          have e2 : decide ((0 : Int) < (((y :: r).length : Nat) : Int)) = true := by simp
          simp only [law18_FenceLeased_step, law18_FenceLeased_3, List.length_map, ltB hlt, cond_true, cond_false, le0, Bool.and_self, Int.toNat_natCast, List.getE hlt, Option.bind_some, lg1, Target_Known, he, beqF h3, e1, e2, List.getElem?_cons_zero, beqF k10]
      have neg7 : ¬ cond c (l_[i]) asked of_ → Ev (law18_FenceLeased_step c l_) (.s9 true asked of_ until_ (seen : Int) (i : Int) (a.x.l.length : Int) a'.x.f a'.z.known a'.z.hold a'.z.begun a'.z.filled 0 a'.well (l_[i]) a.z.known a'.x.l a'.x.cl fuse' a'.down s' t') true → Ev (law18_FenceLeased_step c l_) (.s7 true asked of_ until_ (seen : Int) (i : Int) (a.x.l.length : Int) out false a'.x.f a'.z.known a'.z.hold a'.z.begun a'.z.filled 0 a'.well (l_[i]) a.z.known a'.x.l a'.x.cl fuse' a'.down s' t') true := fun hC hE => by
        refine .next (s' := .s5 true asked of_ until_ (seen : Int) (i : Int) (a.x.l.length : Int) false a'.x.f a'.z.known a'.z.hold a'.z.begun a'.z.filled 0 a'.well (l_[i]) a.z.known a'.x.l a'.x.cl fuse' a'.down s' t') ?_ (to9 _ _ _ _ hE)
        simp only [law18_FenceLeased_step, law18_FenceLeased_7, cond_false]
        by_cases c1 : andI .i64 (l_[i]).What 7 = 1
        · simp only [c1, bne_self_eq_false, cond_false]
        by_cases c2 : andI .i64 (l_[i]).What 7 = 2
        · simp only [bneT c1, cond_true, c2, bne_self_eq_false, cond_false]; rfl
        by_cases c4 : andI .i64 (l_[i]).What 7 = 4
        · simp only [bneT c1, bneT c2, cond_true, c4, bne_self_eq_false, cond_false]; rfl
        by_cases c5 : andI .i64 (l_[i]).What 7 = 5
        · simp only [bneT c1, bneT c2, bneT c4, cond_true, c5, bne_self_eq_false, cond_false]; rfl
        by_cases k1 : (l_[i]).M_.Kind = 11
        · by_cases k2 : (l_[i]).M_.Epoch = of_
          · by_cases k3 : (l_[i]).M_.Nonce = asked
            · by_cases k4 : (l_[i]).M_.Code = 1
              · by_cases k5 : (l_[i]).M_.From ≥ 0
                · have k6 : ¬ (l_[i]).M_.From < 2 * c.F_ + 1 := fun h => hC ⟨c1, c2, c4, c5, k1, k2, k3, k4, k5, h⟩
                  simp only [bneT c1, bneT c2, bneT c4, bneT c5, cond_true, beq_iff_eq.2 k1, beq_iff_eq.2 k2, beq_iff_eq.2 k3, beq_iff_eq.2 k4, decide_eq_true k5, hac, Option.bind_some, decide_eq_false k6]
                · simp only [bneT c1, bneT c2, bneT c4, bneT c5, cond_true, cond_false, beq_iff_eq.2 k1, beq_iff_eq.2 k2, beq_iff_eq.2 k3, beq_iff_eq.2 k4, decide_eq_false k5]
              · simp only [bneT c1, bneT c2, bneT c4, bneT c5, cond_true, cond_false, beq_iff_eq.2 k1, beq_iff_eq.2 k2, beq_iff_eq.2 k3, beqF k4]
            · simp only [bneT c1, bneT c2, bneT c4, bneT c5, cond_true, cond_false, beq_iff_eq.2 k1, beq_iff_eq.2 k2, beqF k3]
          · simp only [bneT c1, bneT c2, bneT c4, bneT c5, cond_true, cond_false, beq_iff_eq.2 k1, beqF k2]
        · simp only [bneT c1, bneT c2, bneT c4, bneT c5, cond_true, cond_false, beqF k1]
      have s2 : (l_[i]).M_.From ≤ 2 * c.F_ → seen ||| 2 ^ (l_[i]).M_.From.toNat < 18446744073709551616 := fun h => or_lt hx.s (by omega)
      have ask1 : -1 ≤ asked ∧ asked ≤ 1099511627776 := by rcases hx.i with h | h <;> omega
      have pos7 : cond c (l_[i]) asked of_ → Ev (law18_FenceLeased_step c l_) (.s9 true asked of_ (if (c.F_ : Int) < (cnt (seen ||| 2 ^ (l_[i]).M_.From.toNat) (2 * c.F_ + 1).toNat : Int) then mxI until_ (asked + c.L_) else until_) ((seen ||| 2 ^ (l_[i]).M_.From.toNat : Nat) : Int) (i : Int) (a.x.l.length : Int) a'.x.f a'.z.known a'.z.hold a'.z.begun a'.z.filled 0 a'.well (l_[i]) a.z.known a'.x.l a'.x.cl fuse' a'.down s' t') true → Ev (law18_FenceLeased_step c l_) (.s7 true asked of_ until_ (seen : Int) (i : Int) (a.x.l.length : Int) out false a'.x.f a'.z.known a'.z.hold a'.z.begun a'.z.filled 0 a'.well (l_[i]) a.z.known a'.x.l a'.x.cl fuse' a'.down s' t') true := fun hC hE => by
        obtain ⟨c1, c2, c4, c5, k1, k2, k3, k4, k5, k6⟩ := hC
        have s2 := s2 (by omega)
        refine .next (s' := .s5 true asked of_ until_ (seen : Int) (i : Int) (a.x.l.length : Int) true a'.x.f a'.z.known a'.z.hold a'.z.begun a'.z.filled 0 a'.well (l_[i]) a.z.known a'.x.l a'.x.cl fuse' a'.down s' t') ?_ ?_
        · simp only [law18_FenceLeased_step, law18_FenceLeased_7, cond_false, bneT c1, bneT c2, bneT c4, bneT c5, cond_true, beq_iff_eq.2 k1, beq_iff_eq.2 k2, beq_iff_eq.2 k3, beq_iff_eq.2 k4, ge_iff_le, decide_eq_true k5, hac, Option.bind_some, decide_eq_true k6]
        have hf : (l_[i]).M_.From = (((l_[i]).M_.From.toNat : Nat) : Int) := by omega
        refine .next (s' := .s4 true asked of_ until_ ((seen ||| 2 ^ (l_[i]).M_.From.toNat : Nat) : Int) (i : Int) (a.x.l.length : Int) ((cnt (seen ||| 2 ^ (l_[i]).M_.From.toNat) 0 : Nat) : Int) ((0 : Nat) : Int) a'.x.f a'.z.known a'.z.hold a'.z.begun a'.z.filled 0 a'.well (l_[i]) a.z.known a'.x.l a'.x.cl fuse' a'.down s' t') ?_ ?_
        · have g0 : decide ((l_[i]).M_.From < 0) = false := by simp; omega
          have e : orI .u64 (seen : Int) (shlI .u64 1 (l_[i]).M_.From) = ((seen ||| 2 ^ (l_[i]).M_.From.toNat : Nat) : Int) := by
            have hp : (2 : Nat) ^ (l_[i]).M_.From.toNat ≤ 2 ^ 6 := Nat.pow_le_pow_right (by decide) (by omega)
            rw [hf, shlI64 (by omega), Int.toNat_natCast, orI64 hx.s (by omega)]
          simp only [law18_FenceLeased_step, law18_FenceLeased_5, cond_true, g0, Bool.not_false, e]
          rfl
        generalize seen ||| 2 ^ (l_[i]).M_.From.toNat = sn at *
        have ecnt : ∀ k, cnt sn k ≤ k := fun k => by
          induction k with
          | zero => simp [cnt]
          | succ k ih => unfold cnt; split <;> omega
        have s4 : ∀ (q b : Nat), b + q = (2 * c.F_ + 1).toNat → Ev (law18_FenceLeased_step c l_) (.s4 true asked of_ until_ (sn : Int) (i : Int) (a.x.l.length : Int) ((cnt sn b : Nat) : Int) (b : Int) a'.x.f a'.z.known a'.z.hold a'.z.begun a'.z.filled 0 a'.well (l_[i]) a.z.known a'.x.l a'.x.cl fuse' a'.down s' t') true := by
          intro q
          induction q with
          | zero =>
            intro b hb
            have g : decide ((b : Int) < 2 * c.F_ + 1) = false := by simp; omega
            refine .next ?_ hE
            have hb' : b = (2 * c.F_ + 1).toNat := by omega
            have wL : IntKind.i64.wrap (asked + c.L_) = asked + c.L_ := wI64 (by omega) (by omega)
            rw [← hb']
            by_cases hk : ((cnt sn b : Nat) : Int) > c.F_
            · rw [if_pos (by omega)]
              simp only [law18_FenceLeased_step, law18_FenceLeased_4, hac, Option.bind_some, g, cond_false, decide_eq_true hk, cond_true, wL]
            · rw [if_neg (by omega)]
              simp only [law18_FenceLeased_step, law18_FenceLeased_4, hac, Option.bind_some, g, cond_false, decide_eq_false hk]
          | succ q ihq =>
            intro b hb
            have g : decide ((b : Int) < 2 * c.F_ + 1) = true := by simp; omega
            have g0 : decide ((b : Int) < 0) = false := by simp
            have hbit := bitI64 (a := sn) (k := b) s2 (by omega)
            have hcb := ecnt b
            refine .next (s' := .s4 true asked of_ until_ (sn : Int) (i : Int) (a.x.l.length : Int) ((cnt sn (b + 1) : Nat) : Int) ((b + 1 : Nat) : Int) a'.x.f a'.z.known a'.z.hold a'.z.begun a'.z.filled 0 a'.well (l_[i]) a.z.known a'.x.l a'.x.cl fuse' a'.down s' t') ?_ (ihq (b + 1) (by omega))
            have wk : IntKind.i64.wrap (((cnt sn b : Nat) : Int) + IntKind.i64.wrap (andI .u64 (shrI .u64 (sn : Int) (b : Int)) 1)) = ((cnt sn (b + 1) : Nat) : Int) := by
              rw [hbit]
              simp only [cnt]
              split
              · rw [wI64 (n := 1) (by decide) (by decide), wI64 (by omega) (by omega)]; omega
              · rw [wI64 (n := 0) (by decide) (by decide), wI64 (by omega) (by omega)]; omega
            simp only [law18_FenceLeased_step, law18_FenceLeased_4, hac, Option.bind_some, g, cond_true, g0, Bool.not_false, wk, wS1T (show b ≤ 200000 by omega)]
        exact s4 (2 * c.F_ + 1).toNat 0 (by omega)
      have umono : ∀ (x : Nat), until_ ≤ (if (c.F_ : Int) < (x : Int) then mxI until_ (asked + c.L_) else until_) := fun x => by
        split
        · unfold mxI; split <;> omega
        · exact Int.le_refl _
      have smono : ∀ k, seen.testBit k = true → (seen ||| 2 ^ (l_[i]).M_.From.toNat).testBit k = true := fun k hk => by simp only [Nat.testBit_or, hk, Bool.true_or]
      cases ls with
      | same h1 h2 h4 =>
        refine to7 h1 ?_
        by_cases hC : cond c (l_[i]) asked of_
        · exact pos7 hC (s9 _ _ _ _ (by rw [h2]; exact li_mono hx (umono _) smono (s2 (by have := hC.2.2.2.2.2.2.2.2.2; omega))) (.inl h4))
        · exact neg7 hC (s9 _ _ _ _ (by rw [h2]; exact hx) (.inl h4))
      | write e k14 h1 h2 h4 h5 h6 h7 =>
        refine to7 h1 (neg7 (fun hC => by have := hC.2.2.2.2.1; omega) (s9 _ _ _ _ (by rw [h2]; exact hx) (.inr ⟨e, h4, h5, h6, ?_⟩)))
        have hk1 := hnm.2 h6
        simp only [liveP, Bool.and_eq_true, decide_eq_true_eq] at h7
        rcases hx.i with ⟨q1, q2⟩ | ⟨q1, q2, q3, q4, q5, q6, q7⟩ <;> omega
      | grant c1 c2 c4 c5 h1 k11 k1 h2 h4 =>
        refine to7 (by rw [h1]; exact fun y hy => by cases hy) ?_
        by_cases hC : cond c (l_[i]) asked of_
        · refine pos7 hC (s9 _ _ _ _ ?_ (.inl h4))
          rw [h2]
          by_cases hgd : goodP a.z.hold c (l_[i]).M_ = true
          · exact li_grant hr hx hgd ⟨hC.2.2.2.2.2.1, hC.2.2.2.2.2.2.1, hC.2.2.2.2.2.2.2.2.1, by have := hC.2.2.2.2.2.2.2.2.2; omega⟩
          · rw [show grantP a.z.hold c (l_[i]).M_ = a.z.hold from if_neg hgd]
            exact li_mono hx (umono _) smono (s2 (by have := hC.2.2.2.2.2.2.2.2.2; omega))
        · refine neg7 hC (s9 _ _ _ _ ?_ (.inl h4))
          rw [h2]
          by_cases hgd : goodP a.z.hold c (l_[i]).M_ = true
          · rcases hx.i with ⟨q1, q2⟩ | ⟨q1, q2, q3, q4, q5, q6, q7⟩
            · refine ⟨hx.s, grant_u64 _ _ _ hx.g, .inl ⟨q1, ?_⟩⟩
              rw [show grantP a.z.hold c (l_[i]).M_ = givenP a.z.hold c (l_[i]).M_.From.toNat from if_pos hgd]
              exact q2
            · exfalso
              have hF : (fN c : Int) = c.F_ := by rw [← fN_eq]; unfold mnI mxI; split <;> split <;> omega
              have hf := good_from hgd
              simp only [goodP, Bool.and_eq_true, decide_eq_true_eq] at hgd
              exact hC ⟨c1, c2, c4, c5, k11, by omega, by omega, k1, by omega, by omega⟩
          · rw [show grantP a.z.hold c (l_[i]).M_ = a.z.hold from if_neg hgd]
            exact hx
      | ask w4 h1 h2 h4 h5 h6 =>
        have hlen : 0 < out.length := by rw [h1]; simp [askL]; omega
        obtain ⟨r, hout⟩ : ∃ r, out = (⟨10, nodeT c 0, 0, a.z.known.Epoch, 0, 0, (l_[i]).Now, 0, 0, 1, false, zeroPl, [], [], []⟩ : Msg) :: r := by
          obtain ⟨n, hn⟩ : ∃ n, (2 * c.F_ + 1).toNat = n + 1 := ⟨(2 * c.F_).toNat, by omega⟩
          rw [h1, askL, hn, List.range_succ_eq_map]
          exact ⟨_, rfl⟩
        have hk1 := hnm.2 h4
        have li := li_ask hx hk1 h2
        rw [← h5] at li
        have e1 : decide ((((⟨10, nodeT c 0, 0, a.z.known.Epoch, 0, 0, (l_[i]).Now, 0, 0, 1, false, zeroPl, [], [], []⟩ : Msg) :: r).length : Int) > 0) = true := by simp
        have e2 : decide ((0 : Int) < (((⟨10, nodeT c 0, 0, a.z.known.Epoch, 0, 0, (l_[i]).Now, 0, 0, 1, false, zeroPl, [], [], []⟩ : Msg) :: r).length : Int)) = true := by simp
        refine .next (s' := .s7 true asked of_ until_ (seen : Int) (i : Int) (a.x.l.length : Int) out true a'.x.f a'.z.known a'.z.hold a'.z.begun a'.z.filled 0 a'.well (l_[i]) a.z.known a'.x.l a'.x.cl fuse' a'.down s' t') ?_ ?_
        · simp only [law18_FenceLeased_step, law18_FenceLeased_3, List.length_map, ltB hlt, cond_true, cond_false, le0, Bool.and_self, Int.toNat_natCast, List.getE hlt, Option.bind_some, lg1, Target_Known, he, beqF h3]
          rw [hout]
          simp only [e1, e2, cond_true, List.getElem?_cons_zero, Option.bind_some, beq_self_eq_true]
        refine .next (s' := .s6 true until_ (i : Int) (a.x.l.length : Int) out (decide (of_ ≠ a.z.known.Epoch ∨ asked < 0)) a'.x.f a'.z.known a'.z.hold a'.z.begun a'.z.filled 0 a'.well (l_[i]) a.z.known a'.x.l a'.x.cl fuse' a'.down s' t') ?_ ?_
        · rw [hout]
          simp only [law18_FenceLeased_step, law18_FenceLeased_7, List.length_map, cond_true, e2, List.getElem?_cons_zero, Option.bind_some]
          by_cases ho : of_ = a.z.known.Epoch
          · simp [ho]
          · simp [ho, bneT ho]
        refine .next (s' := .s8 true (if of_ ≠ a.z.known.Epoch ∨ asked < 0 then 0 else until_) (i : Int) (a.x.l.length : Int) out a'.x.f a'.z.known a'.z.hold a'.z.begun a'.z.filled 0 a'.well (l_[i]) a.z.known a'.x.l a'.x.cl fuse' a'.down s' t') ?_ ?_
        · by_cases ho : of_ ≠ a.z.known.Epoch ∨ asked < 0
          · simp only [law18_FenceLeased_step, law18_FenceLeased_6, decide_eq_true ho, cond_true, if_pos ho]
          · simp only [law18_FenceLeased_step, law18_FenceLeased_6, decide_eq_false ho, cond_false, if_neg ho]
        refine .next (s' := .s5 true (l_[i]).Now a.z.known.Epoch (if of_ ≠ a.z.known.Epoch ∨ asked < 0 then 0 else until_) ((0 : Nat) : Int) (i : Int) (a.x.l.length : Int) false a'.x.f a'.z.known a'.z.hold a'.z.begun a'.z.filled 0 a'.well (l_[i]) a.z.known a'.x.l a'.x.cl fuse' a'.down s' t') ?_ (to9 _ _ _ _ (s9 _ _ _ _ li (.inl h6)))
        rw [hout]
        simp only [law18_FenceLeased_step, law18_FenceLeased_8, List.length_map, cond_true, e2, List.getElem?_cons_zero, Option.bind_some, w4, show ((4 : Int) != 1) = true from rfl, show ((4 : Int) != 2) = true from rfl, show ((4 : Int) != 4) = false from rfl, cond_false]
        rfl
  exact loop l_.length 0 (aT c) (-1) [] [] (-1) 0 0 0 (by omega) rep_newT ⟨by decide, inU64.2 (by simp [aT]), .inl ⟨by decide, rfl⟩⟩ (named0 c)
end Go.RX.L
