/-
  Words and walks for FenceFalls. No condition.
-/
import Derived.Test.YtflpengopdhhhaaDoorFenceFallsY9
set_option linter.unusedSectionVars false
set_option linter.unnecessarySimpa false
set_option linter.unusedSimpArgs false
set_option linter.unusedVariables false
set_option maxRecDepth 100000
set_option maxHeartbeats 4000000
namespace Go.RX.L
open Go Go.RX Go.Proofs
attribute [local irreducible] FinQ
noncomputable def law18_FenceFalls_c := codeAt (bodyOf Tryd.f5)
noncomputable def law18_FenceFalls_e (y : Bool) : D × Sto := (.bool y, [])
inductive law18_FenceFalls_S where
 | s0
 | s1 (up : Bool)
 | s2 (up : Bool) (fence : Int) (known : Plan) (hold : Hold) (begun : Int) (filled : Int) (index : Int) (well : Bool) (b1 : List Entry) (b2 : List (List Int)) (fuse : Int) (down : Bool) (b4 : List Int) (b5 : List Int)
 | s3 (up : Bool) (sealed : Int) (i : Int) (fence : Int) (known : Plan) (hold : Hold) (begun : Int) (filled : Int) (index : Int) (well : Bool) (b1 : List Entry) (b2 : List (List Int)) (fuse : Int) (down : Bool) (b4 : List Int) (b5 : List Int)
 | s4 (up : Bool) (sealed : Int) (i : Int) (n : Int) (x_ : List Msg) (log : List Entry) (k : Int) (fence : Int) (known : Plan) (hold : Hold) (begun : Int) (filled : Int) (index : Int) (well : Bool) (b1 : List Entry) (b2 : List (List Int)) (fuse : Int) (down : Bool) (b4 : List Int) (b5 : List Int)
 | s5 (up : Bool) (sealed : Int) (i : Int) (x_ : List Msg) (log : List Entry) (k : Int) (fence : Int) (known : Plan) (hold : Hold) (begun : Int) (filled : Int) (index : Int) (well : Bool) (b1 : List Entry) (b2 : List (List Int)) (fuse : Int) (down : Bool) (b4 : List Int) (b5 : List Int)
 | s6 (up : Bool) (sealed : Int) (i : Int) (x_ : List Msg) (k : Int) (fence : Int) (known : Plan) (hold : Hold) (begun : Int) (filled : Int) (index : Int) (well : Bool) (b1 : List Entry) (b2 : List (List Int)) (fuse : Int) (down : Bool) (b4 : List Int) (b5 : List Int)
noncomputable def law18_FenceFalls_M (c : Config) (l_ : List Op) : law18_FenceFalls_S → M
 | .s0 => startM Tryd.f5 [.agg (Config.enc c), .sl false 29 (List.map Op.enc l_)] []
 | .s1 up => ⟨[.code (law18_FenceFalls_c [1, 1, 1])], [(1, .sl false 29 (List.map Op.enc l_)), (5, .bool up), (6, .nilp)], []⟩
 | .s2 up fence known hold begun filled index well b1 b2 fuse down b4 b5 => ⟨[.code (law18_FenceFalls_c [1, 1, 1])], [(1, .sl false 29 (List.map Op.enc l_)), (5, .bool up), (6, .ptr 0 0 0)], [some ⟨54, true, [([.int .i64 fence] ++ Plan.encL known ([.int .i64 hold.Epoch, .int .i64 hold.Nonce, .int .u64 hold.Grants, .int .i64 hold.Until, .msl 1 0 ((List.map Entry.enc b1).length) ((List.map Entry.enc b1).length) false, .msl 2 0 ((List.map (eSl 1 (eInt .i64)) b2).length) ((List.map (eSl 1 (eInt .i64)) b2).length) false, .int .i64 begun, .int .i64 filled] ++ Config.encL c [.int .i64 index, .ptr 3 0 0, .bool well]))]⟩, some ⟨3, false, (List.map Entry.enc b1)⟩, some ⟨1, false, (List.map (eSl 1 (eInt .i64)) b2)⟩, some ⟨4, true, [[.msl 4 0 ((List.map (eInt .u8) b4).length) ((List.map (eInt .u8) b4).length) false, .msl 5 0 ((List.map (eInt .u8) b5).length) ((List.map (eInt .u8) b5).length) false, .int .i64 fuse, .bool down]]⟩, some ⟨1, false, (List.map (eInt .u8) b4)⟩, some ⟨1, false, (List.map (eInt .u8) b5)⟩]⟩
 | .s3 up sealed i fence known hold begun filled index well b1 b2 fuse down b4 b5 => ⟨[.lpc (law18_FenceFalls_c [1, 1, 1, 1, 1, 0, 1, 0, 0]) 482, .blk 0, .code (law18_FenceFalls_c [1, 1, 1, 1, 1, 1])], [(1, .sl false 29 (List.map Op.enc l_)), (5, .bool up), (6, .ptr 0 0 0), (7, .int .i64 sealed), (8, .int .i64 i)], [some ⟨54, true, [([.int .i64 fence] ++ Plan.encL known ([.int .i64 hold.Epoch, .int .i64 hold.Nonce, .int .u64 hold.Grants, .int .i64 hold.Until, .msl 1 0 ((List.map Entry.enc b1).length) ((List.map Entry.enc b1).length) false, .msl 2 0 ((List.map (eSl 1 (eInt .i64)) b2).length) ((List.map (eSl 1 (eInt .i64)) b2).length) false, .int .i64 begun, .int .i64 filled] ++ Config.encL c [.int .i64 index, .ptr 3 0 0, .bool well]))]⟩, some ⟨3, false, (List.map Entry.enc b1)⟩, some ⟨1, false, (List.map (eSl 1 (eInt .i64)) b2)⟩, some ⟨4, true, [[.msl 4 0 ((List.map (eInt .u8) b4).length) ((List.map (eInt .u8) b4).length) false, .msl 5 0 ((List.map (eInt .u8) b5).length) ((List.map (eInt .u8) b5).length) false, .int .i64 fuse, .bool down]]⟩, some ⟨1, false, (List.map (eInt .u8) b4)⟩, some ⟨1, false, (List.map (eInt .u8) b5)⟩]⟩
 | .s4 up sealed i n x_ log k fence known hold begun filled index well b1 b2 fuse down b4 b5 => ⟨[.lpc (law18_FenceFalls_c [1, 1, 1, 1, 1, 0, 1, 0, 0, 1, 0, 0, 1, 1, 1, 0, 1, 0, 0]) 8162, .blk 2, .code (law18_FenceFalls_c [1, 1, 1, 1, 1, 0, 1, 0, 0, 1, 0, 0, 1, 1, 1, 1]), .blk 1, .code (law18_FenceFalls_c [1, 1, 1, 1, 1, 0, 1, 0, 0, 1, 1]), .lp (law18_FenceFalls_c [1, 1, 1, 1, 1, 0, 1, 0, 0]) 482, .blk 0, .code (law18_FenceFalls_c [1, 1, 1, 1, 1, 1])], [(1, .sl false 29 (List.map Op.enc l_)), (5, .bool up), (6, .ptr 0 0 0), (7, .int .i64 sealed), (8, .int .i64 i), (9, .int .i64 n), (10, .sl false 26 (List.map Msg.enc x_)), (11, .sl false 3 (List.map Entry.enc log)), (12, .int .i64 k)], [some ⟨54, true, [([.int .i64 fence] ++ Plan.encL known ([.int .i64 hold.Epoch, .int .i64 hold.Nonce, .int .u64 hold.Grants, .int .i64 hold.Until, .msl 1 0 ((List.map Entry.enc b1).length) ((List.map Entry.enc b1).length) false, .msl 2 0 ((List.map (eSl 1 (eInt .i64)) b2).length) ((List.map (eSl 1 (eInt .i64)) b2).length) false, .int .i64 begun, .int .i64 filled] ++ Config.encL c [.int .i64 index, .ptr 3 0 0, .bool well]))]⟩, some ⟨3, false, (List.map Entry.enc b1)⟩, some ⟨1, false, (List.map (eSl 1 (eInt .i64)) b2)⟩, some ⟨4, true, [[.msl 4 0 ((List.map (eInt .u8) b4).length) ((List.map (eInt .u8) b4).length) false, .msl 5 0 ((List.map (eInt .u8) b5).length) ((List.map (eInt .u8) b5).length) false, .int .i64 fuse, .bool down]]⟩, some ⟨1, false, (List.map (eInt .u8) b4)⟩, some ⟨1, false, (List.map (eInt .u8) b5)⟩]⟩
 | .s5 up sealed i x_ log k fence known hold begun filled index well b1 b2 fuse down b4 b5 => ⟨[.lpc (law18_FenceFalls_c [1, 1, 1, 1, 1, 0, 1, 0, 0, 1, 0, 0, 1, 1, 1, 1, 1, 0, 1, 0, 0]) 11746, .blk 4, .code (law18_FenceFalls_c [1, 1, 1, 1, 1, 0, 1, 0, 0, 1, 0, 0, 1, 1, 1, 1, 1, 1]), .blk 1, .code (law18_FenceFalls_c [1, 1, 1, 1, 1, 0, 1, 0, 0, 1, 1]), .lp (law18_FenceFalls_c [1, 1, 1, 1, 1, 0, 1, 0, 0]) 482, .blk 0, .code (law18_FenceFalls_c [1, 1, 1, 1, 1, 1])], [(1, .sl false 29 (List.map Op.enc l_)), (5, .bool up), (6, .ptr 0 0 0), (7, .int .i64 sealed), (8, .int .i64 i), (10, .sl false 26 (List.map Msg.enc x_)), (11, .sl false 3 (List.map Entry.enc log)), (13, .int .i64 k)], [some ⟨54, true, [([.int .i64 fence] ++ Plan.encL known ([.int .i64 hold.Epoch, .int .i64 hold.Nonce, .int .u64 hold.Grants, .int .i64 hold.Until, .msl 1 0 ((List.map Entry.enc b1).length) ((List.map Entry.enc b1).length) false, .msl 2 0 ((List.map (eSl 1 (eInt .i64)) b2).length) ((List.map (eSl 1 (eInt .i64)) b2).length) false, .int .i64 begun, .int .i64 filled] ++ Config.encL c [.int .i64 index, .ptr 3 0 0, .bool well]))]⟩, some ⟨3, false, (List.map Entry.enc b1)⟩, some ⟨1, false, (List.map (eSl 1 (eInt .i64)) b2)⟩, some ⟨4, true, [[.msl 4 0 ((List.map (eInt .u8) b4).length) ((List.map (eInt .u8) b4).length) false, .msl 5 0 ((List.map (eInt .u8) b5).length) ((List.map (eInt .u8) b5).length) false, .int .i64 fuse, .bool down]]⟩, some ⟨1, false, (List.map (eInt .u8) b4)⟩, some ⟨1, false, (List.map (eInt .u8) b5)⟩]⟩
 | .s6 up sealed i x_ k fence known hold begun filled index well b1 b2 fuse down b4 b5 => ⟨[.lpc (law18_FenceFalls_c [1, 1, 1, 1, 1, 0, 1, 0, 0, 1, 0, 0, 1, 1, 1, 1, 1, 1, 1, 0, 0]) 17890, .blk 6, .blk 1, .code (law18_FenceFalls_c [1, 1, 1, 1, 1, 0, 1, 0, 0, 1, 1]), .lp (law18_FenceFalls_c [1, 1, 1, 1, 1, 0, 1, 0, 0]) 482, .blk 0, .code (law18_FenceFalls_c [1, 1, 1, 1, 1, 1])], [(1, .sl false 29 (List.map Op.enc l_)), (5, .bool up), (6, .ptr 0 0 0), (7, .int .i64 sealed), (8, .int .i64 i), (10, .sl false 26 (List.map Msg.enc x_)), (14, .int .i64 k)], [some ⟨54, true, [([.int .i64 fence] ++ Plan.encL known ([.int .i64 hold.Epoch, .int .i64 hold.Nonce, .int .u64 hold.Grants, .int .i64 hold.Until, .msl 1 0 ((List.map Entry.enc b1).length) ((List.map Entry.enc b1).length) false, .msl 2 0 ((List.map (eSl 1 (eInt .i64)) b2).length) ((List.map (eSl 1 (eInt .i64)) b2).length) false, .int .i64 begun, .int .i64 filled] ++ Config.encL c [.int .i64 index, .ptr 3 0 0, .bool well]))]⟩, some ⟨3, false, (List.map Entry.enc b1)⟩, some ⟨1, false, (List.map (eSl 1 (eInt .i64)) b2)⟩, some ⟨4, true, [[.msl 4 0 ((List.map (eInt .u8) b4).length) ((List.map (eInt .u8) b4).length) false, .msl 5 0 ((List.map (eInt .u8) b5).length) ((List.map (eInt .u8) b5).length) false, .int .i64 fuse, .bool down]]⟩, some ⟨1, false, (List.map (eInt .u8) b4)⟩, some ⟨1, false, (List.map (eInt .u8) b5)⟩]⟩
abbrev law18_FenceFalls_W (c : Config) (l_ : List Op) := SOk E (Cx.of Tryd.f5 false 0) law18_FenceFalls_e (law18_FenceFalls_M c l_)
noncomputable def law18_FenceFalls_0 (c : Config) (l_ : List Op) : Option (law18_FenceFalls_S ⊕ Bool) := ((law18_head ).bind fun y1 => ((fence_New c 0).bind fun y2 => match y2 with | .r0 => (some (.inl (.s1 y1))) | .r1 y2a0 y2a1 y2a2 y2a3 y2a4 y2a5 y2a6 y2a7 y2a8 y2a9 y2a10 y2a11 => (some (.inl (.s2 y1 y2a0 y2a1 y2a2 y2a3 y2a4 0 y2a5 y2a6 y2a7 y2a8 y2a9 y2a10 y2a11)))))
noncomputable def law18_FenceFalls_1 (c : Config) (l_ : List Op) (up : Bool) : Option (law18_FenceFalls_S ⊕ Bool) := (some (.inr up))
noncomputable def law18_FenceFalls_2 (c : Config) (l_ : List Op) (up : Bool) (fence : Int) (known : Plan) (hold : Hold) (begun : Int) (filled : Int) (index : Int) (well : Bool) (b1 : List Entry) (b2 : List (List Int)) (fuse : Int) (down : Bool) (b4 : List Int) (b5 : List Int) : Option (law18_FenceFalls_S ⊕ Bool) := ((law18_Great l_).bind fun y1 => (bif y1 then (some (.inr up)) else (some (.inl (.s3 up 0 0 fence known hold begun filled index well b1 b2 fuse down b4 b5)))))
noncomputable def law18_FenceFalls_3 (c : Config) (l_ : List Op) (up : Bool) (sealed : Int) (i : Int) (fence : Int) (known : Plan) (hold : Hold) (begun : Int) (filled : Int) (index : Int) (well : Bool) (b1 : List Entry) (b2 : List (List Int)) (fuse : Int) (down : Bool) (b4 : List Int) (b5 : List Int) : Option (law18_FenceFalls_S ⊕ Bool) := (bif (decide ((i : Int) < (((List.map Op.enc l_).length : Nat) : Int))) then ((Target_Log fence known hold begun filled c index well b1 b2 fuse down b4 b5).bind fun y2 => (bif ((decide ((0 : Int) ≤ i)) && (decide ((i : Int) < (((List.map Op.enc l_).length : Nat) : Int)))) then (((l_)[i.toNat]?).bind fun y4 => ((law18_Fuzz y4 fence known hold begun filled c index well b1 b2 fuse down b4 b5).bind fun y6 => ((Target_Log y6.2.1 y6.2.2.1 y6.2.2.2.1 y6.2.2.2.2.1 y6.2.2.2.2.2.1 c index y6.2.2.2.2.2.2.1 y6.2.2.2.2.2.2.2.2.2.1 y6.2.2.2.2.2.2.2.2.2.2.1 y6.2.2.2.2.2.2.2.1 y6.2.2.2.2.2.2.2.2.1 y6.2.2.2.2.2.2.2.2.2.2.2.1 y6.2.2.2.2.2.2.2.2.2.2.2.2).bind fun y7 => (some (.inl (.s4 up sealed i (((List.map Entry.enc y2).length : Nat) : Int) y6.1 y7 1 y6.2.1 y6.2.2.1 y6.2.2.2.1 y6.2.2.2.2.1 y6.2.2.2.2.2.1 index y6.2.2.2.2.2.2.1 y6.2.2.2.2.2.2.2.2.2.1 y6.2.2.2.2.2.2.2.2.2.2.1 y6.2.2.2.2.2.2.2.1 y6.2.2.2.2.2.2.2.2.1 y6.2.2.2.2.2.2.2.2.2.2.2.1 y6.2.2.2.2.2.2.2.2.2.2.2.2)))))) else none)) else (some (.inr up)))
noncomputable def law18_FenceFalls_4 (c : Config) (l_ : List Op) (up : Bool) (sealed : Int) (i : Int) (n : Int) (x_ : List Msg) (log : List Entry) (k : Int) (fence : Int) (known : Plan) (hold : Hold) (begun : Int) (filled : Int) (index : Int) (well : Bool) (b1 : List Entry) (b2 : List (List Int)) (fuse : Int) (down : Bool) (b4 : List Int) (b5 : List Int) : Option (law18_FenceFalls_S ⊕ Bool) := (bif (decide ((k : Int) < (((List.map Entry.enc log).length : Nat) : Int))) then (bif ((decide ((0 : Int) ≤ (IntKind.i64.wrap (k - 1)))) && (decide (((IntKind.i64.wrap (k - 1)) : Int) < (((List.map Entry.enc log).length : Nat) : Int)))) then (((log)[(IntKind.i64.wrap (k - 1)).toNat]?).bind fun y3 => (bif ((decide ((0 : Int) ≤ k)) && (decide ((k : Int) < (((List.map Entry.enc log).length : Nat) : Int)))) then (((log)[k.toNat]?).bind fun y6 => (bif (decide ((y3.Epoch : Int) > y6.Epoch)) then (some (.inr false)) else (some (.inl (.s4 up sealed i n x_ log (IntKind.i64.wrap (k + 1)) fence known hold begun filled index well b1 b2 fuse down b4 b5))))) else none)) else none) else (bif ((decide ((0 : Int) ≤ i)) && (decide ((i : Int) < (((List.map Op.enc l_).length : Nat) : Int)))) then (((l_)[i.toNat]?).bind fun y10 => (bif (((andI .i64 y10.What 7) : Int) == 3) then (some (.inl (.s3 up sealed (IntKind.i64.wrap (i + 1)) fence known hold begun filled index well b1 b2 fuse down b4 b5))) else (some (.inl (.s5 up sealed i x_ log n fence known hold begun filled index well b1 b2 fuse down b4 b5))))) else none))
noncomputable def law18_FenceFalls_5 (c : Config) (l_ : List Op) (up : Bool) (sealed : Int) (i : Int) (x_ : List Msg) (log : List Entry) (k : Int) (fence : Int) (known : Plan) (hold : Hold) (begun : Int) (filled : Int) (index : Int) (well : Bool) (b1 : List Entry) (b2 : List (List Int)) (fuse : Int) (down : Bool) (b4 : List Int) (b5 : List Int) : Option (law18_FenceFalls_S ⊕ Bool) := (bif (decide ((k : Int) < (((List.map Entry.enc log).length : Nat) : Int))) then (bif ((decide ((0 : Int) ≤ k)) && (decide ((k : Int) < (((List.map Entry.enc log).length : Nat) : Int)))) then (((log)[k.toNat]?).bind fun y3 => (bif (decide ((y3.Epoch : Int) < sealed)) then (some (.inr false)) else (some (.inl (.s5 up sealed i x_ log (IntKind.i64.wrap (k + 1)) fence known hold begun filled index well b1 b2 fuse down b4 b5))))) else none) else (some (.inl (.s6 up sealed i x_ 0 fence known hold begun filled index well b1 b2 fuse down b4 b5))))
noncomputable def law18_FenceFalls_6 (c : Config) (l_ : List Op) (up : Bool) (sealed : Int) (i : Int) (x_ : List Msg) (k : Int) (fence : Int) (known : Plan) (hold : Hold) (begun : Int) (filled : Int) (index : Int) (well : Bool) (b1 : List Entry) (b2 : List (List Int)) (fuse : Int) (down : Bool) (b4 : List Int) (b5 : List Int) : Option (law18_FenceFalls_S ⊕ Bool) := (bif (decide ((k : Int) < (((List.map Msg.enc x_).length : Nat) : Int))) then (bif ((decide ((0 : Int) ≤ k)) && (decide ((k : Int) < (((List.map Msg.enc x_).length : Nat) : Int)))) then (((x_)[k.toNat]?).bind fun y3 => (bif ((y3.Kind : Int) == 13) then (bif ((decide ((0 : Int) ≤ k)) && (decide ((k : Int) < (((List.map Msg.enc x_).length : Nat) : Int)))) then (((x_)[k.toNat]?).bind fun y7 => (some (.inl (.s6 up (mxI sealed y7.Epoch) i x_ (IntKind.i64.wrap (k + 1)) fence known hold begun filled index well b1 b2 fuse down b4 b5)))) else none) else (some (.inl (.s6 up sealed i x_ (IntKind.i64.wrap (k + 1)) fence known hold begun filled index well b1 b2 fuse down b4 b5))))) else none) else (some (.inl (.s3 up sealed (IntKind.i64.wrap (i + 1)) fence known hold begun filled index well b1 b2 fuse down b4 b5))))
noncomputable def law18_FenceFalls_step (c : Config) (l_ : List Op) : law18_FenceFalls_S → Option (law18_FenceFalls_S ⊕ Bool)
 | .s0 => law18_FenceFalls_0 c l_
 | .s1 up => law18_FenceFalls_1 c l_ up
 | .s2 up fence known hold begun filled index well b1 b2 fuse down b4 b5 => law18_FenceFalls_2 c l_ up fence known hold begun filled index well b1 b2 fuse down b4 b5
 | .s3 up sealed i fence known hold begun filled index well b1 b2 fuse down b4 b5 => law18_FenceFalls_3 c l_ up sealed i fence known hold begun filled index well b1 b2 fuse down b4 b5
 | .s4 up sealed i n x_ log k fence known hold begun filled index well b1 b2 fuse down b4 b5 => law18_FenceFalls_4 c l_ up sealed i n x_ log k fence known hold begun filled index well b1 b2 fuse down b4 b5
 | .s5 up sealed i x_ log k fence known hold begun filled index well b1 b2 fuse down b4 b5 => law18_FenceFalls_5 c l_ up sealed i x_ log k fence known hold begun filled index well b1 b2 fuse down b4 b5
 | .s6 up sealed i x_ k fence known hold begun filled index well b1 b2 fuse down b4 b5 => law18_FenceFalls_6 c l_ up sealed i x_ k fence known hold begun filled index well b1 b2 fuse down b4 b5
theorem law18_FenceFalls_0_ok {c l_} : law18_FenceFalls_W c l_ .s0 (law18_FenceFalls_0 c l_) := by
 intro r x h ha; unfold law18_FenceFalls_0 at h
 refine zc 8 [] h (fun _ => law18_head_ok) fun y1 h => ?_
 refine zc 7 [] h (fun _ => fence_New_ok) fun y2 h => ?_
 cases y2 with
 | r0 =>
  dsimp only at h
  exact zk 2 h ha
 | r1 y2a0 y2a1 y2a2 y2a3 y2a4 y2a5 y2a6 y2a7 y2a8 y2a9 y2a10 y2a11 =>
  dsimp only at h
  exact zk 2 h ha
theorem law18_FenceFalls_1_ok {c l_ up} : law18_FenceFalls_W c l_ (.s1 up) (law18_FenceFalls_1 c l_ up) := by
 intro r x h ha; unfold law18_FenceFalls_1 at h
 exact zt 21 h ha
theorem law18_FenceFalls_2_ok {c l_ up fence known hold begun filled index well b1 b2 fuse down b4 b5} : law18_FenceFalls_W c l_ (.s2 up fence known hold begun filled index well b1 b2 fuse down b4 b5) (law18_FenceFalls_2 c l_ up fence known hold begun filled index well b1 b2 fuse down b4 b5) := by
 intro r x h ha; unfold law18_FenceFalls_2 at h
 refine zc 10 [] h (fun _ => law18_Great_ok) fun y1 h => ?_
 refine zs 4 h (fun h => ?_) fun h => ?_
 ·
  exact zt 6 h ha
 exact zj 13 h ha
theorem law18_FenceFalls_3_ok {c l_ up sealed i fence known hold begun filled index well b1 b2 fuse down b4 b5} : law18_FenceFalls_W c l_ (.s3 up sealed i fence known hold begun filled index well b1 b2 fuse down b4 b5) (law18_FenceFalls_3 c l_ up sealed i fence known hold begun filled index well b1 b2 fuse down b4 b5) := by
 intro r x h ha; unfold law18_FenceFalls_3 at h
 refine zs 10 h (fun h => ?_) fun h => ?_
 ·
  refine adv_ok hm 7 _ ?_
  have ok2 := fun (y : List Entry) (hy : Target_Log fence known hold begun filled c index well b1 b2 fuse down b4 b5 = some y) => @Eq.mp (Sound E 16 [.ptr 0 0 0] [some ⟨54, true, [([.int .i64 fence] ++ Plan.encL known ([.int .i64 hold.Epoch, .int .i64 hold.Nonce, .int .u64 hold.Grants, .int .i64 hold.Until, .msl 1 0 ((List.map Entry.enc b1).length) ((List.map Entry.enc b1).length) false, .msl 2 0 ((List.map (eSl 1 (eInt .i64)) b2).length) ((List.map (eSl 1 (eInt .i64)) b2).length) false, .int .i64 begun, .int .i64 filled] ++ Config.encL c [.int .i64 index, .ptr 3 0 0, .bool well]))]⟩, some ⟨3, false, (List.map Entry.enc b1)⟩, some ⟨1, false, (List.map (eSl 1 (eInt .i64)) b2)⟩, some ⟨4, true, [[.msl 4 0 ((List.map (eInt .u8) b4).length) ((List.map (eInt .u8) b4).length) false, .msl 5 0 ((List.map (eInt .u8) b5).length) ((List.map (eInt .u8) b5).length) false, .int .i64 fuse, .bool down]]⟩, some ⟨1, false, (List.map (eInt .u8) b4)⟩, some ⟨1, false, (List.map (eInt .u8) b5)⟩] (Rs (Target_Log_e fence known hold begun filled c index well b1 b2 fuse down b4 b5) y)) (Sound E 16 [.ptr 0 0 0] [some ⟨54, true, [([.int .i64 fence] ++ Plan.encL known ([.int .i64 hold.Epoch, .int .i64 hold.Nonce, .int .u64 hold.Grants, .int .i64 hold.Until, .msl 1 0 ((List.map Entry.enc b1).length) ((List.map Entry.enc b1).length) false, .msl 2 0 ((List.map (eSl 1 (eInt .i64)) b2).length) ((List.map (eSl 1 (eInt .i64)) b2).length) false, .int .i64 begun, .int .i64 filled] ++ Config.encL c [.int .i64 index, .ptr 3 0 0, .bool well]))]⟩, some ⟨3, false, (List.map Entry.enc b1)⟩, some ⟨1, false, (List.map (eSl 1 (eInt .i64)) b2)⟩, some ⟨4, true, [[.msl 4 0 ((List.map (eInt .u8) b4).length) ((List.map (eInt .u8) b4).length) false, .msl 5 0 ((List.map (eInt .u8) b5).length) ((List.map (eInt .u8) b5).length) false, .int .i64 fuse, .bool down]]⟩, some ⟨1, false, (List.map (eInt .u8) b4)⟩, some ⟨1, false, (List.map (eInt .u8) b5)⟩] (Rs (Target_Log_e fence known hold begun filled c index well b1 b2 fuse down b4 b5) y)) (by kernel_rfl) (Target_Log_ok hy)
  refine zc 0 [] h ok2 fun y2 h => ?_
  refine zn 9 h fun h => ?_
  refine zr 1 Op.enc h fun y4 h => ?_
  refine adv_ok hm 1 _ ?_
  have ok6 := fun (y : (List Msg) × Int × Plan × Hold × Int × Int × Bool × Int × Bool × (List Entry) × (List (List Int)) × (List Int) × (List Int)) (hy : law18_Fuzz y4 fence known hold begun filled c index well b1 b2 fuse down b4 b5 = some y) => @Eq.mp (Sound E 19 [.ptr 0 0 0, .agg (Op.enc y4)] [some ⟨54, true, [([.int .i64 fence] ++ Plan.encL known ([.int .i64 hold.Epoch, .int .i64 hold.Nonce, .int .u64 hold.Grants, .int .i64 hold.Until, .msl 1 0 ((List.map Entry.enc b1).length) ((List.map Entry.enc b1).length) false, .msl 2 0 ((List.map (eSl 1 (eInt .i64)) b2).length) ((List.map (eSl 1 (eInt .i64)) b2).length) false, .int .i64 begun, .int .i64 filled] ++ Config.encL c [.int .i64 index, .ptr 3 0 0, .bool well]))]⟩, some ⟨3, false, (List.map Entry.enc b1)⟩, some ⟨1, false, (List.map (eSl 1 (eInt .i64)) b2)⟩, some ⟨4, true, [[.msl 4 0 ((List.map (eInt .u8) b4).length) ((List.map (eInt .u8) b4).length) false, .msl 5 0 ((List.map (eInt .u8) b5).length) ((List.map (eInt .u8) b5).length) false, .int .i64 fuse, .bool down]]⟩, some ⟨1, false, (List.map (eInt .u8) b4)⟩, some ⟨1, false, (List.map (eInt .u8) b5)⟩] (Rs (law18_Fuzz_e c index) y)) (Sound E 19 [.ptr 0 0 0, .agg (Op.enc y4)] [some ⟨54, true, [([.int .i64 fence] ++ Plan.encL known ([.int .i64 hold.Epoch, .int .i64 hold.Nonce, .int .u64 hold.Grants, .int .i64 hold.Until, .msl 1 0 ((List.map Entry.enc b1).length) ((List.map Entry.enc b1).length) false, .msl 2 0 ((List.map (eSl 1 (eInt .i64)) b2).length) ((List.map (eSl 1 (eInt .i64)) b2).length) false, .int .i64 begun, .int .i64 filled] ++ Config.encL c [.int .i64 index, .ptr 3 0 0, .bool well]))]⟩, some ⟨3, false, (List.map Entry.enc b1)⟩, some ⟨1, false, (List.map (eSl 1 (eInt .i64)) b2)⟩, some ⟨4, true, [[.msl 4 0 ((List.map (eInt .u8) b4).length) ((List.map (eInt .u8) b4).length) false, .msl 5 0 ((List.map (eInt .u8) b5).length) ((List.map (eInt .u8) b5).length) false, .int .i64 fuse, .bool down]]⟩, some ⟨1, false, (List.map (eInt .u8) b4)⟩, some ⟨1, false, (List.map (eInt .u8) b5)⟩] (Rs (law18_Fuzz_e c index) y)) (by kernel_rfl) (law18_Fuzz_ok hy)
  refine zc 0 [] h ok6 fun y6 h => ?_
  refine adv_ok hm 6 _ ?_
  have ok7 := fun (y : List Entry) (hy : Target_Log y6.2.1 y6.2.2.1 y6.2.2.2.1 y6.2.2.2.2.1 y6.2.2.2.2.2.1 c index y6.2.2.2.2.2.2.1 y6.2.2.2.2.2.2.2.2.2.1 y6.2.2.2.2.2.2.2.2.2.2.1 y6.2.2.2.2.2.2.2.1 y6.2.2.2.2.2.2.2.2.1 y6.2.2.2.2.2.2.2.2.2.2.2.1 y6.2.2.2.2.2.2.2.2.2.2.2.2 = some y) => @Eq.mp (Sound E 16 [.ptr 0 0 0] [some ⟨54, true, [([.int .i64 y6.2.1, .int .i64 y6.2.2.1.Epoch, .int .i64 y6.2.2.1.Target, .int .i64 y6.2.2.1.Prev, .int .i64 y6.2.2.1.Spill, .int .i64 y6.2.2.1.Percent, .int .i64 y6.2.2.1.Stamp, .int .i64 y6.2.2.1.Since, .int .i64 y6.2.2.1.Ramped, .int .u64 y6.2.2.1.Up, .int .u64 y6.2.2.1.Sup, .sl false 1 (List.map (eInt .i64) y6.2.2.1.Pen), .sl false 1 (List.map (eInt .i64) y6.2.2.1.Changes), .int .i64 y6.2.2.2.1.Epoch, .int .i64 y6.2.2.2.1.Nonce, .int .u64 y6.2.2.2.1.Grants, .int .i64 y6.2.2.2.1.Until, .msl 1 0 ((List.map Entry.enc y6.2.2.2.2.2.2.2.2.2.1).length) ((List.map Entry.enc y6.2.2.2.2.2.2.2.2.2.1).length) false, .msl 2 0 ((List.map (eSl 1 (eInt .i64)) y6.2.2.2.2.2.2.2.2.2.2.1).length) ((List.map (eSl 1 (eInt .i64)) y6.2.2.2.2.2.2.2.2.2.2.1).length) false, .int .i64 y6.2.2.2.2.1, .int .i64 y6.2.2.2.2.2.1] ++ Config.encL c [.int .i64 index, .ptr 3 0 0, .bool y6.2.2.2.2.2.2.1])]⟩, some ⟨3, false, (List.map Entry.enc y6.2.2.2.2.2.2.2.2.2.1)⟩, some ⟨1, false, (List.map (eSl 1 (eInt .i64)) y6.2.2.2.2.2.2.2.2.2.2.1)⟩, some ⟨4, true, [[.msl 4 0 ((List.map (eInt .u8) y6.2.2.2.2.2.2.2.2.2.2.2.1).length) ((List.map (eInt .u8) y6.2.2.2.2.2.2.2.2.2.2.2.1).length) false, .msl 5 0 ((List.map (eInt .u8) y6.2.2.2.2.2.2.2.2.2.2.2.2).length) ((List.map (eInt .u8) y6.2.2.2.2.2.2.2.2.2.2.2.2).length) false, .int .i64 y6.2.2.2.2.2.2.2.1, .bool y6.2.2.2.2.2.2.2.2.1]]⟩, some ⟨1, false, (List.map (eInt .u8) y6.2.2.2.2.2.2.2.2.2.2.2.1)⟩, some ⟨1, false, (List.map (eInt .u8) y6.2.2.2.2.2.2.2.2.2.2.2.2)⟩] (Rs (Target_Log_e y6.2.1 y6.2.2.1 y6.2.2.2.1 y6.2.2.2.2.1 y6.2.2.2.2.2.1 c index y6.2.2.2.2.2.2.1 y6.2.2.2.2.2.2.2.2.2.1 y6.2.2.2.2.2.2.2.2.2.2.1 y6.2.2.2.2.2.2.2.1 y6.2.2.2.2.2.2.2.2.1 y6.2.2.2.2.2.2.2.2.2.2.2.1 y6.2.2.2.2.2.2.2.2.2.2.2.2) y)) (Sound E 16 [.ptr 0 0 0] [some ⟨54, true, [([.int .i64 y6.2.1, .int .i64 y6.2.2.1.Epoch, .int .i64 y6.2.2.1.Target, .int .i64 y6.2.2.1.Prev, .int .i64 y6.2.2.1.Spill, .int .i64 y6.2.2.1.Percent, .int .i64 y6.2.2.1.Stamp, .int .i64 y6.2.2.1.Since, .int .i64 y6.2.2.1.Ramped, .int .u64 y6.2.2.1.Up, .int .u64 y6.2.2.1.Sup, .sl false 1 (List.map (eInt .i64) y6.2.2.1.Pen), .sl false 1 (List.map (eInt .i64) y6.2.2.1.Changes), .int .i64 y6.2.2.2.1.Epoch, .int .i64 y6.2.2.2.1.Nonce, .int .u64 y6.2.2.2.1.Grants, .int .i64 y6.2.2.2.1.Until, .msl 1 0 ((List.map Entry.enc y6.2.2.2.2.2.2.2.2.2.1).length) ((List.map Entry.enc y6.2.2.2.2.2.2.2.2.2.1).length) false, .msl 2 0 ((List.map (eSl 1 (eInt .i64)) y6.2.2.2.2.2.2.2.2.2.2.1).length) ((List.map (eSl 1 (eInt .i64)) y6.2.2.2.2.2.2.2.2.2.2.1).length) false, .int .i64 y6.2.2.2.2.1, .int .i64 y6.2.2.2.2.2.1] ++ Config.encL c [.int .i64 index, .ptr 3 0 0, .bool y6.2.2.2.2.2.2.1])]⟩, some ⟨3, false, (List.map Entry.enc y6.2.2.2.2.2.2.2.2.2.1)⟩, some ⟨1, false, (List.map (eSl 1 (eInt .i64)) y6.2.2.2.2.2.2.2.2.2.2.1)⟩, some ⟨4, true, [[.msl 4 0 ((List.map (eInt .u8) y6.2.2.2.2.2.2.2.2.2.2.2.1).length) ((List.map (eInt .u8) y6.2.2.2.2.2.2.2.2.2.2.2.1).length) false, .msl 5 0 ((List.map (eInt .u8) y6.2.2.2.2.2.2.2.2.2.2.2.2).length) ((List.map (eInt .u8) y6.2.2.2.2.2.2.2.2.2.2.2.2).length) false, .int .i64 y6.2.2.2.2.2.2.2.1, .bool y6.2.2.2.2.2.2.2.2.1]]⟩, some ⟨1, false, (List.map (eInt .u8) y6.2.2.2.2.2.2.2.2.2.2.2.1)⟩, some ⟨1, false, (List.map (eInt .u8) y6.2.2.2.2.2.2.2.2.2.2.2.2)⟩] (Rs (Target_Log_e y6.2.1 y6.2.2.1 y6.2.2.2.1 y6.2.2.2.2.1 y6.2.2.2.2.2.1 c index y6.2.2.2.2.2.2.1 y6.2.2.2.2.2.2.2.2.2.1 y6.2.2.2.2.2.2.2.2.2.2.1 y6.2.2.2.2.2.2.2.1 y6.2.2.2.2.2.2.2.2.1 y6.2.2.2.2.2.2.2.2.2.2.2.1 y6.2.2.2.2.2.2.2.2.2.2.2.2) y)) (by kernel_rfl) (Target_Log_ok hy)
  refine zc 0 [] h ok7 fun y7 h => ?_
  exact zj 10 h ha
 exact zt 7 h ha
theorem law18_FenceFalls_4_ok {c l_ up sealed i n x_ log k fence known hold begun filled index well b1 b2 fuse down b4 b5} : law18_FenceFalls_W c l_ (.s4 up sealed i n x_ log k fence known hold begun filled index well b1 b2 fuse down b4 b5) (law18_FenceFalls_4 c l_ up sealed i n x_ log k fence known hold begun filled index well b1 b2 fuse down b4 b5) := by
 intro r x h ha; unfold law18_FenceFalls_4 at h
 refine zs 10 h (fun h => ?_) fun h => ?_
 ·
  refine zn 5 h fun h => ?_
  refine zr 0 Entry.enc h fun y3 h => ?_
  refine zn 0 h fun h => ?_
  refine zr 0 Entry.enc h fun y6 h => ?_
  refine zs 1 h (fun h => ?_) fun h => ?_
  ·
   exact zt 5 h ha
  exact zj 8 h ha
 refine zn 7 h fun h => ?_
 refine zr 2 Op.enc h fun y10 h => ?_
 refine zs 4 h (fun h => ?_) fun h => ?_
 ·
  exact zj 7 h ha
 exact zj 10 h ha
theorem law18_FenceFalls_5_ok {c l_ up sealed i x_ log k fence known hold begun filled index well b1 b2 fuse down b4 b5} : law18_FenceFalls_W c l_ (.s5 up sealed i x_ log k fence known hold begun filled index well b1 b2 fuse down b4 b5) (law18_FenceFalls_5 c l_ up sealed i x_ log k fence known hold begun filled index well b1 b2 fuse down b4 b5) := by
 intro r x h ha; unfold law18_FenceFalls_5 at h
 refine zs 10 h (fun h => ?_) fun h => ?_
 ·
  refine zn 8 h fun h => ?_
  refine zr 2 Entry.enc h fun y3 h => ?_
  refine zs 4 h (fun h => ?_) fun h => ?_
  ·
   exact zt 5 h ha
  exact zj 8 h ha
 exact zj 8 h ha
theorem law18_FenceFalls_6_ok {c l_ up sealed i x_ k fence known hold begun filled index well b1 b2 fuse down b4 b5} : law18_FenceFalls_W c l_ (.s6 up sealed i x_ k fence known hold begun filled index well b1 b2 fuse down b4 b5) (law18_FenceFalls_6 c l_ up sealed i x_ k fence known hold begun filled index well b1 b2 fuse down b4 b5) := by
 intro r x h ha; unfold law18_FenceFalls_6 at h
 refine zs 10 h (fun h => ?_) fun h => ?_
 ·
  refine zn 8 h fun h => ?_
  refine zr 2 Msg.enc h fun y3 h => ?_
  refine zs 3 h (fun h => ?_) fun h => ?_
  ·
   refine zn 5 h fun h => ?_
   refine zr 2 Msg.enc h fun y7 h => ?_
   exact zj 10 h ha
  exact zj 8 h ha
 exact zj 8 h ha
noncomputable def law18_FenceFalls (c : Config) (l_ : List Op) : Option Bool := evf (law18_FenceFalls_step c l_) (.s0)
theorem law18_FenceFalls_ok {c : Config} {l_ : List Op} {r : Bool} (h : law18_FenceFalls c l_ = some r) : Sound E 5 [.agg (Config.enc c), .sl false 29 (List.map Op.enc l_)] [] (Rs law18_FenceFalls_e r) := sc (fn := Tryd.f5) (k := false) (m := 0) (stM := (law18_FenceFalls_M c l_)) h fun s => by
 cases s with
 | s0 => exact law18_FenceFalls_0_ok
 | s1 => exact law18_FenceFalls_1_ok
 | s2 => exact law18_FenceFalls_2_ok
 | s3 => exact law18_FenceFalls_3_ok
 | s4 => exact law18_FenceFalls_4_ok
 | s5 => exact law18_FenceFalls_5_ok
 | s6 => exact law18_FenceFalls_6_ok
end Go.RX.L

set_option linter.unusedSimpArgs false
set_option linter.unusedVariables false
set_option maxRecDepth 100000
namespace Go.RX.L
open Go Go.RX Go.Proofs
theorem law18_FenceFalls_of_t3 {n : Nat} {ds : List D} (h : wtF Tryd.prog (n + 1) 3 ds) : ∃ x : Int, ds = (eInt .i64) x ∧ inK .i64 x := by
  obtain ⟨m, rfl, o⟩ := wt_int (k := .i64) (by kernel_rfl) h
  exact ⟨m, rfl, o⟩
theorem law18_FenceFalls_of_t22 {n : Nat} {ds : List D} (h : wtF Tryd.prog (n + 2) 22 ds) : ∃ x : List Int, ds = (eSl 1 (eInt .i64)) x ∧ (x.length * 8 ≤ reachBytes ∧ ∀ y ∈ x, inK .i64 y) := by
  obtain ⟨rows, rfl, o, w⟩ := wt_slice (n := n + 1) (e := 3) (sz := 1) (by_ := 8) (by kernel_rfl) (by kernel_rfl) (by kernel_rfl) h
  obtain ⟨l, rfl, q⟩ := wt_rows (en := (eInt .i64)) (Ok := fun y => inK .i64 y) (fun r hr => law18_FenceFalls_of_t3 (n := n + 0) hr) rows w
  exact ⟨l, rfl, by simpa using o, q⟩
theorem law18_FenceFalls_of_t2 {n : Nat} {ds : List D} (h : wtF Tryd.prog (n + 1) 2 ds) : ∃ x : Int, ds = (eInt .i64) x ∧ inK .i64 x := by
  obtain ⟨m, rfl, o⟩ := wt_int (k := .i64) (by kernel_rfl) h
  exact ⟨m, rfl, o⟩
theorem law18_FenceFalls_of_t24 {n : Nat} {ds : List D} (h : wtF Tryd.prog (n + 3) 24 ds) : ∃ x : Config, ds = Config.enc x ∧ x.Ok := by
  have h0 := wt_struct (n := n + 2) (ts := [3, 3, 3, 3, 3, 22, 2, 2, 3, 3, 2, 2, 2, 2, 2, 2, 3, 3, 3, 3, 2, 3, 3, 2, 2, 3, 2, 3, 3, 2]) (by kernel_rfl) h
  obtain ⟨a0, b0, rfl, w0, h1⟩ := wtL_cons h0
  obtain ⟨x0, rfl, o0⟩ := law18_FenceFalls_of_t3 (n := n + 1) w0
  obtain ⟨a1, b1, rfl, w1, h2⟩ := wtL_cons h1
  obtain ⟨x1, rfl, o1⟩ := law18_FenceFalls_of_t3 (n := n + 1) w1
  obtain ⟨a2, b2, rfl, w2, h3⟩ := wtL_cons h2
  obtain ⟨x2, rfl, o2⟩ := law18_FenceFalls_of_t3 (n := n + 1) w2
  obtain ⟨a3, b3, rfl, w3, h4⟩ := wtL_cons h3
  obtain ⟨x3, rfl, o3⟩ := law18_FenceFalls_of_t3 (n := n + 1) w3
  obtain ⟨a4, b4, rfl, w4, h5⟩ := wtL_cons h4
  obtain ⟨x4, rfl, o4⟩ := law18_FenceFalls_of_t3 (n := n + 1) w4
  obtain ⟨a5, b5, rfl, w5, h6⟩ := wtL_cons h5
  obtain ⟨x5, rfl, o5⟩ := law18_FenceFalls_of_t22 (n := n + 0) w5
  obtain ⟨a6, b6, rfl, w6, h7⟩ := wtL_cons h6
  obtain ⟨x6, rfl, o6⟩ := law18_FenceFalls_of_t2 (n := n + 1) w6
  obtain ⟨a7, b7, rfl, w7, h8⟩ := wtL_cons h7
  obtain ⟨x7, rfl, o7⟩ := law18_FenceFalls_of_t2 (n := n + 1) w7
  obtain ⟨a8, b8, rfl, w8, h9⟩ := wtL_cons h8
  obtain ⟨x8, rfl, o8⟩ := law18_FenceFalls_of_t3 (n := n + 1) w8
  obtain ⟨a9, b9, rfl, w9, h10⟩ := wtL_cons h9
  obtain ⟨x9, rfl, o9⟩ := law18_FenceFalls_of_t3 (n := n + 1) w9
  obtain ⟨a10, b10, rfl, w10, h11⟩ := wtL_cons h10
  obtain ⟨x10, rfl, o10⟩ := law18_FenceFalls_of_t2 (n := n + 1) w10
  obtain ⟨a11, b11, rfl, w11, h12⟩ := wtL_cons h11
  obtain ⟨x11, rfl, o11⟩ := law18_FenceFalls_of_t2 (n := n + 1) w11
  obtain ⟨a12, b12, rfl, w12, h13⟩ := wtL_cons h12
  obtain ⟨x12, rfl, o12⟩ := law18_FenceFalls_of_t2 (n := n + 1) w12
  obtain ⟨a13, b13, rfl, w13, h14⟩ := wtL_cons h13
  obtain ⟨x13, rfl, o13⟩ := law18_FenceFalls_of_t2 (n := n + 1) w13
  obtain ⟨a14, b14, rfl, w14, h15⟩ := wtL_cons h14
  obtain ⟨x14, rfl, o14⟩ := law18_FenceFalls_of_t2 (n := n + 1) w14
  obtain ⟨a15, b15, rfl, w15, h16⟩ := wtL_cons h15
  obtain ⟨x15, rfl, o15⟩ := law18_FenceFalls_of_t2 (n := n + 1) w15
  obtain ⟨a16, b16, rfl, w16, h17⟩ := wtL_cons h16
  obtain ⟨x16, rfl, o16⟩ := law18_FenceFalls_of_t3 (n := n + 1) w16
  obtain ⟨a17, b17, rfl, w17, h18⟩ := wtL_cons h17
  obtain ⟨x17, rfl, o17⟩ := law18_FenceFalls_of_t3 (n := n + 1) w17
  obtain ⟨a18, b18, rfl, w18, h19⟩ := wtL_cons h18
  obtain ⟨x18, rfl, o18⟩ := law18_FenceFalls_of_t3 (n := n + 1) w18
  obtain ⟨a19, b19, rfl, w19, h20⟩ := wtL_cons h19
  obtain ⟨x19, rfl, o19⟩ := law18_FenceFalls_of_t3 (n := n + 1) w19
  obtain ⟨a20, b20, rfl, w20, h21⟩ := wtL_cons h20
  obtain ⟨x20, rfl, o20⟩ := law18_FenceFalls_of_t2 (n := n + 1) w20
  obtain ⟨a21, b21, rfl, w21, h22⟩ := wtL_cons h21
  obtain ⟨x21, rfl, o21⟩ := law18_FenceFalls_of_t3 (n := n + 1) w21
  obtain ⟨a22, b22, rfl, w22, h23⟩ := wtL_cons h22
  obtain ⟨x22, rfl, o22⟩ := law18_FenceFalls_of_t3 (n := n + 1) w22
  obtain ⟨a23, b23, rfl, w23, h24⟩ := wtL_cons h23
  obtain ⟨x23, rfl, o23⟩ := law18_FenceFalls_of_t2 (n := n + 1) w23
  obtain ⟨a24, b24, rfl, w24, h25⟩ := wtL_cons h24
  obtain ⟨x24, rfl, o24⟩ := law18_FenceFalls_of_t2 (n := n + 1) w24
  obtain ⟨a25, b25, rfl, w25, h26⟩ := wtL_cons h25
  obtain ⟨x25, rfl, o25⟩ := law18_FenceFalls_of_t3 (n := n + 1) w25
  obtain ⟨a26, b26, rfl, w26, h27⟩ := wtL_cons h26
  obtain ⟨x26, rfl, o26⟩ := law18_FenceFalls_of_t2 (n := n + 1) w26
  obtain ⟨a27, b27, rfl, w27, h28⟩ := wtL_cons h27
  obtain ⟨x27, rfl, o27⟩ := law18_FenceFalls_of_t3 (n := n + 1) w27
  obtain ⟨a28, b28, rfl, w28, h29⟩ := wtL_cons h28
  obtain ⟨x28, rfl, o28⟩ := law18_FenceFalls_of_t3 (n := n + 1) w28
  obtain ⟨a29, b29, rfl, w29, h30⟩ := wtL_cons h29
  obtain ⟨x29, rfl, o29⟩ := law18_FenceFalls_of_t2 (n := n + 1) w29
  obtain rfl := wtL_nil h30
  exact ⟨⟨x0, x1, x2, x3, x4, x5, x6, x7, x8, x9, x10, x11, x12, x13, x14, x15, x16, x17, x18, x19, x20, x21, x22, x23, x24, x25, x26, x27, x28, x29⟩, rfl, o0, o1, o2, o3, o4, o5, o6, o7, o8, o9, o10, o11, o12, o13, o14, o15, o16, o17, o18, o19, o20, o21, o22, o23, o24, o25, o26, o27, o28, o29⟩
theorem law18_FenceFalls_of_t32 {n : Nat} {ds : List D} (h : wtF Tryd.prog (n + 1) 32 ds) : ∃ x : Int, ds = (eInt .i64) x ∧ inK .i64 x := by
  obtain ⟨m, rfl, o⟩ := wt_int (k := .i64) (by kernel_rfl) h
  exact ⟨m, rfl, o⟩
theorem law18_FenceFalls_of_t33 {n : Nat} {ds : List D} (h : wtF Tryd.prog (n + 1) 33 ds) : ∃ x : Int, ds = (eInt .u64) x ∧ inK .u64 x := by
  obtain ⟨m, rfl, o⟩ := wt_int (k := .u64) (by kernel_rfl) h
  exact ⟨m, rfl, o⟩
theorem law18_FenceFalls_of_t4 {n : Nat} {ds : List D} (h : wtF Tryd.prog (n + 1) 4 ds) : ∃ x : Bool, ds = eBool x ∧ True := by
  obtain ⟨m, rfl⟩ := wt_bool (by kernel_rfl) h
  exact ⟨m, rfl, trivial⟩
theorem law18_FenceFalls_of_t34 {n : Nat} {ds : List D} (h : wtF Tryd.prog (n + 2) 34 ds) : ∃ x : List Int, ds = (eSl 1 (eInt .i64)) x ∧ (x.length * 8 ≤ reachBytes ∧ ∀ y ∈ x, inK .i64 y) := by
  obtain ⟨rows, rfl, o, w⟩ := wt_slice (n := n + 1) (e := 2) (sz := 1) (by_ := 8) (by kernel_rfl) (by kernel_rfl) (by kernel_rfl) h
  obtain ⟨l, rfl, q⟩ := wt_rows (en := (eInt .i64)) (Ok := fun y => inK .i64 y) (fun r hr => law18_FenceFalls_of_t2 (n := n + 0) hr) rows w
  exact ⟨l, rfl, by simpa using o, q⟩
theorem law18_FenceFalls_of_t36 {n : Nat} {ds : List D} (h : wtF Tryd.prog (n + 3) 36 ds) : ∃ x : Plan, ds = Plan.enc x ∧ x.Ok := by
  have h0 := wt_struct (n := n + 2) (ts := [2, 3, 3, 3, 3, 2, 2, 2, 33, 33, 22, 34]) (by kernel_rfl) h
  obtain ⟨a0, b0, rfl, w0, h1⟩ := wtL_cons h0
  obtain ⟨x0, rfl, o0⟩ := law18_FenceFalls_of_t2 (n := n + 1) w0
  obtain ⟨a1, b1, rfl, w1, h2⟩ := wtL_cons h1
  obtain ⟨x1, rfl, o1⟩ := law18_FenceFalls_of_t3 (n := n + 1) w1
  obtain ⟨a2, b2, rfl, w2, h3⟩ := wtL_cons h2
  obtain ⟨x2, rfl, o2⟩ := law18_FenceFalls_of_t3 (n := n + 1) w2
  obtain ⟨a3, b3, rfl, w3, h4⟩ := wtL_cons h3
  obtain ⟨x3, rfl, o3⟩ := law18_FenceFalls_of_t3 (n := n + 1) w3
  obtain ⟨a4, b4, rfl, w4, h5⟩ := wtL_cons h4
  obtain ⟨x4, rfl, o4⟩ := law18_FenceFalls_of_t3 (n := n + 1) w4
  obtain ⟨a5, b5, rfl, w5, h6⟩ := wtL_cons h5
  obtain ⟨x5, rfl, o5⟩ := law18_FenceFalls_of_t2 (n := n + 1) w5
  obtain ⟨a6, b6, rfl, w6, h7⟩ := wtL_cons h6
  obtain ⟨x6, rfl, o6⟩ := law18_FenceFalls_of_t2 (n := n + 1) w6
  obtain ⟨a7, b7, rfl, w7, h8⟩ := wtL_cons h7
  obtain ⟨x7, rfl, o7⟩ := law18_FenceFalls_of_t2 (n := n + 1) w7
  obtain ⟨a8, b8, rfl, w8, h9⟩ := wtL_cons h8
  obtain ⟨x8, rfl, o8⟩ := law18_FenceFalls_of_t33 (n := n + 1) w8
  obtain ⟨a9, b9, rfl, w9, h10⟩ := wtL_cons h9
  obtain ⟨x9, rfl, o9⟩ := law18_FenceFalls_of_t33 (n := n + 1) w9
  obtain ⟨a10, b10, rfl, w10, h11⟩ := wtL_cons h10
  obtain ⟨x10, rfl, o10⟩ := law18_FenceFalls_of_t22 (n := n + 0) w10
  obtain ⟨a11, b11, rfl, w11, h12⟩ := wtL_cons h11
  obtain ⟨x11, rfl, o11⟩ := law18_FenceFalls_of_t34 (n := n + 0) w11
  obtain rfl := wtL_nil h12
  exact ⟨⟨x0, x1, x2, x3, x4, x5, x6, x7, x8, x9, x10, x11⟩, rfl, o0, o1, o2, o3, o4, o5, o6, o7, o8, o9, o10, o11⟩
theorem law18_FenceFalls_of_t5 {n : Nat} {ds : List D} (h : wtF Tryd.prog (n + 1) 5 ds) : ∃ x : Int, ds = (eInt .u8) x ∧ inK .u8 x := by
  obtain ⟨m, rfl, o⟩ := wt_int (k := .u8) (by kernel_rfl) h
  exact ⟨m, rfl, o⟩
theorem law18_FenceFalls_of_t37 {n : Nat} {ds : List D} (h : wtF Tryd.prog (n + 2) 37 ds) : ∃ x : List Int, ds = (eSl 1 (eInt .u8)) x ∧ (x.length * 1 ≤ reachBytes ∧ ∀ y ∈ x, inK .u8 y) := by
  obtain ⟨rows, rfl, o, w⟩ := wt_slice (n := n + 1) (e := 5) (sz := 1) (by_ := 1) (by kernel_rfl) (by kernel_rfl) (by kernel_rfl) h
  obtain ⟨l, rfl, q⟩ := wt_rows (en := (eInt .u8)) (Ok := fun y => inK .u8 y) (fun r hr => law18_FenceFalls_of_t5 (n := n + 0) hr) rows w
  exact ⟨l, rfl, by simpa using o, q⟩
theorem law18_FenceFalls_of_t39 {n : Nat} {ds : List D} (h : wtF Tryd.prog (n + 4) 39 ds) : ∃ x : Msg, ds = Msg.enc x ∧ x.Ok := by
  have h0 := wt_struct (n := n + 3) (ts := [32, 3, 3, 2, 2, 2, 2, 2, 33, 3, 4, 36, 34, 37, 37]) (by kernel_rfl) h
  obtain ⟨a0, b0, rfl, w0, h1⟩ := wtL_cons h0
  obtain ⟨x0, rfl, o0⟩ := law18_FenceFalls_of_t32 (n := n + 2) w0
  obtain ⟨a1, b1, rfl, w1, h2⟩ := wtL_cons h1
  obtain ⟨x1, rfl, o1⟩ := law18_FenceFalls_of_t3 (n := n + 2) w1
  obtain ⟨a2, b2, rfl, w2, h3⟩ := wtL_cons h2
  obtain ⟨x2, rfl, o2⟩ := law18_FenceFalls_of_t3 (n := n + 2) w2
  obtain ⟨a3, b3, rfl, w3, h4⟩ := wtL_cons h3
  obtain ⟨x3, rfl, o3⟩ := law18_FenceFalls_of_t2 (n := n + 2) w3
  obtain ⟨a4, b4, rfl, w4, h5⟩ := wtL_cons h4
  obtain ⟨x4, rfl, o4⟩ := law18_FenceFalls_of_t2 (n := n + 2) w4
  obtain ⟨a5, b5, rfl, w5, h6⟩ := wtL_cons h5
  obtain ⟨x5, rfl, o5⟩ := law18_FenceFalls_of_t2 (n := n + 2) w5
  obtain ⟨a6, b6, rfl, w6, h7⟩ := wtL_cons h6
  obtain ⟨x6, rfl, o6⟩ := law18_FenceFalls_of_t2 (n := n + 2) w6
  obtain ⟨a7, b7, rfl, w7, h8⟩ := wtL_cons h7
  obtain ⟨x7, rfl, o7⟩ := law18_FenceFalls_of_t2 (n := n + 2) w7
  obtain ⟨a8, b8, rfl, w8, h9⟩ := wtL_cons h8
  obtain ⟨x8, rfl, o8⟩ := law18_FenceFalls_of_t33 (n := n + 2) w8
  obtain ⟨a9, b9, rfl, w9, h10⟩ := wtL_cons h9
  obtain ⟨x9, rfl, o9⟩ := law18_FenceFalls_of_t3 (n := n + 2) w9
  obtain ⟨a10, b10, rfl, w10, h11⟩ := wtL_cons h10
  obtain ⟨x10, rfl, o10⟩ := law18_FenceFalls_of_t4 (n := n + 2) w10
  obtain ⟨a11, b11, rfl, w11, h12⟩ := wtL_cons h11
  obtain ⟨x11, rfl, o11⟩ := law18_FenceFalls_of_t36 (n := n + 0) w11
  obtain ⟨a12, b12, rfl, w12, h13⟩ := wtL_cons h12
  obtain ⟨x12, rfl, o12⟩ := law18_FenceFalls_of_t34 (n := n + 1) w12
  obtain ⟨a13, b13, rfl, w13, h14⟩ := wtL_cons h13
  obtain ⟨x13, rfl, o13⟩ := law18_FenceFalls_of_t37 (n := n + 1) w13
  obtain ⟨a14, b14, rfl, w14, h15⟩ := wtL_cons h14
  obtain ⟨x14, rfl, o14⟩ := law18_FenceFalls_of_t37 (n := n + 1) w14
  obtain rfl := wtL_nil h15
  exact ⟨⟨x0, x1, x2, x3, x4, x5, x6, x7, x8, x9, x10, x11, x12, x13, x14⟩, rfl, o0, o1, o2, o3, o4, o5, o6, o7, o8, o9, o10, o11, o12, o13, o14⟩
theorem law18_FenceFalls_of_t57 {n : Nat} {ds : List D} (h : wtF Tryd.prog (n + 5) 57 ds) : ∃ x : Op, ds = Op.enc x ∧ x.Ok := by
  have h0 := wt_struct (n := n + 4) (ts := [3, 39, 2, 3]) (by kernel_rfl) h
  obtain ⟨a0, b0, rfl, w0, h1⟩ := wtL_cons h0
  obtain ⟨x0, rfl, o0⟩ := law18_FenceFalls_of_t3 (n := n + 3) w0
  obtain ⟨a1, b1, rfl, w1, h2⟩ := wtL_cons h1
  obtain ⟨x1, rfl, o1⟩ := law18_FenceFalls_of_t39 (n := n + 0) w1
  obtain ⟨a2, b2, rfl, w2, h3⟩ := wtL_cons h2
  obtain ⟨x2, rfl, o2⟩ := law18_FenceFalls_of_t2 (n := n + 3) w2
  obtain ⟨a3, b3, rfl, w3, h4⟩ := wtL_cons h3
  obtain ⟨x3, rfl, o3⟩ := law18_FenceFalls_of_t3 (n := n + 3) w3
  obtain rfl := wtL_nil h4
  exact ⟨⟨x0, x1, x2, x3⟩, rfl, o0, o1, o2, o3⟩
theorem law18_FenceFalls_of_t53 {n : Nat} {ds : List D} (h : wtF Tryd.prog (n + 6) 53 ds) : ∃ x : List Op, ds = (eSl 29 Op.enc) x ∧ (x.length * 312 ≤ reachBytes ∧ ∀ y ∈ x, y.Ok) := by
  obtain ⟨rows, rfl, o, w⟩ := wt_slice (n := n + 5) (e := 57) (sz := 29) (by_ := 312) (by kernel_rfl) (by kernel_rfl) (by kernel_rfl) h
  obtain ⟨l, rfl, q⟩ := wt_rows (en := Op.enc) (Ok := fun y => y.Ok) (fun r hr => law18_FenceFalls_of_t57 (n := n + 0) hr) rows w
  exact ⟨l, rfl, by simpa using o, q⟩
theorem law18_FenceFalls_sound (H : ∀ (c : Config) (l_ : List Op), c.Ok → (l_.length * 312 ≤ reachBytes ∧ ∀ y ∈ l_, y.Ok) → law18_FenceFalls c l_ = some true) : ∀ xs, wtA Tryd.prog Tryd.f5.params.toList xs → Sound E 5 xs [] fun d _ => d = .bool true := by
  intro xs h
  have h0 : wtA Tryd.prog [24, 53] xs := h
  obtain ⟨d0, r0, rfl, w0, h1⟩ := wtA_cons h0
  obtain ⟨c0, rfl, v0⟩ := wtP_agg (by kernel_rfl) w0
  obtain ⟨x0, rfl, o0⟩ := law18_FenceFalls_of_t24 (n := 3) v0
  obtain ⟨d1, r1, rfl, w1, h2⟩ := wtA_cons h1
  have v1 := wtP_flat (by kernel_rfl) w1
  obtain ⟨x1, e1, o1⟩ := law18_FenceFalls_of_t53 (n := 0) v1
  obtain ⟨rfl, -⟩ := List.cons.inj e1
  obtain rfl := wtA_nil h2
  exact (law18_FenceFalls_ok (H x0 x1 o0 o1)).mono fun d s h => h.1
end Go.RX.L

set_option linter.unusedSimpArgs false
set_option linter.unusedVariables false
set_option maxRecDepth 100000
namespace Go.RX.L
open Go Go.RX
theorem tk_f (x : TR) (m : Msg) : x.f ≤ (tk x m).f := by
  unfold tk takeT
  split
  · simp only [mxI]; split <;> omega
  · split
    · simp only [mxI]; split <;> omega
    · split <;> exact Int.le_refl _
theorem tkF_f (x : TR) (m : Msg) : m.Epoch ≤ (tk x (recF m)).f := by
  have : (tk x (recF m)).f = mxI x.f m.Epoch := rfl
  rw [this]; unfold mxI; split <;> omega
theorem say15 {c : Config} {index fence : Int} {l : List Entry} {cl : List (List Int)} {z : TZ} {m : Msg} {now : Int} {out : List Msg} (h : WAct c index fence l cl z m now (.say out)) : ∀ y ∈ out, y.Kind = 15 := by
  cases h with
  | short h => exact fun y hy => by cases hy
  | had e h1 h2 h3 => exact fun y hy => by rw [List.mem_singleton.1 hy]; rfl
  | shut h1 h2 h3 => exact fun y hy => by rw [List.mem_singleton.1 hy]; rfl
  | late h1 h2 h3 h4 => exact fun y hy => by cases hy
theorem step_falls {c : Config} {index : Int} {a a' : TS} {o : Op} {out : List Msg} (hup : a.down = false → a.x = replayT a.rs) (h : FStep c index a o out a') :
    (replayT a.rs).f ≤ (replayT a'.rs).f ∧ (andI .i64 o.What 7 ≠ 3 → a'.x.l = a.x.l ∨ ∃ e : Entry, a'.x.l = a.x.l ++ [e] ∧ (replayT a.rs).f ≤ e.Epoch) ∧ (∀ y ∈ out, y.Kind = 13 → y.Epoch ≤ (replayT a'.rs).f) := by
  have nil : ∀ y ∈ ([] : List Msg), y.Kind = 13 → y.Epoch ≤ (replayT a'.rs).f := fun y hy => by cases hy
  cases h with
  | fuse h => exact ⟨Int.le_refl _, fun _ => .inl rfl, nil⟩
  | crash h hd hx hz hs =>
    refine ⟨?_, fun _ => .inl (by rw [hx]), nil⟩
    cases hs with
    | none => exact Int.le_refl _
    | one hp => rw [replayT_app]; exact tk_f _ _
  | back h hs =>
    refine ⟨?_, fun hh => absurd h hh, nil⟩
    cases hs with
    | up => exact Int.le_refl _
    | fail => exact Int.le_refl _
  | tick h hs =>
    cases hs with
    | idle => exact ⟨Int.le_refl _, fun _ => .inl rfl, nil⟩
    | ask h1 h2 h3 h4 =>
      refine ⟨Int.le_refl _, fun _ => .inl rfl, fun y hy hk => ?_⟩
      simp only [askL, List.mem_map] at hy
      obtain ⟨k, -, rfl⟩ := hy
      cases hk
  | flip w h => exact ⟨Int.le_refl _, fun _ => .inl rfl, nil⟩
  | msg _ _ _ _ _ hs =>
    cases hs with
    | off h => exact ⟨Int.le_refl _, fun _ => .inl rfl, nil⟩
    | same h1 h2 => exact ⟨Int.le_refl _, fun _ => .inl rfl, nil⟩
    | known => exact ⟨Int.le_refl _, fun _ => .inl rfl, nil⟩
    | grant => exact ⟨Int.le_refl _, fun _ => .inl rfl, nil⟩
    | alive => exact ⟨Int.le_refl _, fun _ => .inl rfl, fun y hy hk => by rw [List.mem_singleton.1 hy] at hk; cases hk⟩
    | sealed hd hv k he hle => exact ⟨Int.le_refl _, fun _ => .inl rfl, fun y hy hk => by rw [List.mem_singleton.1 hy, ← hup hd]; exact hle⟩
    | said hd hv k hw => exact ⟨Int.le_refl _, fun _ => .inl rfl, fun y hy hk => by rw [say15 hw y hy] at hk; cases hk⟩
    | lost p hd hv hn hp => exact ⟨Int.le_refl _, fun _ => .inl rfl, nil⟩
    | kept hd hv hn =>
      have hx := hup hd
      refine ⟨by rw [replayT_app]; exact tk_f _ _, fun _ => ?_, ?_⟩
      · cases hn with
        | fnc h1 h2 h3 => left; simp only [tk, takeT, recF, if_true]
        | wr h1 hw =>
          cases hw with
          | write h2 h3 h4 h5 h6 h7 h8 h9 =>
            refine .inr ⟨⟨_, _, _⟩, by simp only [tk, takeT, recW, show ¬ ((14 : Int) = 19) by decide, if_false, if_true]; rfl, ?_⟩
            rw [← hx]; exact h7
          | full h2 h3 h4 h5 h6 h7 h8 h9 => left; simp only [tk, takeT, recC, show ¬ ((18 : Int) = 19) by decide, show ¬ ((18 : Int) = 14) by decide, if_false, if_true]
          | close h2 h3 h4 h5 h6 => left; simp only [tk, takeT, recC, show ¬ ((18 : Int) = 19) by decide, show ¬ ((18 : Int) = 14) by decide, if_false, if_true]
      · cases hn with
        | fnc h1 h2 h3 =>
          intro y hy hk
          rw [List.mem_singleton.1 hy, replayT_app]
          exact tkF_f _ _
        | wr h1 hw =>
          have : ∀ y ∈ out, y.Kind = 15 := by
            cases hw with
            | write h2 h3 h4 h5 h6 h7 h8 h9 => exact fun y hy => by rw [List.mem_singleton.1 hy]; rfl
            | full h2 h3 h4 h5 h6 h7 h8 h9 => exact fun y hy => by rw [List.mem_singleton.1 hy]; rfl
            | close h2 h3 h4 h5 h6 => exact fun y hy => by rw [List.mem_singleton.1 hy]; rfl
          exact fun y hy hk => by rw [this y hy] at hk; cases hk
theorem nltT {l : List Op} {i : Nat} (h : l.length ≤ i) : decide ((i : Int) < (((List.map Op.enc l).length : Nat) : Int)) = false := by simp; omega
theorem oltT {l : List Op} {i : Nat} (h : i < l.length) : decide ((i : Int) < (((List.map Op.enc l).length : Nat) : Int)) = true := by simp; omega
theorem wS1T {i : Nat} (h : i ≤ 200000) : IntKind.i64.wrap ((i : Int) + 1) = ((i + 1 : Nat) : Int) := by rw [wI64 (by omega) (by omega)]; norm_cast
theorem greatT {l : List Op} (h : l.length ≤ 150) : law18_Great l = some false := by
  have : decide ((l.length : Int) > 150) = false := by simp; omega
  simp only [law18_Great, List.length_map, this]
theorem greatF {l : List Op} (h : ¬ l.length ≤ 150) : law18_Great l = some true := by
  have : decide ((l.length : Int) > 150) = true := by simp; omega
  simp only [law18_Great, List.length_map, this]
theorem fenceFalls (c : Config) (l_ : List Op) (hc : c.Ok) (hl : l_.length * 312 ≤ reachBytes ∧ ∀ y ∈ l_, y.Ok) : law18_FenceFalls c l_ = some true := by
  have ht : c.Tiers.length < 9223372036854775807 := by
    obtain ⟨-, -, -, -, -, ⟨h1, -⟩, -⟩ := hc
    exact short h1
  have hnew := new_ok (c := c) (index := 0) ht
  by_cases hr : ¬ rightC c = true
  · rw [if_neg (fun h => hr h.1)] at hnew
    exact evf_of (.next (s' := .s1 true) (by simp only [law18_FenceFalls_step, law18_FenceFalls_0, head18_ok, hnew, Option.bind_some]) (.done rfl))
  rw [Classical.not_not] at hr
  rw [if_pos ⟨hr, by decide, by have := (rightC_n hr).2.2; omega⟩] at hnew
  refine evf_of (.next (s' := .s2 true (aT c).x.f (aT c).z.known (aT c).z.hold (aT c).z.begun (aT c).z.filled 0 (aT c).well (aT c).x.l (aT c).x.cl (-1) (aT c).down [] []) (by simp only [law18_FenceFalls_step, law18_FenceFalls_0, head18_ok, hnew, Option.bind_some, aT]) ?_)
  by_cases hg : ¬ l_.length ≤ 150
  · exact .done (by simp only [law18_FenceFalls_step, law18_FenceFalls_2, greatF hg, Option.bind_some, cond_true])
  rw [Classical.not_not] at hg
  refine .next (s' := .s3 true 0 ((0 : Nat) : Int) (aT c).x.f (aT c).z.known (aT c).z.hold (aT c).z.begun (aT c).z.filled 0 (aT c).well (aT c).x.l (aT c).x.cl (-1) (aT c).down [] []) (by simp only [law18_FenceFalls_step, law18_FenceFalls_2, greatT hg, Option.bind_some, cond_false]; rfl) ?_
  have loop : ∀ (j i : Nat) (a : TS) (fuse : Int) (s t : List Int) (sl : Int), i + j = l_.length → RepT a fuse s t i → sl ≤ (replayT a.rs).f → Ev (law18_FenceFalls_step c l_) (.s3 true sl (i : Int) a.x.f a.z.known a.z.hold a.z.begun a.z.filled 0 a.well a.x.l a.x.cl fuse a.down s t) true := by
    intro j
    induction j with
    | zero =>
      intro i a fuse s t sl hi h hx
      exact .done (by simp only [law18_FenceFalls_step, law18_FenceFalls_3, nltT (show l_.length ≤ i by omega), cond_false])
    | succ j ih =>
      intro i a fuse s t sl hi h hx
      have hlt : i < l_.length := by omega
      have w := wS1T (show i ≤ 200000 by omega)
      obtain ⟨out, a', fuse', s', t', he, hrep, hst⟩ := fuzz_ok (index := 0) h (hl.2 _ (List.getElem_mem hlt)) hr ht (by decide) (by omega)
      obtain ⟨f1, f2, f3⟩ := step_falls h.up hst
      have lg1 := logT_ok (c := c) (index := 0) (l := a.x.l) (fuse := fuse) (s := s) (t := t) (by have := h.ml; omega) h.km.len h.km.pay (f := a.x.f) (known := a.z.known) (hold := a.z.hold) (begun := a.z.begun) (filled := a.z.filled) (w := a.well) (cl := a.x.cl) (d := a.down)
      have lg2 := logT_ok (c := c) (index := 0) (l := a'.x.l) (fuse := fuse') (s := s') (t := t') (by have := hrep.ml; omega) hrep.km.len hrep.km.pay (f := a'.x.f) (known := a'.z.known) (hold := a'.z.hold) (begun := a'.z.begun) (filled := a'.z.filled) (w := a'.well) (cl := a'.x.cl) (d := a'.down)
      have ml := hrep.ml
      refine .next (s' := .s4 true sl (i : Int) (a.x.l.length : Int) out a'.x.l ((1 : Nat) : Int) a'.x.f a'.z.known a'.z.hold a'.z.begun a'.z.filled 0 a'.well a'.x.l a'.x.cl fuse' a'.down s' t') ?_ ?_
      · simp only [law18_FenceFalls_step, law18_FenceFalls_3, oltT hlt, ltB hlt, cond_true, lg1, Option.bind_some, le0, Bool.and_self, Int.toNat_natCast, List.getE hlt, he, lg2, List.length_map]
        rfl
      have rest : ∀ sl, sl ≤ (replayT a'.rs).f → Ev (law18_FenceFalls_step c l_) (.s3 true sl ((i + 1 : Nat) : Int) a'.x.f a'.z.known a'.z.hold a'.z.begun a'.z.filled 0 a'.well a'.x.l a'.x.cl fuse' a'.down s' t') true := fun sl hsl => ih (i + 1) a' fuse' s' t' sl (by omega) hrep hsl
      have st6 : ∀ (q k : Nat) (sl : Int), k + q = out.length → sl ≤ (replayT a'.rs).f → Ev (law18_FenceFalls_step c l_) (.s6 true sl (i : Int) out (k : Int) a'.x.f a'.z.known a'.z.hold a'.z.begun a'.z.filled 0 a'.well a'.x.l a'.x.cl fuse' a'.down s' t') true := by
        intro q
        induction q with
        | zero =>
          intro k sl hk hsl
          have : decide ((k : Int) < (out.length : Int)) = false := by simp; omega
          exact .next (s' := .s3 true sl ((i + 1 : Nat) : Int) a'.x.f a'.z.known a'.z.hold a'.z.begun a'.z.filled 0 a'.well a'.x.l a'.x.cl fuse' a'.down s' t') (by simp only [law18_FenceFalls_step, law18_FenceFalls_6, List.length_map, this, cond_false, w]) (rest sl hsl)
        | succ q ihq =>
          intro k sl hk hsl
          have hko : k < out.length := by omega
          have ol : out.length ≤ 100 := by
            cases hst with
            | tick h hs =>
              cases hs with
              | idle => simp
              | ask => obtain ⟨x1, -, -⟩ := rightC_n hr; simp only [askL, List.length_map, List.length_range]; omega
            | msg _ _ _ _ _ hs =>
              cases hs with
              | said hd hv k hw => cases hw <;> simp
              | kept hd hv hn => cases hn with
                | fnc => simp
                | wr h1 hw => cases hw <;> simp
              | _ => simp
            | _ => simp
          have wk := wS1T (show k ≤ 200000 by omega)
          by_cases h13 : (out[k]).Kind = 13
          · refine .next (s' := .s6 true (mxI sl (out[k]).Epoch) (i : Int) out ((k + 1 : Nat) : Int) a'.x.f a'.z.known a'.z.hold a'.z.begun a'.z.filled 0 a'.well a'.x.l a'.x.cl fuse' a'.down s' t') ?_ (ihq (k + 1) _ (by omega) ?_)
            · simp only [law18_FenceFalls_step, law18_FenceFalls_6, List.length_map, ltB hko, cond_true, le0, Bool.and_self, Int.toNat_natCast, List.getE hko, Option.bind_some, beq_iff_eq.2 h13, wk]
            · have := f3 _ (List.getElem_mem hko) h13
              unfold mxI; split <;> omega
          · refine .next (s' := .s6 true sl (i : Int) out ((k + 1 : Nat) : Int) a'.x.f a'.z.known a'.z.hold a'.z.begun a'.z.filled 0 a'.well a'.x.l a'.x.cl fuse' a'.down s' t') ?_ (ihq (k + 1) _ (by omega) hsl)
            simp only [law18_FenceFalls_step, law18_FenceFalls_6, List.length_map, ltB hko, cond_true, cond_false, le0, Bool.and_self, Int.toNat_natCast, List.getE hko, Option.bind_some, beqF h13, wk]
      have st5 : (∀ (k : Nat) (h : k < a'.x.l.length), a.x.l.length ≤ k → sl ≤ (a'.x.l[k]).Epoch) → ∀ (q k : Nat), k + q = a'.x.l.length → a.x.l.length ≤ k → Ev (law18_FenceFalls_step c l_) (.s5 true sl (i : Int) out a'.x.l (k : Int) a'.x.f a'.z.known a'.z.hold a'.z.begun a'.z.filled 0 a'.well a'.x.l a'.x.cl fuse' a'.down s' t') true := by
        intro hall q
        induction q with
        | zero =>
          intro k hk _
          have : decide ((k : Int) < (a'.x.l.length : Int)) = false := by simp; omega
          exact .next (s' := .s6 true sl (i : Int) out ((0 : Nat) : Int) a'.x.f a'.z.known a'.z.hold a'.z.begun a'.z.filled 0 a'.well a'.x.l a'.x.cl fuse' a'.down s' t') (by simp only [law18_FenceFalls_step, law18_FenceFalls_5, List.length_map, this, cond_false]; rfl) (st6 out.length 0 sl (by omega) (by omega))
        | succ q ihq =>
          intro k hk hak
          have hko : k < a'.x.l.length := by omega
          have wk := wS1T (show k ≤ 200000 by omega)
          have hge := hall k hko hak
          have g : decide ((a'.x.l[k]).Epoch < sl) = false := by simp; omega
          refine .next (s' := .s5 true sl (i : Int) out a'.x.l ((k + 1 : Nat) : Int) a'.x.f a'.z.known a'.z.hold a'.z.begun a'.z.filled 0 a'.well a'.x.l a'.x.cl fuse' a'.down s' t') ?_ (ihq (k + 1) (by omega) (by omega))
          simp only [law18_FenceFalls_step, law18_FenceFalls_5, List.length_map, ltB hko, cond_true, cond_false, le0, Bool.and_self, Int.toNat_natCast, List.getE hko, Option.bind_some, g, wk]
      have st4 : ∀ (q k : Nat), k + q = a'.x.l.length + 1 → 1 ≤ k → Ev (law18_FenceFalls_step c l_) (.s4 true sl (i : Int) (a.x.l.length : Int) out a'.x.l (k : Int) a'.x.f a'.z.known a'.z.hold a'.z.begun a'.z.filled 0 a'.well a'.x.l a'.x.cl fuse' a'.down s' t') true := by
        have fin : ∀ k : Nat, a'.x.l.length ≤ k → Ev (law18_FenceFalls_step c l_) (.s4 true sl (i : Int) (a.x.l.length : Int) out a'.x.l (k : Int) a'.x.f a'.z.known a'.z.hold a'.z.begun a'.z.filled 0 a'.well a'.x.l a'.x.cl fuse' a'.down s' t') true := by
          intro k hk
          have g : decide ((k : Int) < (a'.x.l.length : Int)) = false := by simp; omega
          by_cases h3 : andI .i64 (l_[i]).What 7 = 3
          · exact .next (s' := .s3 true sl ((i + 1 : Nat) : Int) a'.x.f a'.z.known a'.z.hold a'.z.begun a'.z.filled 0 a'.well a'.x.l a'.x.cl fuse' a'.down s' t') (by simp only [law18_FenceFalls_step, law18_FenceFalls_4, List.length_map, g, cond_false, ltB hlt, cond_true, le0, Bool.and_self, Int.toNat_natCast, List.getE hlt, Option.bind_some, beq_iff_eq.2 h3, w]) (rest sl (by omega))
          · refine .next (s' := .s5 true sl (i : Int) out a'.x.l (a.x.l.length : Int) a'.x.f a'.z.known a'.z.hold a'.z.begun a'.z.filled 0 a'.well a'.x.l a'.x.cl fuse' a'.down s' t') (by simp only [law18_FenceFalls_step, law18_FenceFalls_4, List.length_map, g, cond_false, ltB hlt, cond_true, le0, Bool.and_self, Int.toNat_natCast, List.getE hlt, Option.bind_some, beqF h3]) ?_
            rcases f2 h3 with e | ⟨e, e1, e2⟩
            · exact st5 (fun k hk hak => by rw [e] at hk; omega) (a'.x.l.length - a.x.l.length) a.x.l.length (by rw [e]; omega) (by omega)
            · refine st5 (fun k hk hak => ?_) (a'.x.l.length - a.x.l.length) a.x.l.length (by rw [e1, List.length_append]; omega) (by omega)
              have hk2 : k = a.x.l.length := by rw [e1] at hk; simp at hk; omega
              have : a'.x.l[k] = e := by simp [e1, hk2]
              rw [this]; omega
        intro q
        induction q with
        | zero => intro k hk _; exact fin k (by omega)
        | succ q ihq =>
          intro k hk h1
          by_cases hkl : a'.x.l.length ≤ k
          · exact fin k hkl
          have hko : k < a'.x.l.length := by omega
          have hk1 : k - 1 < a'.x.l.length := by omega
          have wk := wS1T (show k ≤ 200000 by omega)
          have wm : IntKind.i64.wrap ((k : Int) - 1) = ((k - 1 : Nat) : Int) := by rw [wI64 (by omega) (by omega)]; omega
          have hle : (a'.x.l[k - 1]).Epoch ≤ (a'.x.l[k]).Epoch := List.pairwise_iff_getElem.1 hrep.km.srt (k - 1) k hk1 hko (by omega)
          have g : decide ((a'.x.l[k - 1]).Epoch > (a'.x.l[k]).Epoch) = false := by simp; omega
          refine .next (s' := .s4 true sl (i : Int) (a.x.l.length : Int) out a'.x.l ((k + 1 : Nat) : Int) a'.x.f a'.z.known a'.z.hold a'.z.begun a'.z.filled 0 a'.well a'.x.l a'.x.cl fuse' a'.down s' t') ?_ (ihq (k + 1) (by omega) (by omega))
          simp only [law18_FenceFalls_step, law18_FenceFalls_4, List.length_map, ltB hko, ltB hk1, wm, cond_true, cond_false, le0, Bool.and_self, Int.toNat_natCast, List.getE hko, List.getE hk1, Option.bind_some, g, wk]
      exact st4 a'.x.l.length 1 (by omega) (by omega)
  exact loop l_.length 0 (aT c) (-1) [] [] 0 (by omega) rep_newT (by simp [aT, replayT])
end Go.RX.L
