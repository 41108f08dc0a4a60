/-
  Words and walks for FenceLeased. No condition.
-/
import Derived.Test.YtflpengopdhhhaaDoorFenceLeasedY6
set_option linter.unusedSectionVars false
set_option linter.unnecessarySimpa false
set_option linter.unusedSimpArgs false
set_option linter.unusedVariables false
set_option maxRecDepth 100000
set_option maxHeartbeats 4000000
namespace Go.RX.L
open Go Go.RX Go.Proofs
attribute [local irreducible] FinQ
noncomputable def msg_Right_c := codeAt (bodyOf Tryd.f30)
noncomputable def msg_Right_e (y : Bool) : D × Sto := (.bool y, [])
abbrev msg_Right_W := AOk E (Cx.of Tryd.f30 false 0) msg_Right_e
noncomputable def msg_Right_1M (t30 : Bool) (m : Msg) : M := ⟨[.code (msg_Right_c [1, 0, 0, 1, 1, 1]), .blk 0, .code (msg_Right_c [1, 1])], [(1, .ptr 0 0 0), (30, .bool t30)], [some ⟨26, false, [(Msg.enc m)]⟩]⟩
noncomputable def msg_Right_1 (t30 : Bool) (m : Msg) : Option Bool := (bif t30 then (some false) else (bif m.HasPlan then ((plan_Right m.Plan).bind fun y3 => (some y3)) else ((plan_Same m.Plan (⟨0, 0, 0, 0, 0, 0, 0, 0, 0, 0, [], []⟩ : Plan)).bind fun y4 => (some y4))))
theorem msg_Right_1_ok {t30 m} : msg_Right_W (msg_Right_1M t30 m) (msg_Right_1 t30 m) := by
 intro r h; unfold msg_Right_1 at h
 refine zs 1 h (fun h => ?_) fun h => ?_
 ·
  exact zu 5 h
 refine zs 8 h (fun h => ?_) fun h => ?_
 ·
  refine zc 6 [] h (fun _ => plan_Right_ok) fun y3 h => ?_
  exact zu 3 h
 refine zc 9 [some 1, some 1] h (fun _ => plan_Same_ok) fun y4 h => ?_
 exact zu 3 h
noncomputable def msg_Right_2M (t30 : Bool) (m : Msg) : M := ⟨[.code (msg_Right_c [1, 0, 0, 1, 1, 0, 1]), .code (msg_Right_c [1, 0, 0, 1, 1, 1]), .blk 0, .code (msg_Right_c [1, 1])], [(1, .ptr 0 0 0), (30, .bool t30)], [some ⟨26, false, [(Msg.enc m)]⟩]⟩
noncomputable def msg_Right_2 (t30 : Bool) (m : Msg) : Option Bool := (bif t30 then (msg_Right_1 t30 m) else (bif (decide (((((List.map (eInt .u8) m.Session).length : Nat) : Int) : Int) > 64)) then (msg_Right_1 (decide (((((List.map (eInt .u8) m.Session).length : Nat) : Int) : Int) > 64)) m) else (msg_Right_1 (decide (((((List.map (eInt .u8) m.Payload).length : Nat) : Int) : Int) > 1024)) m)))
theorem msg_Right_2_ok {t30 m} : msg_Right_W (msg_Right_2M t30 m) (msg_Right_2 t30 m) := by
 intro r h; unfold msg_Right_2 at h
 refine zs 1 h (fun h => ?_) fun h => ?_
 ·
  exact zg 1 (msg_Right_1_ok h)
 refine zs 10 h (fun h => ?_) fun h => ?_
 ·
  exact zg 1 (msg_Right_1_ok h)
 exact zg 8 (msg_Right_1_ok h)
noncomputable def msg_Right_3M (t3 : Bool) (m : Msg) : M := ⟨[.code (msg_Right_c [1, 0, 0, 1]), .blk 0, .code (msg_Right_c [1, 1])], [(1, .ptr 0 0 0), (3, .bool t3)], [some ⟨26, false, [(Msg.enc m)]⟩]⟩
noncomputable def msg_Right_3 (t3 : Bool) (m : Msg) : Option Bool := (bif t3 then (some false) else (bif (decide (((((List.map (eInt .i64) m.ID).length : Nat) : Int) : Int) > 0)) then (msg_Right_2 (((((List.map (eInt .i64) m.ID).length : Nat) : Int) : Int) != 3) m) else (msg_Right_2 false m)))
theorem msg_Right_3_ok {t3 m} : msg_Right_W (msg_Right_3M t3 m) (msg_Right_3 t3 m) := by
 intro r h; unfold msg_Right_3 at h
 refine zs 1 h (fun h => ?_) fun h => ?_
 ·
  exact zu 5 h
 refine zs 10 h (fun h => ?_) fun h => ?_
 ·
  exact zg 11 (msg_Right_2_ok h)
 exact zg 10 (msg_Right_2_ok h)
noncomputable def msg_Right (m : Msg) : Option Bool := (bif (decide ((m.Kind : Int) < 1)) then (msg_Right_3 (decide ((m.Kind : Int) < 1)) m) else (bif (decide ((m.Kind : Int) > 19)) then (msg_Right_3 (decide ((m.Kind : Int) > 19)) m) else (bif (decide (((mnI (mnI m.From m.To) m.Code) : Int) < 0)) then (msg_Right_3 (decide (((mnI (mnI m.From m.To) m.Code) : Int) < 0)) m) else (bif (decide (((mxI m.From m.To) : Int) > 255)) then (msg_Right_3 (decide (((mxI m.From m.To) : Int) > 255)) m) else (bif (decide ((m.Code : Int) > 1000)) then (msg_Right_3 (decide ((m.Code : Int) > 1000)) m) else (msg_Right_3 (decide ((m.Up : Int) ≥ 65536)) m))))))
theorem msg_Right_ok {m : Msg} {r : Bool} (h : msg_Right m = some r) : Sound E 30 [.agg [.int .i64 m.Kind, .int .i64 m.From, .int .i64 m.To, .int .i64 m.Epoch, .int .i64 m.Ballot, .int .i64 m.Accepted, .int .i64 m.Nonce, .int .i64 m.Time, .int .u64 m.Up, .int .i64 m.Code, .bool m.HasPlan, .int .i64 m.Plan.Epoch, .int .i64 m.Plan.Target, .int .i64 m.Plan.Prev, .int .i64 m.Plan.Spill, .int .i64 m.Plan.Percent, .int .i64 m.Plan.Stamp, .int .i64 m.Plan.Since, .int .i64 m.Plan.Ramped, .int .u64 m.Plan.Up, .int .u64 m.Plan.Sup, .sl false 1 (List.map (eInt .i64) m.Plan.Pen), .sl false 1 (List.map (eInt .i64) m.Plan.Changes), .sl false 1 (List.map (eInt .i64) m.ID), .sl false 1 (List.map (eInt .u8) m.Session), .sl false 1 (List.map (eInt .u8) m.Payload)]] [] (Rs msg_Right_e r) := so (fn := Tryd.f30) (k := false) (m := 0) h <| by
 intro r h; unfold msg_Right at h
 refine zs 17 h (fun h => ?_) fun h => ?_
 ·
  exact zg 1 (msg_Right_3_ok h)
 refine zs 9 h (fun h => ?_) fun h => ?_
 ·
  exact zg 1 (msg_Right_3_ok h)
 refine zs 16 h (fun h => ?_) fun h => ?_
 ·
  exact zg 1 (msg_Right_3_ok h)
 refine zs 13 h (fun h => ?_) fun h => ?_
 ·
  exact zg 1 (msg_Right_3_ok h)
 refine zs 9 h (fun h => ?_) fun h => ?_
 ·
  exact zg 1 (msg_Right_3_ok h)
 exact zg 7 (msg_Right_3_ok h)
end Go.RX.L

namespace Go.RX.L
open Go Go.RX Go.Proofs
attribute [local irreducible] FinQ
noncomputable def plan_Get_c := codeAt (bodyOf Tryd.f86)
noncomputable def plan_Get_e (y : Plan × Int) : D × Sto := (.tup [.agg [.int .i64 y.1.Epoch, .int .i64 y.1.Target, .int .i64 y.1.Prev, .int .i64 y.1.Spill, .int .i64 y.1.Percent, .int .i64 y.1.Stamp, .int .i64 y.1.Since, .int .i64 y.1.Ramped, .int .u64 y.1.Up, .int .u64 y.1.Sup, .sl false 1 (List.map (eInt .i64) y.1.Pen), .sl false 1 (List.map (eInt .i64) y.1.Changes)], .int .i64 y.2], [])
inductive plan_Get_S where
 | s0 (b : List Int)
 | s1 (b : List Int) (at_ t12 : Int) (b0 : Plan) (lists : List (List Int))
 | s2 (l_ : List Int) (t67 : Bool) (b0 : Plan) (lists : List (List Int))
 | s3 (t105 : List Int) (t106 t107 : Int) (b0 : Plan) (Epoch_ Target_ : Int) (Prev_ Spill_ : Int) (Percent_ Stamp_ : Int) (Since_ Ramped_ : Int) (Up_ Sup_ : Int) (Changes_ b2 : List Int)
noncomputable def plan_Get_M : plan_Get_S → M
 | .s0 b => startM Tryd.f86 [.sl false 1 (List.map (eInt .u8) b)] []
 | .s1 b at_ t12 b0 lists => ⟨[.lpc (plan_Get_c [1, 1, 1, 0, 1, 0, 0]) 4149, .blk 0, .code (plan_Get_c [1, 1, 1, 1])], [(0, .sl false 1 (List.map (eInt .u8) b)), (2, .ptr 0 0 0), (4, .ptr 1 0 0), (5, .int .i64 at_), (12, .int .i64 t12)], [some ⟨12, false, [(Plan.enc b0)]⟩, some ⟨1, false, (List.map (eSl 1 (eInt .i64)) lists)⟩]⟩
 | .s2 l_ t67 b0 lists => ⟨[.code (plan_Get_c [1, 1, 1, 1, 1, 0, 1]), .code (plan_Get_c [1, 1, 1, 1, 1, 1])], [(2, .ptr 0 0 0), (4, .ptr 1 0 0), (8, .sl false 1 (List.map (eInt .i64) l_)), (67, .bool t67)], [some ⟨12, false, [(Plan.enc b0)]⟩, some ⟨1, false, (List.map (eSl 1 (eInt .i64)) lists)⟩]⟩
 | .s3 t105 t106 t107 b0 Epoch_ Target_ Prev_ Spill_ Percent_ Stamp_ Since_ Ramped_ Up_ Sup_ Changes_ b2 => ⟨[.lpc (plan_Get_c [1, 1, 1, 1, 1, 1, 1, 0, 1, 0, 0]) 283953734451123385935261518004740, .blk 2, .code (plan_Get_c [1, 1, 1, 1, 1, 1, 1, 1])], [(2, .ptr 0 0 0), (9, .ptr 1 0 0), (105, .sl false 1 (List.map (eInt .i64) t105)), (106, .int .i64 t106), (107, .int .i64 t107)], [some ⟨12, false, [(Plan.enc b0)]⟩, some ⟨12, true, [[.int .i64 Epoch_, .int .i64 Target_, .int .i64 Prev_, .int .i64 Spill_, .int .i64 Percent_, .int .i64 Stamp_, .int .i64 Since_, .int .i64 Ramped_, .int .u64 Up_, .int .u64 Sup_, (grD 2 (List.map (eInt .i64) b2)), .sl false 1 (List.map (eInt .i64) Changes_)]]⟩, some ⟨1, false, (List.map (eInt .i64) b2)⟩]⟩
abbrev plan_Get_W := SOk E (Cx.of Tryd.f86 false 0) plan_Get_e plan_Get_M
noncomputable def plan_Get_0 (b : List Int) : Option (plan_Get_S ⊕ (Plan × Int)) := (some (.inl (.s1 b 0 0 (⟨0, 0, 0, 0, 0, 0, 0, 0, 0, 0, [], []⟩ : Plan) ([[], [], []]))))
noncomputable def plan_Get_1 (b : List Int) (at_ t12 : Int) (b0 : Plan) (lists : List (List Int)) : Option (plan_Get_S ⊕ (Plan × Int)) := (bif (decide ((t12 : Int) < 3)) then ((wire_Ints b at_).bind fun y2 => (bif ((decide ((0 : Int) ≤ t12)) && (decide ((t12 : Int) < ((3 : Nat) : Int)))) then (((lists)[(0 + t12.toNat)]?).bind fun y4 => (bif ((y2.2.2 : Int) != 0) then (some (.inr ((⟨0, 0, 0, 0, 0, 0, 0, 0, 0, 0, [], []⟩ : Plan), 41))) else (some (.inl (.s1 b y2.2.1 (IntKind.i64.wrap (t12 + 1)) b0 (List.set lists (0 + t12.toNat) y2.1)))))) else none)) else (((lists)[0]?).bind fun y7 => (bif ((at_ : Int) != (((List.map (eInt .u8) b).length : Nat) : Int)) then (some (.inl (.s2 y7 true b0 lists))) else (bif (((((List.map (eInt .i64) y7).length : Nat) : Int) : Int) != 10) then (some (.inl (.s2 y7 true b0 lists))) else (bif (decide ((1 : Int) < (((List.map (eInt .i64) y7).length : Nat) : Int))) then (((y7)[1]?).bind fun y12 => (bif (decide ((2 : Int) < (((List.map (eInt .i64) y7).length : Nat) : Int))) then (((y7)[2]?).bind fun y15 => (bif (decide ((3 : Int) < (((List.map (eInt .i64) y7).length : Nat) : Int))) then (((y7)[3]?).bind fun y18 => (bif (decide ((4 : Int) < (((List.map (eInt .i64) y7).length : Nat) : Int))) then (((y7)[4]?).bind fun y21 => ((plan_all (-1) 1048576 ([y12, y15, y18, y21])).bind fun y23 => (bif (!y23) then (some (.inl (.s2 y7 true b0 lists))) else (bif (decide ((8 : Int) ≤ (((List.map (eInt .i64) y7).length : Nat) : Int))) then ((plan_all 0 1048576 (List.drop 8 (List.take ((List.map (eInt .i64) y7).length) y7))).bind fun y26 => (bif (!y26) then (some (.inl (.s2 y7 true b0 lists))) else (((lists)[1]?).bind fun y28 => ((plan_all 0 1000000 y28).bind fun y30 => (some (.inl (.s2 y7 (!y30) b0 lists))))))) else none)))) else none)) else none)) else none)) else none)))))
noncomputable def plan_Get_2 (l_ : List Int) (t67 : Bool) (b0 : Plan) (lists : List (List Int)) : Option (plan_Get_S ⊕ (Plan × Int)) := (bif t67 then (some (.inr ((⟨0, 0, 0, 0, 0, 0, 0, 0, 0, 0, [], []⟩ : Plan), 41))) else (bif (decide ((0 : Int) < (((List.map (eInt .i64) l_).length : Nat) : Int))) then (((l_)[0]?).bind fun y3 => (bif (decide ((1 : Int) < (((List.map (eInt .i64) l_).length : Nat) : Int))) then (((l_)[1]?).bind fun y6 => (bif (decide ((2 : Int) < (((List.map (eInt .i64) l_).length : Nat) : Int))) then (((l_)[2]?).bind fun y9 => (bif (decide ((3 : Int) < (((List.map (eInt .i64) l_).length : Nat) : Int))) then (((l_)[3]?).bind fun y12 => (bif (decide ((4 : Int) < (((List.map (eInt .i64) l_).length : Nat) : Int))) then (((l_)[4]?).bind fun y15 => (bif (decide ((5 : Int) < (((List.map (eInt .i64) l_).length : Nat) : Int))) then (((l_)[5]?).bind fun y18 => (bif (decide ((6 : Int) < (((List.map (eInt .i64) l_).length : Nat) : Int))) then (((l_)[6]?).bind fun y21 => (bif (decide ((7 : Int) < (((List.map (eInt .i64) l_).length : Nat) : Int))) then (((l_)[7]?).bind fun y24 => (bif (decide ((8 : Int) < (((List.map (eInt .i64) l_).length : Nat) : Int))) then (((l_)[8]?).bind fun y27 => (bif (decide ((9 : Int) < (((List.map (eInt .i64) l_).length : Nat) : Int))) then (((l_)[9]?).bind fun y30 => (((lists)[2]?).bind fun y32 => (((lists)[1]?).bind fun y34 => (some (.inl (.s3 y34 (((List.map (eInt .i64) y34).length : Nat) : Int) 0 b0 y3 y6 y9 y12 y15 y18 y21 y24 (IntKind.u64.wrap (y27)) (IntKind.u64.wrap (y30)) y32 ([]))))))) else none)) else none)) else none)) else none)) else none)) else none)) else none)) else none)) else none)) else none))
noncomputable def plan_Get_3 (t105 : List Int) (t106 t107 : Int) (b0 : Plan) (Epoch_ Target_ : Int) (Prev_ Spill_ : Int) (Percent_ Stamp_ : Int) (Since_ Ramped_ : Int) (Up_ Sup_ : Int) (Changes_ b2 : List Int) : Option (plan_Get_S ⊕ (Plan × Int)) := (bif (decide ((t107 : Int) < t106)) then (bif ((decide ((0 : Int) ≤ t107)) && (decide ((t107 : Int) < (((List.map (eInt .i64) t105).length : Nat) : Int)))) then (((t105)[t107.toNat]?).bind fun y3 => (bif (decide (((List.map (eInt .i64) b2).length + 1) * 8 ≤ bytesLim)) then (some (.inl (.s3 t105 t106 (IntKind.i64.wrap (t107 + 1)) b0 Epoch_ Target_ Prev_ Spill_ Percent_ Stamp_ Since_ Ramped_ Up_ Sup_ Changes_ (b2 ++ [y3])))) else none)) else none) else ((plan_Right (⟨Epoch_, Target_, Prev_, Spill_, Percent_, Stamp_, Since_, Ramped_, Up_, Sup_, b2, Changes_⟩ : Plan)).bind fun y6 => (bif (!y6) then (some (.inr ((⟨0, 0, 0, 0, 0, 0, 0, 0, 0, 0, [], []⟩ : Plan), 41))) else (some (.inr ((⟨Epoch_, Target_, Prev_, Spill_, Percent_, Stamp_, Since_, Ramped_, Up_, Sup_, b2, Changes_⟩ : Plan), 0))))))
noncomputable def plan_Get_step : plan_Get_S → Option (plan_Get_S ⊕ (Plan × Int))
 | .s0 b => plan_Get_0 b
 | .s1 b at_ t12 b0 lists => plan_Get_1 b at_ t12 b0 lists
 | .s2 l_ t67 b0 lists => plan_Get_2 l_ t67 b0 lists
 | .s3 t105 t106 t107 b0 Epoch_ Target_ Prev_ Spill_ Percent_ Stamp_ Since_ Ramped_ Up_ Sup_ Changes_ b2 => plan_Get_3 t105 t106 t107 b0 Epoch_ Target_ Prev_ Spill_ Percent_ Stamp_ Since_ Ramped_ Up_ Sup_ Changes_ b2
theorem plan_Get_0_ok {b} : plan_Get_W (.s0 b) (plan_Get_0 b) := by
 intro r x h ha; unfold plan_Get_0 at h
 exact zk 21 h ha [.blk 0 [some 1, some 1], .blk 1 [some 1, some 1, some 1]]
theorem plan_Get_1_ok {b at_ t12 b0 lists} : plan_Get_W (.s1 b at_ t12 b0 lists) (plan_Get_1 b at_ t12 b0 lists) := by
 intro r x h ha; unfold plan_Get_1 at h
 refine zs 7 h (fun h => ?_) fun h => ?_
 ·
  refine zc 18 [] h (fun _ => wire_Ints_ok) fun y2 h => ?_
  refine zn 5 h fun h => ?_
  refine zr 1 (eSl 1 (eInt .i64)) h fun y4 h => ?_
  refine zw 0 (a := (List.set (List.map (eSl 1 (eInt .i64)) lists) (0 + t12.toNat) ((eSl 1 (eInt .i64)) y2.1))) (b := (List.map (eSl 1 (eInt .i64)) (List.set lists (0 + t12.toNat) y2.1))) (rows_set _ _ _ _) ?_
  refine zs 9 h (fun h => ?_) fun h => ?_
  ·
   exact zt 10 h ha [.slot 0 [some 1, some 1]]
  exact zj 7 h ha
 refine zr 6 (eSl 1 (eInt .i64)) h fun y7 h => ?_
 refine zs 5 h (fun h => ?_) fun h => ?_
 ·
  exact zk 29 h ha
 refine zs 3 h (fun h => ?_) fun h => ?_
 ·
  exact zk 25 h ha
 refine zn 1 h fun h => ?_
 refine zr 1 (eInt .i64) h fun y12 h => ?_
 refine zn 2 h fun h => ?_
 refine zr 1 (eInt .i64) h fun y15 h => ?_
 refine zn 2 h fun h => ?_
 refine zr 1 (eInt .i64) h fun y18 h => ?_
 refine zn 2 h fun h => ?_
 refine zr 1 (eInt .i64) h fun y21 h => ?_
 refine zd 3 [] h (fun _ => plan_all_ok) fun y23 h => ?_
 refine zs 2 h (fun h => ?_) fun h => ?_
 ·
  exact zk 9 h ha
 refine zn 1 h fun h => ?_
 refine zw 0 (a := (List.drop 8 (List.take ((List.map (eInt .i64) y7).length) (List.map (eInt .i64) y7)))) (b := (List.map (eInt .i64) (List.drop 8 (List.take ((List.map (eInt .i64) y7).length) y7)))) (rows_cut _ _ _ _) ?_
 refine zd 1 [] h (fun _ => plan_all_ok) fun y26 h => ?_
 refine zs 2 h (fun h => ?_) fun h => ?_
 ·
  exact zk 4 h ha
 refine zr 2 (eSl 1 (eInt .i64)) h fun y28 h => ?_
 refine zd 1 [] h (fun _ => plan_all_ok) fun y30 h => ?_
 exact zk 2 h ha
theorem plan_Get_2_ok {l_ t67 b0 lists} : plan_Get_W (.s2 l_ t67 b0 lists) (plan_Get_2 l_ t67 b0 lists) := by
 intro r x h ha; unfold plan_Get_2 at h
 refine zs 1 h (fun h => ?_) fun h => ?_
 ·
  exact zt 10 h ha [.slot 0 [some 1, some 1]]
 refine zn 3 h fun h => ?_
 refine zr 0 (eInt .i64) h fun y3 h => ?_
 refine zn 0 h fun h => ?_
 refine zr 0 (eInt .i64) h fun y6 h => ?_
 refine zn 0 h fun h => ?_
 refine zr 0 (eInt .i64) h fun y9 h => ?_
 refine zn 0 h fun h => ?_
 refine zr 0 (eInt .i64) h fun y12 h => ?_
 refine zn 0 h fun h => ?_
 refine zr 0 (eInt .i64) h fun y15 h => ?_
 refine zn 0 h fun h => ?_
 refine zr 0 (eInt .i64) h fun y18 h => ?_
 refine zn 0 h fun h => ?_
 refine zr 0 (eInt .i64) h fun y21 h => ?_
 refine zn 0 h fun h => ?_
 refine zr 0 (eInt .i64) h fun y24 h => ?_
 refine zn 0 h fun h => ?_
 refine zr 0 (eInt .i64) h fun y27 h => ?_
 refine zn 0 h fun h => ?_
 refine zr 0 (eInt .i64) h fun y30 h => ?_
 refine zr 1 (eSl 1 (eInt .i64)) h fun y32 h => ?_
 refine zr 8 (eSl 1 (eInt .i64)) h fun y34 h => ?_
 refine adv_ok hm 6 _ ?_
 obtain rfl := Option.some.inj h
 refine r_cut 283953734451123385935261518004740 [.matc 1 0 10 1] (m' := ⟨[.lpc (plan_Get_c [1, 1, 1, 1, 1, 1, 1, 0, 1, 0, 0]) 283953734451123385935261518004740, .blk 2, .code (plan_Get_c [1, 1, 1, 1, 1, 1, 1, 1])], [(2, .ptr 0 0 0), (9, .ptr 1 0 0), (105, .sl false 1 (List.map (eInt .i64) y34)), (106, .int .i64 (((List.map (eInt .i64) y34).length : Nat) : Int)), (107, .int .i64 0)], [some ⟨12, false, [(Plan.enc b0)]⟩, some ⟨12, true, [[.int .i64 y3, .int .i64 y6, .int .i64 y9, .int .i64 y12, .int .i64 y15, .int .i64 y18, .int .i64 y21, .int .i64 y24, .int .u64 (IntKind.u64.wrap (y27)), .int .u64 (IntKind.u64.wrap (y30)), .msl 2 0 0 0 false, .sl false 1 (List.map (eInt .i64) y32)]]⟩, some ⟨1, false, []⟩]⟩) (by kernel_rfl) ?_
 refine r_len (n1 := 0) (n2 := (List.map (eInt .i64) ([])).length) (fun n_len => .go ⟨[.lpc (plan_Get_c [1, 1, 1, 1, 1, 1, 1, 0, 1, 0, 0]) 283953734451123385935261518004740, .blk 2, .code (plan_Get_c [1, 1, 1, 1, 1, 1, 1, 1])], [(2, .ptr 0 0 0), (9, .ptr 1 0 0), (105, .sl false 1 (List.map (eInt .i64) y34)), (106, .int .i64 (((List.map (eInt .i64) y34).length : Nat) : Int)), (107, .int .i64 0)], [some ⟨12, false, [(Plan.enc b0)]⟩, some ⟨12, true, [[.int .i64 y3, .int .i64 y6, .int .i64 y9, .int .i64 y12, .int .i64 y15, .int .i64 y18, .int .i64 y21, .int .i64 y24, .int .u64 (IntKind.u64.wrap (y27)), .int .u64 (IntKind.u64.wrap (y30)), .msl 2 0 n_len n_len false, .sl false 1 (List.map (eInt .i64) y32)]]⟩, some ⟨1, false, []⟩]⟩) (by simp) ?_
 exact ha
theorem plan_Get_3_ok {t105 t106 t107 b0 Epoch_ Target_ Prev_ Spill_ Percent_ Stamp_ Since_ Ramped_ Up_ Sup_ Changes_ b2} : plan_Get_W (.s3 t105 t106 t107 b0 Epoch_ Target_ Prev_ Spill_ Percent_ Stamp_ Since_ Ramped_ Up_ Sup_ Changes_ b2) (plan_Get_3 t105 t106 t107 b0 Epoch_ Target_ Prev_ Spill_ Percent_ Stamp_ Since_ Ramped_ Up_ Sup_ Changes_ b2) := by
 intro r x h ha; unfold plan_Get_3 at h
 refine zs 7 h (fun h => ?_) fun h => ?_
 ·
  refine zn 6 h fun h => ?_
  refine zr 1 (eInt .i64) h fun y3 h => ?_
  refine zn 10 h fun h => ?_
  refine za 0 (eInt .i64) b2 ([y3]) ?_
  exact zj 11 h ha
 refine zm 7 (b := (Nat.ble (0 + (List.map (eInt .i64) b2).length) ((List.map (eInt .i64) b2).length))) (ble_full _) ?_
 refine zcE 0 [] (args1 := [.agg [.int .i64 Epoch_, .int .i64 Target_, .int .i64 Prev_, .int .i64 Spill_, .int .i64 Percent_, .int .i64 Stamp_, .int .i64 Since_, .int .i64 Ramped_, .int .u64 Up_, .int .u64 Sup_, .sl false 1 (List.take ((List.map (eInt .i64) b2).length) (List.drop 0 (List.map (eInt .i64) b2))), .sl false 1 (List.map (eInt .i64) Changes_)]]) h (fun _ => plan_Right_ok) ⟨by simp [List.take_of_length_le, List.map_take, List.map_drop], rfl⟩ fun y6 h => ?_
 refine zs 3 h (fun h => ?_) fun h => ?_
 ·
  exact zt 10 h ha [.slot 0 [some 1, some 1]]
 refine zm 12 (b := (Nat.ble (0 + (List.map (eInt .i64) b2).length) ((List.map (eInt .i64) b2).length))) (ble_full _) ?_
 obtain rfl := Option.some.inj h
 have hv := ha
 simp only [After] at hv
 subst hv
 exact r_retE [] (d1 := .tup [.agg [.int .i64 Epoch_, .int .i64 Target_, .int .i64 Prev_, .int .i64 Spill_, .int .i64 Percent_, .int .i64 Stamp_, .int .i64 Since_, .int .i64 Ramped_, .int .u64 Up_, .int .u64 Sup_, .sl false 1 (List.take ((List.map (eInt .i64) b2).length) (List.drop 0 (List.map (eInt .i64) b2))), .sl false 1 (List.map (eInt .i64) Changes_)], .int .i64 0]) (d := .tup [.agg [.int .i64 Epoch_, .int .i64 Target_, .int .i64 Prev_, .int .i64 Spill_, .int .i64 Percent_, .int .i64 Stamp_, .int .i64 Since_, .int .i64 Ramped_, .int .u64 Up_, .int .u64 Sup_, .sl false 1 (List.map (eInt .i64) b2), .sl false 1 (List.map (eInt .i64) Changes_)], .int .i64 0]) (s1 := []) (s := []) (by kernel_rfl) ⟨by simp [List.take_of_length_le, List.map_take, List.map_drop], rfl⟩ ⟨rfl, rfl⟩ Cx.fin_of
noncomputable def plan_Get (b : List Int) : Option (Plan × Int) := evf plan_Get_step (.s0 b)
theorem plan_Get_ok {b : List Int} {r : Plan × Int} (h : plan_Get b = some r) : Sound E 86 [.sl false 1 (List.map (eInt .u8) b)] [] (Rs plan_Get_e r) := sc (fn := Tryd.f86) (k := false) (m := 0) (stM := plan_Get_M) h fun s => by
 cases s with
 | s0 => exact plan_Get_0_ok
 | s1 => exact plan_Get_1_ok
 | s2 => exact plan_Get_2_ok
 | s3 => exact plan_Get_3_ok
end Go.RX.L

namespace Go.RX.L
open Go Go.RX Go.Proofs
attribute [local irreducible] FinQ
noncomputable def msg_Of_c := codeAt (bodyOf Tryd.f63)
noncomputable def msg_Of_e (y : Msg × Int) : D × Sto := (.tup [.agg [.int .i64 y.1.Kind, .int .i64 y.1.From, .int .i64 y.1.To, .int .i64 y.1.Epoch, .int .i64 y.1.Ballot, .int .i64 y.1.Accepted, .int .i64 y.1.Nonce, .int .i64 y.1.Time, .int .u64 y.1.Up, .int .i64 y.1.Code, .bool y.1.HasPlan, .int .i64 y.1.Plan.Epoch, .int .i64 y.1.Plan.Target, .int .i64 y.1.Plan.Prev, .int .i64 y.1.Plan.Spill, .int .i64 y.1.Plan.Percent, .int .i64 y.1.Plan.Stamp, .int .i64 y.1.Plan.Since, .int .i64 y.1.Plan.Ramped, .int .u64 y.1.Plan.Up, .int .u64 y.1.Plan.Sup, .sl false 1 (List.map (eInt .i64) y.1.Plan.Pen), .sl false 1 (List.map (eInt .i64) y.1.Plan.Changes), .sl false 1 (List.map (eInt .i64) y.1.ID), .sl false 1 (List.map (eInt .u8) y.1.Session), .sl false 1 (List.map (eInt .u8) y.1.Payload)], .int .i64 y.2], [])
abbrev msg_Of_W := AOk E (Cx.of Tryd.f63 false 0) msg_Of_e
noncomputable def msg_Of_2M (t149 : Bool) (b0 m : Msg) : M := ⟨[.code (msg_Of_c [1, 1, 1, 1, 1, 1, 1, 1, 1, 0, 1]), .code (msg_Of_c [1, 1, 1, 1, 1, 1, 1, 1, 1, 1])], [(4, .ptr 0 0 0), (8, .ptr 1 0 0), (149, .bool t149)], [some ⟨26, false, [(Msg.enc b0)]⟩, some ⟨26, false, [(Msg.enc m)]⟩]⟩
noncomputable def msg_Of_2 (t149 : Bool) (b0 m : Msg) : Option (Msg × Int) := (bif t149 then (some ((⟨0, 0, 0, 0, 0, 0, 0, 0, 0, 0, false, (⟨0, 0, 0, 0, 0, 0, 0, 0, 0, 0, [], []⟩ : Plan), [], [], []⟩ : Msg), 51)) else (some (m, 0)))
theorem msg_Of_2_ok {t149 b0 m} : msg_Of_W (msg_Of_2M t149 b0 m) (msg_Of_2 t149 b0 m) := by
 intro r h; unfold msg_Of_2 at h
 refine zs 1 h (fun h => ?_) fun h => ?_
 ·
  exact zu 10 h [.slot 0 [some 1, some 1, some 1, some 1, some 1]]
 exact zu 12 h
noncomputable def msg_Of_3M (body : List Int) (b0 : Msg) (r_ : readerT) (m : Msg) : M := ⟨[.code (msg_Of_c [1, 1, 1, 1, 1, 1])], [(1, .sl false 1 (List.map (eInt .u8) body)), (4, .ptr 0 0 0), (6, .ptr 1 0 0), (8, .ptr 2 0 0)], [some ⟨26, false, [(Msg.enc b0)]⟩, some ⟨3, false, [[.int .i64 r_.place.at_, .int .i64 r_.place.e, .sl false 1 (List.map (eInt .u8) r_.b)]]⟩, some ⟨26, false, [(Msg.enc m)]⟩]⟩
noncomputable def msg_Of_3 (body : List Int) (b0 : Msg) (r_ : readerT) (m : Msg) : Option (Msg × Int) := ((msg_reader_ints r_).bind fun y1 => ((msg_reader_text y1.2).bind fun y2 => ((msg_reader_text y2.2).bind fun y3 => (bif ((y3.2.place.e : Int) != 0) then (msg_Of_2 true b0 (⟨m.Kind, m.From, m.To, m.Epoch, m.Ballot, m.Accepted, m.Nonce, m.Time, m.Up, m.Code, m.HasPlan, m.Plan, y1.1, y2.1, y3.1⟩ : Msg)) else (bif ((y3.2.place.at_ : Int) != (((List.map (eInt .u8) body).length : Nat) : Int)) then (msg_Of_2 true b0 (⟨m.Kind, m.From, m.To, m.Epoch, m.Ballot, m.Accepted, m.Nonce, m.Time, m.Up, m.Code, m.HasPlan, m.Plan, y1.1, y2.1, y3.1⟩ : Msg)) else ((msg_Right (⟨m.Kind, m.From, m.To, m.Epoch, m.Ballot, m.Accepted, m.Nonce, m.Time, m.Up, m.Code, m.HasPlan, m.Plan, y1.1, y2.1, y3.1⟩ : Msg)).bind fun y6 => (msg_Of_2 (!y6) b0 (⟨m.Kind, m.From, m.To, m.Epoch, m.Ballot, m.Accepted, m.Nonce, m.Time, m.Up, m.Code, m.HasPlan, m.Plan, y1.1, y2.1, y3.1⟩ : Msg))))))))
theorem msg_Of_3_ok {body b0 r_ m} : msg_Of_W (msg_Of_3M body b0 r_ m) (msg_Of_3 body b0 r_ m) := by
 intro r h; unfold msg_Of_3 at h
 refine zc 4 [] h (fun _ => msg_reader_ints_ok) fun y1 h => ?_
 refine zc 9 [] h (fun _ => msg_reader_text_ok) fun y2 h => ?_
 refine zc 9 [] h (fun _ => msg_reader_text_ok) fun y3 h => ?_
 refine zs 17 h (fun h => ?_) fun h => ?_
 ·
  exact zg 26 (msg_Of_2_ok h)
 refine zs 19 h (fun h => ?_) fun h => ?_
 ·
  exact zg 7 (msg_Of_2_ok h)
 refine zc 3 [] h (fun _ => msg_Right_ok) fun y6 h => ?_
 exact zg 5 (msg_Of_2_ok h)
noncomputable def msg_Of_1M (kind : Int) (body l_ : List Int) (t70 : Bool) (b0 : Msg) (r_ : readerT) : M := ⟨[.code (msg_Of_c [1, 1, 1, 0, 1]), .code (msg_Of_c [1, 1, 1, 1])], [(0, .int .u8 kind), (1, .sl false 1 (List.map (eInt .u8) body)), (4, .ptr 0 0 0), (6, .ptr 1 0 0), (7, .sl false 1 (List.map (eInt .i64) l_)), (70, .bool t70)], [some ⟨26, false, [(Msg.enc b0)]⟩, some ⟨3, false, [[.int .i64 r_.place.at_, .int .i64 r_.place.e, .sl false 1 (List.map (eInt .u8) r_.b)]]⟩]⟩
noncomputable def msg_Of_1 (kind : Int) (body l_ : List Int) (t70 : Bool) (b0 : Msg) (r_ : readerT) : Option (Msg × Int) := (bif t70 then (some ((⟨0, 0, 0, 0, 0, 0, 0, 0, 0, 0, false, (⟨0, 0, 0, 0, 0, 0, 0, 0, 0, 0, [], []⟩ : Plan), [], [], []⟩ : Msg), 51)) else (bif (decide ((0 : Int) < (((List.map (eInt .i64) l_).length : Nat) : Int))) then (((l_)[0]?).bind fun y3 => (bif (decide ((1 : Int) < (((List.map (eInt .i64) l_).length : Nat) : Int))) then (((l_)[1]?).bind fun y6 => (bif (decide ((2 : Int) < (((List.map (eInt .i64) l_).length : Nat) : Int))) then (((l_)[2]?).bind fun y9 => (bif (decide ((3 : Int) < (((List.map (eInt .i64) l_).length : Nat) : Int))) then (((l_)[3]?).bind fun y12 => (bif (decide ((4 : Int) < (((List.map (eInt .i64) l_).length : Nat) : Int))) then (((l_)[4]?).bind fun y15 => (bif (decide ((5 : Int) < (((List.map (eInt .i64) l_).length : Nat) : Int))) then (((l_)[5]?).bind fun y18 => (bif (decide ((6 : Int) < (((List.map (eInt .i64) l_).length : Nat) : Int))) then (((l_)[6]?).bind fun y21 => (bif (decide ((7 : Int) < (((List.map (eInt .i64) l_).length : Nat) : Int))) then (((l_)[7]?).bind fun y24 => (bif (decide ((8 : Int) < (((List.map (eInt .i64) l_).length : Nat) : Int))) then (((l_)[8]?).bind fun y27 => (bif (decide ((9 : Int) < (((List.map (eInt .i64) l_).length : Nat) : Int))) then (((l_)[9]?).bind fun y30 => (bif ((y30 : Int) == 1) then ((msg_reader_text r_).bind fun y33 => ((plan_Get y33.1).bind fun y34 => (bif ((y34.2 : Int) != 0) then (some ((⟨0, 0, 0, 0, 0, 0, 0, 0, 0, 0, false, (⟨0, 0, 0, 0, 0, 0, 0, 0, 0, 0, [], []⟩ : Plan), [], [], []⟩ : Msg), 51)) else (msg_Of_3 body b0 y33.2 (⟨(IntKind.i64.wrap (kind)), y3, y6, y9, y12, y15, y18, y21, (IntKind.u64.wrap (y24)), y27, ((y30 : Int) == 1), y34.1, [], [], []⟩ : Msg))))) else (msg_Of_3 body b0 r_ (⟨(IntKind.i64.wrap (kind)), y3, y6, y9, y12, y15, y18, y21, (IntKind.u64.wrap (y24)), y27, ((y30 : Int) == 1), (⟨0, 0, 0, 0, 0, 0, 0, 0, 0, 0, [], []⟩ : Plan), [], [], []⟩ : Msg)))) else none)) else none)) else none)) else none)) else none)) else none)) else none)) else none)) else none)) else none))
theorem msg_Of_1_ok {kind body l_ t70 b0 r_} : msg_Of_W (msg_Of_1M kind body l_ t70 b0 r_) (msg_Of_1 kind body l_ t70 b0 r_) := by
 intro r h; unfold msg_Of_1 at h
 refine zs 1 h (fun h => ?_) fun h => ?_
 ·
  exact zu 10 h [.slot 0 [some 1, some 1, some 1, some 1, some 1]]
 refine zn 3 h fun h => ?_
 refine zr 0 (eInt .i64) h fun y3 h => ?_
 refine zn 0 h fun h => ?_
 refine zr 0 (eInt .i64) h fun y6 h => ?_
 refine zn 0 h fun h => ?_
 refine zr 0 (eInt .i64) h fun y9 h => ?_
 refine zn 0 h fun h => ?_
 refine zr 0 (eInt .i64) h fun y12 h => ?_
 refine zn 0 h fun h => ?_
 refine zr 0 (eInt .i64) h fun y15 h => ?_
 refine zn 0 h fun h => ?_
 refine zr 0 (eInt .i64) h fun y18 h => ?_
 refine zn 0 h fun h => ?_
 refine zr 0 (eInt .i64) h fun y21 h => ?_
 refine zn 0 h fun h => ?_
 refine zr 0 (eInt .i64) h fun y24 h => ?_
 refine zn 0 h fun h => ?_
 refine zr 0 (eInt .i64) h fun y27 h => ?_
 refine zn 7 h fun h => ?_
 refine zr 1 (eInt .i64) h fun y30 h => ?_
 refine zs 13 h (fun h => ?_) fun h => ?_
 ·
  refine zc 8 [] h (fun _ => msg_reader_text_ok) fun y33 h => ?_
  refine zc 1 [] h (fun _ => plan_Get_ok) fun y34 h => ?_
  refine zs 15 h (fun h => ?_) fun h => ?_
  ·
   exact zu 10 h [.slot 0 [some 1, some 1, some 1, some 1, some 1]]
  exact zg 1 (msg_Of_3_ok h) [.blk 2 [some 1, some 1, some 1]]
 exact zg 1 (msg_Of_3_ok h) [.blk 2 [some 1, some 1, some 1, some 1, some 1]]
noncomputable def msg_Of (kind : Int) (body : List Int) : Option (Msg × Int) := ((msg_reader_ints (⟨(⟨0, 0⟩ : placeT), body⟩ : readerT)).bind fun y1 => (bif ((y1.2.place.e : Int) != 0) then (msg_Of_1 kind body y1.1 true (⟨0, 0, 0, 0, 0, 0, 0, 0, 0, 0, false, (⟨0, 0, 0, 0, 0, 0, 0, 0, 0, 0, [], []⟩ : Plan), [], [], []⟩ : Msg) y1.2) else (bif (((((List.map (eInt .i64) y1.1).length : Nat) : Int) : Int) != 10) then (msg_Of_1 kind body y1.1 true (⟨0, 0, 0, 0, 0, 0, 0, 0, 0, 0, false, (⟨0, 0, 0, 0, 0, 0, 0, 0, 0, 0, [], []⟩ : Plan), [], [], []⟩ : Msg) y1.2) else (bif (decide ((0 : Int) < (((List.map (eInt .i64) y1.1).length : Nat) : Int))) then (((y1.1)[0]?).bind fun y5 => (bif (decide ((1 : Int) < (((List.map (eInt .i64) y1.1).length : Nat) : Int))) then (((y1.1)[1]?).bind fun y8 => (bif (decide ((7 : Int) < (((List.map (eInt .i64) y1.1).length : Nat) : Int))) then (((y1.1)[7]?).bind fun y11 => (bif (decide ((8 : Int) < (((List.map (eInt .i64) y1.1).length : Nat) : Int))) then (((y1.1)[8]?).bind fun y14 => (bif (decide ((9 : Int) < (((List.map (eInt .i64) y1.1).length : Nat) : Int))) then (((y1.1)[9]?).bind fun y17 => (bif (decide (((mnI (mnI (mnI (mnI y5 y8) y11) y14) y17) : Int) < 0)) then (msg_Of_1 kind body y1.1 true (⟨0, 0, 0, 0, 0, 0, 0, 0, 0, 0, false, (⟨0, 0, 0, 0, 0, 0, 0, 0, 0, 0, [], []⟩ : Plan), [], [], []⟩ : Msg) y1.2) else (bif (decide ((0 : Int) < (((List.map (eInt .i64) y1.1).length : Nat) : Int))) then (((y1.1)[0]?).bind fun y21 => (bif (decide ((1 : Int) < (((List.map (eInt .i64) y1.1).length : Nat) : Int))) then (((y1.1)[1]?).bind fun y24 => (bif (decide (((mxI y21 y24) : Int) > 255)) then (msg_Of_1 kind body y1.1 true (⟨0, 0, 0, 0, 0, 0, 0, 0, 0, 0, false, (⟨0, 0, 0, 0, 0, 0, 0, 0, 0, 0, [], []⟩ : Plan), [], [], []⟩ : Msg) y1.2) else (bif (decide ((7 : Int) < (((List.map (eInt .i64) y1.1).length : Nat) : Int))) then (((y1.1)[7]?).bind fun y28 => (bif (decide ((8 : Int) < (((List.map (eInt .i64) y1.1).length : Nat) : Int))) then (((y1.1)[8]?).bind fun y31 => (bif (decide (((mxI y28 y31) : Int) ≥ 65536)) then (msg_Of_1 kind body y1.1 true (⟨0, 0, 0, 0, 0, 0, 0, 0, 0, 0, false, (⟨0, 0, 0, 0, 0, 0, 0, 0, 0, 0, [], []⟩ : Plan), [], [], []⟩ : Msg) y1.2) else (bif (decide ((9 : Int) < (((List.map (eInt .i64) y1.1).length : Nat) : Int))) then (((y1.1)[9]?).bind fun y35 => (msg_Of_1 kind body y1.1 (decide ((y35 : Int) > 1)) (⟨0, 0, 0, 0, 0, 0, 0, 0, 0, 0, false, (⟨0, 0, 0, 0, 0, 0, 0, 0, 0, 0, [], []⟩ : Plan), [], [], []⟩ : Msg) y1.2)) else none))) else none)) else none))) else none)) else none))) else none)) else none)) else none)) else none)) else none))))
theorem msg_Of_ok {kind : Int} {body : List Int} {r : Msg × Int} (h : msg_Of kind body = some r) : Sound E 63 [.int .u8 kind, .sl false 1 (List.map (eInt .u8) body)] [] (Rs msg_Of_e r) := so (fn := Tryd.f63) (k := false) (m := 0) h <| by
 intro r h; unfold msg_Of at h
 refine zc 16 [] h (fun _ => msg_reader_ints_ok) fun y1 h => ?_
 refine zs 6 h (fun h => ?_) fun h => ?_
 ·
  exact zg 44 (msg_Of_1_ok h) [.blk 0 [some 1, some 1, some 1, some 1, some 1]]
 refine zs 3 h (fun h => ?_) fun h => ?_
 ·
  exact zg 40 (msg_Of_1_ok h) [.blk 0 [some 1, some 1, some 1, some 1, some 1]]
 refine zn 1 h fun h => ?_
 refine zr 1 (eInt .i64) h fun y5 h => ?_
 refine zn 2 h fun h => ?_
 refine zr 1 (eInt .i64) h fun y8 h => ?_
 refine zn 2 h fun h => ?_
 refine zr 1 (eInt .i64) h fun y11 h => ?_
 refine zn 2 h fun h => ?_
 refine zr 1 (eInt .i64) h fun y14 h => ?_
 refine zn 2 h fun h => ?_
 refine zr 1 (eInt .i64) h fun y17 h => ?_
 refine zs 3 h (fun h => ?_) fun h => ?_
 ·
  exact zg 22 (msg_Of_1_ok h) [.blk 0 [some 1, some 1, some 1, some 1, some 1]]
 refine zn 1 h fun h => ?_
 refine zr 1 (eInt .i64) h fun y21 h => ?_
 refine zn 2 h fun h => ?_
 refine zr 1 (eInt .i64) h fun y24 h => ?_
 refine zs 3 h (fun h => ?_) fun h => ?_
 ·
  exact zg 13 (msg_Of_1_ok h) [.blk 0 [some 1, some 1, some 1, some 1, some 1]]
 refine zn 1 h fun h => ?_
 refine zr 1 (eInt .i64) h fun y28 h => ?_
 refine zn 2 h fun h => ?_
 refine zr 1 (eInt .i64) h fun y31 h => ?_
 refine zs 3 h (fun h => ?_) fun h => ?_
 ·
  exact zg 4 (msg_Of_1_ok h) [.blk 0 [some 1, some 1, some 1, some 1, some 1]]
 refine zn 1 h fun h => ?_
 refine zr 1 (eInt .i64) h fun y35 h => ?_
 exact zg 2 (msg_Of_1_ok h) [.blk 0 [some 1, some 1, some 1, some 1, some 1]]
end Go.RX.L

namespace Go.RX.L
open Go Go.RX Go.Proofs
attribute [local irreducible] FinQ
noncomputable def plan_Put_c := codeAt (bodyOf Tryd.f74)
noncomputable def plan_Put_e (y : (List Int) × Int) : D × Sto := (.tup [.sl false 1 (List.map (eInt .u8) y.1), .int .i64 y.2], [])
inductive plan_Put_S where
 | s0 (p_ : Plan)
 | s1 (t17 : List Int) (t18 t19 : Int) (p_ : Plan) (pen : List Int)
 | s2 (t36 : Int) (b : List Int) (b1 : List (List Int))
noncomputable def plan_Put_M : plan_Put_S → M
 | .s0 p_ => startM Tryd.f74 [.agg [.int .i64 p_.Epoch, .int .i64 p_.Target, .int .i64 p_.Prev, .int .i64 p_.Spill, .int .i64 p_.Percent, .int .i64 p_.Stamp, .int .i64 p_.Since, .int .i64 p_.Ramped, .int .u64 p_.Up, .int .u64 p_.Sup, .sl false 1 (List.map (eInt .i64) p_.Pen), .sl false 1 (List.map (eInt .i64) p_.Changes)]] []
 | .s1 t17 t18 t19 p_ pen => ⟨[.lpc (plan_Put_c [1, 1, 1, 0, 1, 0, 0]) 917522, .blk 0, .code (plan_Put_c [1, 1, 1, 1])], [(1, .ptr 0 0 0), (4, (grD 1 (List.map (eInt .i64) pen))), (17, .sl false 1 (List.map (eInt .i64) t17)), (18, .int .i64 t18), (19, .int .i64 t19)], [some ⟨12, false, [(Plan.enc p_)]⟩, some ⟨1, false, (List.map (eInt .i64) pen)⟩]⟩
 | .s2 t36 b b1 => ⟨[.lpc (plan_Put_c [1, 1, 1, 1, 1, 1, 0, 1, 0, 0]) 120259084544, .blk 2, .code (plan_Put_c [1, 1, 1, 1, 1, 1, 1])], [(8, (grD 0 (List.map (eInt .u8) b))), (34, .msl 1 0 ((List.map (eSl 1 (eInt .i64)) b1).length) ((List.map (eSl 1 (eInt .i64)) b1).length) true), (35, .int .i64 3), (36, .int .i64 t36)], [some ⟨1, false, (List.map (eInt .u8) b)⟩, some ⟨1, false, (List.map (eSl 1 (eInt .i64)) b1)⟩]⟩
abbrev plan_Put_W := SOk E (Cx.of Tryd.f74 false 0) plan_Put_e plan_Put_M
noncomputable def plan_Put_0 (p_ : Plan) : Option (plan_Put_S ⊕ ((List Int) × Int)) := ((plan_Right p_).bind fun y1 => (bif (!y1) then (some (.inr ([], 41))) else (some (.inl (.s1 p_.Pen (((List.map (eInt .i64) p_.Pen).length : Nat) : Int) 0 p_ ([]))))))
noncomputable def plan_Put_1 (t17 : List Int) (t18 t19 : Int) (p_ : Plan) (pen : List Int) : Option (plan_Put_S ⊕ ((List Int) × Int)) := (bif (decide ((t19 : Int) < t18)) then (bif ((decide ((0 : Int) ≤ t19)) && (decide ((t19 : Int) < (((List.map (eInt .i64) t17).length : Nat) : Int)))) then (((t17)[t19.toNat]?).bind fun y3 => (bif (decide (((List.map (eInt .i64) pen).length + 1) * 8 ≤ bytesLim)) then (some (.inl (.s1 t17 t18 (IntKind.i64.wrap (t19 + 1)) p_ (pen ++ [y3])))) else none)) else none) else ((plan_numbers p_).bind fun y6 => (some (.inl (.s2 0 ([]) ([[y6.1, y6.2.1, y6.2.2.1, y6.2.2.2.1, y6.2.2.2.2.1, y6.2.2.2.2.2.1, y6.2.2.2.2.2.2.1, y6.2.2.2.2.2.2.2.1, y6.2.2.2.2.2.2.2.2.1, y6.2.2.2.2.2.2.2.2.2], pen, p_.Changes]))))))
noncomputable def plan_Put_2 (t36 : Int) (b : List Int) (b1 : List (List Int)) : Option (plan_Put_S ⊕ ((List Int) × Int)) := (bif (decide ((t36 : Int) < 3)) then (bif ((decide ((0 : Int) ≤ t36)) && (decide ((t36 : Int) < (((List.map (eSl 1 (eInt .i64)) b1).length : Nat) : Int)))) then (((b1)[(0 + t36.toNat)]?).bind fun y3 => ((wire_PutInts y3).bind fun y5 => (bif (decide (((List.map (eInt .u8) b).length + (List.take ((List.map (eInt .u8) y5.2).length) (List.drop 0 (List.map (eInt .u8) y5.2))).length) * 1 ≤ bytesLim)) then (some (.inl (.s2 (IntKind.i64.wrap (t36 + 1)) (b ++ y5.2) b1))) else none))) else none) else (some (.inr (b, 0))))
noncomputable def plan_Put_step : plan_Put_S → Option (plan_Put_S ⊕ ((List Int) × Int))
 | .s0 p_ => plan_Put_0 p_
 | .s1 t17 t18 t19 p_ pen => plan_Put_1 t17 t18 t19 p_ pen
 | .s2 t36 b b1 => plan_Put_2 t36 b b1
theorem plan_Put_0_ok {p_} : plan_Put_W (.s0 p_) (plan_Put_0 p_) := by
 intro r x h ha; unfold plan_Put_0 at h
 refine zc 12 [] h (fun _ => plan_Right_ok) fun y1 h => ?_
 refine zs 3 h (fun h => ?_) fun h => ?_
 ·
  exact zt 6 h ha [.slot 0 [some 1]]
 refine adv_ok hm 17 _ ?_
 obtain rfl := Option.some.inj h
 refine r_cut 917522 [.mat 4 1] (m' := ⟨[.lpc (plan_Put_c [1, 1, 1, 0, 1, 0, 0]) 917522, .blk 0, .code (plan_Put_c [1, 1, 1, 1])], [(1, .ptr 0 0 0), (4, .msl 1 0 0 0 false), (17, .sl false 1 (List.map (eInt .i64) p_.Pen)), (18, .int .i64 (((List.map (eInt .i64) p_.Pen).length : Nat) : Int)), (19, .int .i64 0)], [some ⟨12, false, [(Plan.enc p_)]⟩, some ⟨1, false, []⟩]⟩) (by kernel_rfl) ?_
 refine r_len (n1 := 0) (n2 := (List.map (eInt .i64) ([])).length) (fun n_len => .go ⟨[.lpc (plan_Put_c [1, 1, 1, 0, 1, 0, 0]) 917522, .blk 0, .code (plan_Put_c [1, 1, 1, 1])], [(1, .ptr 0 0 0), (4, .msl 1 0 n_len n_len false), (17, .sl false 1 (List.map (eInt .i64) p_.Pen)), (18, .int .i64 (((List.map (eInt .i64) p_.Pen).length : Nat) : Int)), (19, .int .i64 0)], [some ⟨12, false, [(Plan.enc p_)]⟩, some ⟨1, false, []⟩]⟩) (by simp) ?_
 exact ha
theorem plan_Put_1_ok {t17 t18 t19 p_ pen} : plan_Put_W (.s1 t17 t18 t19 p_ pen) (plan_Put_1 t17 t18 t19 p_ pen) := by
 intro r x h ha; unfold plan_Put_1 at h
 refine zs 7 h (fun h => ?_) fun h => ?_
 ·
  refine zn 6 h fun h => ?_
  refine zr 1 (eInt .i64) h fun y3 h => ?_
  refine zn 8 h fun h => ?_
  refine za 0 (eInt .i64) pen ([y3]) ?_
  exact zj 8 h ha
 refine zc 6 [] h (fun _ => plan_numbers_ok) fun y6 h => ?_
 refine adv_ok hm 16 _ ?_
 refine r_fzC 0 0 0 (n1 := 10) (n2 := 10) (raw := ([[.int .i64 y6.1], [.int .i64 y6.2.1], [.int .i64 y6.2.2.1], [.int .i64 y6.2.2.2.1], [.int .i64 y6.2.2.2.2.1], [.int .i64 y6.2.2.2.2.2.1], [.int .i64 y6.2.2.2.2.2.2.1], [.int .i64 y6.2.2.2.2.2.2.2.1], [.int .i64 y6.2.2.2.2.2.2.2.2.1], [.int .i64 y6.2.2.2.2.2.2.2.2.2]])) (rs := ([[.int .i64 y6.1], [.int .i64 y6.2.1], [.int .i64 y6.2.2.1], [.int .i64 y6.2.2.2.1], [.int .i64 y6.2.2.2.2.1], [.int .i64 y6.2.2.2.2.2.1], [.int .i64 y6.2.2.2.2.2.2.1], [.int .i64 y6.2.2.2.2.2.2.2.1], [.int .i64 y6.2.2.2.2.2.2.2.2.1], [.int .i64 y6.2.2.2.2.2.2.2.2.2]])) (by kernel_rfl) rfl rfl ?_
 refine r_fzC 0 1 0 (n1 := (0 + (List.map (eInt .i64) pen).length)) (n2 := ((List.map (eInt .i64) pen).length)) (raw := (List.take ((List.map (eInt .i64) pen).length) (List.drop 0 (List.map (eInt .i64) pen)))) (rs := (List.map (eInt .i64) pen)) (by kernel_rfl) (ble_full _) (by simp only [take_full, take_full', List.map_take, List.map_drop]) ?_
 obtain rfl := Option.some.inj h
 refine r_cut 120259084544 [.mat 8 1] (m' := ⟨[.lpc (plan_Put_c [1, 1, 1, 1, 1, 1, 0, 1, 0, 0]) 120259084544, .blk 2, .code (plan_Put_c [1, 1, 1, 1, 1, 1, 1])], [(8, .msl 0 0 0 0 false), (34, .msl 1 0 3 3 true), (35, .int .i64 3), (36, .int .i64 0)], [some ⟨1, false, []⟩, some ⟨1, false, [[.sl false 1 [[.int .i64 y6.1], [.int .i64 y6.2.1], [.int .i64 y6.2.2.1], [.int .i64 y6.2.2.2.1], [.int .i64 y6.2.2.2.2.1], [.int .i64 y6.2.2.2.2.2.1], [.int .i64 y6.2.2.2.2.2.2.1], [.int .i64 y6.2.2.2.2.2.2.2.1], [.int .i64 y6.2.2.2.2.2.2.2.2.1], [.int .i64 y6.2.2.2.2.2.2.2.2.2]]], [.sl false 1 (List.map (eInt .i64) pen)], [.sl false 1 (List.map (eInt .i64) p_.Changes)]]⟩]⟩) (by kernel_rfl) ?_
 refine r_len (n1 := 0) (n2 := (List.map (eInt .u8) ([])).length) (fun n_len => .go ⟨[.lpc (plan_Put_c [1, 1, 1, 1, 1, 1, 0, 1, 0, 0]) 120259084544, .blk 2, .code (plan_Put_c [1, 1, 1, 1, 1, 1, 1])], [(8, .msl 0 0 n_len n_len false), (34, .msl 1 0 3 3 true), (35, .int .i64 3), (36, .int .i64 0)], [some ⟨1, false, []⟩, some ⟨1, false, [[.sl false 1 [[.int .i64 y6.1], [.int .i64 y6.2.1], [.int .i64 y6.2.2.1], [.int .i64 y6.2.2.2.1], [.int .i64 y6.2.2.2.2.1], [.int .i64 y6.2.2.2.2.2.1], [.int .i64 y6.2.2.2.2.2.2.1], [.int .i64 y6.2.2.2.2.2.2.2.1], [.int .i64 y6.2.2.2.2.2.2.2.2.1], [.int .i64 y6.2.2.2.2.2.2.2.2.2]]], [.sl false 1 (List.map (eInt .i64) pen)], [.sl false 1 (List.map (eInt .i64) p_.Changes)]]⟩]⟩) (by simp) ?_
 refine r_len (n1 := 3) (n2 := (List.map (eSl 1 (eInt .i64)) ([[y6.1, y6.2.1, y6.2.2.1, y6.2.2.2.1, y6.2.2.2.2.1, y6.2.2.2.2.2.1, y6.2.2.2.2.2.2.1, y6.2.2.2.2.2.2.2.1, y6.2.2.2.2.2.2.2.2.1, y6.2.2.2.2.2.2.2.2.2], pen, p_.Changes])).length) (fun n_len => .go ⟨[.lpc (plan_Put_c [1, 1, 1, 1, 1, 1, 0, 1, 0, 0]) 120259084544, .blk 2, .code (plan_Put_c [1, 1, 1, 1, 1, 1, 1])], [(8, .msl 0 0 ((List.map (eInt .u8) ([])).length) ((List.map (eInt .u8) ([])).length) false), (34, .msl 1 0 n_len n_len true), (35, .int .i64 3), (36, .int .i64 0)], [some ⟨1, false, []⟩, some ⟨1, false, [[.sl false 1 [[.int .i64 y6.1], [.int .i64 y6.2.1], [.int .i64 y6.2.2.1], [.int .i64 y6.2.2.2.1], [.int .i64 y6.2.2.2.2.1], [.int .i64 y6.2.2.2.2.2.1], [.int .i64 y6.2.2.2.2.2.2.1], [.int .i64 y6.2.2.2.2.2.2.2.1], [.int .i64 y6.2.2.2.2.2.2.2.2.1], [.int .i64 y6.2.2.2.2.2.2.2.2.2]]], [.sl false 1 (List.map (eInt .i64) pen)], [.sl false 1 (List.map (eInt .i64) p_.Changes)]]⟩]⟩) (by simp) ?_
 exact ha
theorem plan_Put_2_ok {t36 b b1} : plan_Put_W (.s2 t36 b b1) (plan_Put_2 t36 b b1) := by
 intro r x h ha; unfold plan_Put_2 at h
 refine zs 7 h (fun h => ?_) fun h => ?_
 ·
  refine zn 6 h fun h => ?_
  refine zr 1 (eSl 1 (eInt .i64)) h fun y3 h => ?_
  refine zc 6 [] h (fun _ => wire_PutInts_ok) fun y5 h => ?_
  refine zm 10 (b := (Nat.beq ((List.take ((List.map (eInt .u8) y5.2).length) (List.drop 0 (List.map (eInt .u8) y5.2))).length) ((List.map (eInt .u8) y5.2).length))) (by simp) ?_
  refine zn 0 h fun h => ?_
  refine zm 0 (b := (Nat.ble (0 + (List.map (eInt .u8) b).length) ((List.map (eInt .u8) b).length))) (ble_full _) ?_
  refine zw 0 (a := (List.take ((List.map (eInt .u8) b).length) (List.drop 0 (List.map (eInt .u8) b)) ++ (List.take ((List.map (eInt .u8) y5.2).length) (List.drop 0 (List.map (eInt .u8) y5.2))))) (b := (List.map (eInt .u8) (b ++ y5.2))) (by simp only [take_full, take_full', List.map_append, List.map_take, List.map_drop]) ?_
  exact zj 8 h ha
 refine zm 8 (b := (Nat.ble (0 + (List.map (eInt .u8) b).length) ((List.map (eInt .u8) b).length))) (ble_full _) ?_
 obtain rfl := Option.some.inj h
 have hv := ha
 simp only [After] at hv
 subst hv
 exact r_retE [] (d1 := .tup [.sl false 1 (List.take ((List.map (eInt .u8) b).length) (List.drop 0 (List.map (eInt .u8) b))), .int .i64 0]) (d := .tup [.sl false 1 (List.map (eInt .u8) b), .int .i64 0]) (s1 := []) (s := []) (by kernel_rfl) ⟨by simp [List.take_of_length_le, List.map_take, List.map_drop], rfl⟩ ⟨rfl, rfl⟩ Cx.fin_of
noncomputable def plan_Put (p_ : Plan) : Option ((List Int) × Int) := evf plan_Put_step (.s0 p_)
theorem plan_Put_ok {p_ : Plan} {r : (List Int) × Int} (h : plan_Put p_ = some r) : Sound E 74 [.agg [.int .i64 p_.Epoch, .int .i64 p_.Target, .int .i64 p_.Prev, .int .i64 p_.Spill, .int .i64 p_.Percent, .int .i64 p_.Stamp, .int .i64 p_.Since, .int .i64 p_.Ramped, .int .u64 p_.Up, .int .u64 p_.Sup, .sl false 1 (List.map (eInt .i64) p_.Pen), .sl false 1 (List.map (eInt .i64) p_.Changes)]] [] (Rs plan_Put_e r) := sc (fn := Tryd.f74) (k := false) (m := 0) (stM := plan_Put_M) h fun s => by
 cases s with
 | s0 => exact plan_Put_0_ok
 | s1 => exact plan_Put_1_ok
 | s2 => exact plan_Put_2_ok
end Go.RX.L

namespace Go.RX.L
open Go Go.RX Go.Proofs
attribute [local irreducible] FinQ
noncomputable def wire_PutText_e (y : Int × (List Int)) : D × Sto := (.tup [(grD 0 (List.map (eInt .u8) y.2)), .int .i64 y.1], [some ⟨1, false, (List.map (eInt .u8) y.2)⟩])
noncomputable def wire_PutText (s_ : List Int) : Option (Int × (List Int)) := (bif (decide (((((List.map (eInt .u8) s_).length : Nat) : Int) : Int) > 4096)) then (some (2, [])) else ((wire_PutInt (((List.map (eInt .u8) s_).length : Nat) : Int)).bind fun y2 => (bif (decide (((List.map (eInt .u8) y2).length + (List.map (eInt .u8) s_).length) * 1 ≤ bytesLim)) then (some (0, (y2 ++ s_))) else none)))
theorem wire_PutText_ok {s_ : List Int} {r : Int × (List Int)} (h : wire_PutText s_ = some r) : Sound E 75 [.sl false 1 (List.map (eInt .u8) s_)] [] (Rs wire_PutText_e r) := so (fn := Tryd.f75) (k := true) (m := 0) h <| by
 intro r h; unfold wire_PutText at h
 refine zs 13 h (fun h => ?_) fun h => ?_
 ·
  exact zu 6 h [.matt 0 0 1]
 refine zc 6 [] h (fun _ => wire_PutInt_ok) fun y2 h => ?_
 refine zn 2 h fun h => ?_
 refine za 0 (eInt .u8) y2 s_ ?_
 exact zu 4 h
end Go.RX.L

namespace Go.RX.L
open Go Go.RX Go.Proofs
attribute [local irreducible] FinQ
noncomputable def msg_Body_c := codeAt (bodyOf Tryd.f51)
noncomputable def msg_Body_e (y : Int × (List Int) × Int) : D × Sto := (.tup [.int .u8 y.1, .sl false 1 (List.map (eInt .u8) y.2.1), .int .i64 y.2.2], [])
inductive msg_Body_S where
 | s0 (m : Msg)
 | s3 (m : Msg) (l_ : List Int)
 | s2 (m : Msg) (b : List Int)
 | s1 (t81 : Int) (m : Msg) (b : List Int) (b2 : List (List Int))
noncomputable def msg_Body_M : msg_Body_S → M
 | .s0 m => startM Tryd.f51 [.agg [.int .i64 m.Kind, .int .i64 m.From, .int .i64 m.To, .int .i64 m.Epoch, .int .i64 m.Ballot, .int .i64 m.Accepted, .int .i64 m.Nonce, .int .i64 m.Time, .int .u64 m.Up, .int .i64 m.Code, .bool m.HasPlan, .int .i64 m.Plan.Epoch, .int .i64 m.Plan.Target, .int .i64 m.Plan.Prev, .int .i64 m.Plan.Spill, .int .i64 m.Plan.Percent, .int .i64 m.Plan.Stamp, .int .i64 m.Plan.Since, .int .i64 m.Plan.Ramped, .int .u64 m.Plan.Up, .int .u64 m.Plan.Sup, .sl false 1 (List.map (eInt .i64) m.Plan.Pen), .sl false 1 (List.map (eInt .i64) m.Plan.Changes), .sl false 1 (List.map (eInt .i64) m.ID), .sl false 1 (List.map (eInt .u8) m.Session), .sl false 1 (List.map (eInt .u8) m.Payload)]] []
 | .s3 m l_ => ⟨[.code (msg_Body_c [1, 1, 1, 1])], [(1, .ptr 0 0 0), (5, .msl 1 0 ((List.map (eInt .i64) l_).length) ((List.map (eInt .i64) l_).length) true)], [some ⟨26, false, [(Msg.enc m)]⟩, some ⟨1, false, (List.map (eInt .i64) l_)⟩]⟩
 | .s2 m b => ⟨[.code (msg_Body_c [1, 1, 1, 1, 1, 1])], [(1, .ptr 0 0 0), (6, (grD 1 (List.map (eInt .u8) b)))], [some ⟨26, false, [(Msg.enc m)]⟩, some ⟨1, false, (List.map (eInt .u8) b)⟩]⟩
 | .s1 t81 m b b2 => ⟨[.lpc (msg_Body_c [1, 1, 1, 1, 1, 1, 1, 1, 0, 1, 0, 0]) 4231240368651202111471682, .blk 0, .code (msg_Body_c [1, 1, 1, 1, 1, 1, 1, 1, 1])], [(1, .ptr 0 0 0), (6, (grD 1 (List.map (eInt .u8) b))), (79, .msl 2 0 ((List.map (eSl 1 (eInt .u8)) b2).length) ((List.map (eSl 1 (eInt .u8)) b2).length) true), (80, .int .i64 2), (81, .int .i64 t81)], [some ⟨26, false, [(Msg.enc m)]⟩, some ⟨1, false, (List.map (eInt .u8) b)⟩, some ⟨1, false, (List.map (eSl 1 (eInt .u8)) b2)⟩]⟩
abbrev msg_Body_W := SOk E (Cx.of Tryd.f51 false 0) msg_Body_e msg_Body_M
noncomputable def msg_Body_0 (m : Msg) : Option (msg_Body_S ⊕ (Int × (List Int) × Int)) := ((msg_Right m).bind fun y1 => (bif (!y1) then (some (.inr (0, [], 51))) else (bif m.HasPlan then (some (.inl (.s3 m ([m.From, m.To, m.Epoch, m.Ballot, m.Accepted, m.Nonce, m.Time, (IntKind.i64.wrap (m.Up)), m.Code, 1])))) else (some (.inl (.s3 m ([m.From, m.To, m.Epoch, m.Ballot, m.Accepted, m.Nonce, m.Time, (IntKind.i64.wrap (m.Up)), m.Code, 0])))))))
noncomputable def msg_Body_3 (m : Msg) (l_ : List Int) : Option (msg_Body_S ⊕ (Int × (List Int) × Int)) := ((wire_PutInts l_).bind fun y1 => (bif m.HasPlan then ((plan_Put m.Plan).bind fun y3 => ((wire_PutText y3.1).bind fun y4 => (bif (decide (((List.map (eInt .u8) y1.2).length + (List.take ((List.map (eInt .u8) y4.2).length) (List.drop 0 (List.map (eInt .u8) y4.2))).length) * 1 ≤ bytesLim)) then (some (.inl (.s2 m (y1.2 ++ y4.2)))) else none))) else (some (.inl (.s2 m y1.2)))))
noncomputable def msg_Body_2 (m : Msg) (b : List Int) : Option (msg_Body_S ⊕ (Int × (List Int) × Int)) := ((wire_PutInts m.ID).bind fun y1 => (bif (decide (((List.map (eInt .u8) b).length + (List.take ((List.map (eInt .u8) y1.2).length) (List.drop 0 (List.map (eInt .u8) y1.2))).length) * 1 ≤ bytesLim)) then (some (.inl (.s1 0 m (b ++ y1.2) ([m.Session, m.Payload])))) else none))
noncomputable def msg_Body_1 (t81 : Int) (m : Msg) (b : List Int) (b2 : List (List Int)) : Option (msg_Body_S ⊕ (Int × (List Int) × Int)) := (bif (decide ((t81 : Int) < 2)) then (bif ((decide ((0 : Int) ≤ t81)) && (decide ((t81 : Int) < (((List.map (eSl 1 (eInt .u8)) b2).length : Nat) : Int)))) then (((b2)[(0 + t81.toNat)]?).bind fun y3 => ((wire_PutText y3).bind fun y5 => (bif (decide (((List.map (eInt .u8) b).length + (List.take ((List.map (eInt .u8) y5.2).length) (List.drop 0 (List.map (eInt .u8) y5.2))).length) * 1 ≤ bytesLim)) then (some (.inl (.s1 (IntKind.i64.wrap (t81 + 1)) m (b ++ y5.2) b2))) else none))) else none) else (some (.inr ((IntKind.u8.wrap (m.Kind)), b, 0))))
noncomputable def msg_Body_step : msg_Body_S → Option (msg_Body_S ⊕ (Int × (List Int) × Int))
 | .s0 m => msg_Body_0 m
 | .s3 m l_ => msg_Body_3 m l_
 | .s2 m b => msg_Body_2 m b
 | .s1 t81 m b b2 => msg_Body_1 t81 m b b2
theorem msg_Body_0_ok {m} : msg_Body_W (.s0 m) (msg_Body_0 m) := by
 intro r x h ha; unfold msg_Body_0 at h
 refine zc 13 [] h (fun _ => msg_Right_ok) fun y1 h => ?_
 refine zs 3 h (fun h => ?_) fun h => ?_
 ·
  exact zt 7 h ha [.slot 0 [some 1]]
 refine zs 42 h (fun h => ?_) fun h => ?_
 ·
  refine adv_ok hm 8 _ ?_
  obtain rfl := Option.some.inj h
  refine r_cut 34 [] (m' := ⟨[.code (msg_Body_c [1, 1, 1, 1])], [(1, .ptr 0 0 0), (5, .msl 1 0 10 10 true)], [some ⟨26, false, [(Msg.enc m)]⟩, some ⟨1, false, [[.int .i64 m.From], [.int .i64 m.To], [.int .i64 m.Epoch], [.int .i64 m.Ballot], [.int .i64 m.Accepted], [.int .i64 m.Nonce], [.int .i64 m.Time], [.int .i64 (IntKind.i64.wrap (m.Up))], [.int .i64 m.Code], [.int .i64 1]]⟩]⟩) (by kernel_rfl) ?_
  refine r_len (n1 := 10) (n2 := (List.map (eInt .i64) ([m.From, m.To, m.Epoch, m.Ballot, m.Accepted, m.Nonce, m.Time, (IntKind.i64.wrap (m.Up)), m.Code, 1])).length) (fun n_len => .go ⟨[.code (msg_Body_c [1, 1, 1, 1])], [(1, .ptr 0 0 0), (5, .msl 1 0 n_len n_len true)], [some ⟨26, false, [(Msg.enc m)]⟩, some ⟨1, false, [[.int .i64 m.From], [.int .i64 m.To], [.int .i64 m.Epoch], [.int .i64 m.Ballot], [.int .i64 m.Accepted], [.int .i64 m.Nonce], [.int .i64 m.Time], [.int .i64 (IntKind.i64.wrap (m.Up))], [.int .i64 m.Code], [.int .i64 1]]⟩]⟩) (by simp) ?_
  exact ha
 refine adv_ok hm 1 _ ?_
 obtain rfl := Option.some.inj h
 refine r_cut 34 [] (m' := ⟨[.code (msg_Body_c [1, 1, 1, 1])], [(1, .ptr 0 0 0), (5, .msl 1 0 10 10 true)], [some ⟨26, false, [(Msg.enc m)]⟩, some ⟨1, false, [[.int .i64 m.From], [.int .i64 m.To], [.int .i64 m.Epoch], [.int .i64 m.Ballot], [.int .i64 m.Accepted], [.int .i64 m.Nonce], [.int .i64 m.Time], [.int .i64 (IntKind.i64.wrap (m.Up))], [.int .i64 m.Code], [.int .i64 0]]⟩]⟩) (by kernel_rfl) ?_
 refine r_len (n1 := 10) (n2 := (List.map (eInt .i64) ([m.From, m.To, m.Epoch, m.Ballot, m.Accepted, m.Nonce, m.Time, (IntKind.i64.wrap (m.Up)), m.Code, 0])).length) (fun n_len => .go ⟨[.code (msg_Body_c [1, 1, 1, 1])], [(1, .ptr 0 0 0), (5, .msl 1 0 n_len n_len true)], [some ⟨26, false, [(Msg.enc m)]⟩, some ⟨1, false, [[.int .i64 m.From], [.int .i64 m.To], [.int .i64 m.Epoch], [.int .i64 m.Ballot], [.int .i64 m.Accepted], [.int .i64 m.Nonce], [.int .i64 m.Time], [.int .i64 (IntKind.i64.wrap (m.Up))], [.int .i64 m.Code], [.int .i64 0]]⟩]⟩) (by simp) ?_
 exact ha
theorem msg_Body_3_ok {m l_} : msg_Body_W (.s3 m l_) (msg_Body_3 m l_) := by
 intro r x h ha; unfold msg_Body_3 at h
 refine zm 4 (b := (Nat.ble (0 + (List.map (eInt .i64) l_).length) ((List.map (eInt .i64) l_).length))) (ble_full _) ?_
 refine zcE 0 [] (args1 := [.sl false 1 (List.take ((List.map (eInt .i64) l_).length) (List.drop 0 (List.map (eInt .i64) l_)))]) h (fun _ => wire_PutInts_ok) ⟨by simp [List.take_of_length_le, List.map_take, List.map_drop], rfl⟩ fun y1 h => ?_
 refine zs 14 h (fun h => ?_) fun h => ?_
 ·
  refine zc 6 [] h (fun _ => plan_Put_ok) fun y3 h => ?_
  refine zc 10 [] h (fun _ => wire_PutText_ok) fun y4 h => ?_
  refine zm 10 (b := (Nat.beq ((List.take ((List.map (eInt .u8) y4.2).length) (List.drop 0 (List.map (eInt .u8) y4.2))).length) ((List.map (eInt .u8) y4.2).length))) (by simp) ?_
  refine zn 0 h fun h => ?_
  refine zm 0 (b := (Nat.ble (0 + (List.map (eInt .u8) y1.2).length) ((List.map (eInt .u8) y1.2).length))) (ble_full _) ?_
  refine zw 0 (a := (List.take ((List.map (eInt .u8) y1.2).length) (List.drop 0 (List.map (eInt .u8) y1.2)) ++ (List.take ((List.map (eInt .u8) y4.2).length) (List.drop 0 (List.map (eInt .u8) y4.2))))) (b := (List.map (eInt .u8) (y1.2 ++ y4.2))) (by simp only [take_full, take_full', List.map_append, List.map_take, List.map_drop]) ?_
  exact zk 2 h ha
 exact zk 1 h ha
theorem msg_Body_2_ok {m b} : msg_Body_W (.s2 m b) (msg_Body_2 m b) := by
 intro r x h ha; unfold msg_Body_2 at h
 refine zc 6 [] h (fun _ => wire_PutInts_ok) fun y1 h => ?_
 refine zm 11 (b := (Nat.beq ((List.take ((List.map (eInt .u8) y1.2).length) (List.drop 0 (List.map (eInt .u8) y1.2))).length) ((List.map (eInt .u8) y1.2).length))) (by simp) ?_
 refine zn 0 h fun h => ?_
 refine zm 0 (b := (Nat.ble (0 + (List.map (eInt .u8) b).length) ((List.map (eInt .u8) b).length))) (ble_full _) ?_
 refine zw 0 (a := (List.take ((List.map (eInt .u8) b).length) (List.drop 0 (List.map (eInt .u8) b)) ++ (List.take ((List.map (eInt .u8) y1.2).length) (List.drop 0 (List.map (eInt .u8) y1.2))))) (b := (List.map (eInt .u8) (b ++ y1.2))) (by simp only [take_full, take_full', List.map_append, List.map_take, List.map_drop]) ?_
 refine adv_ok hm 18 _ ?_
 obtain rfl := Option.some.inj h
 refine r_to (q' := .go ⟨[.lpc (msg_Body_c [1, 1, 1, 1, 1, 1, 1, 1, 0, 1, 0, 0]) 4231240368651202111471682, .blk 0, .code (msg_Body_c [1, 1, 1, 1, 1, 1, 1, 1, 1])], [(1, .ptr 0 0 0), (6, .msl 1 0 ((List.map (eInt .u8) (b ++ y1.2)).length) ((List.map (eInt .u8) (b ++ y1.2)).length) false), (79, .msl 2 0 2 2 true), (80, .int .i64 2), (81, .int .i64 0)], [some ⟨26, false, [(Msg.enc m)]⟩, some ⟨1, false, (List.map (eInt .u8) (b ++ y1.2))⟩, some ⟨1, false, [[.sl false 1 (List.map (eInt .u8) m.Session)], [.sl false 1 (List.map (eInt .u8) m.Payload)]]⟩]⟩) (by kernel_rfl) ?_
 refine r_len (n1 := 2) (n2 := (List.map (eSl 1 (eInt .u8)) ([m.Session, m.Payload])).length) (fun n_len => .go ⟨[.lpc (msg_Body_c [1, 1, 1, 1, 1, 1, 1, 1, 0, 1, 0, 0]) 4231240368651202111471682, .blk 0, .code (msg_Body_c [1, 1, 1, 1, 1, 1, 1, 1, 1])], [(1, .ptr 0 0 0), (6, .msl 1 0 ((List.map (eInt .u8) (b ++ y1.2)).length) ((List.map (eInt .u8) (b ++ y1.2)).length) false), (79, .msl 2 0 n_len n_len true), (80, .int .i64 2), (81, .int .i64 0)], [some ⟨26, false, [(Msg.enc m)]⟩, some ⟨1, false, (List.map (eInt .u8) (b ++ y1.2))⟩, some ⟨1, false, [[.sl false 1 (List.map (eInt .u8) m.Session)], [.sl false 1 (List.map (eInt .u8) m.Payload)]]⟩]⟩) (by simp) ?_
 exact ha
theorem msg_Body_1_ok {t81 m b b2} : msg_Body_W (.s1 t81 m b b2) (msg_Body_1 t81 m b b2) := by
 intro r x h ha; unfold msg_Body_1 at h
 refine zs 7 h (fun h => ?_) fun h => ?_
 ·
  refine zn 6 h fun h => ?_
  refine zr 1 (eSl 1 (eInt .u8)) h fun y3 h => ?_
  refine zc 6 [] h (fun _ => wire_PutText_ok) fun y5 h => ?_
  refine zm 10 (b := (Nat.beq ((List.take ((List.map (eInt .u8) y5.2).length) (List.drop 0 (List.map (eInt .u8) y5.2))).length) ((List.map (eInt .u8) y5.2).length))) (by simp) ?_
  refine zn 0 h fun h => ?_
  refine zm 0 (b := (Nat.ble (0 + (List.map (eInt .u8) b).length) ((List.map (eInt .u8) b).length))) (ble_full _) ?_
  refine zw 0 (a := (List.take ((List.map (eInt .u8) b).length) (List.drop 0 (List.map (eInt .u8) b)) ++ (List.take ((List.map (eInt .u8) y5.2).length) (List.drop 0 (List.map (eInt .u8) y5.2))))) (b := (List.map (eInt .u8) (b ++ y5.2))) (by simp only [take_full, take_full', List.map_append, List.map_take, List.map_drop]) ?_
  exact zj 8 h ha
 refine zm 13 (b := (Nat.ble (0 + (List.map (eInt .u8) b).length) ((List.map (eInt .u8) b).length))) (ble_full _) ?_
 obtain rfl := Option.some.inj h
 have hv := ha
 simp only [After] at hv
 subst hv
 exact r_retE [] (d1 := .tup [.int .u8 (IntKind.u8.wrap (m.Kind)), .sl false 1 (List.take ((List.map (eInt .u8) b).length) (List.drop 0 (List.map (eInt .u8) b))), .int .i64 0]) (d := .tup [.int .u8 (IntKind.u8.wrap (m.Kind)), .sl false 1 (List.map (eInt .u8) b), .int .i64 0]) (s1 := []) (s := []) (by kernel_rfl) ⟨by simp [List.take_of_length_le, List.map_take, List.map_drop], rfl⟩ ⟨rfl, rfl⟩ Cx.fin_of
noncomputable def msg_Body (m : Msg) : Option (Int × (List Int) × Int) := evf msg_Body_step (.s0 m)
theorem msg_Body_ok {m : Msg} {r : Int × (List Int) × Int} (h : msg_Body m = some r) : Sound E 51 [.agg [.int .i64 m.Kind, .int .i64 m.From, .int .i64 m.To, .int .i64 m.Epoch, .int .i64 m.Ballot, .int .i64 m.Accepted, .int .i64 m.Nonce, .int .i64 m.Time, .int .u64 m.Up, .int .i64 m.Code, .bool m.HasPlan, .int .i64 m.Plan.Epoch, .int .i64 m.Plan.Target, .int .i64 m.Plan.Prev, .int .i64 m.Plan.Spill, .int .i64 m.Plan.Percent, .int .i64 m.Plan.Stamp, .int .i64 m.Plan.Since, .int .i64 m.Plan.Ramped, .int .u64 m.Plan.Up, .int .u64 m.Plan.Sup, .sl false 1 (List.map (eInt .i64) m.Plan.Pen), .sl false 1 (List.map (eInt .i64) m.Plan.Changes), .sl false 1 (List.map (eInt .i64) m.ID), .sl false 1 (List.map (eInt .u8) m.Session), .sl false 1 (List.map (eInt .u8) m.Payload)]] [] (Rs msg_Body_e r) := sc (fn := Tryd.f51) (k := false) (m := 0) (stM := msg_Body_M) h fun s => by
 cases s with
 | s0 => exact msg_Body_0_ok
 | s3 => exact msg_Body_3_ok
 | s2 => exact msg_Body_2_ok
 | s1 => exact msg_Body_1_ok
end Go.RX.L

namespace Go.RX.L
open Go Go.RX
def encT (s : List Int) : List Int := encI (s.length : Int) ++ s
def putT (s : List Int) : Int × List Int := if s.length ≤ 4096 then (0, encT s) else (2, [])
def pT (l : List Int) : Int ⊕ (List Int × Nat) := match pI l with
  | .inl e => .inl e
  | .inr (n, k) => if n < 0 ∨ n > 4096 then .inl 2 else if n > (l.length : Int) - k then .inl 11 else .inr ((l.drop k).take n.toNat, k + n.toNat)
theorem pT_inl {l : List Int} {e : Int} (h : pI l = .inl e) : pT l = .inl e := by simp only [pT, h]
theorem pT_big {l : List Int} {n : Int} {k : Nat} (h : pI l = .inr (n, k)) (hn : n < 0 ∨ n > 4096) : pT l = .inl 2 := by simp only [pT, h, if_pos hn]
theorem pT_end {l : List Int} {n : Int} {k : Nat} (h : pI l = .inr (n, k)) (hn : ¬ (n < 0 ∨ n > 4096)) (h2 : n > (l.length : Int) - k) : pT l = .inl 11 := by simp only [pT, h, if_neg hn, if_pos h2]
theorem pT_inr {l : List Int} {n : Int} {k : Nat} (h : pI l = .inr (n, k)) (hn : ¬ (n < 0 ∨ n > 4096)) (h2 : ¬ n > (l.length : Int) - k) : pT l = .inr ((l.drop k).take n.toNat, k + n.toNat) := by simp only [pT, h, if_neg hn, if_neg h2]
theorem encT_bytes {s : List Int} (h : Bytes s) : Bytes (encT s) := fun c hc => (List.mem_append.1 hc).elim (encI_bytes _ c) (h c)
theorem encT_len {s : List Int} (h : s.length ≤ 4096) : (encT s).length ≤ s.length + 10 := by
  have := encI_len (inLen (n := s.length) (by omega))
  simp only [encT, List.length_append]; omega
theorem pT_enc {s : List Int} (h : s.length ≤ 4096) (rest : List Int) : pT (encT s ++ rest) = .inr (s, (encT s).length) := by
  have h1 := pI_enc (inLen (n := s.length) (by omega)) (s ++ rest)
  have e : encT s ++ rest = encI (s.length : Int) ++ (s ++ rest) := by simp [encT]
  rw [e, pT_inr h1 (by omega) (by simp only [List.length_append]; omega), List.drop_left, Int.toNat_natCast, List.take_left]
  simp only [encT, List.length_append]
theorem pT_dec {l s : List Int} {k : Nat} (hb : Bytes l) (h : pT l = .inr (s, k)) : l.take k = encT s ∧ k ≤ l.length ∧ k = (encT s).length ∧ s.length ≤ 4096 ∧ Bytes s := by
  cases hp : pI l with
  | inl e => rw [pT_inl hp] at h; cases h
  | inr x =>
    obtain ⟨n, j⟩ := x
    by_cases hn : n < 0 ∨ n > 4096
    · rw [pT_big hp hn] at h; cases h
    by_cases h2 : n > (l.length : Int) - j
    · rw [pT_end hp hn h2] at h; cases h
    rw [pT_inr hp hn h2] at h
    simp only [Sum.inr.injEq, Prod.mk.injEq] at h
    obtain ⟨rfl, rfl⟩ := h
    obtain ⟨a1, a2, a3, a4⟩ := pI_dec hb hp
    obtain ⟨m, rfl⟩ := Int.eq_ofNat_of_zero_le (show 0 ≤ n by omega)
    simp only [Int.toNat_natCast]
    have hl : ((l.drop j).take m).length = m := by rw [List.length_take, List.length_drop]; omega
    refine ⟨?_, by omega, ?_, by rw [hl]; omega, take_in (drop_in hb _) _⟩
    · rw [List.take_add, a1, encT, hl]
    · rw [encT, List.length_append, hl, ← a3]
theorem pT_err {l : List Int} {e : Int} (h : pT l = .inl e) : e ≠ 0 := by
  cases hp : pI l with
  | inl e' => rw [pT_inl hp] at h; obtain rfl := Sum.inl.inj h; rcases pI_err hp with rfl | rfl <;> decide
  | inr x =>
    obtain ⟨n, j⟩ := x
    by_cases hn : n < 0 ∨ n > 4096
    · rw [pT_big hp hn] at h; obtain rfl := Sum.inl.inj h; decide
    by_cases h2 : n > (l.length : Int) - j
    · rw [pT_end hp hn h2] at h; obtain rfl := Sum.inl.inj h; decide
    · rw [pT_inr hp hn h2] at h; cases h
theorem putText_ok {s : List Int} (hm : s.length ≤ memB) : wire_PutText s = some (putT s) := by
  unfold putT
  by_cases h : s.length ≤ 4096
  · rw [if_pos h]
    have hn := inLen (n := s.length) (by omega)
    have hl := encI_len hn
    have c1 : decide (((s.length : Nat) : Int) > 4096) = false := by simp; omega
    have c2 : decide (((encI (s.length : Int)).length + s.length) * 1 ≤ bytesLim) = true := limOk (by omega)
    simp only [wire_PutText, List.length_map, c1, cond_false, putInt_ok hn, Option.bind_some, c2, cond_true, encT]
  · rw [if_neg h]
    have c1 : decide (((s.length : Nat) : Int) > 4096) = true := by simp; omega
    simp only [wire_PutText, List.length_map, c1, cond_true]
theorem text_ok {b : List Int} (hb : Bytes b) (hm : b.length ≤ memB) {at_ : Nat} (h : at_ ≤ b.length) : wire_Text b at_ = some (rL at_ (pT (b.drop at_))) := by
  have hi := int_ok hb hm h
  simp only [memB] at hm
  cases hp : pI (b.drop at_) with
  | inl e =>
    rw [hp] at hi
    have he := err_ne hp
    rw [pT_inl hp]
    simp only [wire_Text, wire_sized, hi, rI, Option.bind_some, he, cond_true, rL]
  | inr x =>
    obtain ⟨n, k⟩ := x
    rw [hp] at hi
    obtain ⟨a1, a2, a3, a4⟩ := pI_dec (drop_in hb at_) hp
    rw [List.length_drop] at a2
    have a4' := inI64.1 a4
    have z : ((0 : Int) != 0) = false := rfl
    have tw : ((2 : Int) != 0) = true := rfl
    by_cases hn : n < 0 ∨ n > 4096
    · rw [pT_big hp hn]
      rcases hn with hn | hn
      · have c1 : decide (n < 0) = true := decide_eq_true hn
        simp only [wire_Text, wire_sized, wire_sized_1, hi, rI, Option.bind_some, z, cond_false, c1, cond_true, tw, rL]
      · have c1 : decide (n < 0) = false := decide_eq_false (by omega)
        have c2 : decide (n > 4096) = true := decide_eq_true hn
        simp only [wire_Text, wire_sized, wire_sized_1, hi, rI, Option.bind_some, z, cond_false, c1, c2, cond_true, tw, rL]
    · have c1 : decide (n < 0) = false := decide_eq_false (by omega)
      have c2 : decide (n > 4096) = false := decide_eq_false (by omega)
      have w1 : IntKind.i64.wrap (((b.length : Nat) : Int) - ((at_ + k : Nat) : Int)) = (b.length : Int) - ((at_ + k : Nat) : Int) := wI64 (by omega) (by omega)
      by_cases h2 : n > ((b.drop at_).length : Int) - k
      · rw [pT_end hp hn h2]
        rw [List.length_drop] at h2
        have c3 : decide (n > (b.length : Int) - ((at_ + k : Nat) : Int)) = true := decide_eq_true (by omega)
        simp only [wire_Text, wire_sized, wire_sized_1, hi, rI, Option.bind_some, z, cond_false, c1, c2, List.length_map, w1, c3, cond_true, rL]
      · rw [pT_inr hp hn h2]
        rw [List.length_drop] at h2
        obtain ⟨m, rfl⟩ := Int.eq_ofNat_of_zero_le (show 0 ≤ n by omega)
        have c3 : decide ((m : Int) > (b.length : Int) - ((at_ + k : Nat) : Int)) = false := decide_eq_false (by omega)
        have w2 : IntKind.i64.wrap (((at_ + k : Nat) : Int) + (m : Int)) = ((at_ + k + m : Nat) : Int) := by rw [wI64 (by omega) (by omega)]; omega
        have c4 : (decide (((0 : Nat) : Int) ≤ ((at_ + k + m : Nat) : Int)) && decide (((at_ + k + m : Nat) : Int) ≤ ((b.length : Nat) : Int))) = true := by simp; omega
        have c5 : (decide (((0 : Nat) : Int) ≤ ((at_ + k : Nat) : Int)) && decide (((at_ + k : Nat) : Int) ≤ ((at_ + k + m : Nat) : Int))) = true := by simp; omega
        have d : List.drop (at_ + k) (List.take (at_ + k + m) b) = ((b.drop at_).drop k).take m := by
          rw [List.drop_take, List.drop_drop, show at_ + k + m - (at_ + k) = m by omega]
        have c6 : decide ((((b.drop at_).drop k).take m).length * 1 ≤ bytesLim) = true := limOk (by rw [List.length_take]; omega)
        simp only [wire_Text, wire_sized, wire_sized_1, hi, rI, Option.bind_some, z, cond_false, c1, c2, List.length_map, w1, c3, cond_true, w2, c4, c5, Int.toNat_natCast, d, c6, rL]
        rw [Nat.add_assoc]
end Go.RX.L

namespace Go.RX.L
open Go Go.RX Go.Proofs
attribute [local irreducible] FinQ
noncomputable def ref01_Same_c := codeAt (bodyOf Tryd.f46)
noncomputable def ref01_Same_e (y : Bool) : D × Sto := (.bool y, [])
inductive ref01_Same_S where
 | s0 (a b : List Int)
 | s1 (a b : List Int) (i : Int)
noncomputable def ref01_Same_M : ref01_Same_S → M
 | .s0 a b => startM Tryd.f46 [.sl false 1 (List.map (eInt .i64) a), .sl false 1 (List.map (eInt .i64) b)] []
 | .s1 a b i => ⟨[.lpc (ref01_Same_c [1, 1, 0, 1, 0, 0]) 35, .blk 0, .code (ref01_Same_c [1, 1, 1])], [(0, .sl false 1 (List.map (eInt .i64) a)), (1, .sl false 1 (List.map (eInt .i64) b)), (5, .int .i64 i)], []⟩
abbrev ref01_Same_W := SOk E (Cx.of Tryd.f46 false 0) ref01_Same_e ref01_Same_M
end Go.RX.L

namespace Go.RX.L
open Go Go.RX
def btw (lo hi : Int) (l : List Int) : Bool := l.all fun n => decide (lo ≤ n ∧ n ≤ hi)
theorem btw_cons (lo hi x : Int) (l : List Int) : btw lo hi (x :: l) = (decide (lo ≤ x ∧ x ≤ hi) && btw lo hi l) := rfl
theorem btw_iff {lo hi : Int} {l : List Int} : btw lo hi l = true ↔ ∀ x ∈ l, lo ≤ x ∧ x ≤ hi := by simp [btw]
theorem ix_loop (l : List Int) (lo hi : Int) (hl : l.length < 9223372036854775807) : ∀ (j k : Nat), k + j = l.length → ∃ r : Int, Ev slices_IndexFunc__all_1_step (.s1 l lo hi l.length k) r ∧ decide (r ≥ 0) = !(btw lo hi (l.drop k)) := by
  intro j
  induction j with
  | zero =>
    intro k hk
    refine ⟨-1, .done ?_, ?_⟩
    · simp [slices_IndexFunc__all_1_step, slices_IndexFunc__all_1_1, show ¬ (k : Int) < l.length by omega]
    · rw [List.drop_eq_nil_of_le (by omega)]; rfl
  | succ j ih =>
    intro k hk
    have hlt : k < l.length := by omega
    rw [List.drop_eq_getElem_cons hlt, btw_cons]
    by_cases h : lo ≤ l[k] ∧ l[k] ≤ hi
    · obtain ⟨r, h1, h2⟩ := ih (k + 1) (by omega)
      refine ⟨r, .next (s' := .s1 l lo hi l.length ((k + 1 : Nat) : Int)) ?_ h1, ?_⟩
      · have e1 : decide (l[k] < lo) = false := by simp; omega
        have e2 : decide (l[k] > hi) = false := by simp; omega
        simp only [slices_IndexFunc__all_1_step, slices_IndexFunc__all_1_1, List.length_map, ltB hlt, le0, Bool.and_self, cond_true, Int.toNat_natCast, List.getE hlt, Option.bind_some, plan_all_1, e1, e2, cond_false, wS (show k < 9223372036854775807 by omega)]
      · rw [h2, decide_eq_true h, Bool.true_and]
    · refine ⟨k, .done ?_, ?_⟩
      · have e : plan_all_1 l[k] lo hi = some true := by
          unfold plan_all_1
          by_cases h1 : l[k] < lo
          · rw [decide_eq_true h1]; rfl
          · have h2 : l[k] > hi := by omega
            rw [decide_eq_false h1, decide_eq_true h2]; rfl
        simp only [slices_IndexFunc__all_1_step, slices_IndexFunc__all_1_1, List.length_map, ltB hlt, le0, Bool.and_self, cond_true, Int.toNat_natCast, List.getE hlt, Option.bind_some, e]
      · rw [decide_eq_false h, Bool.false_and]; simp
theorem all_ok (lo hi : Int) {l : List Int} (hl : l.length < 9223372036854775807) : plan_all lo hi l = some (btw lo hi l) := by
  obtain ⟨r, h1, h2⟩ := ix_loop l lo hi hl l.length 0 (by omega)
  have h3 : slices_IndexFunc__all_1 l lo hi = some r := evf_of (.next (s' := .s1 l lo hi l.length 0) (by simp [slices_IndexFunc__all_1_step, slices_IndexFunc__all_1_0]) h1)
  simp only [plan_all, slices_ContainsFunc__all_1, h3, Option.bind_some, h2]
  simp
theorem ix_v2_loop (l : List Int) (lo hi : Int) (hl : l.length < 9223372036854775807) : ∀ (j k : Nat), k + j = l.length → ∃ r : Int, Ev slices_IndexFunc__all_1_v2_step (.s1 l lo hi l.length k) r ∧ decide (r ≥ 0) = !(btw lo hi (l.drop k)) := by
  intro j
  induction j with
  | zero =>
    intro k hk
    refine ⟨-1, .done ?_, ?_⟩
    · simp [slices_IndexFunc__all_1_v2_step, slices_IndexFunc__all_1_v2_1, show ¬ (k : Int) < l.length by omega]
    · rw [List.drop_eq_nil_of_le (by omega)]; rfl
  | succ j ih =>
    intro k hk
    have hlt : k < l.length := by omega
    rw [List.drop_eq_getElem_cons hlt, btw_cons]
    by_cases h : lo ≤ l[k] ∧ l[k] ≤ hi
    · obtain ⟨r, h1, h2⟩ := ih (k + 1) (by omega)
      refine ⟨r, .next (s' := .s1 l lo hi l.length ((k + 1 : Nat) : Int)) ?_ h1, ?_⟩
      · have e1 : decide (l[k] < lo) = false := by simp; omega
        have e2 : decide (l[k] > hi) = false := by simp; omega
        simp only [slices_IndexFunc__all_1_v2_step, slices_IndexFunc__all_1_v2_1, List.length_map, ltB hlt, le0, Bool.and_self, cond_true, Int.toNat_natCast, List.getE hlt, Option.bind_some, plan_all_1_v2, e1, e2, cond_false, wS (show k < 9223372036854775807 by omega)]
      · rw [h2, decide_eq_true h, Bool.true_and]
    · refine ⟨k, .done ?_, ?_⟩
      · have e : plan_all_1_v2 l[k] lo hi = some true := by
          unfold plan_all_1_v2
          by_cases h1 : l[k] < lo
          · rw [decide_eq_true h1]; rfl
          · have h2 : l[k] > hi := by omega
            rw [decide_eq_false h1, decide_eq_true h2]; rfl
        simp only [slices_IndexFunc__all_1_v2_step, slices_IndexFunc__all_1_v2_1, List.length_map, ltB hlt, le0, Bool.and_self, cond_true, Int.toNat_natCast, List.getE hlt, Option.bind_some, e]
      · rw [decide_eq_false h, Bool.false_and]; simp
theorem all_v2_ok (lo hi : Int) {l : List Int} (hl : l.length < 9223372036854775807) : plan_all_v2 lo hi l = some (btw lo hi l) := by
  obtain ⟨r, h1, h2⟩ := ix_v2_loop l lo hi hl l.length 0 (by omega)
  have h3 : slices_IndexFunc__all_1_v2 l lo hi = some r := evf_of (.next (s' := .s1 l lo hi l.length 0) (by simp [slices_IndexFunc__all_1_v2_step, slices_IndexFunc__all_1_v2_0]) h1)
  simp only [plan_all_v2, slices_ContainsFunc__all_1_v2, h3, Option.bind_some, h2]
  simp
theorem eq_loop (a b : List Int) (hl : a.length < 9223372036854775807) (hab : a.length = b.length) : ∀ (j k : Nat), k + j = a.length → Ev slices_Equal_step (.s1 a b a.length k) (decide (a.drop k = b.drop k)) := by
  intro j
  induction j with
  | zero =>
    intro k hk
    refine .done ?_
    rw [List.drop_eq_nil_of_le (by omega), List.drop_eq_nil_of_le (by omega)]
    simp [slices_Equal_step, slices_Equal_1, show ¬ (k : Int) < a.length by omega]
  | succ j ih =>
    intro k hk
    have h1 : k < a.length := by omega
    have h2 : k < b.length := by omega
    rw [List.drop_eq_getElem_cons h1, List.drop_eq_getElem_cons h2]
    by_cases h : a[k] = b[k]
    · refine .next (s' := .s1 a b a.length ((k + 1 : Nat) : Int)) ?_ ?_
      · have e : (a[k] != b[k]) = false := by simp [h]
        simp only [slices_Equal_step, slices_Equal_1, List.length_map, ltB h1, ltB h2, le0, Bool.and_self, cond_true, Int.toNat_natCast, List.getE h1, List.getE h2, Option.bind_some, e, cond_false, wS (show k < 9223372036854775807 by omega)]
      · rw [show (decide (a[k] :: a.drop (k + 1) = b[k] :: b.drop (k + 1))) = decide (a.drop (k + 1) = b.drop (k + 1)) by simp only [h, List.cons.injEq, true_and]]
        exact ih (k + 1) (by omega)
    · refine .done ?_
      have e : (a[k] != b[k]) = true := by simp [h]
      simp only [slices_Equal_step, slices_Equal_1, List.length_map, ltB h1, ltB h2, le0, Bool.and_self, cond_true, Int.toNat_natCast, List.getE h1, List.getE h2, Option.bind_some, e]
      rw [show (decide (a[k] :: a.drop (k + 1) = b[k] :: b.drop (k + 1))) = false by simp only [h, List.cons.injEq, false_and, decide_false]]
theorem equal_ok {a b : List Int} (hl : a.length < 9223372036854775807) : slices_Equal a b = some (decide (a = b)) := by
  by_cases hab : a.length = b.length
  · refine evf_of (.next (s' := .s1 a b a.length 0) (by simp [slices_Equal_step, slices_Equal_0, hab]) ?_)
    simpa using eq_loop a b hl hab a.length 0 (by omega)
  · refine evf_of (.done ?_)
    have e : (((a.length : Nat) : Int) != ((b.length : Nat) : Int)) = true := by simp; omega
    have hne : a ≠ b := fun h => hab (by rw [h])
    simp [slices_Equal_step, slices_Equal_0, e, hne]
theorem eq_v2_loop (a b : List Int) (hl : a.length < 9223372036854775807) (hab : a.length = b.length) : ∀ (j k : Nat), k + j = a.length → Ev slices_Equal_v2_step (.s1 a b a.length k) (decide (a.drop k = b.drop k)) := by
  intro j
  induction j with
  | zero =>
    intro k hk
    refine .done ?_
    rw [List.drop_eq_nil_of_le (by omega), List.drop_eq_nil_of_le (by omega)]
    simp [slices_Equal_v2_step, slices_Equal_v2_1, show ¬ (k : Int) < a.length by omega]
  | succ j ih =>
    intro k hk
    have h1 : k < a.length := by omega
    have h2 : k < b.length := by omega
    rw [List.drop_eq_getElem_cons h1, List.drop_eq_getElem_cons h2]
    by_cases h : a[k] = b[k]
    · refine .next (s' := .s1 a b a.length ((k + 1 : Nat) : Int)) ?_ ?_
      · have e : (a[k] != b[k]) = false := by simp [h]
        simp only [slices_Equal_v2_step, slices_Equal_v2_1, List.length_map, ltB h1, ltB h2, le0, Bool.and_self, cond_true, Int.toNat_natCast, List.getE h1, List.getE h2, Option.bind_some, e, cond_false, wS (show k < 9223372036854775807 by omega)]
      · rw [show (decide (a[k] :: a.drop (k + 1) = b[k] :: b.drop (k + 1))) = decide (a.drop (k + 1) = b.drop (k + 1)) by simp only [h, List.cons.injEq, true_and]]
        exact ih (k + 1) (by omega)
    · refine .done ?_
      have e : (a[k] != b[k]) = true := by simp [h]
      simp only [slices_Equal_v2_step, slices_Equal_v2_1, List.length_map, ltB h1, ltB h2, le0, Bool.and_self, cond_true, Int.toNat_natCast, List.getE h1, List.getE h2, Option.bind_some, e]
      rw [show (decide (a[k] :: a.drop (k + 1) = b[k] :: b.drop (k + 1))) = false by simp only [h, List.cons.injEq, false_and, decide_false]]
theorem equal_v2_ok {a b : List Int} (hl : a.length < 9223372036854775807) : slices_Equal_v2 a b = some (decide (a = b)) := by
  by_cases hab : a.length = b.length
  · refine evf_of (.next (s' := .s1 a b a.length 0) (by simp [slices_Equal_v2_step, slices_Equal_v2_0, hab]) ?_)
    simpa using eq_v2_loop a b hl hab a.length 0 (by omega)
  · refine evf_of (.done ?_)
    have e : (((a.length : Nat) : Int) != ((b.length : Nat) : Int)) = true := by simp; omega
    have hne : a ≠ b := fun h => hab (by rw [h])
    simp [slices_Equal_v2_step, slices_Equal_v2_0, e, hne]
def srtB (l : List Int) (n : Nat) : Bool := (List.range n).all fun i => decide (l.getD i 0 ≤ l.getD (i + 1) 0)
def srt (l : List Int) : Bool := srtB l (l.length - 1)
theorem srtB_succ (l : List Int) (n : Nat) : srtB l (n + 1) = (srtB l n && decide (l.getD n 0 ≤ l.getD (n + 1) 0)) := by
  simp [srtB, List.range_succ, Bool.and_comm]
theorem sorted_loop (l : List Int) (hl : l.length < 9223372036854775807) : ∀ (i : Nat), i < l.length ∨ i = 0 → Ev slices_IsSorted_step (.s1 l i) (srtB l i)
  | 0, _ => .done (by simp [slices_IsSorted_step, slices_IsSorted_1, srtB])
  | i + 1, h => by
    have h1 : i + 1 < l.length := by omega
    have h0 : i < l.length := by omega
    have e0 : decide (((i + 1 : Nat) : Int) > 0) = true := decide_eq_true (by omega)
    have e1 : IntKind.i64.wrap (((i + 1 : Nat) : Int) - 1) = (i : Int) := by rw [wI64 (by omega) (by omega)]; omega
    have less : ∀ x y : Int, cmp_Less x y = some (decide (x < y)) := fun x y => by
      simp only [cmp_Less, cmp_isNaN, Option.bind_some]
      simp
    rw [srtB_succ]
    have g1 : l.getD i 0 = l[i] := by simp [h0]
    have g2 : l.getD (i + 1) 0 = l[i + 1] := by simp [h1]
    rw [g1, g2]
    by_cases hle : l[i] ≤ l[i + 1]
    · rw [decide_eq_true hle, Bool.and_true]
      refine .next (s' := .s1 l i) ?_ (sorted_loop l hl i (.inl h0))
      have e2 : decide (l[i + 1] < l[i]) = false := by simp; omega
      simp only [slices_IsSorted_step, slices_IsSorted_1, List.length_map, e0, e1, ltB h0, ltB h1, le0, Bool.and_self, cond_true, Int.toNat_natCast, List.getE h0, List.getE h1, Option.bind_some, less, e2, cond_false]
    · rw [decide_eq_false hle, Bool.and_false]
      refine .done ?_
      have e2 : decide (l[i + 1] < l[i]) = true := by simp; omega
      simp only [slices_IsSorted_step, slices_IsSorted_1, List.length_map, e0, e1, ltB h0, ltB h1, le0, Bool.and_self, cond_true, Int.toNat_natCast, List.getE h0, List.getE h1, Option.bind_some, less, e2]
theorem sorted_ok {l : List Int} (hl : l.length < 9223372036854775807) : slices_IsSorted l = some (srt l) := by
  by_cases h0 : l.length = 0
  · have : l = [] := List.eq_nil_of_length_eq_zero h0
    subst this
    refine evf_of (.next (s' := .s1 [] (-1)) (by simp [slices_IsSorted_step, slices_IsSorted_0]; rfl) (.done (by simp [slices_IsSorted_step, slices_IsSorted_1, srt, srtB])))
  · refine evf_of (.next (s' := .s1 l ((l.length - 1 : Nat) : Int)) ?_ (sorted_loop l hl (l.length - 1) (.inl (by omega))))
    have : IntKind.i64.wrap ((l.length : Int) - 1) = ((l.length - 1 : Nat) : Int) := by rw [wI64 (by omega) (by omega)]; omega
    simp [slices_IsSorted_step, slices_IsSorted_0, this]
/-! ### right -/
def right0 (p : Plan) : Bool := decide (0 ≤ p.Epoch) && (btw (-1) 15 [p.Target, p.Prev, p.Spill] && btw 0 100 [p.Percent])
def right1 (p : Plan) : Bool := btw 0 1099511627776 [p.Stamp, p.Since, p.Ramped] && (decide (p.Up ≤ 65535) && decide (p.Sup ≤ 65535))
def right2 (p : Plan) : Bool := decide (p.Pen.length ≤ 16) && decide (p.Changes.length ≤ 8)
def right3 (p : Plan) : Bool := btw 0 1000000 p.Pen && (btw 0 1099511627776 p.Changes && srt p.Changes)
def rightP (p : Plan) : Bool := right0 p && (right1 p && (right2 p && right3 p))
structure Rt (p : Plan) : Prop where
  epoch : 0 ≤ p.Epoch
  tps : ∀ x ∈ [p.Target, p.Prev, p.Spill], -1 ≤ x ∧ x ≤ 15
  pc : 0 ≤ p.Percent ∧ p.Percent ≤ 100
  times : ∀ x ∈ [p.Stamp, p.Since, p.Ramped], 0 ≤ x ∧ x ≤ 1099511627776
  up : p.Up ≤ 65535
  sup : p.Sup ≤ 65535
  penl : p.Pen.length ≤ 16
  chl : p.Changes.length ≤ 8
  pen : ∀ x ∈ p.Pen, 0 ≤ x ∧ x ≤ 1000000
  ch : ∀ x ∈ p.Changes, 0 ≤ x ∧ x ≤ 1099511627776
  srt : srt p.Changes = true
theorem rightP_iff {p : Plan} : rightP p = true ↔ Rt p := by
  constructor
  · intro h
    simp only [rightP, right0, right1, right2, right3, Bool.and_eq_true, decide_eq_true_eq, btw_iff] at h
    obtain ⟨⟨a1, a2, a3⟩, ⟨b1, b2, b3⟩, ⟨c1, c2⟩, d1, d2, d3⟩ := h
    exact ⟨a1, a2, a3 _ (by simp), b1, b2, b3, c1, c2, d1, d2, d3⟩
  · rintro ⟨a1, a2, a3, b1, b2, b3, c1, c2, d1, d2, d3⟩
    simp only [rightP, right0, right1, right2, right3, Bool.and_eq_true, decide_eq_true_eq, btw_iff]
    exact ⟨⟨a1, a2, fun x hx => by simp at hx; subst hx; exact a3⟩, ⟨b1, b2, b3⟩, ⟨c1, c2⟩, d1, d2, d3⟩
/-- Short enough. -/
structure Shrt (a : Plan) : Prop where
  pen : a.Pen.length < 9223372036854775807
  ch : a.Changes.length < 9223372036854775807
theorem short {l : List Int} (h : l.length * 8 ≤ reachBytes) : l.length < 9223372036854775807 := by
  have : reachBytes ≤ 9223372036854775807 := by decide
  omega
theorem Plan.Ok.shrt {a : Plan} (h : a.Ok) : Shrt a := by
  obtain ⟨-, -, -, -, -, -, -, -, -, -, h1, h2⟩ := h
  exact ⟨short h1.1, short h2.1⟩
theorem Rt.shrt {p : Plan} (h : Rt p) : Shrt p := ⟨by have := h.penl; omega, by have := h.chl; omega⟩
theorem right_ok {p : Plan} (hs : Shrt p) (hu : 0 ≤ p.Up) (hv : 0 ≤ p.Sup) : plan_Right p = some (rightP p) := by
  have k1 : plan_Right_1 false p = some (right3 p) := by
    simp only [plan_Right_1, cond_false, all_v2_ok 0 1000000 hs.pen, all_ok 0 1099511627776 hs.ch, sorted_ok hs.ch, Option.bind_some, right3]
    cases btw 0 1000000 p.Pen <;> cases btw 0 1099511627776 p.Changes <;> cases srt p.Changes <;> rfl
  have k2 : plan_Right_2 false p = some (right2 p && right3 p) := by
    simp only [plan_Right_2, cond_false, List.length_map, right2]
    by_cases h1 : p.Pen.length ≤ 16
    · have e1 : decide (((p.Pen.length : Nat) : Int) > 16) = false := by simp; omega
      rw [e1, decide_eq_true h1]
      by_cases h2 : p.Changes.length ≤ 8
      · have e2 : decide (((p.Changes.length : Nat) : Int) > 8) = false := by simp; omega
        rw [e2, decide_eq_true h2, cond_false, k1]; rfl
      · have e2 : decide (((p.Changes.length : Nat) : Int) > 8) = true := by simp; omega
        rw [e2, decide_eq_false h2]; rfl
    · have e1 : decide (((p.Pen.length : Nat) : Int) > 16) = true := by simp; omega
      rw [e1, decide_eq_false h1]; rfl
  have k3 : plan_Right_3 false p = some (right1 p && (right2 p && right3 p)) := by
    simp only [plan_Right_3, cond_false, all_ok 0 1099511627776 (l := [p.Stamp, p.Since, p.Ramped]) (by simp), Option.bind_some, right1]
    cases hb : btw 0 1099511627776 [p.Stamp, p.Since, p.Ramped] with
    | false => rfl
    | true =>
      have e : decide (mxI p.Up p.Sup ≥ 65536) = !(decide (p.Up ≤ 65535) && decide (p.Sup ≤ 65535)) := by
        unfold mxI
        by_cases h1 : p.Up ≤ 65535 <;> by_cases h2 : p.Sup ≤ 65535 <;> simp [h1, h2] <;> split <;> omega
      simp only [Bool.not_true, cond_false, e]
      cases (decide (p.Up ≤ 65535) && decide (p.Sup ≤ 65535)) with
      | false => rfl
      | true => simp only [Bool.not_true, k2]; rfl
  simp only [plan_Right, rightP, right0]
  by_cases h0 : p.Epoch < 0
  · rw [decide_eq_true h0, decide_eq_false (by omega : ¬ 0 ≤ p.Epoch)]; rfl
  · rw [decide_eq_false h0, decide_eq_true (by omega : 0 ≤ p.Epoch)]
    simp only [cond_false, all_v2_ok (-1) 15 (l := [p.Target, p.Prev, p.Spill]) (by simp), all_v2_ok 0 100 (l := [p.Percent]) (by simp), Option.bind_some]
    cases btw (-1) 15 [p.Target, p.Prev, p.Spill] with
    | false => rfl
    | true =>
      cases btw 0 100 [p.Percent] with
      | false => rfl
      | true => simp only [Bool.not_true, cond_false, k3]; rfl
end Go.RX.L

namespace Go.RX.L
open Go Go.RX
/-- A plan of words. -/
structure Fine (p : Plan) : Prop where
  e : inK .i64 p.Epoch
  up : 0 ≤ p.Up
  sup : 0 ≤ p.Sup
  s : Shrt p
theorem Plan.Ok.fine {p : Plan} (h : p.Ok) : Fine p := by
  have hs := h.shrt
  obtain ⟨a, -, -, -, -, -, -, -, b, c, -, -⟩ := h
  exact ⟨a, (inU64.1 b).1, (inU64.1 c).1, hs⟩
def nums (p : Plan) : List Int := [p.Epoch, p.Target, p.Prev, p.Spill, p.Percent, p.Stamp, p.Since, p.Ramped, p.Up, p.Sup]
def encP (p : Plan) : List Int := encL (nums p) ++ (encL p.Pen ++ encL p.Changes)
theorem nums_in {p : Plan} (hf : Fine p) (h : Rt p) : I64s (nums p) := by
  have t1 := h.tps p.Target (by simp)
  have t2 := h.tps p.Prev (by simp)
  have t3 := h.tps p.Spill (by simp)
  have u1 := h.times p.Stamp (by simp)
  have u2 := h.times p.Since (by simp)
  have u3 := h.times p.Ramped (by simp)
  have v1 := h.up
  have v2 := h.sup
  have v3 := hf.up
  have v4 := hf.sup
  have pc := h.pc
  intro x hx
  simp only [nums, List.mem_cons, List.not_mem_nil, or_false] at hx
  rcases hx with rfl | rfl | rfl | rfl | rfl | rfl | rfl | rfl | rfl | rfl
  · exact hf.e
  all_goals exact inI64.2 (by omega)
theorem pen_in {p : Plan} (h : Rt p) : I64s p.Pen := fun x hx => inI64.2 (by have := h.pen x hx; omega)
theorem ch_in {p : Plan} (h : Rt p) : I64s p.Changes := fun x hx => inI64.2 (by have := h.ch x hx; omega)
theorem encP_bytes (p : Plan) : Bytes (encP p) := fun c hc => by
  rcases List.mem_append.1 hc with h | h
  · exact encL_bytes _ c h
  · rcases List.mem_append.1 h with h | h <;> exact encL_bytes _ c h
theorem encP_len {p : Plan} (hf : Fine p) (h : Rt p) : (encP p).length ≤ 1950 := by
  have h1 := encL_len (nums_in hf h) (by simp [nums])
  have h2 := encL_len (pen_in h) (by have := h.penl; omega)
  have h3 := encL_len (ch_in h) (by have := h.chl; omega)
  simp only [encP, List.length_append]; omega
/-! ### written -/
def putP (p : Plan) : List Int × Int := if rightP p = true then (encP p, 0) else ([], 41)
theorem put_s2 {l0 l1 l2 : List Int} (h0 : I64s l0) (h1 : I64s l1) (h2 : I64s l2) (k0 : l0.length ≤ 64) (k1 : l1.length ≤ 64) (k2 : l2.length ≤ 64) : Ev plan_Put_step (.s2 0 [] [l0, l1, l2]) (encL l0 ++ (encL l1 ++ encL l2), 0) := by
  have n0 := encL_len h0 k0
  have n1 := encL_len h1 k1
  have n2 := encL_len h2 k2
  refine .next (s' := .s2 1 (encL l0) [l0, l1, l2]) ?_ (.next (s' := .s2 2 (encL l0 ++ encL l1) [l0, l1, l2]) ?_ (.next (s' := .s2 3 (encL l0 ++ encL l1 ++ encL l2) [l0, l1, l2]) ?_ (.done ?_)))
  · have hl : decide (((List.map (eInt .u8) ([] : List Int)).length + (List.map (eInt .u8) (encL l0)).length) * 1 ≤ bytesLim) = true := limOk (by simp; omega)
    simp only [plan_Put_step, plan_Put_2, take_full]
    simp only [show (0 + (0 : Int).toNat) = 0 from rfl, List.getElem?_cons_zero, Option.bind_some, putInts_ok h0 k0, hl]
    rfl
  · have hl : decide (((List.map (eInt .u8) (encL l0)).length + (List.map (eInt .u8) (encL l1)).length) * 1 ≤ bytesLim) = true := limOk (by simp; omega)
    simp only [plan_Put_step, plan_Put_2, take_full]
    simp only [show (0 + (1 : Int).toNat) = 1 from rfl, List.getElem?_cons_succ, List.getElem?_cons_zero, Option.bind_some, putInts_ok h1 k1, hl]
    rfl
  · have hl : decide (((List.map (eInt .u8) (encL l0 ++ encL l1)).length + (List.map (eInt .u8) (encL l2)).length) * 1 ≤ bytesLim) = true := limOk (by simp; omega)
    simp only [plan_Put_step, plan_Put_2, take_full]
    simp only [show (0 + (2 : Int).toNat) = 2 from rfl, List.getElem?_cons_succ, List.getElem?_cons_zero, Option.bind_some, putInts_ok h2 k2, hl]
    rfl
  · rw [List.append_assoc]; rfl
theorem put_s1 {p : Plan} (hf : Fine p) (h : Rt p) : ∀ (j k : Nat), k + j = p.Pen.length → Ev plan_Put_step (.s1 p.Pen p.Pen.length k p (p.Pen.take k)) (encP p, 0) := by
  intro j
  have hpl := h.penl
  induction j with
  | zero =>
    intro k hk
    have hup := h.up
    have hsup := h.sup
    have e1 : IntKind.i64.wrap p.Up = p.Up := wI64 (by have := hf.up; omega) (by omega)
    have e2 : IntKind.i64.wrap p.Sup = p.Sup := wI64 (by have := hf.sup; omega) (by omega)
    rw [List.take_of_length_le (by omega)]
    refine .next (s' := .s2 0 [] [nums p, p.Pen, p.Changes]) ?_ (put_s2 (nums_in hf h) (pen_in h) (ch_in h) (by simp [nums]) (by omega) (by have := h.chl; omega))
    simp only [plan_Put_step, plan_Put_1, geB (show p.Pen.length ≤ k by omega), cond_false, plan_numbers, Option.bind_some, e1, e2, nums]
  | succ j ih =>
    intro k hk
    have hlt : k < p.Pen.length := by omega
    refine .next (s' := .s1 p.Pen p.Pen.length ((k + 1 : Nat) : Int) p (p.Pen.take (k + 1))) ?_ (ih (k + 1) (by omega))
    have hl : decide (((List.map (eInt .i64) (p.Pen.take k)).length + 1) * 8 ≤ bytesLim) = true := limOk (by simp; omega)
    simp only [plan_Put_step, plan_Put_1, ltB hlt, cond_true, List.length_map] at hl ⊢
    simp only [ltB hlt, le0, Bool.and_self, cond_true, Int.toNat_natCast, List.getE hlt, Option.bind_some, hl, wS (show k < 9223372036854775807 by omega), take_snoc hlt]
theorem put_ok {p : Plan} (hf : Fine p) : plan_Put p = some (putP p) := by
  unfold putP
  by_cases hr : rightP p = true
  · rw [if_pos hr]
    refine evf_of (.next (s' := .s1 p.Pen p.Pen.length 0 p []) ?_ (put_s1 hf (rightP_iff.1 hr) p.Pen.length 0 (by omega)))
    simp only [plan_Put_step, plan_Put_0, right_ok hf.s hf.up hf.sup, hr, Option.bind_some, List.length_map]
    rfl
  · rw [if_neg hr]
    refine evf_of (.done ?_)
    simp only [plan_Put_step, plan_Put_0, right_ok hf.s hf.up hf.sup, Option.bind_some]
    rw [Bool.eq_false_iff.2 hr]; rfl
/-! ### read -/
def zeroPl : Plan := ⟨0, 0, 0, 0, 0, 0, 0, 0, 0, 0, [], []⟩
def parse3 (b : List Int) : Option (List Int × List Int × List Int) := match pL b with
  | .inl _ => none
  | .inr (l, k1) => (match pL (b.drop k1) with
    | .inl _ => none
    | .inr (pen, k2) => (match pL (b.drop (k1 + k2)) with
      | .inl _ => none
      | .inr (ch, k3) => if k1 + k2 + k3 = b.length then some (l, pen, ch) else none))
def planOf (l pen ch : List Int) : Plan := ⟨l.getD 0 0, l.getD 1 0, l.getD 2 0, l.getD 3 0, l.getD 4 0, l.getD 5 0, l.getD 6 0, l.getD 7 0, l.getD 8 0, l.getD 9 0, pen, ch⟩
def okOf (l pen ch : List Int) : Bool := decide (l.length = 10) && (decide (0 ≤ l.getD 8 0) && (decide (0 ≤ l.getD 9 0) && rightP (planOf l pen ch)))
def getP (b : List Int) : Plan × Int := match parse3 b with
  | none => (zeroPl, 41)
  | some (l, pen, ch) => if okOf l pen ch = true then (planOf l pen ch, 0) else (zeroPl, 41)
theorem parse3_enc {p : Plan} (hf : Fine p) (h : Rt p) : parse3 (encP p) = some (nums p, p.Pen, p.Changes) := by
  have h1 := pL_enc (nums_in hf h) (by simp [nums]) (encL p.Pen ++ encL p.Changes)
  have h2 := pL_enc (pen_in h) (by have := h.penl; omega) (encL p.Changes)
  have h3 := pL_enc (ch_in h) (by have := h.chl; omega) []
  rw [List.append_nil] at h3
  unfold parse3 encP
  rw [h1]
  simp only [List.drop_left]
  rw [h2]
  have e : (encL (nums p) ++ (encL p.Pen ++ encL p.Changes)).drop ((encL (nums p)).length + (encL p.Pen).length) = encL p.Changes := by
    rw [← List.drop_drop, List.drop_left, List.drop_left]
  simp only [e]
  rw [h3]
  simp [Nat.add_assoc]
theorem planOf_nums (p : Plan) : planOf (nums p) p.Pen p.Changes = p := rfl
theorem getP_enc {p : Plan} (hf : Fine p) (h : rightP p = true) : getP (encP p) = (p, 0) := by
  unfold getP
  rw [parse3_enc hf (rightP_iff.1 h)]
  have hk : okOf (nums p) p.Pen p.Changes = true := by
    simp only [okOf, planOf_nums, h, Bool.and_true, Bool.and_eq_true, decide_eq_true_eq]
    exact ⟨rfl, hf.up, hf.sup⟩
  simp only [hk, if_true, planOf_nums]
theorem parse3_dec {b l pen ch : List Int} (hb : Bytes b) (h : parse3 b = some (l, pen, ch)) : encL l ++ (encL pen ++ encL ch) = b ∧ I64s l ∧ I64s pen ∧ I64s ch ∧ l.length ≤ 64 ∧ pen.length ≤ 64 ∧ ch.length ≤ 64 := by
  unfold parse3 at h
  split at h
  · cases h
  · rename_i l' k1 h1
    split at h
    · cases h
    · rename_i pen' k2 h2
      split at h
      · cases h
      · rename_i ch' k3 h3
        split at h
        · rename_i hk
          simp only [Option.some.injEq, Prod.mk.injEq] at h
          obtain ⟨rfl, rfl, rfl⟩ := h
          obtain ⟨a1, a2, a3, a4, a5⟩ := pL_dec hb h1
          obtain ⟨b1, b2, b3, b4, b5⟩ := pL_dec (fun c hc => hb c (List.mem_of_mem_drop hc)) h2
          obtain ⟨c1, c2, c3, c4, c5⟩ := pL_dec (fun c hc => hb c (List.mem_of_mem_drop hc)) h3
          refine ⟨?_, a5, b5, c5, a4, b4, c4⟩
          rw [← a1, ← b1, ← c1]
          have e1 : List.take k3 (List.drop (k1 + k2) b) = List.drop (k1 + k2) b := List.take_of_length_le (by rw [List.length_drop]; omega)
          rw [e1, ← List.drop_drop, List.take_append_drop, List.take_append_drop]
        · cases h
theorem nums_planOf {l : List Int} (h : l.length = 10) (pen ch : List Int) : nums (planOf l pen ch) = l := by
  match l, h with
  | [_, _, _, _, _, _, _, _, _, _], _ => rfl
theorem getP_dec {b : List Int} (hb : Bytes b) {p : Plan} (h : getP b = (p, 0)) : rightP p = true ∧ Fine p ∧ encP p = b := by
  unfold getP at h
  split at h
  · cases h
  · rename_i l pen ch hp
    split at h
    · rename_i hk
      simp only [Prod.mk.injEq, and_true] at h
      subst h
      obtain ⟨h1, h2, h3, h4, h5, h6, h7⟩ := parse3_dec hb hp
      simp only [okOf, Bool.and_eq_true, decide_eq_true_eq] at hk
      obtain ⟨k1, k2, k3, k4⟩ := hk
      have hlen0 : 0 < l.length := by omega
      refine ⟨k4, ⟨?_, k2, k3, ⟨by show pen.length < _; omega, by show ch.length < _; omega⟩⟩, ?_⟩
      · show inK .i64 (l.getD 0 0)
        have : l.getD 0 0 = l[0] := by simp [hlen0]
        rw [this]; exact h2 _ (List.getElem_mem hlen0)
      · unfold encP
        rw [nums_planOf k1]
        exact h1
    · cases h
theorem rL_le {b : List Int} (hb : Bytes b) {at_ : Nat} {xs : List Int} {k : Nat} (h : pL (b.drop at_) = .inr (xs, k)) : k ≤ b.length - at_ := by
  have := (pL_dec (fun c hc => hb c (List.mem_of_mem_drop hc)) h).2.1
  rwa [List.length_drop] at this
theorem pL_err {l : List Int} {e : Int} (h : pL l = .inl e) : (e != 0) = true := by
  unfold pL at h
  split at h
  · rename_i e' he
    obtain rfl := Sum.inl.inj h
    exact err_ne he
  · split at h
    · obtain rfl := Sum.inl.inj h; rfl
    · split at h
      · rename_i n k hn hno e' hN
        obtain rfl := Sum.inl.inj h
        have key : ∀ (n : Nat) (l : List Int) (e : Int), pN n l = .inl e → (e != 0) = true := by
          intro n
          induction n with
          | zero => intro l e h; simp [pN] at h
          | succ n ih =>
            intro l e h
            simp only [pN] at h
            split at h
            · rename_i e' he
              obtain rfl := Sum.inl.inj h
              exact err_ne he
            · split at h
              · rename_i e' he
                obtain rfl := Sum.inl.inj h
                exact ih _ _ he
              · cases h
        exact key _ _ _ hN
      · cases h
theorem get_s3 {pen ch : List Int} {a0 a1 a2 a3 a4 a5 a6 a7 a8 a9 : Int} {z : Plan} (h8 : 0 ≤ a8) (h9 : 0 ≤ a9) (hp : pen.length ≤ 64) (hc : ch.length ≤ 64) : ∀ (j k : Nat), k + j = pen.length →
    Ev plan_Get_step (.s3 pen pen.length k z a0 a1 a2 a3 a4 a5 a6 a7 a8 a9 ch (pen.take k)) (if rightP ⟨a0, a1, a2, a3, a4, a5, a6, a7, a8, a9, pen, ch⟩ = true then (⟨a0, a1, a2, a3, a4, a5, a6, a7, a8, a9, pen, ch⟩, 0) else (zeroPl, 41)) := by
  intro j
  induction j with
  | zero =>
    intro k hk
    rw [List.take_of_length_le (by omega)]
    refine .done ?_
    have hr := right_ok (p := ⟨a0, a1, a2, a3, a4, a5, a6, a7, a8, a9, pen, ch⟩) ⟨by show pen.length < _; omega, by show ch.length < _; omega⟩ h8 h9
    simp only [plan_Get_step, plan_Get_3, geB (show pen.length ≤ k by omega), cond_false, hr, Option.bind_some]
    cases rightP ⟨a0, a1, a2, a3, a4, a5, a6, a7, a8, a9, pen, ch⟩ <;> rfl
  | succ j ih =>
    intro k hk
    have hlt : k < pen.length := by omega
    refine .next (s' := .s3 pen pen.length ((k + 1 : Nat) : Int) z a0 a1 a2 a3 a4 a5 a6 a7 a8 a9 ch (pen.take (k + 1))) ?_ (ih (k + 1) (by omega))
    have hl : decide (((List.map (eInt .i64) (pen.take k)).length + 1) * 8 ≤ bytesLim) = true := limOk (by simp; omega)
    simp only [plan_Get_step, plan_Get_3, List.length_map] at hl ⊢
    simp only [ltB hlt, le0, Bool.and_self, cond_true, Int.toNat_natCast, List.getE hlt, Option.bind_some, hl, wS (show k < 9223372036854775807 by omega), take_snoc hlt]
theorem get_s1 {b l pen ch : List Int} {at_ : Nat} {z : Plan} (hl64 : l.length ≤ 64) (hp : pen.length ≤ 64) (hc : ch.length ≤ 64) :
    Ev plan_Get_step (.s1 b at_ 3 z [l, pen, ch]) (if at_ = b.length ∧ okOf l pen ch = true then (planOf l pen ch, 0) else (zeroPl, 41)) := by
  have bad : Ev plan_Get_step (.s2 l true z [l, pen, ch]) (zeroPl, 41) := .done rfl
  by_cases hat : at_ = b.length
  · have e1 : ((at_ : Int) != ((b.length : Nat) : Int)) = false := by simp [hat]
    by_cases h10 : l.length = 10
    · match l, h10 with
      | [a0, a1, a2, a3, a4, a5, a6, a7, a8, a9], _ =>
        have c1 := all_ok (-1) 1048576 (l := [a1, a2, a3, a4]) (by simp)
        have c2 := all_ok 0 1048576 (l := [a8, a9]) (by simp)
        have c3 := all_ok 0 1000000 (l := pen) (by omega)
        have key : plan_Get_step (.s1 b at_ 3 z [[a0, a1, a2, a3, a4, a5, a6, a7, a8, a9], pen, ch]) = some (.inl (.s2 [a0, a1, a2, a3, a4, a5, a6, a7, a8, a9] (!(btw (-1) 1048576 [a1, a2, a3, a4] && (btw 0 1048576 [a8, a9] && btw 0 1000000 pen))) z [[a0, a1, a2, a3, a4, a5, a6, a7, a8, a9], pen, ch])) := by
          simp only [plan_Get_step, plan_Get_1, List.length_map, e1]
          simp only [List.getElem?_cons_zero, List.getElem?_cons_succ, Option.bind_some, show decide ((3 : Int) < 3) = false from rfl, cond_false, List.length_cons, List.length_nil]
          simp only [show ((((0 + 1 + 1 + 1 + 1 + 1 + 1 + 1 + 1 + 1 + 1 : Nat) : Int)) != 10) = false from rfl, cond_false]
          simp only [show decide ((1 : Int) < ((0 + 1 + 1 + 1 + 1 + 1 + 1 + 1 + 1 + 1 + 1 : Nat) : Int)) = true from rfl, show decide ((2 : Int) < ((0 + 1 + 1 + 1 + 1 + 1 + 1 + 1 + 1 + 1 + 1 : Nat) : Int)) = true from rfl, show decide ((3 : Int) < ((0 + 1 + 1 + 1 + 1 + 1 + 1 + 1 + 1 + 1 + 1 : Nat) : Int)) = true from rfl, show decide ((4 : Int) < ((0 + 1 + 1 + 1 + 1 + 1 + 1 + 1 + 1 + 1 + 1 : Nat) : Int)) = true from rfl, show decide ((8 : Int) ≤ ((0 + 1 + 1 + 1 + 1 + 1 + 1 + 1 + 1 + 1 + 1 : Nat) : Int)) = true from rfl, cond_true, c1, Option.bind_some]
          rw [show List.drop 8 (List.take (0 + 1 + 1 + 1 + 1 + 1 + 1 + 1 + 1 + 1 + 1) [a0, a1, a2, a3, a4, a5, a6, a7, a8, a9]) = [a8, a9] from rfl, c2, c3]
          cases btw (-1) 1048576 [a1, a2, a3, a4] with
          | false => rfl
          | true =>
            cases btw 0 1048576 [a8, a9] with
            | false => rfl
            | true => rfl
        refine .next key ?_
        by_cases hok : (btw (-1) 1048576 [a1, a2, a3, a4] && (btw 0 1048576 [a8, a9] && btw 0 1000000 pen)) = true
        · rw [hok]
          simp only [Bool.and_eq_true, btw_iff] at hok
          obtain ⟨k1, k2, k3⟩ := hok
          have b8' := k2 a8 (by simp)
          have b9' := k2 a9 (by simp)
          have w8 : IntKind.u64.wrap a8 = a8 := wU64 (by omega) (by omega)
          have w9 : IntKind.u64.wrap a9 = a9 := wU64 (by omega) (by omega)
          have h3 := get_s3 (pen := pen) (ch := ch) (a0 := a0) (a1 := a1) (a2 := a2) (a3 := a3) (a4 := a4) (a5 := a5) (a6 := a6) (a7 := a7) (z := z) b8'.1 b9'.1 hp hc pen.length 0 (by omega)
          have hres : (if at_ = b.length ∧ okOf [a0, a1, a2, a3, a4, a5, a6, a7, a8, a9] pen ch = true then (planOf [a0, a1, a2, a3, a4, a5, a6, a7, a8, a9] pen ch, (0 : Int)) else (zeroPl, 41)) = (if rightP ⟨a0, a1, a2, a3, a4, a5, a6, a7, a8, a9, pen, ch⟩ = true then (⟨a0, a1, a2, a3, a4, a5, a6, a7, a8, a9, pen, ch⟩, 0) else (zeroPl, 41)) := by
            have : okOf [a0, a1, a2, a3, a4, a5, a6, a7, a8, a9] pen ch = rightP ⟨a0, a1, a2, a3, a4, a5, a6, a7, a8, a9, pen, ch⟩ := by
              simp [okOf, planOf, b8'.1, b9'.1]
            rw [this]
            simp only [hat, true_and]
            rfl
          rw [hres]
          refine .next (s' := .s3 pen pen.length 0 z a0 a1 a2 a3 a4 a5 a6 a7 a8 a9 ch []) ?_ h3
          simp only [plan_Get_step, plan_Get_2, Bool.not_true, cond_false, List.length_map]
          simp only [List.getElem?_cons_zero, List.getElem?_cons_succ, Option.bind_some, List.length_cons, List.length_nil, w8, w9]
          rfl
        · have hf : okOf [a0, a1, a2, a3, a4, a5, a6, a7, a8, a9] pen ch = false := by
            rw [Bool.eq_false_iff]
            intro hk
            simp only [okOf, Bool.and_eq_true, decide_eq_true_eq] at hk
            obtain ⟨-, q1, q2, q3⟩ := hk
            have r := rightP_iff.1 q3
            refine hok ?_
            simp only [Bool.and_eq_true, btw_iff]
            have t1 : -1 ≤ a1 ∧ a1 ≤ 15 := r.tps a1 (by simp [planOf])
            have t2 : -1 ≤ a2 ∧ a2 ≤ 15 := r.tps a2 (by simp [planOf])
            have t3 : -1 ≤ a3 ∧ a3 ≤ 15 := r.tps a3 (by simp [planOf])
            have t4 : 0 ≤ a4 ∧ a4 ≤ 100 := r.pc
            have t5 : a8 ≤ 65535 := r.up
            have t6 : a9 ≤ 65535 := r.sup
            have q1 : 0 ≤ a8 := q1
            have q2 : 0 ≤ a9 := q2
            refine ⟨fun x hx => ?_, fun x hx => ?_, r.pen⟩
            · simp only [List.mem_cons, List.not_mem_nil, or_false] at hx
              rcases hx with rfl | rfl | rfl | rfl <;> omega
            · simp only [List.mem_cons, List.not_mem_nil, or_false] at hx
              rcases hx with rfl | rfl <;> omega
          rw [if_neg (by rw [hf]; simp), Bool.eq_false_iff.2 hok]
          exact .done rfl
    · have hf : okOf l pen ch = false := by simp [okOf, h10]
      rw [if_neg (by rw [hf]; simp)]
      have e2 : (((l.length : Nat) : Int) != 10) = true := by simp; omega
      refine .next (s' := .s2 l true z [l, pen, ch]) ?_ bad
      simp only [plan_Get_step, plan_Get_1, List.length_map, e1, cond_false]
      simp only [List.getElem?_cons_zero, Option.bind_some, show decide ((3 : Int) < 3) = false from rfl, cond_false, e2, cond_true]
  · rw [if_neg (by simp [hat])]
    have e1 : ((at_ : Int) != ((b.length : Nat) : Int)) = true := by simp; omega
    refine .next (s' := .s2 l true z [l, pen, ch]) ?_ bad
    simp only [plan_Get_step, plan_Get_1, List.length_map, e1]
    simp only [List.getElem?_cons_zero, Option.bind_some, show decide ((3 : Int) < 3) = false from rfl, cond_false, cond_true]
theorem get_ok {b : List Int} (hb : Bytes b) (hm : b.length ≤ memB) : plan_Get b = some (getP b) := by
  refine evf_of (.next (s' := .s1 b 0 0 zeroPl [[], [], []]) rfl ?_)
  have i1 : wire_Ints b 0 = some (rL 0 (pL b)) := by
    have := ints_ok hb hm (at_ := 0) (by omega)
    rwa [List.drop_zero] at this
  cases h1 : pL b with
  | inl e =>
    rw [h1] at i1
    have : getP b = (zeroPl, 41) := by simp [getP, parse3, h1]
    rw [this]
    refine .done ?_
    have he := pL_err h1
    simp only [plan_Get_step, plan_Get_1, i1, rL, Option.bind_some, he]
    rfl
  | inr x =>
    obtain ⟨l, k1⟩ := x
    rw [h1] at i1
    have g1 := rL_le hb (at_ := 0) (by rw [List.drop_zero]; exact h1)
    obtain ⟨-, -, -, l64, -⟩ := pL_dec hb h1
    refine .next (s' := .s1 b k1 1 zeroPl [l, [], []]) ?_ ?_
    · simp only [plan_Get_step, plan_Get_1, i1, rL, Option.bind_some, Nat.zero_add]
      rfl
    have i2 := ints_ok hb hm (at_ := k1) (by omega)
    cases h2 : pL (b.drop k1) with
    | inl e =>
      rw [h2] at i2
      have : getP b = (zeroPl, 41) := by simp [getP, parse3, h1, h2]
      rw [this]
      refine .done ?_
      have he := pL_err h2
      simp only [plan_Get_step, plan_Get_1, i2, rL, Option.bind_some, he]
      rfl
    | inr x =>
      obtain ⟨pen, k2⟩ := x
      rw [h2] at i2
      have g2 := rL_le hb h2
      obtain ⟨-, -, -, p64, -⟩ := pL_dec (fun c hc => hb c (List.mem_of_mem_drop hc)) h2
      refine .next (s' := .s1 b ((k1 + k2 : Nat) : Int) 2 zeroPl [l, pen, []]) ?_ ?_
      · simp only [plan_Get_step, plan_Get_1, i2, rL, Option.bind_some]
        rfl
      have i3 := ints_ok hb hm (at_ := k1 + k2) (by omega)
      cases h3 : pL (b.drop (k1 + k2)) with
      | inl e =>
        rw [h3] at i3
        have : getP b = (zeroPl, 41) := by simp [getP, parse3, h1, h2, h3]
        rw [this]
        refine .done ?_
        have he := pL_err h3
        simp only [plan_Get_step, plan_Get_1, i3, rL, Option.bind_some, he]
        rfl
      | inr x =>
        obtain ⟨ch, k3⟩ := x
        rw [h3] at i3
        obtain ⟨-, -, -, c64, -⟩ := pL_dec (fun c hc => hb c (List.mem_of_mem_drop hc)) h3
        have hres : getP b = (if k1 + k2 + k3 = b.length ∧ okOf l pen ch = true then (planOf l pen ch, 0) else (zeroPl, 41)) := by
          simp only [getP, parse3, h1, h2, h3]
          by_cases hk : k1 + k2 + k3 = b.length
          · simp [hk]
          · simp [hk]
        rw [hres]
        refine .next (s' := .s1 b ((k1 + k2 + k3 : Nat) : Int) 3 zeroPl [l, pen, ch]) ?_ (get_s1 l64 p64 c64)
        simp only [plan_Get_step, plan_Get_1, i3, rL, Option.bind_some]
        rfl
end Go.RX.L

namespace Go.RX.L
open Go Go.RX
/-! ### alike -/
def sameN (a b : Plan) : Bool := decide (a.Epoch = b.Epoch) && (decide (a.Target = b.Target) && (decide (a.Prev = b.Prev) && (decide (a.Spill = b.Spill) && (decide (a.Percent = b.Percent) && (decide (a.Stamp = b.Stamp) && (decide (a.Since = b.Since) && (decide (a.Ramped = b.Ramped) && (decide (a.Up = b.Up) && decide (a.Sup = b.Sup)))))))))
def sameP (a b : Plan) : Bool := sameN a b && (decide (a.Pen = b.Pen) && decide (a.Changes = b.Changes))
theorem sameP_iff {a b : Plan} : sameP a b = true ↔ a = b := by
  cases a; cases b
  simp only [sameP, sameN, Bool.and_eq_true, decide_eq_true_eq, Plan.mk.injEq, and_assoc]
theorem wrapI_inj {x y : Int} (hx : inK .u64 x) (hy : inK .u64 y) : (IntKind.i64.wrap x == IntKind.i64.wrap y) = decide (x = y) := by
  obtain ⟨n, rfl⟩ := Int.eq_ofNat_of_zero_le (inU64.1 hx).1
  obtain ⟨m, rfl⟩ := Int.eq_ofNat_of_zero_le (inU64.1 hy).1
  have h1 := (inU64.1 hx).2
  have h2 := (inU64.1 hy).2
  rw [wrapI64_nat n (by omega), wrapI64_nat m (by omega)]
  rw [Bool.eq_iff_iff]
  simp only [beq_iff_eq, decide_eq_true_eq]
  split <;> split <;> omega
theorem wrapI_inj' {x y : Int} (hx : inK .u64 x) (hy : inK .u64 y) : decide (IntKind.i64.wrap x = IntKind.i64.wrap y) = decide (x = y) := by
  rw [← wrapI_inj hx hy, Bool.eq_iff_iff]; simp
theorem same_ok {a b : Plan} (hs : Shrt a) (h1 : inK .u64 a.Up) (h2 : inK .u64 b.Up) (h3 : inK .u64 a.Sup) (h4 : inK .u64 b.Sup) : plan_Same a b = some (sameP a b) := by
  have hb : ∀ x y : Int, (x == y) = decide (x = y) := fun x y => by by_cases h : x = y <;> simp [h]
  simp only [plan_Same, plan_numbers, Option.bind_some, wrapI_inj' h1 h2, wrapI_inj' h3 h4, hb, Bool.and_true, equal_ok hs.pen, equal_v2_ok hs.ch]
  rw [show (decide (a.Epoch = b.Epoch) && (decide (a.Target = b.Target) && (decide (a.Prev = b.Prev) && (decide (a.Spill = b.Spill) && (decide (a.Percent = b.Percent) && (decide (a.Stamp = b.Stamp) && (decide (a.Since = b.Since) && (decide (a.Ramped = b.Ramped) && (decide (a.Up = b.Up) && decide (a.Sup = b.Sup)))))))))) = sameN a b from rfl]
  unfold sameP
  cases sameN a b with
  | false => rfl
  | true => cases decide (a.Pen = b.Pen) <;> rfl
/-! ### the head -/
def namesP (p : Plan) (t : Int) : Bool := decide (0 ≤ t) && (decide (t = p.Target) || ((decide (t = p.Prev) && decide (p.Percent < 100)) || decide (t = p.Spill)))
theorem bytesOf {b : List Int} (h : b.length * 1 ≤ reachBytes ∧ ∀ y ∈ b, inK .u8 y) : Bytes b ∧ b.length ≤ memB := by
  refine ⟨fun c hc => inU8.1 (h.2 c hc), ?_⟩
  have : reachBytes ≤ memB := by decide
  omega
end Go.RX.L

namespace Go.RX.L
open Go Go.RX
/-! ### may it be? -/
def hdM (m : Msg) : Prop := 1 ≤ m.Kind ∧ m.Kind ≤ 19 ∧ 0 ≤ m.From ∧ m.From ≤ 255 ∧ 0 ≤ m.To ∧ m.To ≤ 255 ∧ m.Up ≤ 65535 ∧ 0 ≤ m.Code ∧ m.Code ≤ 1000
instance (m : Msg) : Decidable (hdM m) := by unfold hdM; infer_instance
def txM (m : Msg) : Prop := (m.ID.length = 0 ∨ m.ID.length = 3) ∧ m.Session.length ≤ 64 ∧ m.Payload.length ≤ 1024
instance (m : Msg) : Decidable (txM m) := by unfold txM; infer_instance
def planB (m : Msg) : Bool := bif m.HasPlan then rightP m.Plan else sameP m.Plan zeroPl
def rightM (m : Msg) : Bool := decide (hdM m) && (decide (txM m) && planB m)
structure Shm (m : Msg) : Prop where
  s : Shrt m.Plan
  up : inK .u64 m.Plan.Up
  sup : inK .u64 m.Plan.Sup
theorem mn3_lt (a b c : Int) : (mnI (mnI a b) c < 0) ↔ a < 0 ∨ b < 0 ∨ c < 0 := by unfold mnI; split <;> split <;> omega
theorem mx_gt (a b n : Int) : (mxI a b > n) ↔ a > n ∨ b > n := by unfold mxI; split <;> omega
theorem mx_ge (a b n : Int) : (mxI a b ≥ n) ↔ a ≥ n ∨ b ≥ n := by unfold mxI; split <;> omega
theorem zero_u : inK .u64 (0 : Int) := inU64.2 (by omega)
theorem right1_ok {m : Msg} (h : Shm m) : msg_Right_1 false m = some (planB m) := by
  have hu := inU64.1 h.up
  have hv := inU64.1 h.sup
  unfold msg_Right_1 planB
  cases m.HasPlan
  · have := same_ok (a := m.Plan) (b := zeroPl) h.s h.up zero_u h.sup zero_u
    simp only [cond_false]
    show (plan_Same m.Plan zeroPl).bind _ = _
    rw [this]; rfl
  · simp only [cond_false, cond_true, right_ok h.s hu.1 hv.1, Option.bind_some]
theorem right3_ok {m : Msg} (h : Shm m) : msg_Right_3 false m = some (decide (txM m) && planB m) := by
  have h1 := right1_ok h
  have t1 : msg_Right_1 true m = some false := rfl
  have t2 : msg_Right_2 true m = some false := rfl
  have h2 : msg_Right_2 false m = some (decide (m.Session.length ≤ 64 ∧ m.Payload.length ≤ 1024) && planB m) := by
    simp only [msg_Right_2, cond_false, List.length_map]
    by_cases a : m.Session.length ≤ 64
    · rw [show decide (((m.Session.length : Nat) : Int) > 64) = false from decide_eq_false (by omega)]
      by_cases b : m.Payload.length ≤ 1024
      · rw [show decide (((m.Payload.length : Nat) : Int) > 1024) = false from decide_eq_false (by omega), show decide (m.Session.length ≤ 64 ∧ m.Payload.length ≤ 1024) = true from decide_eq_true ⟨a, b⟩, Bool.true_and]; exact h1
      · rw [show decide (((m.Payload.length : Nat) : Int) > 1024) = true from decide_eq_true (by omega), show decide (m.Session.length ≤ 64 ∧ m.Payload.length ≤ 1024) = false from decide_eq_false (fun h => b h.2)]; rfl
    · rw [show decide (((m.Session.length : Nat) : Int) > 64) = true from decide_eq_true (by omega), show decide (m.Session.length ≤ 64 ∧ m.Payload.length ≤ 1024) = false from decide_eq_false (fun h => a h.1)]; rfl
  simp only [msg_Right_3, cond_false, List.length_map]
  by_cases a : m.ID.length = 0
  · rw [show decide (((m.ID.length : Nat) : Int) > 0) = false from decide_eq_false (by omega)]
    rw [show decide (txM m) = decide (m.Session.length ≤ 64 ∧ m.Payload.length ≤ 1024) from decide_eq_decide.2 (by unfold txM; omega)]
    exact h2
  · rw [show decide (((m.ID.length : Nat) : Int) > 0) = true from decide_eq_true (by omega)]
    by_cases b : m.ID.length = 3
    · rw [show (((m.ID.length : Nat) : Int) != 3) = false from by rw [b]; rfl, show decide (txM m) = decide (m.Session.length ≤ 64 ∧ m.Payload.length ≤ 1024) from decide_eq_decide.2 (by unfold txM; omega)]
      exact h2
    · rw [show (((m.ID.length : Nat) : Int) != 3) = true from bne_iff_ne.2 (by omega), show decide (txM m) = false from decide_eq_false (by unfold txM; omega)]
      rfl
theorem mright_ok {m : Msg} (h : Shm m) : msg_Right m = some (rightM m) := by
  have t3 : msg_Right_3 true m = some false := rfl
  by_cases hh : hdM m
  · have h' := hh
    unfold hdM at h'
    rw [rightM, decide_eq_true hh, Bool.true_and, ← right3_ok h]
    simp only [msg_Right]
    rw [show decide (m.Kind < 1) = false from decide_eq_false (by omega), show decide (m.Kind > 19) = false from decide_eq_false (by omega),
      show decide (mnI (mnI m.From m.To) m.Code < 0) = false from decide_eq_false (by rw [mn3_lt]; omega), show decide (mxI m.From m.To > 255) = false from decide_eq_false (by rw [mx_gt]; omega),
      show decide (m.Code > 1000) = false from decide_eq_false (by omega), show decide (m.Up ≥ 65536) = false from decide_eq_false (by omega)]
    rfl
  · rw [rightM, decide_eq_false hh, Bool.false_and]
    unfold hdM at hh
    simp only [msg_Right]
    cases h1 : decide (m.Kind < 1)
    · cases h2 : decide (m.Kind > 19)
      · cases h3 : decide (mnI (mnI m.From m.To) m.Code < 0)
        · cases h4 : decide (mxI m.From m.To > 255)
          · cases h5 : decide (m.Code > 1000)
            · rw [decide_eq_false_iff_not] at h1 h2 h3 h4 h5
              rw [mn3_lt] at h3
              rw [mx_gt] at h4
              rw [show decide (m.Up ≥ 65536) = true from decide_eq_true (by omega)]
              rfl
            · rfl
          · rfl
        · rfl
      · rfl
    · rfl
end Go.RX.L

namespace Go.RX.L
open Go Go.RX
/-! ### bytes -/
/-- A message of words. -/
structure FineM (m : Msg) : Prop where
  sh : Shm m
  pl : Fine m.Plan
  w : I64s [m.Epoch, m.Ballot, m.Accepted, m.Nonce, m.Time]
  up : 0 ≤ m.Up
  id : I64s m.ID
  ses : Bytes m.Session
  pay : Bytes m.Payload
theorem Msg.Ok.fine {m : Msg} (h : m.Ok) : FineM m := by
  obtain ⟨h1, h2, h3, h4, h5, h6, h7, h8, h9, h10, -, hp, hid, hs, hq⟩ := h
  have hp' := hp
  obtain ⟨-, -, -, -, -, -, -, -, u1, u2, -, -⟩ := hp
  refine ⟨⟨hp'.shrt, u1, u2⟩, hp'.fine, ?_, (inU64.1 h9).1, fun x hx => hid.2 x hx, fun x hx => inU8.1 (hs.2 x hx), fun x hx => inU8.1 (hq.2 x hx)⟩
  intro x hx
  simp only [List.mem_cons, List.not_mem_nil, or_false] at hx
  rcases hx with rfl | rfl | rfl | rfl | rfl <;> assumption
def numsM (m : Msg) : List Int := [m.From, m.To, m.Epoch, m.Ballot, m.Accepted, m.Nonce, m.Time, m.Up, m.Code, bif m.HasPlan then 1 else 0]
def encQ (m : Msg) : List Int := bif m.HasPlan then encT (encP m.Plan) else []
def encB (m : Msg) : List Int := encL (numsM m) ++ (encQ m ++ (encL m.ID ++ (encT m.Session ++ encT m.Payload)))
theorem right_and {m : Msg} (h : rightM m = true) : hdM m ∧ txM m ∧ planB m = true := by
  simpa only [rightM, Bool.and_eq_true, decide_eq_true_eq] using h
theorem right_plan {m : Msg} (h : rightM m = true) (hp : m.HasPlan = true) : Rt m.Plan := by
  have := (right_and h).2.2
  rw [planB, hp] at this
  exact rightP_iff.1 this
theorem right_zero {m : Msg} (h : rightM m = true) (hp : m.HasPlan = false) : m.Plan = zeroPl := by
  have := (right_and h).2.2
  rw [planB, hp] at this
  exact sameP_iff.1 this
theorem numsM_in {m : Msg} (hf : FineM m) (h : rightM m = true) : I64s (numsM m) := by
  obtain ⟨h1, h2, h3⟩ := right_and h
  unfold hdM at h1
  have hu := hf.up
  have e1 := inI64.2 (show -9223372036854775808 ≤ m.From ∧ m.From ≤ 9223372036854775807 by omega)
  have e2 := inI64.2 (show -9223372036854775808 ≤ m.To ∧ m.To ≤ 9223372036854775807 by omega)
  have e3 := inI64.2 (show -9223372036854775808 ≤ m.Up ∧ m.Up ≤ 9223372036854775807 by omega)
  have e4 := inI64.2 (show -9223372036854775808 ≤ m.Code ∧ m.Code ≤ 9223372036854775807 by omega)
  have e5 : inK .i64 (bif m.HasPlan then 1 else 0) := by cases m.HasPlan <;> exact inI64.2 (by decide)
  have hw := hf.w
  intro x hx
  simp only [numsM, List.mem_cons, List.not_mem_nil, or_false] at hx
  rcases hx with rfl | rfl | rfl | rfl | rfl | rfl | rfl | rfl | rfl | rfl
  · exact e1
  · exact e2
  · exact hw _ (by simp)
  · exact hw _ (by simp)
  · exact hw _ (by simp)
  · exact hw _ (by simp)
  · exact hw _ (by simp)
  · exact e3
  · exact e4
  · exact e5
theorem encQ_bytes (m : Msg) : Bytes (encQ m) := by
  unfold encQ
  cases m.HasPlan
  · intro c hc; cases hc
  · exact encT_bytes (encP_bytes _)
theorem encB_bytes {m : Msg} (hf : FineM m) : Bytes (encB m) := fun c hc => by
  simp only [encB, List.mem_append] at hc
  rcases hc with hc | hc | hc | hc | hc
  · exact encL_bytes _ c hc
  · exact encQ_bytes m c hc
  · exact encL_bytes _ c hc
  · exact encT_bytes hf.ses c hc
  · exact encT_bytes hf.pay c hc
theorem encQ_len {m : Msg} (hf : FineM m) (h : rightM m = true) : (encQ m).length ≤ 1960 := by
  unfold encQ
  cases hp : m.HasPlan
  · simp
  · have h1 := encP_len hf.pl (right_plan h hp)
    have := encT_len (s := encP m.Plan) (by omega)
    simp only [cond_true]; omega
theorem id_len {m : Msg} (h : rightM m = true) : m.ID.length ≤ 3 ∧ m.Session.length ≤ 64 ∧ m.Payload.length ≤ 1024 := by
  have := (right_and h).2.1
  unfold txM at this
  omega
theorem encB_len {m : Msg} (hf : FineM m) (h : rightM m = true) : (encB m).length ≤ 4400 := by
  have a := encL_len (numsM_in hf h) (by simp [numsM])
  have b := encQ_len hf h
  have hi := id_len h
  have c := encL_len hf.id (by omega)
  have d := encT_len (s := m.Session) (by omega)
  have e := encT_len (s := m.Payload) (by omega)
  simp only [encB, List.length_append]
  omega
def bodyM (m : Msg) : Int × List Int × Int := if rightM m = true then (m.Kind, encB m, 0) else (0, [], 51)
theorem putT_s {s : List Int} (h : s.length ≤ 4096) : putT s = (0, encT s) := if_pos h
theorem body_s1 {m : Msg} (hs : m.Session.length ≤ 64) (hq : m.Payload.length ≤ 1024) (hk : 0 ≤ m.Kind ∧ m.Kind ≤ 255) {b : List Int} (hb : b.length ≤ 8000) :
    Ev msg_Body_step (.s1 0 m b [m.Session, m.Payload]) (m.Kind, b ++ (encT m.Session ++ encT m.Payload), 0) := by
  have n1 := encT_len (s := m.Session) (by omega)
  have n2 := encT_len (s := m.Payload) (by omega)
  have k1 := putText_ok (s := m.Session) (by simp only [memB]; omega)
  have k2 := putText_ok (s := m.Payload) (by simp only [memB]; omega)
  rw [putT_s (by omega)] at k1 k2
  refine .next (s' := .s1 1 m (b ++ encT m.Session) [m.Session, m.Payload]) ?_ (.next (s' := .s1 2 m (b ++ encT m.Session ++ encT m.Payload) [m.Session, m.Payload]) ?_ (.done ?_))
  · have hl : decide (((List.map (eInt .u8) b).length + (List.map (eInt .u8) (encT m.Session)).length) * 1 ≤ bytesLim) = true := limOk (by simp only [List.length_map]; omega)
    simp only [msg_Body_step, msg_Body_1, take_full]
    simp only [show (0 + (0 : Int).toNat) = 0 from rfl, List.getElem?_cons_zero, Option.bind_some, k1, hl]
    rfl
  · have hl : decide (((List.map (eInt .u8) (b ++ encT m.Session)).length + (List.map (eInt .u8) (encT m.Payload)).length) * 1 ≤ bytesLim) = true := limOk (by simp only [List.length_map, List.length_append]; omega)
    simp only [msg_Body_step, msg_Body_1, take_full]
    simp only [show (0 + (1 : Int).toNat) = 1 from rfl, List.getElem?_cons_succ, List.getElem?_cons_zero, Option.bind_some, k2, hl]
    rfl
  · rw [← List.append_assoc]
    simp only [msg_Body_step, msg_Body_1, wU8 hk.1 hk.2]
    rfl
theorem body_s2 {m : Msg} (hf : FineM m) (h : rightM m = true) {b : List Int} (hb : b.length ≤ 7000) :
    Ev msg_Body_step (.s2 m b) (m.Kind, b ++ (encL m.ID ++ (encT m.Session ++ encT m.Payload)), 0) := by
  have hi := id_len h
  have hh := (right_and h).1
  unfold hdM at hh
  have c := encL_len hf.id (by omega)
  have hl : decide (((List.map (eInt .u8) b).length + (List.map (eInt .u8) (encL m.ID)).length) * 1 ≤ bytesLim) = true := limOk (by simp only [List.length_map]; omega)
  refine .next (s' := .s1 0 m (b ++ encL m.ID) [m.Session, m.Payload]) ?_ ?_
  · simp only [msg_Body_step, msg_Body_2, take_full, putInts_ok hf.id (by omega), Option.bind_some, hl, cond_true]
  · have := body_s1 (m := m) (b := b ++ encL m.ID) hi.2.1 hi.2.2 (by omega) (by simp only [List.length_append]; omega)
    rw [List.append_assoc] at this
    exact this
theorem body_ok {m : Msg} (hf : FineM m) : msg_Body m = some (bodyM m) := by
  unfold bodyM
  by_cases h : rightM m = true
  · rw [if_pos h]
    have hi := numsM_in hf h
    have hu := hf.up
    have hh := (right_and h).1
    unfold hdM at hh
    have hw : IntKind.i64.wrap m.Up = m.Up := wI64 (by omega) (by omega)
    have nl := encL_len hi (by simp [numsM])
    refine evf_of (.next (s' := .s3 m (numsM m)) ?_ ?_)
    · simp only [msg_Body_step, msg_Body_0, mright_ok hf.sh, h, Option.bind_some, Bool.not_true, cond_false, hw, numsM]
      cases m.HasPlan <;> rfl
    · refine .next (s' := .s2 m (encL (numsM m) ++ encQ m)) ?_ ?_
      · simp only [msg_Body_step, msg_Body_3, putInts_ok hi (by simp [numsM]), Option.bind_some, take_full]
        unfold encQ
        cases hp : m.HasPlan
        · simp only [cond_false, List.append_nil]
        · have rp := right_plan h hp
          have pl := encP_len hf.pl rp
          have tl := encT_len (s := encP m.Plan) (by omega)
          have e1 : plan_Put m.Plan = some (encP m.Plan, 0) := by rw [put_ok hf.pl, putP, if_pos (rightP_iff.2 rp)]
          have e2 : wire_PutText (encP m.Plan) = some (0, encT (encP m.Plan)) := by rw [putText_ok (by simp only [memB]; omega), putT_s (by omega)]
          have hl : decide (((List.map (eInt .u8) (encL (numsM m))).length + (List.map (eInt .u8) (encT (encP m.Plan))).length) * 1 ≤ bytesLim) = true := limOk (by simp only [List.length_map]; omega)
          simp only [cond_true, e1, e2, Option.bind_some, hl]
      · have q := encQ_len hf h
        have := body_s2 hf h (b := encL (numsM m) ++ encQ m) (by simp only [List.length_append]; omega)
        rw [List.append_assoc] at this
        exact this
  · rw [if_neg h]
    refine evf_of (.done ?_)
    simp only [msg_Body_step, msg_Body_0, mright_ok hf.sh, Bool.eq_false_iff.2 h, Option.bind_some, Bool.not_false, cond_true]
end Go.RX.L

namespace Go.RX.L
open Go Go.RX
def zeroM : Msg := ⟨0, 0, 0, 0, 0, 0, 0, 0, 0, 0, false, zeroPl, [], [], []⟩
def withT (m : Msg) (id s py : List Int) : Msg := ⟨m.Kind, m.From, m.To, m.Epoch, m.Ballot, m.Accepted, m.Nonce, m.Time, m.Up, m.Code, m.HasPlan, m.Plan, id, s, py⟩
def tailP (l : List Int) : Option (List Int × List Int × List Int) := match pL l with
  | .inl _ => none
  | .inr (id, k1) => (match pT (l.drop k1) with
    | .inl _ => none
    | .inr (s, k2) => (match pT (l.drop (k1 + k2)) with
      | .inl _ => none
      | .inr (py, k3) => if k1 + k2 + k3 = l.length then some (id, s, py) else none))
def ofTail (m : Msg) (l : List Int) : Msg × Int := match tailP l with
  | none => (zeroM, 51)
  | some (id, s, py) => if rightM (withT m id s py) = true then (withT m id s py, 0) else (zeroM, 51)
theorem tailP_1 {l : List Int} {e : Int} (h : pL l = .inl e) : tailP l = none := by simp only [tailP, h]
theorem tailP_2 {l id : List Int} {k1 : Nat} {e : Int} (h : pL l = .inr (id, k1)) (h2 : pT (l.drop k1) = .inl e) : tailP l = none := by simp only [tailP, h, h2]
theorem tailP_3 {l id s : List Int} {k1 k2 : Nat} {e : Int} (h : pL l = .inr (id, k1)) (h2 : pT (l.drop k1) = .inr (s, k2)) (h3 : pT (l.drop (k1 + k2)) = .inl e) : tailP l = none := by simp only [tailP, h, h2, h3]
theorem tailP_4 {l id s py : List Int} {k1 k2 k3 : Nat} (h : pL l = .inr (id, k1)) (h2 : pT (l.drop k1) = .inr (s, k2)) (h3 : pT (l.drop (k1 + k2)) = .inr (py, k3)) : tailP l = if k1 + k2 + k3 = l.length then some (id, s, py) else none := by simp only [tailP, h, h2, h3]
theorem rtext_err (x e : Int) (b : List Int) (h : (e != 0) = true) : msg_reader_text ⟨⟨x, e⟩, b⟩ = some ([], ⟨⟨x, e⟩, b⟩) := by simp only [msg_reader_text, h, cond_true]
theorem rd_ints {b : List Int} (hb : Bytes b) (hm : b.length ≤ memB) {at_ : Nat} (h : at_ ≤ b.length) : msg_reader_ints ⟨⟨at_, 0⟩, b⟩ = some ((rL at_ (pL (b.drop at_))).1, ⟨⟨(rL at_ (pL (b.drop at_))).2.1, (rL at_ (pL (b.drop at_))).2.2⟩, b⟩) := by
  simp only [msg_reader_ints, bne_self_eq_false, cond_false, ints_ok hb hm h, Option.bind_some]
theorem rd_text {b : List Int} (hb : Bytes b) (hm : b.length ≤ memB) {at_ : Nat} (h : at_ ≤ b.length) : msg_reader_text ⟨⟨at_, 0⟩, b⟩ = some ((rL at_ (pT (b.drop at_))).1, ⟨⟨(rL at_ (pT (b.drop at_))).2.1, (rL at_ (pT (b.drop at_))).2.2⟩, b⟩) := by
  simp only [msg_reader_text, bne_self_eq_false, cond_false, text_ok hb hm h, Option.bind_some]
theorem Shm.withT {m : Msg} (h : Shm m) (id s py : List Int) : Shm (withT m id s py) := ⟨h.s, h.up, h.sup⟩
theorem pTe {l : List Int} {e : Int} (h : pT l = .inl e) : (e != 0) = true := bne_iff_ne.2 (pT_err h)
theorem of3_ok {b : List Int} (hb : Bytes b) (hm : b.length ≤ memB) {at_ : Nat} (h : at_ ≤ b.length) (b0 : Msg) {m : Msg} (hs : Shm m) : msg_Of_3 b b0 ⟨⟨at_, 0⟩, b⟩ m = some (ofTail m (b.drop at_)) := by
  have bad : ∀ (z : Msg), msg_Of_2 true b0 z = some (zeroM, 51) := fun z => rfl
  simp only [msg_Of_3, rd_ints hb hm h, Option.bind_some]
  unfold ofTail
  cases h1 : pL (b.drop at_) with
  | inl e =>
    have he := pL_err h1
    rw [tailP_1 h1]
    simp only [rL, rtext_err _ _ _ he, Option.bind_some, he, cond_true, bad]
  | inr x =>
    obtain ⟨id, k1⟩ := x
    have l1 := rL_le hb h1
    have a1 : at_ + k1 ≤ b.length := by omega
    simp only [rL, rd_text hb hm a1, Option.bind_some]
    cases h2 : pT (b.drop (at_ + k1)) with
    | inl e =>
      have he := pTe h2
      rw [tailP_2 h1 (by rw [List.drop_drop]; exact h2)]
      simp only [rL, rtext_err _ _ _ he, Option.bind_some, he, cond_true, bad]
    | inr x =>
      obtain ⟨s, k2⟩ := x
      have l2 := (pT_dec (drop_in hb _) h2).2.1
      rw [List.length_drop] at l2
      have a2 : at_ + k1 + k2 ≤ b.length := by omega
      simp only [rL, rd_text hb hm a2, Option.bind_some]
      cases h3 : pT (b.drop (at_ + k1 + k2)) with
      | inl e =>
        have he := pTe h3
        rw [tailP_3 h1 (by rw [List.drop_drop]; exact h2) (by rw [List.drop_drop, ← Nat.add_assoc]; exact h3)]
        simp only [rL, he, cond_true, bad]
      | inr x =>
        obtain ⟨py, k3⟩ := x
        have l3 := (pT_dec (drop_in hb _) h3).2.1
        rw [List.length_drop] at l3
        rw [tailP_4 h1 (by rw [List.drop_drop]; exact h2) (by rw [List.drop_drop, ← Nat.add_assoc]; exact h3)]
        simp only [rL, bne_self_eq_false, cond_false, List.length_map, List.length_drop]
        by_cases hq : k1 + k2 + k3 = b.length - at_
        · have c1 : (((at_ + k1 + k2 + k3 : Nat) : Int) != ((b.length : Nat) : Int)) = false := by rw [show at_ + k1 + k2 + k3 = b.length by omega]; simp
          have hr := mright_ok (hs.withT id s py)
          rw [c1, if_pos hq]
          show (Option.bind (msg_Right (withT m id s py)) fun y6 => msg_Of_2 (!y6) b0 (withT m id s py)) = _
          rw [hr]
          simp only [Option.bind_some]
          cases hh : rightM (withT m id s py) <;> rfl
        · have c1 : (((at_ + k1 + k2 + k3 : Nat) : Int) != ((b.length : Nat) : Int)) = true := bne_iff_ne.2 (by omega)
          rw [c1, if_neg hq]
          exact bad (withT m id s py)
def baseM (k : Int) (l : List Int) (p : Plan) : Msg := ⟨k, l.getD 0 0, l.getD 1 0, l.getD 2 0, l.getD 3 0, l.getD 4 0, l.getD 5 0, l.getD 6 0, l.getD 7 0, l.getD 8 0, l.getD 9 0 == 1, p, [], [], []⟩
def wideM (l : List Int) : Prop := l.length = 10 ∧ 0 ≤ l.getD 0 0 ∧ l.getD 0 0 ≤ 255 ∧ 0 ≤ l.getD 1 0 ∧ l.getD 1 0 ≤ 255 ∧ 0 ≤ l.getD 7 0 ∧ l.getD 7 0 ≤ 65535 ∧ 0 ≤ l.getD 8 0 ∧ l.getD 8 0 ≤ 65535 ∧ 0 ≤ l.getD 9 0 ∧ l.getD 9 0 ≤ 1
instance (l : List Int) : Decidable (wideM l) := by unfold wideM; infer_instance
def ofRest (k : Int) (l b : List Int) : Msg × Int := if l.getD 9 0 = 1 then (match pT b with
    | .inl _ => (zeroM, 51)
    | .inr (t, j) => if (getP t).2 = 0 then ofTail (baseM k l (getP t).1) (b.drop j) else (zeroM, 51))
  else ofTail (baseM k l zeroPl) b
def ofM (k : Int) (b : List Int) : Msg × Int := match pL b with
  | .inl _ => (zeroM, 51)
  | .inr (l, n) => if wideM l then ofRest k l (b.drop n) else (zeroM, 51)
theorem shm_zero (k : Int) (l : List Int) : Shm (baseM k l zeroPl) := ⟨⟨by simp [baseM, zeroPl], by simp [baseM, zeroPl]⟩, inU64.2 (by simp [baseM, zeroPl]), inU64.2 (by simp [baseM, zeroPl])⟩
theorem shm_get {t : List Int} (ht : Bytes t) (h : (getP t).2 = 0) (k : Int) (l : List Int) : Shm (baseM k l (getP t).1) := by
  obtain ⟨h1, h2, h3⟩ := getP_dec ht (p := (getP t).1) (by rw [← h])
  have hr := rightP_iff.1 h1
  have a1 := h2.up
  have a2 := h2.sup
  have a3 := hr.up
  have a4 := hr.sup
  exact ⟨h2.s, (inU64.2 (by omega) : inK .u64 (getP t).1.Up), (inU64.2 (by omega) : inK .u64 (getP t).1.Sup)⟩
theorem pT_len {t l : List Int} {j : Nat} (hb : Bytes l) (h : pT l = .inr (t, j)) : t.length ≤ memB := by
  have := (pT_dec hb h).2.2.2.1
  simp only [memB]; omega
theorem of1_ok {k : Int} (hk : 0 ≤ k ∧ k ≤ 255) {b : List Int} (hb : Bytes b) (hm : b.length ≤ memB) {at_ : Nat} (h : at_ ≤ b.length) {l : List Int} (hl : wideM l) (b0 : Msg) : msg_Of_1 k b l false b0 ⟨⟨at_, 0⟩, b⟩ = some (ofRest k l (b.drop at_)) := by
  obtain ⟨hlen, hw⟩ := hl
  match l, hlen, hw with
  | [a0, a1, a2, a3, a4, a5, a6, a7, a8, a9], _, hw =>
    simp only [List.getD_cons_zero, List.getD_cons_succ] at hw
    have wk : IntKind.i64.wrap k = k := wI64 (by omega) (by omega)
    have wu : IntKind.u64.wrap a7 = a7 := wU64 (by omega) (by omega)
    have e : msg_Of_1 k b [a0, a1, a2, a3, a4, a5, a6, a7, a8, a9] false b0 ⟨⟨at_, 0⟩, b⟩ = (bif (a9 == 1) then ((msg_reader_text ⟨⟨at_, 0⟩, b⟩).bind fun y33 => ((plan_Get y33.1).bind fun y34 => (bif ((y34.2 : Int) != 0) then some (zeroM, 51) else
        msg_Of_3 b b0 y33.2 ⟨IntKind.i64.wrap k, a0, a1, a2, a3, a4, a5, a6, IntKind.u64.wrap a7, a8, a9 == 1, y34.1, [], [], []⟩))) else msg_Of_3 b b0 ⟨⟨at_, 0⟩, b⟩ ⟨IntKind.i64.wrap k, a0, a1, a2, a3, a4, a5, a6, IntKind.u64.wrap a7, a8, a9 == 1, zeroPl, [], [], []⟩) := rfl
    rw [e, wk, wu]
    unfold ofRest
    simp only [List.getD_cons_zero, List.getD_cons_succ]
    by_cases h9 : a9 = 1
    · have c9 : (a9 == 1) = true := beq_iff_eq.2 h9
      rw [if_pos h9]
      have hd : ∀ p, (⟨k, a0, a1, a2, a3, a4, a5, a6, a7, a8, a9 == 1, p, [], [], []⟩ : Msg) = baseM k [a0, a1, a2, a3, a4, a5, a6, a7, a8, a9] p := fun p => rfl
      simp only [hd]
      rw [c9, cond_true, rd_text hb hm h]
      simp only [Option.bind_some]
      cases h2 : pT (b.drop at_) with
      | inl e =>
        have he := pTe h2
        have g := get_ok (b := []) (fun c hc => by cases hc) (by simp)
        have g0 : getP [] = (zeroPl, 41) := by
          have : parse3 [] = none := by decide
          simp only [getP, this]
        simp only [rL, g, g0, Option.bind_some]
        rfl
      | inr x =>
        obtain ⟨s, j⟩ := x
        obtain ⟨d1, d2, d3, d4, d5⟩ := pT_dec (drop_in hb at_) h2
        rw [List.length_drop] at d2
        have g := get_ok d5 (pT_len (drop_in hb at_) h2)
        simp only [rL, g, Option.bind_some]
        by_cases hq : (getP s).2 = 0
        · rw [if_pos hq, show ((getP s).2 != 0) = false by rw [hq]; rfl, cond_false, of3_ok hb hm (by omega) b0 (shm_get d5 hq k _), List.drop_drop]
        · rw [if_neg hq, show ((getP s).2 != 0) = true from bne_iff_ne.2 hq, cond_true]
    · have c9 : (a9 == 1) = false := beq_eq_false_iff_ne.2 h9
      rw [if_neg h9]
      have hd : ∀ p, (⟨k, a0, a1, a2, a3, a4, a5, a6, a7, a8, a9 == 1, p, [], [], []⟩ : Msg) = baseM k [a0, a1, a2, a3, a4, a5, a6, a7, a8, a9] p := fun p => rfl
      simp only [hd]
      rw [c9, cond_false, of3_ok hb hm h b0 (shm_zero k _)]
theorem of_ok {k : Int} (hk : 0 ≤ k ∧ k ≤ 255) {b : List Int} (hb : Bytes b) (hm : b.length ≤ memB) : msg_Of k b = some (ofM k b) := by
  have bad : ∀ l b0 r, msg_Of_1 k b l true b0 r = some (zeroM, 51) := fun _ _ _ => rfl
  have hr := rd_ints hb hm (Nat.zero_le b.length)
  simp only [Int.natCast_zero, List.drop_zero] at hr
  unfold ofM
  cases h1 : pL b with
  | inl e =>
    have he := pL_err h1
    rw [h1] at hr
    simp only [msg_Of]
    rw [show (⟨⟨0, 0⟩, b⟩ : readerT) = ⟨⟨((0 : Nat) : Int), 0⟩, b⟩ from rfl]
    rw [rd_ints hb hm (Nat.zero_le b.length), List.drop_zero, h1]
    simp only [rL, Option.bind_some, he, cond_true, bad]
  | inr x =>
    obtain ⟨l, n⟩ := x
    have hl := rL_le hb (at_ := 0) (b := b) h1
    simp only [msg_Of]
    rw [show (⟨⟨0, 0⟩, b⟩ : readerT) = ⟨⟨((0 : Nat) : Int), 0⟩, b⟩ from rfl]
    rw [rd_ints hb hm (Nat.zero_le b.length), List.drop_zero, h1]
    simp only [rL, Option.bind_some, bne_self_eq_false, cond_false, List.length_map, Nat.zero_add]
    by_cases h10 : l.length = 10
    · rw [show (((l.length : Nat) : Int) != 10) = false by rw [h10]; rfl]
      have o1 : ∀ b0, wideM l → msg_Of_1 k b l false b0 ⟨⟨((n : Nat) : Int), 0⟩, b⟩ = some (ofRest k l (b.drop n)) := fun b0 hw => of1_ok hk hb hm (by omega) hw b0
      match l, h10, o1 with
      | [a0, a1, a2, a3, a4, a5, a6, a7, a8, a9], _, o1 =>
        have ew : wideM [a0, a1, a2, a3, a4, a5, a6, a7, a8, a9] ↔ 0 ≤ a0 ∧ a0 ≤ 255 ∧ 0 ≤ a1 ∧ a1 ≤ 255 ∧ 0 ≤ a7 ∧ a7 ≤ 65535 ∧ 0 ≤ a8 ∧ a8 ≤ 65535 ∧ 0 ≤ a9 ∧ a9 ≤ 1 := ⟨fun h => h.2, fun h => ⟨rfl, h⟩⟩
        show (bif decide (mnI (mnI (mnI (mnI a0 a1) a7) a8) a9 < 0) then msg_Of_1 k b [a0, a1, a2, a3, a4, a5, a6, a7, a8, a9] true _ _ else bif decide (mxI a0 a1 > 255) then msg_Of_1 k b [a0, a1, a2, a3, a4, a5, a6, a7, a8, a9] true _ _ else
          bif decide (mxI a7 a8 ≥ 65536) then msg_Of_1 k b [a0, a1, a2, a3, a4, a5, a6, a7, a8, a9] true _ _ else msg_Of_1 k b [a0, a1, a2, a3, a4, a5, a6, a7, a8, a9] (decide (a9 > 1)) _ _) = _
        have mn : mnI (mnI (mnI (mnI a0 a1) a7) a8) a9 < 0 ↔ a0 < 0 ∨ a1 < 0 ∨ a7 < 0 ∨ a8 < 0 ∨ a9 < 0 := by
          rw [show mnI (mnI (mnI (mnI a0 a1) a7) a8) a9 = mnI (mnI (mnI (mnI a0 a1) a7) a8) a9 from rfl, mn3_lt]
          constructor
          · rintro (h | h | h)
            · rw [mn3_lt] at h; omega
            · omega
            · omega
          · intro h
            rw [mn3_lt]; omega
        by_cases q1 : mnI (mnI (mnI (mnI a0 a1) a7) a8) a9 < 0
        · rw [decide_eq_true q1, cond_true, bad, if_neg (by rw [ew]; rw [mn] at q1; omega)]
        · rw [decide_eq_false q1, cond_false]
          by_cases q2 : mxI a0 a1 > 255
          · rw [decide_eq_true q2, cond_true, bad, if_neg (by rw [ew]; rw [mx_gt] at q2; omega)]
          · rw [decide_eq_false q2, cond_false]
            by_cases q3 : mxI a7 a8 ≥ 65536
            · rw [decide_eq_true q3, cond_true, bad, if_neg (by rw [ew]; rw [mx_ge] at q3; omega)]
            · rw [decide_eq_false q3, cond_false]
              by_cases q4 : a9 > 1
              · rw [decide_eq_true q4, bad, if_neg (by rw [ew]; omega)]
              · have hw : wideM [a0, a1, a2, a3, a4, a5, a6, a7, a8, a9] := by
                  rw [ew]; rw [mn] at q1; rw [mx_gt] at q2; rw [mx_ge] at q3; omega
                rw [decide_eq_false q4, o1 _ hw, if_pos hw]
    · rw [show (((l.length : Nat) : Int) != 10) = true from bne_iff_ne.2 (by omega), cond_true, bad, if_neg (fun h => h10 h.1)]
end Go.RX.L

namespace Go.RX.L
open Go Go.RX
/-! ### the document's reader -/
end Go.RX.L

namespace Go.RX.L
open Go Go.RX
/-! ### frames -/
/-! ### what is written is read -/
theorem tailP_enc {m : Msg} (hf : FineM m) (h : rightM m = true) (rest : List Int) : tailP (encL m.ID ++ (encT m.Session ++ (encT m.Payload ++ rest))) = if rest = [] then some (m.ID, m.Session, m.Payload) else none := by
  have hi := id_len h
  have h1 := pL_enc hf.id (by omega) (encT m.Session ++ (encT m.Payload ++ rest))
  have h2 := pT_enc (s := m.Session) (by omega) (encT m.Payload ++ rest)
  have h3 := pT_enc (s := m.Payload) (by omega) rest
  rw [tailP_4 h1 (by rw [List.drop_left]; exact h2) (by rw [← List.drop_drop, List.drop_left, List.drop_left]; exact h3)]
  simp only [List.length_append]
  cases rest with
  | nil => rw [if_pos (by simp; omega), if_pos rfl]
  | cons x r => rw [if_neg (by simp; omega), if_neg (by simp)]
theorem wide_nums {m : Msg} (hf : FineM m) (h : rightM m = true) : wideM (numsM m) := by
  have hh := (right_and h).1
  unfold hdM at hh
  have hu := hf.up
  refine ⟨rfl, ?_⟩
  show 0 ≤ m.From ∧ m.From ≤ 255 ∧ 0 ≤ m.To ∧ m.To ≤ 255 ∧ 0 ≤ m.Up ∧ m.Up ≤ 65535 ∧ 0 ≤ m.Code ∧ m.Code ≤ 65535 ∧ 0 ≤ (bif m.HasPlan then (1 : Int) else 0) ∧ (bif m.HasPlan then (1 : Int) else 0) ≤ 1
  cases m.HasPlan <;> simp only [cond_true, cond_false] <;> omega
theorem ofM_enc' {m : Msg} (hf : FineM m) (h : rightM m = true) (k : Int) (rest : List Int) : ofM k (encB m ++ rest) = if rest = [] ∧ rightM ⟨k, m.From, m.To, m.Epoch, m.Ballot, m.Accepted, m.Nonce, m.Time, m.Up, m.Code, m.HasPlan, m.Plan, m.ID, m.Session, m.Payload⟩ = true then (⟨k, m.From, m.To, m.Epoch, m.Ballot, m.Accepted, m.Nonce, m.Time, m.Up, m.Code, m.HasPlan, m.Plan, m.ID, m.Session, m.Payload⟩, 0) else (zeroM, 51) := by
  have e0 : encB m ++ rest = encL (numsM m) ++ (encQ m ++ (encL m.ID ++ (encT m.Session ++ (encT m.Payload ++ rest)))) := by simp [encB]
  rw [e0]
  unfold ofM
  rw [pL_enc (numsM_in hf h) (by simp [numsM])]
  simp only [if_pos (wide_nums hf h), List.drop_left]
  unfold ofRest
  have fin : ∀ p, p = m.Plan → (numsM m).getD 9 0 = (bif m.HasPlan then (1 : Int) else 0) → ofTail (baseM k (numsM m) p) (encL m.ID ++ (encT m.Session ++ (encT m.Payload ++ rest))) = if rest = [] ∧ rightM ⟨k, m.From, m.To, m.Epoch, m.Ballot, m.Accepted, m.Nonce, m.Time, m.Up, m.Code, m.HasPlan, m.Plan, m.ID, m.Session, m.Payload⟩ = true then (⟨k, m.From, m.To, m.Epoch, m.Ballot, m.Accepted, m.Nonce, m.Time, m.Up, m.Code, m.HasPlan, m.Plan, m.ID, m.Session, m.Payload⟩, 0) else (zeroM, 51) := by
    intro p hp h9
    have hb : withT (baseM k (numsM m) p) m.ID m.Session m.Payload = ⟨k, m.From, m.To, m.Epoch, m.Ballot, m.Accepted, m.Nonce, m.Time, m.Up, m.Code, m.HasPlan, m.Plan, m.ID, m.Session, m.Payload⟩ := by
      subst hp
      have : ((numsM m).getD 9 0 == 1) = m.HasPlan := by rw [h9]; cases m.HasPlan <;> rfl
      simp only [withT, baseM, this]
      rfl
    unfold ofTail
    rw [tailP_enc hf h]
    by_cases hr : rest = []
    · rw [if_pos hr]
      simp only [hb, hr, true_and]
    · rw [if_neg hr]
      simp only [hr, false_and, if_false]
  unfold encQ
  cases hp : m.HasPlan with
  | false =>
    have h9 : (numsM m).getD 9 0 = 0 := by show (bif m.HasPlan then (1 : Int) else 0) = 0; rw [hp]; rfl
    rw [if_neg (by rw [h9]; decide)]
    have := fin zeroPl (right_zero h hp).symm rfl
    rw [hp] at this
    exact this
  | true =>
    have h9 : (numsM m).getD 9 0 = 1 := by show (bif m.HasPlan then (1 : Int) else 0) = 1; rw [hp]; rfl
    have rp := right_plan h hp
    have pl := encP_len hf.pl rp
    rw [if_pos h9, cond_true, pT_enc (by omega)]
    have g := getP_enc hf.pl (rightP_iff.2 rp)
    simp only [g, if_true, List.drop_left]
    have := fin m.Plan rfl rfl
    rw [hp] at this
    exact this
theorem ofM_enc {m : Msg} (hf : FineM m) (h : rightM m = true) : ofM m.Kind (encB m) = (m, 0) := by
  have := ofM_enc' hf h m.Kind []
  rw [List.append_nil] at this
  rw [this, if_pos ⟨rfl, h⟩]
/-! ### alike? -/
end Go.RX.L

namespace Go.RX.L
open Go Go.RX
theorem kind_in {m : Msg} (h : rightM m = true) : 0 ≤ m.Kind ∧ m.Kind ≤ 255 := by
  have hh := (right_and h).1
  unfold hdM at hh
  omega
/-! ### the head -/
theorem frame_bytes {m : Msg} (hf : FineM m) (h : rightM m = true) : Bytes (encF m.Kind (encB m)) := by
  have hl := encB_len hf h
  exact encF_bytes (kind_in h) (encB_bytes hf) (by omega)
end Go.RX.L

namespace Go.RX.L
open Go Go.RX Go.Proofs
attribute [local irreducible] FinQ
noncomputable def Journal_Append_1_e (b1 : List Int) (fuse : Int) (down : Bool) (b3 y : List Int) : D × Sto := (.tup [], [some ⟨1, true, [[.ptr 2 0 0]]⟩, some ⟨1, false, [[.sl false 1 (List.map (eInt .u8) b1)]]⟩, some ⟨4, true, [[(grD 3 (List.map (eInt .u8) b3)), (grD 5 (List.map (eInt .u8) y)), .int .i64 fuse, .bool down]]⟩, some ⟨1, false, (List.map (eInt .u8) b3)⟩, none, some ⟨1, false, (List.map (eInt .u8) y)⟩])
noncomputable def Journal_Append_1 (b1 : List Int) (fuse : Int) (down : Bool) (b3 b4 : List Int) : Option (List Int) := (bif (decide (((List.map (eInt .u8) b4).length + (List.map (eInt .u8) b1).length) * 1 ≤ bytesLim)) then (some (b4 ++ b1)) else none)
theorem Journal_Append_1_ok {b1 : List Int} {fuse : Int} {down : Bool} {b3 b4 r : List Int} (h : Journal_Append_1 b1 fuse down b3 b4 = some r) : Sound E 78 [.ptr 0 0 0, .ptr 1 0 0] [some ⟨1, true, [[.ptr 2 0 0]]⟩, some ⟨1, false, [[.sl false 1 (List.map (eInt .u8) b1)]]⟩, some ⟨4, true, [[(grD 3 (List.map (eInt .u8) b3)), (grD 4 (List.map (eInt .u8) b4)), .int .i64 fuse, .bool down]]⟩, some ⟨1, false, (List.map (eInt .u8) b3)⟩, some ⟨1, false, (List.map (eInt .u8) b4)⟩] (Rs (Journal_Append_1_e b1 fuse down b3) r) := so (fn := Tryd.f78) (k := true) (m := 5) h <| by
 intro r h; unfold Journal_Append_1 at h
 refine zn 5 h fun h => ?_
 refine za 0 (eInt .u8) b4 b1 ?_
 exact zu 3 h
end Go.RX.L

namespace Go.RX.L
open Go Go.RX Go.Proofs
attribute [local irreducible] FinQ
noncomputable def Journal_effect__Append_1_c := codeAt (bodyOf Tryd.f77)
noncomputable def Journal_effect__Append_1_e (b2 b3 : List Int) (y : Int × Int × Bool × (List Int)) : D × Sto := (.int .i64 y.1, [some ⟨4, true, [[(grD 5 (List.map (eInt .u8) b3)), (grD 6 (List.map (eInt .u8) y.2.2.2)), .int .i64 y.2.1, .bool y.2.2.1]]⟩, some ⟨1, true, [[.ptr 0 0 0]]⟩, some ⟨1, false, [[.sl false 1 (List.map (eInt .u8) b2)]]⟩, none, none, some ⟨1, false, (List.map (eInt .u8) b3)⟩, some ⟨1, false, (List.map (eInt .u8) y.2.2.2)⟩])
abbrev Journal_effect__Append_1_W (fuse : Int) (down : Bool) (b2 b3 b4 : List Int) := AOk E (Cx.of Tryd.f77 true 5) (Journal_effect__Append_1_e b2 b3)
noncomputable def Journal_effect__Append_1_1M (fuse : Int) (down : Bool) (b2 b3 b4 : List Int) (fuse2 : Int) (down2 : Bool) : M := ⟨[.code (Journal_effect__Append_1_c [1, 1])], [(0, .ptr 0 0 0), (1, .fn 78 [] [.ptr 1 0 0, .ptr 2 0 0])], [some ⟨4, true, [[(grD 3 (List.map (eInt .u8) b3)), (grD 4 (List.map (eInt .u8) b4)), .int .i64 fuse2, .bool down2]]⟩, some ⟨1, true, [[.ptr 0 0 0]]⟩, some ⟨1, false, [[.sl false 1 (List.map (eInt .u8) b2)]]⟩, some ⟨1, false, (List.map (eInt .u8) b3)⟩, some ⟨1, false, (List.map (eInt .u8) b4)⟩]⟩
noncomputable def Journal_effect__Append_1_1 (fuse : Int) (down : Bool) (b2 b3 b4 : List Int) (fuse2 : Int) (down2 : Bool) : Option (Int × Int × Bool × (List Int)) := (bif down2 then (some (61, fuse2, down2, b4)) else (bif (decide ((fuse2 : Int) > 0)) then ((Journal_Append_1 b2 (IntKind.i64.wrap (fuse2 - 1)) down2 b3 b4).bind fun y3 => (some (0, (IntKind.i64.wrap (fuse2 - 1)), down2, y3))) else ((Journal_Append_1 b2 fuse2 down2 b3 b4).bind fun y4 => (some (0, fuse2, down2, y4)))))
theorem Journal_effect__Append_1_1_ok {fuse down b2 b3 b4 fuse2 down2} : Journal_effect__Append_1_W fuse down b2 b3 b4 (Journal_effect__Append_1_1M fuse down b2 b3 b4 fuse2 down2) (Journal_effect__Append_1_1 fuse down b2 b3 b4 fuse2 down2) := by
 intro r h; unfold Journal_effect__Append_1_1 at h
 refine zs 10 h (fun h => ?_) fun h => ?_
 ·
  refine zf 4 [.mv 3, .mv 4] ?_
  exact zu 1 h
 refine zs 12 h (fun h => ?_) fun h => ?_
 ·
  refine zc 17 [] h (fun _ => Journal_Append_1_ok) fun y3 h => ?_
  refine zf 5 [.mv 3] ?_
  exact zu 1 h
 refine zc 5 [] h (fun _ => Journal_Append_1_ok) fun y4 h => ?_
 refine zf 5 [.mv 3] ?_
 exact zu 1 h
noncomputable def Journal_effect__Append_1_2M (fuse : Int) (down : Bool) (b2 b3 b4 : List Int) (t16 : Bool) : M := ⟨[.code (Journal_effect__Append_1_c [1, 0, 1]), .code (Journal_effect__Append_1_c [1, 1])], [(0, .ptr 0 0 0), (1, .fn 78 [] [.ptr 1 0 0, .ptr 2 0 0]), (16, .bool t16)], [some ⟨4, true, [[(grD 3 (List.map (eInt .u8) b3)), (grD 4 (List.map (eInt .u8) b4)), .int .i64 fuse, .bool down]]⟩, some ⟨1, true, [[.ptr 0 0 0]]⟩, some ⟨1, false, [[.sl false 1 (List.map (eInt .u8) b2)]]⟩, some ⟨1, false, (List.map (eInt .u8) b3)⟩, some ⟨1, false, (List.map (eInt .u8) b4)⟩]⟩
noncomputable def Journal_effect__Append_1_2 (fuse : Int) (down : Bool) (b2 b3 b4 : List Int) (t16 : Bool) : Option (Int × Int × Bool × (List Int)) := (bif t16 then (Journal_effect__Append_1_1 fuse down b2 b3 b4 (-1) true) else (Journal_effect__Append_1_1 fuse down b2 b3 b4 fuse down))
theorem Journal_effect__Append_1_2_ok {fuse down b2 b3 b4 t16} : Journal_effect__Append_1_W fuse down b2 b3 b4 (Journal_effect__Append_1_2M fuse down b2 b3 b4 t16) (Journal_effect__Append_1_2 fuse down b2 b3 b4 t16) := by
 intro r h; unfold Journal_effect__Append_1_2 at h
 refine zs 1 h (fun h => ?_) fun h => ?_
 ·
  exact zg 14 (Journal_effect__Append_1_1_ok h)
 exact zg 1 (Journal_effect__Append_1_1_ok h)
noncomputable def Journal_effect__Append_1 (fuse : Int) (down : Bool) (b2 b3 b4 : List Int) : Option (Int × Int × Bool × (List Int)) := (bif (!down) then (Journal_effect__Append_1_2 fuse down b2 b3 b4 ((fuse : Int) == 0)) else (Journal_effect__Append_1_2 fuse down b2 b3 b4 false))
theorem Journal_effect__Append_1_ok {fuse : Int} {down : Bool} {b2 b3 b4 : List Int} {r : Int × Int × Bool × (List Int)} (h : Journal_effect__Append_1 fuse down b2 b3 b4 = some r) : Sound E 77 [.ptr 0 0 0, .fn 78 [] [.ptr 1 0 0, .ptr 2 0 0]] [some ⟨4, true, [[(grD 3 (List.map (eInt .u8) b3)), (grD 4 (List.map (eInt .u8) b4)), .int .i64 fuse, .bool down]]⟩, some ⟨1, true, [[.ptr 0 0 0]]⟩, some ⟨1, false, [[.sl false 1 (List.map (eInt .u8) b2)]]⟩, some ⟨1, false, (List.map (eInt .u8) b3)⟩, some ⟨1, false, (List.map (eInt .u8) b4)⟩] (Rs (Journal_effect__Append_1_e b2 b3) r) := so (fn := Tryd.f77) (k := true) (m := 5) h <| by
 intro r h; unfold Journal_effect__Append_1 at h
 refine zs 15 h (fun h => ?_) fun h => ?_
 ·
  exact zg 12 (Journal_effect__Append_1_2_ok h)
 exact zg 11 (Journal_effect__Append_1_2_ok h)
end Go.RX.L

namespace Go.RX.L
open Go Go.RX Go.Proofs
attribute [local irreducible] FinQ
noncomputable def Journal_Append_e (b1 : List Int) (y : Int × Int × Bool × (List Int)) : D × Sto := (.int .i64 y.1, [some ⟨4, true, [[(grD 3 (List.map (eInt .u8) b1)), (grD 4 (List.map (eInt .u8) y.2.2.2)), .int .i64 y.2.1, .bool y.2.2.1]]⟩, none, none, some ⟨1, false, (List.map (eInt .u8) b1)⟩, some ⟨1, false, (List.map (eInt .u8) y.2.2.2)⟩])
noncomputable def Journal_Append (kind : Int) (body : List Int) (fuse : Int) (down : Bool) (b1 b2 : List Int) : Option (Int × Int × Bool × (List Int)) := ((frame_Put kind body).bind fun y1 => (bif ((y1.2 : Int) != 0) then (some (y1.2, fuse, down, b2)) else ((Journal_effect__Append_1 fuse down y1.1 b1 b2).bind fun y3 => (some (y3.1, y3.2.1, y3.2.2.1, y3.2.2.2)))))
theorem Journal_Append_ok {kind : Int} {body : List Int} {fuse : Int} {down : Bool} {b1 b2 : List Int} {r : Int × Int × Bool × (List Int)} (h : Journal_Append kind body fuse down b1 b2 = some r) : Sound E 52 [.ptr 0 0 0, .int .u8 kind, .sl false 1 (List.map (eInt .u8) body)] [some ⟨4, true, [[(grD 1 (List.map (eInt .u8) b1)), (grD 2 (List.map (eInt .u8) b2)), .int .i64 fuse, .bool down]]⟩, some ⟨1, false, (List.map (eInt .u8) b1)⟩, some ⟨1, false, (List.map (eInt .u8) b2)⟩] (Rs (Journal_Append_e b1) r) := so (fn := Tryd.f52) (k := true) (m := 3) h <| by
 intro r h; unfold Journal_Append at h
 refine zc 10 [] h (fun _ => frame_Put_ok) fun y1 h => ?_
 refine zs 16 h (fun h => ?_) fun h => ?_
 ·
  refine zf 5 [.mv 1, .mv 2] ?_
  exact zu 1 h
 refine zc 7 [] h (fun _ => Journal_effect__Append_1_ok) fun y3 h => ?_
 exact zu 3 h
end Go.RX.L

namespace Go.RX.L
open Go Go.RX Go.Proofs
attribute [local irreducible] FinQ
noncomputable def Journal_Sync_1_e (fuse : Int) (down : Bool) (b3 : List Int) (y : (List Int) × (List Int)) : D × Sto := (.tup [], [some ⟨1, true, [[.ptr 1 0 0]]⟩, some ⟨4, true, [[(grD 4 (List.map (eInt .u8) y.1)), (grD 5 (List.map (eInt .u8) y.2)), .int .i64 fuse, .bool down]]⟩, none, some ⟨1, false, (List.map (eInt .u8) b3)⟩, some ⟨1, false, (List.map (eInt .u8) y.1)⟩, some ⟨1, false, (List.map (eInt .u8) y.2)⟩])
noncomputable def Journal_Sync_1 (fuse : Int) (down : Bool) (b2 b3 : List Int) : Option ((List Int) × (List Int)) := (bif (decide (((List.map (eInt .u8) b2).length + (List.take ((List.map (eInt .u8) b3).length) (List.drop 0 (List.map (eInt .u8) b3))).length) * 1 ≤ bytesLim)) then (some ((b2 ++ b3), [])) else none)
theorem Journal_Sync_1_ok {fuse : Int} {down : Bool} {b2 b3 : List Int} {r : (List Int) × (List Int)} (h : Journal_Sync_1 fuse down b2 b3 = some r) : Sound E 79 [.ptr 0 0 0] [some ⟨1, true, [[.ptr 1 0 0]]⟩, some ⟨4, true, [[(grD 2 (List.map (eInt .u8) b2)), (grD 3 (List.map (eInt .u8) b3)), .int .i64 fuse, .bool down]]⟩, some ⟨1, false, (List.map (eInt .u8) b2)⟩, some ⟨1, false, (List.map (eInt .u8) b3)⟩] (Rs (Journal_Sync_1_e fuse down b3) r) := so (fn := Tryd.f79) (k := true) (m := 4) h <| by
 intro r h; unfold Journal_Sync_1 at h
 refine zm 7 (b := (Nat.beq ((List.take ((List.map (eInt .u8) b3).length) (List.drop 0 (List.map (eInt .u8) b3))).length) ((List.map (eInt .u8) b3).length))) (by simp) ?_
 refine zn 0 h fun h => ?_
 refine zm 0 (b := (Nat.ble (0 + (List.map (eInt .u8) b2).length) ((List.map (eInt .u8) b2).length))) (ble_full _) ?_
 refine zw 0 (a := (List.take ((List.map (eInt .u8) b2).length) (List.drop 0 (List.map (eInt .u8) b2)) ++ (List.take ((List.map (eInt .u8) b3).length) (List.drop 0 (List.map (eInt .u8) b3))))) (b := (List.map (eInt .u8) (b2 ++ b3))) (by simp only [take_full, take_full', List.map_append, List.map_take, List.map_drop]) ?_
 refine zf 4 [.matc 1 0 1 1] ?_
 exact zu 1 h
end Go.RX.L

namespace Go.RX.L
open Go Go.RX Go.Proofs
attribute [local irreducible] FinQ
noncomputable def Journal_effect__Sync_1_c := codeAt (bodyOf Tryd.f77)
noncomputable def Journal_effect__Sync_1_e (y : Int × Int × Bool × (List Int) × (List Int)) : D × Sto := (.int .i64 y.1, [some ⟨4, true, [[(grD 4 (List.map (eInt .u8) y.2.2.2.1)), (grD 5 (List.map (eInt .u8) y.2.2.2.2)), .int .i64 y.2.1, .bool y.2.2.1]]⟩, some ⟨1, true, [[.ptr 0 0 0]]⟩, none, none, some ⟨1, false, (List.map (eInt .u8) y.2.2.2.1)⟩, some ⟨1, false, (List.map (eInt .u8) y.2.2.2.2)⟩])
abbrev Journal_effect__Sync_1_W (fuse : Int) (down : Bool) (b2 b3 : List Int) := AOk E (Cx.of Tryd.f77 true 4) Journal_effect__Sync_1_e
noncomputable def Journal_effect__Sync_1_1M (fuse : Int) (down : Bool) (b2 b3 : List Int) (fuse2 : Int) (down2 : Bool) : M := ⟨[.code (Journal_effect__Sync_1_c [1, 1])], [(0, .ptr 0 0 0), (1, .fn 79 [] [.ptr 1 0 0])], [some ⟨4, true, [[(grD 2 (List.map (eInt .u8) b2)), (grD 3 (List.map (eInt .u8) b3)), .int .i64 fuse2, .bool down2]]⟩, some ⟨1, true, [[.ptr 0 0 0]]⟩, some ⟨1, false, (List.map (eInt .u8) b2)⟩, some ⟨1, false, (List.map (eInt .u8) b3)⟩]⟩
noncomputable def Journal_effect__Sync_1_1 (fuse : Int) (down : Bool) (b2 b3 : List Int) (fuse2 : Int) (down2 : Bool) : Option (Int × Int × Bool × (List Int) × (List Int)) := (bif down2 then (some (61, fuse2, down2, b2, b3)) else (bif (decide ((fuse2 : Int) > 0)) then ((Journal_Sync_1 (IntKind.i64.wrap (fuse2 - 1)) down2 b2 b3).bind fun y3 => (some (0, (IntKind.i64.wrap (fuse2 - 1)), down2, y3.1, y3.2))) else ((Journal_Sync_1 fuse2 down2 b2 b3).bind fun y4 => (some (0, fuse2, down2, y4.1, y4.2)))))
theorem Journal_effect__Sync_1_1_ok {fuse down b2 b3 fuse2 down2} : Journal_effect__Sync_1_W fuse down b2 b3 (Journal_effect__Sync_1_1M fuse down b2 b3 fuse2 down2) (Journal_effect__Sync_1_1 fuse down b2 b3 fuse2 down2) := by
 intro r h; unfold Journal_effect__Sync_1_1 at h
 refine zs 10 h (fun h => ?_) fun h => ?_
 ·
  refine zf 4 [.mv 2, .mv 3] ?_
  exact zu 1 h
 refine zs 12 h (fun h => ?_) fun h => ?_
 ·
  refine zc 17 [] h (fun _ => Journal_Sync_1_ok) fun y3 h => ?_
  refine zf 5 [.mv 3] ?_
  exact zu 1 h
 refine zc 5 [] h (fun _ => Journal_Sync_1_ok) fun y4 h => ?_
 refine zf 5 [.mv 3] ?_
 exact zu 1 h
noncomputable def Journal_effect__Sync_1_2M (fuse : Int) (down : Bool) (b2 b3 : List Int) (t16 : Bool) : M := ⟨[.code (Journal_effect__Sync_1_c [1, 0, 1]), .code (Journal_effect__Sync_1_c [1, 1])], [(0, .ptr 0 0 0), (1, .fn 79 [] [.ptr 1 0 0]), (16, .bool t16)], [some ⟨4, true, [[(grD 2 (List.map (eInt .u8) b2)), (grD 3 (List.map (eInt .u8) b3)), .int .i64 fuse, .bool down]]⟩, some ⟨1, true, [[.ptr 0 0 0]]⟩, some ⟨1, false, (List.map (eInt .u8) b2)⟩, some ⟨1, false, (List.map (eInt .u8) b3)⟩]⟩
noncomputable def Journal_effect__Sync_1_2 (fuse : Int) (down : Bool) (b2 b3 : List Int) (t16 : Bool) : Option (Int × Int × Bool × (List Int) × (List Int)) := (bif t16 then (Journal_effect__Sync_1_1 fuse down b2 b3 (-1) true) else (Journal_effect__Sync_1_1 fuse down b2 b3 fuse down))
theorem Journal_effect__Sync_1_2_ok {fuse down b2 b3 t16} : Journal_effect__Sync_1_W fuse down b2 b3 (Journal_effect__Sync_1_2M fuse down b2 b3 t16) (Journal_effect__Sync_1_2 fuse down b2 b3 t16) := by
 intro r h; unfold Journal_effect__Sync_1_2 at h
 refine zs 1 h (fun h => ?_) fun h => ?_
 ·
  exact zg 14 (Journal_effect__Sync_1_1_ok h)
 exact zg 1 (Journal_effect__Sync_1_1_ok h)
noncomputable def Journal_effect__Sync_1 (fuse : Int) (down : Bool) (b2 b3 : List Int) : Option (Int × Int × Bool × (List Int) × (List Int)) := (bif (!down) then (Journal_effect__Sync_1_2 fuse down b2 b3 ((fuse : Int) == 0)) else (Journal_effect__Sync_1_2 fuse down b2 b3 false))
theorem Journal_effect__Sync_1_ok {fuse : Int} {down : Bool} {b2 b3 : List Int} {r : Int × Int × Bool × (List Int) × (List Int)} (h : Journal_effect__Sync_1 fuse down b2 b3 = some r) : Sound E 77 [.ptr 0 0 0, .fn 79 [] [.ptr 1 0 0]] [some ⟨4, true, [[(grD 2 (List.map (eInt .u8) b2)), (grD 3 (List.map (eInt .u8) b3)), .int .i64 fuse, .bool down]]⟩, some ⟨1, true, [[.ptr 0 0 0]]⟩, some ⟨1, false, (List.map (eInt .u8) b2)⟩, some ⟨1, false, (List.map (eInt .u8) b3)⟩] (Rs Journal_effect__Sync_1_e r) := so (fn := Tryd.f77) (k := true) (m := 4) h <| by
 intro r h; unfold Journal_effect__Sync_1 at h
 refine zs 15 h (fun h => ?_) fun h => ?_
 ·
  exact zg 12 (Journal_effect__Sync_1_2_ok h)
 exact zg 11 (Journal_effect__Sync_1_2_ok h)
end Go.RX.L

namespace Go.RX.L
open Go Go.RX Go.Proofs
attribute [local irreducible] FinQ
noncomputable def Journal_Sync_e (y : Int × Int × Bool × (List Int) × (List Int)) : D × Sto := (.int .i64 y.1, [some ⟨4, true, [[(grD 3 (List.map (eInt .u8) y.2.2.2.1)), (grD 4 (List.map (eInt .u8) y.2.2.2.2)), .int .i64 y.2.1, .bool y.2.2.1]]⟩, none, none, some ⟨1, false, (List.map (eInt .u8) y.2.2.2.1)⟩, some ⟨1, false, (List.map (eInt .u8) y.2.2.2.2)⟩])
noncomputable def Journal_Sync (fuse : Int) (down : Bool) (b1 b2 : List Int) : Option (Int × Int × Bool × (List Int) × (List Int)) := ((Journal_effect__Sync_1 fuse down b1 b2).bind fun y1 => (some (y1.1, y1.2.1, y1.2.2.1, y1.2.2.2.1, y1.2.2.2.2)))
theorem Journal_Sync_ok {fuse : Int} {down : Bool} {b1 b2 : List Int} {r : Int × Int × Bool × (List Int) × (List Int)} (h : Journal_Sync fuse down b1 b2 = some r) : Sound E 53 [.ptr 0 0 0] [some ⟨4, true, [[(grD 1 (List.map (eInt .u8) b1)), (grD 2 (List.map (eInt .u8) b2)), .int .i64 fuse, .bool down]]⟩, some ⟨1, false, (List.map (eInt .u8) b1)⟩, some ⟨1, false, (List.map (eInt .u8) b2)⟩] (Rs Journal_Sync_e r) := so (fn := Tryd.f53) (k := true) (m := 3) h <| by
 intro r h; unfold Journal_Sync at h
 refine zc 11 [] h (fun _ => Journal_effect__Sync_1_ok) fun y1 h => ?_
 exact zu 3 h
end Go.RX.L

namespace Go.RX.L
open Go Go.RX Go.Proofs
attribute [local irreducible] FinQ
noncomputable def Journal_Crash_e (b2 : List Int) (y : Int × Bool × (List Int) × (List Int)) : D × Sto := (.tup [], [some ⟨4, true, [[(grD 3 (List.map (eInt .u8) y.2.2.1)), (grD 4 (List.map (eInt .u8) y.2.2.2)), .int .i64 y.1, .bool y.2.1]]⟩, none, some ⟨1, false, (List.map (eInt .u8) b2)⟩, some ⟨1, false, (List.map (eInt .u8) y.2.2.1)⟩, some ⟨1, false, (List.map (eInt .u8) y.2.2.2)⟩])
noncomputable def Journal_Crash (keep fuse : Int) (down : Bool) (b1 b2 : List Int) : Option (Int × Bool × (List Int) × (List Int)) := (bif ((decide (((0 : Nat) : Int) ≤ (mnI (mxI keep 0) (((List.map (eInt .u8) b2).length : Nat) : Int)))) && (decide (((mnI (mxI keep 0) (((List.map (eInt .u8) b2).length : Nat) : Int)) : Int) ≤ (((List.map (eInt .u8) b2).length : Nat) : Int)))) then (bif (Nat.beq ((List.take ((mnI (mxI keep 0) (((List.map (eInt .u8) b2).length : Nat) : Int)).toNat) (List.drop 0 (List.map (eInt .u8) b2))).length) ((mnI (mxI keep 0) (((List.map (eInt .u8) b2).length : Nat) : Int)).toNat)) then (bif (decide (((List.map (eInt .u8) b1).length + (List.take ((mnI (mxI keep 0) (((List.map (eInt .u8) b2).length : Nat) : Int)).toNat) (List.drop 0 (List.map (eInt .u8) b2))).length) * 1 ≤ bytesLim)) then (some ((-1), true, (b1 ++ (List.take ((mnI (mxI keep 0) (((List.map (eInt .u8) b2).length : Nat) : Int)).toNat) (List.drop 0 b2))), [])) else none) else none) else none)
theorem Journal_Crash_ok {keep fuse : Int} {down : Bool} {b1 b2 : List Int} {r : Int × Bool × (List Int) × (List Int)} (h : Journal_Crash keep fuse down b1 b2 = some r) : Sound E 43 [.ptr 0 0 0, .int .i64 keep] [some ⟨4, true, [[(grD 1 (List.map (eInt .u8) b1)), (grD 2 (List.map (eInt .u8) b2)), .int .i64 fuse, .bool down]]⟩, some ⟨1, false, (List.map (eInt .u8) b1)⟩, some ⟨1, false, (List.map (eInt .u8) b2)⟩] (Rs (Journal_Crash_e b2) r) := so (fn := Tryd.f43) (k := true) (m := 3) h <| by
 intro r h; unfold Journal_Crash at h
 refine zn 17 h fun h => ?_
 refine zn 0 h fun h => ?_
 refine zn 0 h fun h => ?_
 refine zm 0 (b := (Nat.ble (0 + (List.map (eInt .u8) b1).length) ((List.map (eInt .u8) b1).length))) (ble_full _) ?_
 refine zw 0 (a := (List.take ((List.map (eInt .u8) b1).length) (List.drop 0 (List.map (eInt .u8) b1)) ++ (List.take ((mnI (mxI keep 0) (((List.map (eInt .u8) b2).length : Nat) : Int)).toNat) (List.drop 0 (List.map (eInt .u8) b2))))) (b := (List.map (eInt .u8) (b1 ++ (List.take ((mnI (mxI keep 0) (((List.map (eInt .u8) b2).length : Nat) : Int)).toNat) (List.drop 0 b2))))) (by simp only [take_full, take_full', List.map_append, List.map_take, List.map_drop]) ?_
 refine zf 22 [.matc 0 0 1 1] ?_
 exact zu 1 h
end Go.RX.L

namespace Go.RX.L
open Go Go.RX Go.Proofs
attribute [local irreducible] FinQ
noncomputable def Journal_Fuse_e (down : Bool) (b1 b2 : List Int) (y : Int) : D × Sto := (.tup [], [some ⟨4, true, [[(grD 1 (List.map (eInt .u8) b1)), (grD 2 (List.map (eInt .u8) b2)), .int .i64 y, .bool down]]⟩, some ⟨1, false, (List.map (eInt .u8) b1)⟩, some ⟨1, false, (List.map (eInt .u8) b2)⟩])
noncomputable def Journal_Fuse (n fuse : Int) (down : Bool) (b1 b2 : List Int) : Option Int := (some (mxI n (-1)))
theorem Journal_Fuse_ok {n fuse : Int} {down : Bool} {b1 b2 : List Int} {r : Int} (h : Journal_Fuse n fuse down b1 b2 = some r) : Sound E 42 [.ptr 0 0 0, .int .i64 n] [some ⟨4, true, [[(grD 1 (List.map (eInt .u8) b1)), (grD 2 (List.map (eInt .u8) b2)), .int .i64 fuse, .bool down]]⟩, some ⟨1, false, (List.map (eInt .u8) b1)⟩, some ⟨1, false, (List.map (eInt .u8) b2)⟩] (Rs (Journal_Fuse_e down b1 b2) r) := so (fn := Tryd.f42) (k := false) (m := 3) h <| by
 intro r h; unfold Journal_Fuse at h
 exact zu 11 h
end Go.RX.L

namespace Go.RX.L
open Go Go.RX Go.Proofs
attribute [local irreducible] FinQ
noncomputable def Journal_Down_e (y : Bool) : D × Sto := (.bool y, [])
noncomputable def Journal_Down (j : Journal) : Option Bool := (some j.down)
theorem Journal_Down_ok {j : Journal} {r : Bool} (h : Journal_Down j = some r) : Sound E 23 [.iptr 4 [[.sl false 1 (List.map (eInt .u8) j.synced), .sl false 1 (List.map (eInt .u8) j.tail), .int .i64 j.fuse, .bool j.down]] 0 0] [] (Rs Journal_Down_e r) := so (fn := Tryd.f23) (k := false) (m := 0) h <| by
 intro r h; unfold Journal_Down at h
 exact zu 14 h
end Go.RX.L

namespace Go.RX.L
open Go Go.RX
def eff (fuse : Int) (down : Bool) : Option Int := if down = true ∨ fuse = 0 then none else some (if 0 < fuse then fuse - 1 else fuse)
def fd (fuse : Int) (down : Bool) : Int := bif down then fuse else -1
def okFuse (f : Int) : Prop := -1 ≤ f ∧ f ≤ 9223372036854775807
theorem eff_up {f g : Int} {d : Bool} (h : eff f d = some g) : d = false ∧ f ≠ 0 ∧ g = if 0 < f then f - 1 else f := by
  unfold eff at h
  split at h
  · cases h
  · rename_i hn
    simp only [not_or, Bool.not_eq_true] at hn
    exact ⟨hn.1, hn.2, (Option.some.inj h).symm⟩
theorem eff_fuse {f g : Int} {d : Bool} (hf : okFuse f) (h : eff f d = some g) : okFuse g := by
  obtain ⟨-, h1, rfl⟩ := eff_up h
  unfold okFuse at *
  split <;> omega
theorem fd_fuse {f : Int} {d : Bool} (hf : okFuse f) : okFuse (fd f d) := by
  cases d <;> simp [fd, okFuse] at * <;> omega
theorem lim7 {n : Nat} (h : n ≤ 20000000) : decide (n * 1 ≤ bytesLim) = true := limOk (by omega)
theorem jappend {k : Int} {body : List Int} (hk : 0 ≤ k ∧ k ≤ 255) (hb : Bytes body) (hl : body.length ≤ 8192) {fuse : Int} (hf : okFuse fuse) {down : Bool} {s t : List Int} (ht : t.length ≤ 10000000) :
    Journal_Append k body fuse down s t = some (match eff fuse down with | some f => (0, f, false, t ++ encF k body) | none => (61, fd fuse down, true, t)) := by
  have hp : frame_Put k body = some (encF k body, 0) := by rw [framePut_ok hk hb (by simp only [memB]; omega), putF, if_pos hl]
  have hlen := encF_len k body
  have app : ∀ f d, Journal_Append_1 (encF k body) f d s t = some (t ++ encF k body) := fun f d => by
    simp only [Journal_Append_1, List.length_map, lim7 (show t.length + (encF k body).length ≤ 20000000 by omega), cond_true]
  unfold okFuse at hf
  simp only [Journal_Append, hp, Option.bind_some, bne_self_eq_false, cond_false, Journal_effect__Append_1]
  cases down with
  | true => simp only [Bool.not_true, cond_false, Journal_effect__Append_1_2, Journal_effect__Append_1_1, cond_true, Option.bind_some, eff, fd, true_or, if_true]
  | false =>
    simp only [Bool.not_false, cond_true]
    by_cases h0 : fuse = 0
    · subst h0
      simp only [beq_self_eq_true, Journal_effect__Append_1_2, cond_true, Journal_effect__Append_1_1, Option.bind_some, eff, fd, or_true, if_true, cond_false]
    · have e0 : ((fuse : Int) == 0) = false := by simpa using h0
      simp only [e0, Journal_effect__Append_1_2, cond_false, Journal_effect__Append_1_1, app, Option.bind_some, eff, fd, h0, Bool.false_eq_true, or_self, if_false]
      by_cases hp : 0 < fuse
      · have : decide (fuse > 0) = true := decide_eq_true hp
        rw [wI64 (n := fuse - 1) (by omega) (by omega)]
        simp only [this, cond_true, Option.bind_some, if_pos hp]
      · have : decide (fuse > 0) = false := decide_eq_false (by omega)
        simp only [this, cond_false, Option.bind_some, if_neg hp]
theorem jsync {fuse : Int} (hf : okFuse fuse) {down : Bool} {s t : List Int} (ht : s.length + t.length ≤ 20000000) :
    Journal_Sync fuse down s t = some (match eff fuse down with | some f => (0, f, false, s ++ t, []) | none => (61, fd fuse down, true, s, t)) := by
  have app : ∀ f d, Journal_Sync_1 f d s t = some (s ++ t, []) := fun f d => by
    have e : (List.take t.length (List.drop 0 (List.map (eInt .u8) t))).length = t.length := by simp
    simp only [Journal_Sync_1, List.length_map]
    rw [e, lim7 ht]; rfl
  unfold okFuse at hf
  simp only [Journal_Sync, Journal_effect__Sync_1]
  cases down with
  | true => simp only [Bool.not_true, cond_false, Journal_effect__Sync_1_2, Journal_effect__Sync_1_1, cond_true, Option.bind_some, eff, fd, true_or, if_true]
  | false =>
    simp only [Bool.not_false, cond_true]
    by_cases h0 : fuse = 0
    · subst h0
      simp only [beq_self_eq_true, Journal_effect__Sync_1_2, cond_true, Journal_effect__Sync_1_1, Option.bind_some, eff, fd, or_true, if_true, cond_false]
    · have e0 : ((fuse : Int) == 0) = false := by simpa using h0
      simp only [e0, Journal_effect__Sync_1_2, cond_false, Journal_effect__Sync_1_1, app, Option.bind_some, eff, fd, h0, Bool.false_eq_true, or_self, if_false]
      by_cases hp : 0 < fuse
      · have : decide (fuse > 0) = true := decide_eq_true hp
        rw [wI64 (n := fuse - 1) (by omega) (by omega)]
        simp only [this, cond_true, Option.bind_some, if_pos hp]
      · have : decide (fuse > 0) = false := decide_eq_false (by omega)
        simp only [this, cond_false, Option.bind_some, if_neg hp]
def kept_ (keep : Int) (t : List Int) : List Int := t.take (min (max keep 0) (t.length : Int)).toNat
theorem jcrash {keep fuse : Int} {down : Bool} {s t : List Int} (ht : s.length + t.length ≤ 20000000) : Journal_Crash keep fuse down s t = some (-1, true, s ++ kept_ keep t, []) := by
  have e : mnI (mxI keep 0) ((t.length : Nat) : Int) = ((min (max keep 0) (t.length : Int)).toNat : Int) := by
    unfold mnI mxI
    split <;> split <;> omega
  generalize hk : (min (max keep 0) (t.length : Int)).toNat = n at e
  have hn : n ≤ t.length := by omega
  have c1 : (decide (((0 : Nat) : Int) ≤ (n : Int)) && decide ((n : Int) ≤ ((t.length : Nat) : Int))) = true := by simp; omega
  have c2 : (List.take n (List.drop 0 (List.map (eInt .u8) t))).length = n := by simp; omega
  simp only [Journal_Crash, List.length_map, e, c1, cond_true, Int.toNat_natCast]
  rw [c2]
  simp only [show Nat.beq n n = true from Nat.beq_refl n, lim7 (show s.length + n ≤ 20000000 by omega), List.drop_zero, kept_, hk, cond_true]
theorem jopen {l : List Fr1} {J : List Int} {e : Int} (hl : ∀ x ∈ l, okFr x) (hJ : pF J = .inl e) (hJb : Bytes J) (hm : (frs l ++ J).length ≤ 10000000) {fuse : Int} (hf : okFuse fuse) {down : Bool} {t : List Int} :
    Journal_Open fuse down (frs l ++ J) t = some (if J = [] then (l.map (·.1), l.map (·.2), (0 : Int), fuse, false, frs l, ([] : List Int)) else (match eff fuse false with | some f => (l.map (·.1), l.map (·.2), 0, f, false, frs l, []) | none => ([], [], 61, fd fuse false, true, frs l ++ J, []))) := by
  have ha := jall hl hJ hJb hm
  have cut : ∀ f d (u : List Int), Journal_Open_1 ((frs l).length : Int) f d (frs l ++ J) u = some (frs l) := fun f d u => by
    have c1 : (decide (((0 : Nat) : Int) ≤ ((frs l).length : Int)) && decide (((frs l).length : Int) ≤ (((frs l ++ J).length : Nat) : Int))) = true := by simp; omega
    have := jclone2 (b := frs l ++ J) (ln := (frs l).length) (cp := (frs l ++ J).length) (by simp) (by simp only [memB]; omega)
    simp only [Journal_Open_1, List.length_map, c1, cond_true, Int.toNat_natCast, this, Option.bind_some, List.take_left]
  simp only [Journal_Open, ha, Option.bind_some, List.length_map]
  by_cases hJ0 : J = []
  · subst hJ0
    simp only [List.append_nil, Int.lt_irrefl, decide_false, cond_false, if_true]
  · have hpos : 0 < J.length := List.length_pos_iff.2 hJ0
    have : decide (((frs l).length : Int) < (((frs l ++ J).length : Nat) : Int)) = true := by simp; omega
    unfold okFuse at hf
    simp only [this, cond_true, if_neg hJ0, Journal_effect__Open_1, Bool.not_false]
    by_cases h0 : fuse = 0
    · subst h0
      simp [Journal_effect__Open_1_2, Journal_effect__Open_1_1, eff, fd]
    · have e0 : ((fuse : Int) == 0) = false := by simpa using h0
      simp only [e0, Journal_effect__Open_1_2, cond_false, Journal_effect__Open_1_1, cut, Option.bind_some, eff, fd, h0, Bool.false_eq_true, or_self, if_false]
      by_cases hp : 0 < fuse
      · have : decide (fuse > 0) = true := decide_eq_true hp
        rw [wI64 (n := fuse - 1) (by omega) (by omega)]
        simp only [this, cond_true, Option.bind_some, if_pos hp, bne_self_eq_false, cond_false]
      · have : decide (fuse > 0) = false := decide_eq_false (by omega)
        simp only [this, cond_false, Option.bind_some, if_neg hp, bne_self_eq_false]
/-! ### records -/
def okRec (m : Msg) : Prop := FineM m ∧ rightM m = true
def rec1 (m : Msg) : Fr1 := (m.Kind, encB m)
theorem okRec.fr {m : Msg} (h : okRec m) : okFr (rec1 m) := by
  refine ⟨kind_in h.2, fun c hc => ?_, by have := encB_len h.1 h.2; simp only [rec1]; omega⟩
  have := frame_bytes h.1 h.2
  have hc' : c ∈ encB m := hc
  exact this c (by simp only [encF, inner]; simp [hc'])
def log (rs : List Msg) : List Int := frs (rs.map rec1)
theorem log_app (a b : List Msg) : log (a ++ b) = log a ++ log b := by simp [log, frs_app]
theorem log_one (m : Msg) : log [m] = encF m.Kind (encB m) := by simp [log, frs, rec1]
theorem okFrs {rs : List Msg} (h : ∀ m ∈ rs, okRec m) : ∀ x ∈ rs.map rec1, okFr x := fun x hx => by
  obtain ⟨m, hm, rfl⟩ := List.mem_map.1 hx
  exact (h m hm).fr
theorem log_bytes {rs : List Msg} (h : ∀ m ∈ rs, okRec m) : Bytes (log rs) := frs_bytes (okFrs h)
/-- A disk: its records; what is cut; what is not synced. -/
structure Disk (rs : List Msg) (J : List Int) (s : List Int) : Prop where
  ok : ∀ m ∈ rs, okRec m
  eq : s = log rs ++ J
  cut : ∃ e, pF J = .inl e
  jb : Bytes J
theorem Disk.nil : Disk [] [] [] := ⟨fun m h => by simp at h, rfl, ⟨_, rfl⟩, fun c hc => by simp at hc⟩
theorem Disk.crash {rs : List Msg} {s : List Int} (h : Disk rs [] s) {m : Msg} (hm : okRec m) (keep : Int) : (Disk (rs ++ [m]) [] (s ++ kept_ keep (log [m]))) ∨ (∃ J, Disk rs J (s ++ kept_ keep (log [m]))) := by
  have hl : (log [m]).length = (encB m).length + 8 := by rw [log_one, encF_len]
  obtain ⟨h1, h2, h3⟩ := hm.fr
  unfold kept_
  generalize hn : (min (max keep 0) ((log [m]).length : Int)).toNat = n
  by_cases hf : n = (log [m]).length
  · left
    refine ⟨fun x hx => ?_, ?_, ⟨_, rfl⟩, fun c hc => by simp at hc⟩
    · rcases List.mem_append.1 hx with hx | hx
      · exact h.ok x hx
      · rw [List.mem_singleton.1 hx]; exact hm
    · rw [hf, List.take_length, h.eq, log_app]; simp
  · right
    refine ⟨(log [m]).take n, h.ok, by rw [h.eq]; simp, ?_, fun c hc => log_bytes (rs := [m]) (fun x hx => by rw [List.mem_singleton.1 hx]; exact hm) c (List.mem_of_mem_take hc)⟩
    have := pF_cut h1 h2 h3 (j := n) (by simp only [rec1]; omega)
    rw [log_one]
    simpa only [rec1] using this
theorem Disk.crash0 {rs : List Msg} {J s : List Int} (h : Disk rs J s) (keep : Int) : Disk rs J (s ++ kept_ keep []) := by
  simpa [kept_] using h
end Go.RX.L

namespace Go.RX.L
open Go Go.RX Go.Proofs
attribute [local irreducible] FinQ
noncomputable def policy_all_1_e (y : Bool) : D × Sto := (.bool y, [])
noncomputable def policy_all_1 (n t t2 : Int) : Option Bool := (bif (decide ((n : Int) < t)) then (some true) else (some (decide ((n : Int) > t2))))
theorem policy_all_1_ok {n t t2 : Int} {r : Bool} (h : policy_all_1 n t t2 = some r) : Sound E 65 [.int .i64 n, .iptr 1 [[.int .i64 t]] 0 0, .iptr 1 [[.int .i64 t2]] 0 0] [] (Rs policy_all_1_e r) := so (fn := Tryd.f65) (k := false) (m := 0) h <| by
 intro r h; unfold policy_all_1 at h
 refine zs 12 h (fun h => ?_) fun h => ?_
 ·
  exact zu 9 h
 exact zu 10 h
end Go.RX.L

namespace Go.RX.L
open Go Go.RX Go.Proofs
attribute [local irreducible] FinQ
noncomputable def slices_IndexFunc__policy_all_1_c := codeAt (bodyOf Tryd.f88)
noncomputable def slices_IndexFunc__policy_all_1_e (y : Int) : D × Sto := (.int .i64 y, [])
inductive slices_IndexFunc__policy_all_1_S where
 | s0 (s_ : List Int) (f f2 : Int)
 | s1 (s_ : List Int) (f f2 : Int) (t7 t8 : Int)
noncomputable def slices_IndexFunc__policy_all_1_M : slices_IndexFunc__policy_all_1_S → M
 | .s0 s_ f f2 => startM Tryd.f88 [.sl false 1 (List.map (eInt .i64) s_), .fn 65 [] [.iptr 1 [[.int .i64 f]] 0 0, .iptr 1 [[.int .i64 f2]] 0 0]] []
 | .s1 s_ f f2 t7 t8 => ⟨[.lpc (slices_IndexFunc__policy_all_1_c [1, 0, 1, 0, 0]) 387, .blk 0, .code (slices_IndexFunc__policy_all_1_c [1, 1])], [(0, .sl false 1 (List.map (eInt .i64) s_)), (1, .fn 65 [] [.iptr 1 [[.int .i64 f]] 0 0, .iptr 1 [[.int .i64 f2]] 0 0]), (7, .int .i64 t7), (8, .int .i64 t8)], []⟩
abbrev slices_IndexFunc__policy_all_1_W := SOk E (Cx.of Tryd.f88 false 0) slices_IndexFunc__policy_all_1_e slices_IndexFunc__policy_all_1_M
noncomputable def slices_IndexFunc__policy_all_1_0 (s_ : List Int) (f f2 : Int) : Option (slices_IndexFunc__policy_all_1_S ⊕ Int) := (some (.inl (.s1 s_ f f2 (((List.map (eInt .i64) s_).length : Nat) : Int) 0)))
noncomputable def slices_IndexFunc__policy_all_1_1 (s_ : List Int) (f f2 : Int) (t7 t8 : Int) : Option (slices_IndexFunc__policy_all_1_S ⊕ Int) := (bif (decide ((t8 : Int) < t7)) then (bif ((decide ((0 : Int) ≤ t8)) && (decide ((t8 : Int) < (((List.map (eInt .i64) s_).length : Nat) : Int)))) then (((s_)[t8.toNat]?).bind fun y3 => ((policy_all_1 y3 f f2).bind fun y5 => (bif y5 then (some (.inr t8)) else (some (.inl (.s1 s_ f f2 t7 (IntKind.i64.wrap (t8 + 1)))))))) else none) else (some (.inr (-1))))
noncomputable def slices_IndexFunc__policy_all_1_step : slices_IndexFunc__policy_all_1_S → Option (slices_IndexFunc__policy_all_1_S ⊕ Int)
 | .s0 s_ f f2 => slices_IndexFunc__policy_all_1_0 s_ f f2
 | .s1 s_ f f2 t7 t8 => slices_IndexFunc__policy_all_1_1 s_ f f2 t7 t8
theorem slices_IndexFunc__policy_all_1_0_ok {s_ f f2} : slices_IndexFunc__policy_all_1_W (.s0 s_ f f2) (slices_IndexFunc__policy_all_1_0 s_ f f2) := by
 intro r x h ha; unfold slices_IndexFunc__policy_all_1_0 at h
 exact zj 14 h ha
theorem slices_IndexFunc__policy_all_1_1_ok {s_ f f2 t7 t8} : slices_IndexFunc__policy_all_1_W (.s1 s_ f f2 t7 t8) (slices_IndexFunc__policy_all_1_1 s_ f f2 t7 t8) := by
 intro r x h ha; unfold slices_IndexFunc__policy_all_1_1 at h
 refine zs 7 h (fun h => ?_) fun h => ?_
 ·
  refine zn 14 h fun h => ?_
  refine zr 1 (eInt .i64) h fun y3 h => ?_
  refine zc 1 [] h (fun _ => policy_all_1_ok) fun y5 h => ?_
  refine zs 2 h (fun h => ?_) fun h => ?_
  ·
   exact zt 6 h ha
  exact zj 7 h ha
 exact zt 6 h ha
noncomputable def slices_IndexFunc__policy_all_1 (s_ : List Int) (f f2 : Int) : Option Int := evf slices_IndexFunc__policy_all_1_step (.s0 s_ f f2)
theorem slices_IndexFunc__policy_all_1_ok {s_ : List Int} {f f2 r : Int} (h : slices_IndexFunc__policy_all_1 s_ f f2 = some r) : Sound E 88 [.sl false 1 (List.map (eInt .i64) s_), .fn 65 [] [.iptr 1 [[.int .i64 f]] 0 0, .iptr 1 [[.int .i64 f2]] 0 0]] [] (Rs slices_IndexFunc__policy_all_1_e r) := sc (fn := Tryd.f88) (k := false) (m := 0) (stM := slices_IndexFunc__policy_all_1_M) h fun s => by
 cases s with
 | s0 => exact slices_IndexFunc__policy_all_1_0_ok
 | s1 => exact slices_IndexFunc__policy_all_1_1_ok
end Go.RX.L

namespace Go.RX.L
open Go Go.RX Go.Proofs
attribute [local irreducible] FinQ
noncomputable def slices_ContainsFunc__policy_all_1_e (y : Bool) : D × Sto := (.bool y, [])
noncomputable def slices_ContainsFunc__policy_all_1 (s_ : List Int) (f f2 : Int) : Option Bool := ((slices_IndexFunc__policy_all_1 s_ f f2).bind fun y1 => (some (decide ((y1 : Int) ≥ 0))))
theorem slices_ContainsFunc__policy_all_1_ok {s_ : List Int} {f f2 : Int} {r : Bool} (h : slices_ContainsFunc__policy_all_1 s_ f f2 = some r) : Sound E 64 [.sl false 1 (List.map (eInt .i64) s_), .fn 65 [] [.iptr 1 [[.int .i64 f]] 0 0, .iptr 1 [[.int .i64 f2]] 0 0]] [] (Rs slices_ContainsFunc__policy_all_1_e r) := so (fn := Tryd.f64) (k := false) (m := 0) h <| by
 intro r h; unfold slices_ContainsFunc__policy_all_1 at h
 refine zc 9 [] h (fun _ => slices_IndexFunc__policy_all_1_ok) fun y1 h => ?_
 exact zu 4 h
end Go.RX.L

namespace Go.RX.L
open Go Go.RX Go.Proofs
attribute [local irreducible] FinQ
noncomputable def policy_all_e (y : Bool) : D × Sto := (.bool y, [])
noncomputable def policy_all (low high : Int) (l_ : List Int) : Option Bool := ((slices_ContainsFunc__policy_all_1 l_ low high).bind fun y1 => (some (!y1)))
theorem policy_all_ok {low high : Int} {l_ : List Int} {r : Bool} (h : policy_all low high l_ = some r) : Sound E 47 [.int .i64 low, .int .i64 high, .sl false 1 (List.map (eInt .i64) l_)] [] (Rs policy_all_e r) := so (fn := Tryd.f47) (k := false) (m := 0) h <| by
 intro r h; unfold policy_all at h
 refine zc 11 [] h (fun _ => slices_ContainsFunc__policy_all_1_ok) fun y1 h => ?_
 exact zu 4 h
end Go.RX.L

namespace Go.RX.L
open Go Go.RX Go.Proofs
attribute [local irreducible] FinQ
noncomputable def policy_all_1_v2_e (y : Bool) : D × Sto := (.bool y, [])
noncomputable def policy_all_1_v2 (n t t2 : Int) : Option Bool := (bif (decide ((n : Int) < t)) then (some true) else (some (decide ((n : Int) > t2))))
theorem policy_all_1_v2_ok {n t t2 : Int} {r : Bool} (h : policy_all_1_v2 n t t2 = some r) : Sound E 67 [.int .i64 n, .iptr 1 [[.int .i64 t]] 0 0, .iptr 1 [[.int .i64 t2]] 0 0] [] (Rs policy_all_1_v2_e r) := so (fn := Tryd.f67) (k := false) (m := 0) h <| by
 intro r h; unfold policy_all_1_v2 at h
 refine zs 12 h (fun h => ?_) fun h => ?_
 ·
  exact zu 9 h
 exact zu 10 h
end Go.RX.L

namespace Go.RX.L
open Go Go.RX Go.Proofs
attribute [local irreducible] FinQ
noncomputable def slices_IndexFunc__policy_all_1_v2_c := codeAt (bodyOf Tryd.f89)
noncomputable def slices_IndexFunc__policy_all_1_v2_e (y : Int) : D × Sto := (.int .i64 y, [])
inductive slices_IndexFunc__policy_all_1_v2_S where
 | s0 (s_ : List Int) (f f2 : Int)
 | s1 (s_ : List Int) (f f2 : Int) (t7 t8 : Int)
noncomputable def slices_IndexFunc__policy_all_1_v2_M : slices_IndexFunc__policy_all_1_v2_S → M
 | .s0 s_ f f2 => startM Tryd.f89 [.sl false 1 (List.map (eInt .i64) s_), .fn 67 [] [.iptr 1 [[.int .i64 f]] 0 0, .iptr 1 [[.int .i64 f2]] 0 0]] []
 | .s1 s_ f f2 t7 t8 => ⟨[.lpc (slices_IndexFunc__policy_all_1_v2_c [1, 0, 1, 0, 0]) 387, .blk 0, .code (slices_IndexFunc__policy_all_1_v2_c [1, 1])], [(0, .sl false 1 (List.map (eInt .i64) s_)), (1, .fn 67 [] [.iptr 1 [[.int .i64 f]] 0 0, .iptr 1 [[.int .i64 f2]] 0 0]), (7, .int .i64 t7), (8, .int .i64 t8)], []⟩
abbrev slices_IndexFunc__policy_all_1_v2_W := SOk E (Cx.of Tryd.f89 false 0) slices_IndexFunc__policy_all_1_v2_e slices_IndexFunc__policy_all_1_v2_M
noncomputable def slices_IndexFunc__policy_all_1_v2_0 (s_ : List Int) (f f2 : Int) : Option (slices_IndexFunc__policy_all_1_v2_S ⊕ Int) := (some (.inl (.s1 s_ f f2 (((List.map (eInt .i64) s_).length : Nat) : Int) 0)))
noncomputable def slices_IndexFunc__policy_all_1_v2_1 (s_ : List Int) (f f2 : Int) (t7 t8 : Int) : Option (slices_IndexFunc__policy_all_1_v2_S ⊕ Int) := (bif (decide ((t8 : Int) < t7)) then (bif ((decide ((0 : Int) ≤ t8)) && (decide ((t8 : Int) < (((List.map (eInt .i64) s_).length : Nat) : Int)))) then (((s_)[t8.toNat]?).bind fun y3 => ((policy_all_1_v2 y3 f f2).bind fun y5 => (bif y5 then (some (.inr t8)) else (some (.inl (.s1 s_ f f2 t7 (IntKind.i64.wrap (t8 + 1)))))))) else none) else (some (.inr (-1))))
noncomputable def slices_IndexFunc__policy_all_1_v2_step : slices_IndexFunc__policy_all_1_v2_S → Option (slices_IndexFunc__policy_all_1_v2_S ⊕ Int)
 | .s0 s_ f f2 => slices_IndexFunc__policy_all_1_v2_0 s_ f f2
 | .s1 s_ f f2 t7 t8 => slices_IndexFunc__policy_all_1_v2_1 s_ f f2 t7 t8
theorem slices_IndexFunc__policy_all_1_v2_0_ok {s_ f f2} : slices_IndexFunc__policy_all_1_v2_W (.s0 s_ f f2) (slices_IndexFunc__policy_all_1_v2_0 s_ f f2) := by
 intro r x h ha; unfold slices_IndexFunc__policy_all_1_v2_0 at h
 exact zj 14 h ha
theorem slices_IndexFunc__policy_all_1_v2_1_ok {s_ f f2 t7 t8} : slices_IndexFunc__policy_all_1_v2_W (.s1 s_ f f2 t7 t8) (slices_IndexFunc__policy_all_1_v2_1 s_ f f2 t7 t8) := by
 intro r x h ha; unfold slices_IndexFunc__policy_all_1_v2_1 at h
 refine zs 7 h (fun h => ?_) fun h => ?_
 ·
  refine zn 14 h fun h => ?_
  refine zr 1 (eInt .i64) h fun y3 h => ?_
  refine zc 1 [] h (fun _ => policy_all_1_v2_ok) fun y5 h => ?_
  refine zs 2 h (fun h => ?_) fun h => ?_
  ·
   exact zt 6 h ha
  exact zj 7 h ha
 exact zt 6 h ha
noncomputable def slices_IndexFunc__policy_all_1_v2 (s_ : List Int) (f f2 : Int) : Option Int := evf slices_IndexFunc__policy_all_1_v2_step (.s0 s_ f f2)
theorem slices_IndexFunc__policy_all_1_v2_ok {s_ : List Int} {f f2 r : Int} (h : slices_IndexFunc__policy_all_1_v2 s_ f f2 = some r) : Sound E 89 [.sl false 1 (List.map (eInt .i64) s_), .fn 67 [] [.iptr 1 [[.int .i64 f]] 0 0, .iptr 1 [[.int .i64 f2]] 0 0]] [] (Rs slices_IndexFunc__policy_all_1_v2_e r) := sc (fn := Tryd.f89) (k := false) (m := 0) (stM := slices_IndexFunc__policy_all_1_v2_M) h fun s => by
 cases s with
 | s0 => exact slices_IndexFunc__policy_all_1_v2_0_ok
 | s1 => exact slices_IndexFunc__policy_all_1_v2_1_ok
end Go.RX.L

namespace Go.RX.L
open Go Go.RX Go.Proofs
attribute [local irreducible] FinQ
noncomputable def slices_ContainsFunc__policy_all_1_v2_e (y : Bool) : D × Sto := (.bool y, [])
noncomputable def slices_ContainsFunc__policy_all_1_v2 (s_ : List Int) (f f2 : Int) : Option Bool := ((slices_IndexFunc__policy_all_1_v2 s_ f f2).bind fun y1 => (some (decide ((y1 : Int) ≥ 0))))
theorem slices_ContainsFunc__policy_all_1_v2_ok {s_ : List Int} {f f2 : Int} {r : Bool} (h : slices_ContainsFunc__policy_all_1_v2 s_ f f2 = some r) : Sound E 66 [.sl false 1 (List.map (eInt .i64) s_), .fn 67 [] [.iptr 1 [[.int .i64 f]] 0 0, .iptr 1 [[.int .i64 f2]] 0 0]] [] (Rs slices_ContainsFunc__policy_all_1_v2_e r) := so (fn := Tryd.f66) (k := false) (m := 0) h <| by
 intro r h; unfold slices_ContainsFunc__policy_all_1_v2 at h
 refine zc 9 [] h (fun _ => slices_IndexFunc__policy_all_1_v2_ok) fun y1 h => ?_
 exact zu 4 h
end Go.RX.L

namespace Go.RX.L
open Go Go.RX Go.Proofs
attribute [local irreducible] FinQ
noncomputable def policy_all_v2_e (y : Bool) : D × Sto := (.bool y, [])
noncomputable def policy_all_v2 (low high : Int) (l_ : List Int) : Option Bool := ((slices_ContainsFunc__policy_all_1_v2 l_ low high).bind fun y1 => (some (!y1)))
theorem policy_all_v2_ok {low high : Int} {l_ : List Int} {r : Bool} (h : policy_all_v2 low high l_ = some r) : Sound E 48 [.int .i64 low, .int .i64 high, .sl false 1 (List.map (eInt .i64) l_)] [] (Rs policy_all_v2_e r) := so (fn := Tryd.f48) (k := false) (m := 0) h <| by
 intro r h; unfold policy_all_v2 at h
 refine zc 11 [] h (fun _ => slices_ContainsFunc__policy_all_1_v2_ok) fun y1 h => ?_
 exact zu 4 h
end Go.RX.L
