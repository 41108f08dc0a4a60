/-
  Words and walks for PlanPercent. No condition.
-/
import Derived.Test.YtnaainilkgnkpaaPlanPercentY6
set_option linter.unusedSimpArgs false
set_option linter.unusedVariables false
set_option maxRecDepth 100000
set_option maxHeartbeats 4000000
namespace Go.RX.L
open Go Go.RX Go.Proofs
attribute [local irreducible] FinQ
def plan_Put_Q (y : (List Int) × Int) (d : D) (s : Sto) : Prop := d = D.tup [D.sl false 1 (List.map (eInt .u8) y.1), D.int .i64 y.2] ∧ s = []
inductive plan_Put_S where
  | s0 (p_ : Plan)
  | s1 (t17 : List Int) (t18 : Int) (t19 : Int) (p_ : Plan) (pen : List Int)
  | s2 (t36 : Int) (b : List Int) (b1 : List (List Int))
noncomputable def plan_Put_M : plan_Put_S → M
  | .s0 p_ => ⟨[.code (bodyOf Try.f11)], [(0, D.agg [D.int .i64 p_.Epoch, D.int .i64 p_.Target, D.int .i64 p_.Prev, D.int .i64 p_.Spill, D.int .i64 p_.Percent, D.int .i64 p_.Stamp, D.int .i64 p_.Since, D.int .i64 p_.Ramped, D.int .u64 p_.Up, D.int .u64 p_.Sup, D.sl false 1 (List.map (eInt .i64) p_.Pen), D.sl false 1 (List.map (eInt .i64) p_.Changes)])], []⟩
  | .s1 t17 t18 t19 p_ pen => { td := [It.lpc (codeAt (bodyOf Try.f11) [1, 1, 1, 0, 1, 0, 0]) 917522, It.blk 0, It.code (codeAt (bodyOf Try.f11) [1, 1, 1, 1])], fr := [(1, D.ptr 0 0 0), (4, D.msl 1 0 ((List.map (eInt .i64) pen).length) ((List.map (eInt .i64) pen).length) false), (17, D.sl false 1 (List.map (eInt .i64) t17)), (18, D.int .i64 t18), (19, D.int .i64 t19)], st := [some { sz := 12, deep := false, rows := [[D.int .i64 p_.Epoch, D.int .i64 p_.Target, D.int .i64 p_.Prev, D.int .i64 p_.Spill, D.int .i64 p_.Percent, D.int .i64 p_.Stamp, D.int .i64 p_.Since, D.int .i64 p_.Ramped, D.int .u64 p_.Up, D.int .u64 p_.Sup, D.sl false 1 (List.map (eInt .i64) p_.Pen), D.sl false 1 (List.map (eInt .i64) p_.Changes)]] }, some { sz := 1, deep := false, rows := (List.map (eInt .i64) pen) }] }
  | .s2 t36 b b1 => { td := [It.lpc (codeAt (bodyOf Try.f11) [1, 1, 1, 1, 1, 1, 0, 1, 0, 0]) 120259084544, It.blk 2, It.code (codeAt (bodyOf Try.f11) [1, 1, 1, 1, 1, 1, 1])], fr := [(8, D.msl 0 0 ((List.map (eInt .u8) b).length) ((List.map (eInt .u8) b).length) false), (34, D.msl 1 0 ((List.map (eSl 1 (eInt .i64)) b1).length) ((List.map (eSl 1 (eInt .i64)) b1).length) true), (35, D.int .i64 3), (36, D.int .i64 t36)], st := [some { sz := 1, deep := false, rows := (List.map (eInt .u8) b) }, some { sz := 1, deep := false, rows := (List.map (eSl 1 (eInt .i64)) b1) }] }
noncomputable def plan_Put_0 (p_ : Plan) : Option (plan_Put_S ⊕ ((List Int) × Int)) := ((plan_Right p_).bind fun y1 => (bif (!y1) then (some (.inr ([], 41))) else (some (.inl (.s1 p_.Pen (((List.map (eInt .i64) p_.Pen).length : Nat) : Int) 0 p_ ([]))))))
noncomputable def plan_Put_1 (t17 : List Int) (t18 : Int) (t19 : Int) (p_ : Plan) (pen : List Int) : Option (plan_Put_S ⊕ ((List Int) × Int)) := (bif (decide ((t19 : Int) < t18)) then (bif ((decide ((0 : Int) ≤ t19)) && (decide ((t19 : Int) < (((List.map (eInt .i64) t17).length : Nat) : Int)))) then (((t17)[t19.toNat]?).bind fun y3 => (bif (decide (((List.map (eInt .i64) pen).length + 1) * 8 ≤ bytesLim)) then (some (.inl (.s1 t17 t18 (IntKind.i64.wrap (t19 + 1)) p_ (pen ++ [y3])))) else none)) else none) else ((plan_numbers p_).bind fun y6 => (some (.inl (.s2 0 ([]) ([[y6.1, y6.2.1, y6.2.2.1, y6.2.2.2.1, y6.2.2.2.2.1, y6.2.2.2.2.2.1, y6.2.2.2.2.2.2.1, y6.2.2.2.2.2.2.2.1, y6.2.2.2.2.2.2.2.2.1, y6.2.2.2.2.2.2.2.2.2], pen, p_.Changes]))))))
noncomputable def plan_Put_2 (t36 : Int) (b : List Int) (b1 : List (List Int)) : Option (plan_Put_S ⊕ ((List Int) × Int)) := (bif (decide ((t36 : Int) < 3)) then (bif ((decide ((0 : Int) ≤ t36)) && (decide ((t36 : Int) < (((List.map (eSl 1 (eInt .i64)) b1).length : Nat) : Int)))) then (((b1)[(0 + t36.toNat)]?).bind fun y3 => ((wire_PutInts y3).bind fun y5 => (bif (decide (((List.map (eInt .u8) b).length + (List.map (eInt .u8) y5.1).length) * 1 ≤ bytesLim)) then (some (.inl (.s2 (IntKind.i64.wrap (t36 + 1)) (b ++ y5.1) b1))) else none))) else none) else (some (.inr (b, 0))))
noncomputable def plan_Put_step : plan_Put_S → Option (plan_Put_S ⊕ ((List Int) × Int))
  | .s0 p_ => plan_Put_0 p_
  | .s1 t17 t18 t19 p_ pen => plan_Put_1 t17 t18 t19 p_ pen
  | .s2 t36 b b1 => plan_Put_2 t36 b b1
theorem plan_Put_0_ok {p_ : Plan} {r : (List Int) × Int} {x : plan_Put_S ⊕ ((List Int) × Int)} (h : plan_Put_0 p_ = some x) (ha : After E (Cx.of Try.f11 false 0) plan_Put_Q plan_Put_M r x) : FinQ E (Cx.of Try.f11 false 0) (QW (plan_Put_Q r)) (.go (plan_Put_M (.s0 p_))) := by
  unfold plan_Put_0 at h
  refine adv_ok hm 12 _ ?_
  have ok1 := fun (y : Bool) (hy : plan_Right p_ = some y) => plan_Right_ok hy
  refine p_callE [] (args1 := [D.agg [D.int .i64 p_.Epoch, D.int .i64 p_.Target, D.int .i64 p_.Prev, D.int .i64 p_.Spill, D.int .i64 p_.Percent, D.int .i64 p_.Stamp, D.int .i64 p_.Since, D.int .i64 p_.Ramped, D.int .u64 p_.Up, D.int .u64 p_.Sup, D.sl false 1 (List.map (eInt .i64) p_.Pen), D.sl false 1 (List.map (eInt .i64) p_.Changes)]]) (args := [D.agg [D.int .i64 p_.Epoch, D.int .i64 p_.Target, D.int .i64 p_.Prev, D.int .i64 p_.Spill, D.int .i64 p_.Percent, D.int .i64 p_.Stamp, D.int .i64 p_.Since, D.int .i64 p_.Ramped, D.int .u64 p_.Up, D.int .u64 p_.Sup, D.sl false 1 (List.map (eInt .i64) p_.Pen), D.sl false 1 (List.map (eInt .i64) p_.Changes)]]) (fun y1 => D.bool y1) (fun y1 => []) h (by kernel_rfl) ⟨rfl, rfl⟩ ok1 (fun y1 h1 h => ?_)
  refine adv_ok hm 3 _ ?_
  refine p_split h (by kernel_rfl) (fun h2 h => ?_) (fun h2 h => ?_)
  · -- true
    refine adv_ok hm 6 _ ?_
    obtain rfl := Option.some.inj h
    have hv := ha
    simp only [After] at hv
    subst hv
    exact r_retF [.slot 0 [some 1]] (d := D.tup [D.sl false 1 [], D.int .i64 41]) (s := []) (by kernel_rfl) Cx.fin_of ⟨rfl, rfl⟩
  · -- false
    refine adv_ok hm 17 _ ?_
    obtain rfl := Option.some.inj h
    refine r_cut 917522 [.mat 4 1] (m' := { td := [It.lpc (codeAt (bodyOf Try.f11) [1, 1, 1, 0, 1, 0, 0]) 917522, It.blk 0, It.code (codeAt (bodyOf Try.f11) [1, 1, 1, 1])], fr := [(1, D.ptr 0 0 0), (4, D.msl 1 0 0 0 false), (17, D.sl false 1 (List.map (eInt .i64) p_.Pen)), (18, D.int .i64 (((List.map (eInt .i64) p_.Pen).length : Nat) : Int)), (19, D.int .i64 0)], st := [some { sz := 12, deep := false, rows := [[D.int .i64 p_.Epoch, D.int .i64 p_.Target, D.int .i64 p_.Prev, D.int .i64 p_.Spill, D.int .i64 p_.Percent, D.int .i64 p_.Stamp, D.int .i64 p_.Since, D.int .i64 p_.Ramped, D.int .u64 p_.Up, D.int .u64 p_.Sup, D.sl false 1 (List.map (eInt .i64) p_.Pen), D.sl false 1 (List.map (eInt .i64) p_.Changes)]] }, some { sz := 1, deep := false, rows := [] }] }) (by kernel_rfl) ?_
    refine r_len (n1 := 0) (n2 := (List.map (eInt .i64) ([])).length) (fun n_len => .go { td := [It.lpc (codeAt (bodyOf Try.f11) [1, 1, 1, 0, 1, 0, 0]) 917522, It.blk 0, It.code (codeAt (bodyOf Try.f11) [1, 1, 1, 1])], fr := [(1, D.ptr 0 0 0), (4, D.msl 1 0 n_len n_len false), (17, D.sl false 1 (List.map (eInt .i64) p_.Pen)), (18, D.int .i64 (((List.map (eInt .i64) p_.Pen).length : Nat) : Int)), (19, D.int .i64 0)], st := [some { sz := 12, deep := false, rows := [[D.int .i64 p_.Epoch, D.int .i64 p_.Target, D.int .i64 p_.Prev, D.int .i64 p_.Spill, D.int .i64 p_.Percent, D.int .i64 p_.Stamp, D.int .i64 p_.Since, D.int .i64 p_.Ramped, D.int .u64 p_.Up, D.int .u64 p_.Sup, D.sl false 1 (List.map (eInt .i64) p_.Pen), D.sl false 1 (List.map (eInt .i64) p_.Changes)]] }, some { sz := 1, deep := false, rows := [] }] }) (by simp) ?_
    exact ha
theorem plan_Put_1_ok {t17 : List Int} {t18 : Int} {t19 : Int} {p_ : Plan} {pen : List Int} {r : (List Int) × Int} {x : plan_Put_S ⊕ ((List Int) × Int)} (h : plan_Put_1 t17 t18 t19 p_ pen = some x) (ha : After E (Cx.of Try.f11 false 0) plan_Put_Q plan_Put_M r x) : FinQ E (Cx.of Try.f11 false 0) (QW (plan_Put_Q r)) (.go (plan_Put_M (.s1 t17 t18 t19 p_ pen))) := by
  unfold plan_Put_1 at h
  refine adv_ok hm 7 _ ?_
  refine p_split h (by kernel_rfl) (fun h1 h => ?_) (fun h1 h => ?_)
  · -- true
    refine adv_ok hm 6 _ ?_
    refine p_need h (by kernel_rfl) (fun h2 h => ?_)
    refine adv_ok hm 1 _ ?_
    refine p_row (((List.map (eInt .i64) t17))[t19.toNat]?) (eInt .i64) h (by kernel_rfl) List.getElem?_map (fun y3 h4 h => ?_)
    refine adv_ok hm 8 _ ?_
    refine p_need h (by kernel_rfl) (fun h5 h => ?_)
    refine r_needT (b := (Nat.ble (0 + (List.map (eInt .i64) pen).length) ((List.map (eInt .i64) pen).length))) (by kernel_rfl) (ble_full _) ?_
    refine r_rows (List.take ((List.map (eInt .i64) pen).length) (List.drop 0 (List.map (eInt .i64) pen)) ++ (List.map (eInt .i64) ([y3]))) (List.map (eInt .i64) (pen ++ [y3])) (by kernel_rfl) (rows_app _ _ _) ?_
    refine adv_ok hm 8 _ ?_
    obtain rfl := Option.some.inj h
    exact r_to (q' := .go (plan_Put_M (.s1 t17 t18 (IntKind.i64.wrap (t19 + 1)) p_ (pen ++ [y3])))) (by kernel_rfl) ha
  · -- false
    refine adv_ok hm 6 _ ?_
    have ok6 := fun (y : Int × Int × Int × Int × Int × Int × Int × Int × Int × Int) (hy : plan_numbers p_ = some y) => plan_numbers_ok hy
    refine p_callE [] (args1 := [D.agg [D.int .i64 p_.Epoch, D.int .i64 p_.Target, D.int .i64 p_.Prev, D.int .i64 p_.Spill, D.int .i64 p_.Percent, D.int .i64 p_.Stamp, D.int .i64 p_.Since, D.int .i64 p_.Ramped, D.int .u64 p_.Up, D.int .u64 p_.Sup, D.sl false 1 (List.map (eInt .i64) p_.Pen), D.sl false 1 (List.map (eInt .i64) p_.Changes)]]) (args := [D.agg [D.int .i64 p_.Epoch, D.int .i64 p_.Target, D.int .i64 p_.Prev, D.int .i64 p_.Spill, D.int .i64 p_.Percent, D.int .i64 p_.Stamp, D.int .i64 p_.Since, D.int .i64 p_.Ramped, D.int .u64 p_.Up, D.int .u64 p_.Sup, D.sl false 1 (List.map (eInt .i64) p_.Pen), D.sl false 1 (List.map (eInt .i64) p_.Changes)]]) (fun y6 => D.agg [D.int .i64 y6.1, D.int .i64 y6.2.1, D.int .i64 y6.2.2.1, D.int .i64 y6.2.2.2.1, D.int .i64 y6.2.2.2.2.1, D.int .i64 y6.2.2.2.2.2.1, D.int .i64 y6.2.2.2.2.2.2.1, D.int .i64 y6.2.2.2.2.2.2.2.1, D.int .i64 y6.2.2.2.2.2.2.2.2.1, D.int .i64 y6.2.2.2.2.2.2.2.2.2]) (fun y6 => []) h (by kernel_rfl) ⟨rfl, rfl⟩ ok6 (fun y6 h6 h => ?_)
    refine adv_ok hm 16 _ ?_
    refine r_fzC 0 0 0 (n1 := 10) (n2 := 10) (raw := ([[D.int .i64 y6.1], [D.int .i64 y6.2.1], [D.int .i64 y6.2.2.1], [D.int .i64 y6.2.2.2.1], [D.int .i64 y6.2.2.2.2.1], [D.int .i64 y6.2.2.2.2.2.1], [D.int .i64 y6.2.2.2.2.2.2.1], [D.int .i64 y6.2.2.2.2.2.2.2.1], [D.int .i64 y6.2.2.2.2.2.2.2.2.1], [D.int .i64 y6.2.2.2.2.2.2.2.2.2]])) (rs := ([[D.int .i64 y6.1], [D.int .i64 y6.2.1], [D.int .i64 y6.2.2.1], [D.int .i64 y6.2.2.2.1], [D.int .i64 y6.2.2.2.2.1], [D.int .i64 y6.2.2.2.2.2.1], [D.int .i64 y6.2.2.2.2.2.2.1], [D.int .i64 y6.2.2.2.2.2.2.2.1], [D.int .i64 y6.2.2.2.2.2.2.2.2.1], [D.int .i64 y6.2.2.2.2.2.2.2.2.2]])) (by kernel_rfl) rfl rfl ?_
    refine r_fzC 0 1 0 (n1 := (0 + (List.map (eInt .i64) pen).length)) (n2 := ((List.map (eInt .i64) pen).length)) (raw := (List.take ((List.map (eInt .i64) pen).length) (List.drop 0 (List.map (eInt .i64) pen)))) (rs := (List.map (eInt .i64) pen)) (by kernel_rfl) (ble_full _) (by simp only [take_full, take_full', List.map_take, List.map_drop]) ?_
    obtain rfl := Option.some.inj h
    refine r_cut 120259084544 [.mat 8 1] (m' := { td := [It.lpc (codeAt (bodyOf Try.f11) [1, 1, 1, 1, 1, 1, 0, 1, 0, 0]) 120259084544, It.blk 2, It.code (codeAt (bodyOf Try.f11) [1, 1, 1, 1, 1, 1, 1])], fr := [(8, D.msl 0 0 0 0 false), (34, D.msl 1 0 3 3 true), (35, D.int .i64 3), (36, D.int .i64 0)], st := [some { sz := 1, deep := false, rows := [] }, some { sz := 1, deep := false, rows := [[D.sl false 1 [[D.int .i64 y6.1], [D.int .i64 y6.2.1], [D.int .i64 y6.2.2.1], [D.int .i64 y6.2.2.2.1], [D.int .i64 y6.2.2.2.2.1], [D.int .i64 y6.2.2.2.2.2.1], [D.int .i64 y6.2.2.2.2.2.2.1], [D.int .i64 y6.2.2.2.2.2.2.2.1], [D.int .i64 y6.2.2.2.2.2.2.2.2.1], [D.int .i64 y6.2.2.2.2.2.2.2.2.2]]], [D.sl false 1 (List.map (eInt .i64) pen)], [D.sl false 1 (List.map (eInt .i64) p_.Changes)]] }] }) (by kernel_rfl) ?_
    refine r_len (n1 := 0) (n2 := (List.map (eInt .u8) ([])).length) (fun n_len => .go { td := [It.lpc (codeAt (bodyOf Try.f11) [1, 1, 1, 1, 1, 1, 0, 1, 0, 0]) 120259084544, It.blk 2, It.code (codeAt (bodyOf Try.f11) [1, 1, 1, 1, 1, 1, 1])], fr := [(8, D.msl 0 0 n_len n_len false), (34, D.msl 1 0 3 3 true), (35, D.int .i64 3), (36, D.int .i64 0)], st := [some { sz := 1, deep := false, rows := [] }, some { sz := 1, deep := false, rows := [[D.sl false 1 [[D.int .i64 y6.1], [D.int .i64 y6.2.1], [D.int .i64 y6.2.2.1], [D.int .i64 y6.2.2.2.1], [D.int .i64 y6.2.2.2.2.1], [D.int .i64 y6.2.2.2.2.2.1], [D.int .i64 y6.2.2.2.2.2.2.1], [D.int .i64 y6.2.2.2.2.2.2.2.1], [D.int .i64 y6.2.2.2.2.2.2.2.2.1], [D.int .i64 y6.2.2.2.2.2.2.2.2.2]]], [D.sl false 1 (List.map (eInt .i64) pen)], [D.sl false 1 (List.map (eInt .i64) p_.Changes)]] }] }) (by simp) ?_
    refine r_len (n1 := 3) (n2 := (List.map (eSl 1 (eInt .i64)) ([[y6.1, y6.2.1, y6.2.2.1, y6.2.2.2.1, y6.2.2.2.2.1, y6.2.2.2.2.2.1, y6.2.2.2.2.2.2.1, y6.2.2.2.2.2.2.2.1, y6.2.2.2.2.2.2.2.2.1, y6.2.2.2.2.2.2.2.2.2], pen, p_.Changes])).length) (fun n_len => .go { td := [It.lpc (codeAt (bodyOf Try.f11) [1, 1, 1, 1, 1, 1, 0, 1, 0, 0]) 120259084544, It.blk 2, It.code (codeAt (bodyOf Try.f11) [1, 1, 1, 1, 1, 1, 1])], fr := [(8, D.msl 0 0 ((List.map (eInt .u8) ([])).length) ((List.map (eInt .u8) ([])).length) false), (34, D.msl 1 0 n_len n_len true), (35, D.int .i64 3), (36, D.int .i64 0)], st := [some { sz := 1, deep := false, rows := [] }, some { sz := 1, deep := false, rows := [[D.sl false 1 [[D.int .i64 y6.1], [D.int .i64 y6.2.1], [D.int .i64 y6.2.2.1], [D.int .i64 y6.2.2.2.1], [D.int .i64 y6.2.2.2.2.1], [D.int .i64 y6.2.2.2.2.2.1], [D.int .i64 y6.2.2.2.2.2.2.1], [D.int .i64 y6.2.2.2.2.2.2.2.1], [D.int .i64 y6.2.2.2.2.2.2.2.2.1], [D.int .i64 y6.2.2.2.2.2.2.2.2.2]]], [D.sl false 1 (List.map (eInt .i64) pen)], [D.sl false 1 (List.map (eInt .i64) p_.Changes)]] }] }) (by simp) ?_
    exact ha
theorem plan_Put_2_ok {t36 : Int} {b : List Int} {b1 : List (List Int)} {r : (List Int) × Int} {x : plan_Put_S ⊕ ((List Int) × Int)} (h : plan_Put_2 t36 b b1 = some x) (ha : After E (Cx.of Try.f11 false 0) plan_Put_Q plan_Put_M r x) : FinQ E (Cx.of Try.f11 false 0) (QW (plan_Put_Q r)) (.go (plan_Put_M (.s2 t36 b b1))) := by
  unfold plan_Put_2 at h
  refine adv_ok hm 7 _ ?_
  refine p_split h (by kernel_rfl) (fun h1 h => ?_) (fun h1 h => ?_)
  · -- true
    refine adv_ok hm 6 _ ?_
    refine p_need h (by kernel_rfl) (fun h2 h => ?_)
    refine adv_ok hm 1 _ ?_
    refine p_row (((List.map (eSl 1 (eInt .i64)) b1))[(0 + t36.toNat)]?) (eSl 1 (eInt .i64)) h (by kernel_rfl) List.getElem?_map (fun y3 h4 h => ?_)
    refine adv_ok hm 6 _ ?_
    have ok5 := fun (y : (List Int) × Int) (hy : wire_PutInts y3 = some y) => wire_PutInts_ok hy
    refine p_callE [] (args1 := [D.sl false 1 (List.map (eInt .i64) y3)]) (args := [D.sl false 1 (List.map (eInt .i64) y3)]) (fun y5 => D.tup [D.sl false 1 (List.map (eInt .u8) y5.1), D.int .i64 y5.2]) (fun y5 => []) h (by kernel_rfl) ⟨rfl, rfl⟩ ok5 (fun y5 h5 h => ?_)
    refine adv_ok hm 10 _ ?_
    refine p_need h (by kernel_rfl) (fun h6 h => ?_)
    refine r_needT (b := (Nat.ble (0 + (List.map (eInt .u8) b).length) ((List.map (eInt .u8) b).length))) (by kernel_rfl) (ble_full _) ?_
    refine r_rows (List.take ((List.map (eInt .u8) b).length) (List.drop 0 (List.map (eInt .u8) b)) ++ (List.map (eInt .u8) y5.1)) (List.map (eInt .u8) (b ++ y5.1)) (by kernel_rfl) (rows_app _ _ _) ?_
    refine adv_ok hm 8 _ ?_
    obtain rfl := Option.some.inj h
    exact r_to (q' := .go (plan_Put_M (.s2 (IntKind.i64.wrap (t36 + 1)) (b ++ y5.1) b1))) (by kernel_rfl) ha
  · -- false
    refine adv_ok hm 8 _ ?_
    refine r_needT (b := (Nat.ble (0 + (List.map (eInt .u8) b).length) ((List.map (eInt .u8) b).length))) (by kernel_rfl) (ble_full _) ?_
    obtain rfl := Option.some.inj h
    have hv := ha
    simp only [After] at hv
    subst hv
    exact r_retE [] (d1 := D.tup [D.sl false 1 (List.take ((List.map (eInt .u8) b).length) (List.drop 0 (List.map (eInt .u8) b))), D.int .i64 0]) (d := D.tup [D.sl false 1 (List.map (eInt .u8) b), D.int .i64 0]) (s1 := []) (s := []) (by kernel_rfl) ⟨by simp [List.take_of_length_le, List.map_take, List.map_drop], rfl⟩ ⟨rfl, rfl⟩ Cx.fin_of
theorem plan_Put_ev {p_ : Plan} {r : (List Int) × Int} (h : Ev plan_Put_step (.s0 p_) r) : Sound E 11 [D.agg [D.int .i64 p_.Epoch, D.int .i64 p_.Target, D.int .i64 p_.Prev, D.int .i64 p_.Spill, D.int .i64 p_.Percent, D.int .i64 p_.Stamp, D.int .i64 p_.Since, D.int .i64 p_.Ramped, D.int .u64 p_.Up, D.int .u64 p_.Sup, D.sl false 1 (List.map (eInt .i64) p_.Pen), D.sl false 1 (List.map (eInt .i64) p_.Changes)]] [] (plan_Put_Q r) :=
  sound_ofW (m := plan_Put_M (.s0 p_)) (fn := Try.f11) (by kernel_rfl) (by kernel_rfl) (ev_run (C := (Cx.of Try.f11 false 0)) (fun s x r hs ha => by
    cases s with
    | s0 => exact plan_Put_0_ok hs ha
    | s1 => exact plan_Put_1_ok hs ha
    | s2 => exact plan_Put_2_ok hs ha) h)
noncomputable def plan_Put (p_ : Plan) : Option ((List Int) × Int) := evf plan_Put_step (.s0 p_)
theorem plan_Put_ok {p_ : Plan} {r : (List Int) × Int} (h : plan_Put p_ = some r) : Sound E 11 [D.agg [D.int .i64 p_.Epoch, D.int .i64 p_.Target, D.int .i64 p_.Prev, D.int .i64 p_.Spill, D.int .i64 p_.Percent, D.int .i64 p_.Stamp, D.int .i64 p_.Since, D.int .i64 p_.Ramped, D.int .u64 p_.Up, D.int .u64 p_.Sup, D.sl false 1 (List.map (eInt .i64) p_.Pen), D.sl false 1 (List.map (eInt .i64) p_.Changes)]] [] (plan_Put_Q r) := plan_Put_ev (evf_ev h)
end Go.RX.L

set_option linter.unusedSimpArgs false
set_option linter.unusedVariables false
set_option maxRecDepth 100000
set_option maxHeartbeats 4000000
namespace Go.RX.L
open Go Go.RX Go.Proofs
attribute [local irreducible] FinQ
def plan_Get_Q (y : Plan × Int) (d : D) (s : Sto) : Prop := d = D.tup [D.agg [D.int .i64 y.1.Epoch, D.int .i64 y.1.Target, D.int .i64 y.1.Prev, D.int .i64 y.1.Spill, D.int .i64 y.1.Percent, D.int .i64 y.1.Stamp, D.int .i64 y.1.Since, D.int .i64 y.1.Ramped, D.int .u64 y.1.Up, D.int .u64 y.1.Sup, D.sl false 1 (List.map (eInt .i64) y.1.Pen), D.sl false 1 (List.map (eInt .i64) y.1.Changes)], D.int .i64 y.2] ∧ s = []
inductive plan_Get_S where
  | s0 (b : List Int)
  | s1 (b : List Int) (at_ : Int) (t12 : Int) (b0 : Plan) (lists : List (List Int))
  | s2 (l_ : List Int) (t67 : Bool) (b0 : Plan) (lists : List (List Int))
  | s3 (t105 : List Int) (t106 : Int) (t107 : Int) (b0 : Plan) (Epoch_ : Int) (Target_ : Int) (Prev_ : Int) (Spill_ : Int) (Percent_ : Int) (Stamp_ : Int) (Since_ : Int) (Ramped_ : Int) (Up_ : Int) (Sup_ : Int) (Changes_ : List Int) (b2 : List Int)
noncomputable def plan_Get_M : plan_Get_S → M
  | .s0 b => ⟨[.code (bodyOf Try.f15)], [(0, D.sl false 1 (List.map (eInt .u8) b))], []⟩
  | .s1 b at_ t12 b0 lists => { td := [It.lpc (codeAt (bodyOf Try.f15) [1, 1, 1, 0, 1, 0, 0]) 4149, It.blk 0, It.code (codeAt (bodyOf Try.f15) [1, 1, 1, 1])], fr := [(0, D.sl false 1 (List.map (eInt .u8) b)), (2, D.ptr 0 0 0), (4, D.ptr 1 0 0), (5, D.int .i64 at_), (12, D.int .i64 t12)], st := [some { sz := 12, deep := false, rows := [[D.int .i64 b0.Epoch, D.int .i64 b0.Target, D.int .i64 b0.Prev, D.int .i64 b0.Spill, D.int .i64 b0.Percent, D.int .i64 b0.Stamp, D.int .i64 b0.Since, D.int .i64 b0.Ramped, D.int .u64 b0.Up, D.int .u64 b0.Sup, D.sl false 1 (List.map (eInt .i64) b0.Pen), D.sl false 1 (List.map (eInt .i64) b0.Changes)]] }, some { sz := 1, deep := false, rows := (List.map (eSl 1 (eInt .i64)) lists) }] }
  | .s2 l_ t67 b0 lists => { td := [It.code (codeAt (bodyOf Try.f15) [1, 1, 1, 1, 1, 0, 1]), It.code (codeAt (bodyOf Try.f15) [1, 1, 1, 1, 1, 1])], fr := [(2, D.ptr 0 0 0), (4, D.ptr 1 0 0), (8, D.sl false 1 (List.map (eInt .i64) l_)), (67, D.bool t67)], st := [some { sz := 12, deep := false, rows := [[D.int .i64 b0.Epoch, D.int .i64 b0.Target, D.int .i64 b0.Prev, D.int .i64 b0.Spill, D.int .i64 b0.Percent, D.int .i64 b0.Stamp, D.int .i64 b0.Since, D.int .i64 b0.Ramped, D.int .u64 b0.Up, D.int .u64 b0.Sup, D.sl false 1 (List.map (eInt .i64) b0.Pen), D.sl false 1 (List.map (eInt .i64) b0.Changes)]] }, some { sz := 1, deep := false, rows := (List.map (eSl 1 (eInt .i64)) lists) }] }
  | .s3 t105 t106 t107 b0 Epoch_ Target_ Prev_ Spill_ Percent_ Stamp_ Since_ Ramped_ Up_ Sup_ Changes_ b2 => { td := [It.lpc (codeAt (bodyOf Try.f15) [1, 1, 1, 1, 1, 1, 1, 0, 1, 0, 0]) 283953734451123385935261518004740, It.blk 2, It.code (codeAt (bodyOf Try.f15) [1, 1, 1, 1, 1, 1, 1, 1])], fr := [(2, D.ptr 0 0 0), (9, D.ptr 1 0 0), (105, D.sl false 1 (List.map (eInt .i64) t105)), (106, D.int .i64 t106), (107, D.int .i64 t107)], st := [some { sz := 12, deep := false, rows := [[D.int .i64 b0.Epoch, D.int .i64 b0.Target, D.int .i64 b0.Prev, D.int .i64 b0.Spill, D.int .i64 b0.Percent, D.int .i64 b0.Stamp, D.int .i64 b0.Since, D.int .i64 b0.Ramped, D.int .u64 b0.Up, D.int .u64 b0.Sup, D.sl false 1 (List.map (eInt .i64) b0.Pen), D.sl false 1 (List.map (eInt .i64) b0.Changes)]] }, some { sz := 12, deep := true, rows := [[D.int .i64 Epoch_, D.int .i64 Target_, D.int .i64 Prev_, D.int .i64 Spill_, D.int .i64 Percent_, D.int .i64 Stamp_, D.int .i64 Since_, D.int .i64 Ramped_, D.int .u64 Up_, D.int .u64 Sup_, D.msl 2 0 ((List.map (eInt .i64) b2).length) ((List.map (eInt .i64) b2).length) false, D.sl false 1 (List.map (eInt .i64) Changes_)]] }, some { sz := 1, deep := false, rows := (List.map (eInt .i64) b2) }] }
noncomputable def plan_Get_0 (b : List Int) : Option (plan_Get_S ⊕ (Plan × Int)) := (some (.inl (.s1 b 0 0 (⟨0, 0, 0, 0, 0, 0, 0, 0, 0, 0, [], []⟩ : Plan) ([[], [], []]))))
noncomputable def plan_Get_1 (b : List Int) (at_ : Int) (t12 : Int) (b0 : Plan) (lists : List (List Int)) : Option (plan_Get_S ⊕ (Plan × Int)) := (bif (decide ((t12 : Int) < 3)) then ((wire_Ints b at_).bind fun y2 => (bif ((decide ((0 : Int) ≤ t12)) && (decide ((t12 : Int) < ((3 : Nat) : Int)))) then (((lists)[(0 + t12.toNat)]?).bind fun y4 => (bif ((y2.2.2 : Int) != 0) then (some (.inr ((⟨0, 0, 0, 0, 0, 0, 0, 0, 0, 0, [], []⟩ : Plan), 41))) else (some (.inl (.s1 b y2.2.1 (IntKind.i64.wrap (t12 + 1)) b0 (List.set lists (0 + t12.toNat) y2.1)))))) else none)) else (((lists)[0]?).bind fun y7 => (bif ((at_ : Int) != (((List.map (eInt .u8) b).length : Nat) : Int)) then (some (.inl (.s2 y7 true b0 lists))) else (bif (((((List.map (eInt .i64) y7).length : Nat) : Int) : Int) != 10) then (some (.inl (.s2 y7 true b0 lists))) else (bif (decide ((1 : Int) < (((List.map (eInt .i64) y7).length : Nat) : Int))) then (((y7)[1]?).bind fun y12 => (bif (decide ((2 : Int) < (((List.map (eInt .i64) y7).length : Nat) : Int))) then (((y7)[2]?).bind fun y15 => (bif (decide ((3 : Int) < (((List.map (eInt .i64) y7).length : Nat) : Int))) then (((y7)[3]?).bind fun y18 => (bif (decide ((4 : Int) < (((List.map (eInt .i64) y7).length : Nat) : Int))) then (((y7)[4]?).bind fun y21 => ((plan_all (-1) 1048576 ([y12, y15, y18, y21])).bind fun y23 => (bif (!y23) then (some (.inl (.s2 y7 true b0 lists))) else (bif (decide ((8 : Int) ≤ (((List.map (eInt .i64) y7).length : Nat) : Int))) then ((plan_all 0 1048576 (List.drop 8 (List.take ((List.map (eInt .i64) y7).length) y7))).bind fun y26 => (bif (!y26) then (some (.inl (.s2 y7 true b0 lists))) else (((lists)[1]?).bind fun y28 => ((plan_all 0 1000000 y28).bind fun y30 => (some (.inl (.s2 y7 (!y30) b0 lists))))))) else none)))) else none)) else none)) else none)) else none)))))
noncomputable def plan_Get_2 (l_ : List Int) (t67 : Bool) (b0 : Plan) (lists : List (List Int)) : Option (plan_Get_S ⊕ (Plan × Int)) := (bif t67 then (some (.inr ((⟨0, 0, 0, 0, 0, 0, 0, 0, 0, 0, [], []⟩ : Plan), 41))) else (bif (decide ((0 : Int) < (((List.map (eInt .i64) l_).length : Nat) : Int))) then (((l_)[0]?).bind fun y3 => (bif (decide ((1 : Int) < (((List.map (eInt .i64) l_).length : Nat) : Int))) then (((l_)[1]?).bind fun y6 => (bif (decide ((2 : Int) < (((List.map (eInt .i64) l_).length : Nat) : Int))) then (((l_)[2]?).bind fun y9 => (bif (decide ((3 : Int) < (((List.map (eInt .i64) l_).length : Nat) : Int))) then (((l_)[3]?).bind fun y12 => (bif (decide ((4 : Int) < (((List.map (eInt .i64) l_).length : Nat) : Int))) then (((l_)[4]?).bind fun y15 => (bif (decide ((5 : Int) < (((List.map (eInt .i64) l_).length : Nat) : Int))) then (((l_)[5]?).bind fun y18 => (bif (decide ((6 : Int) < (((List.map (eInt .i64) l_).length : Nat) : Int))) then (((l_)[6]?).bind fun y21 => (bif (decide ((7 : Int) < (((List.map (eInt .i64) l_).length : Nat) : Int))) then (((l_)[7]?).bind fun y24 => (bif (decide ((8 : Int) < (((List.map (eInt .i64) l_).length : Nat) : Int))) then (((l_)[8]?).bind fun y27 => (bif (decide ((9 : Int) < (((List.map (eInt .i64) l_).length : Nat) : Int))) then (((l_)[9]?).bind fun y30 => (((lists)[2]?).bind fun y32 => (((lists)[1]?).bind fun y34 => (some (.inl (.s3 y34 (((List.map (eInt .i64) y34).length : Nat) : Int) 0 b0 y3 y6 y9 y12 y15 y18 y21 y24 (IntKind.u64.wrap (y27)) (IntKind.u64.wrap (y30)) y32 ([]))))))) else none)) else none)) else none)) else none)) else none)) else none)) else none)) else none)) else none)) else none))
noncomputable def plan_Get_3 (t105 : List Int) (t106 : Int) (t107 : Int) (b0 : Plan) (Epoch_ : Int) (Target_ : Int) (Prev_ : Int) (Spill_ : Int) (Percent_ : Int) (Stamp_ : Int) (Since_ : Int) (Ramped_ : Int) (Up_ : Int) (Sup_ : Int) (Changes_ : List Int) (b2 : List Int) : Option (plan_Get_S ⊕ (Plan × Int)) := (bif (decide ((t107 : Int) < t106)) then (bif ((decide ((0 : Int) ≤ t107)) && (decide ((t107 : Int) < (((List.map (eInt .i64) t105).length : Nat) : Int)))) then (((t105)[t107.toNat]?).bind fun y3 => (bif (decide (((List.map (eInt .i64) b2).length + 1) * 8 ≤ bytesLim)) then (some (.inl (.s3 t105 t106 (IntKind.i64.wrap (t107 + 1)) b0 Epoch_ Target_ Prev_ Spill_ Percent_ Stamp_ Since_ Ramped_ Up_ Sup_ Changes_ (b2 ++ [y3])))) else none)) else none) else ((plan_Right (⟨Epoch_, Target_, Prev_, Spill_, Percent_, Stamp_, Since_, Ramped_, Up_, Sup_, b2, Changes_⟩ : Plan)).bind fun y6 => (bif (!y6) then (some (.inr ((⟨0, 0, 0, 0, 0, 0, 0, 0, 0, 0, [], []⟩ : Plan), 41))) else (some (.inr ((⟨Epoch_, Target_, Prev_, Spill_, Percent_, Stamp_, Since_, Ramped_, Up_, Sup_, b2, Changes_⟩ : Plan), 0))))))
noncomputable def plan_Get_step : plan_Get_S → Option (plan_Get_S ⊕ (Plan × Int))
  | .s0 b => plan_Get_0 b
  | .s1 b at_ t12 b0 lists => plan_Get_1 b at_ t12 b0 lists
  | .s2 l_ t67 b0 lists => plan_Get_2 l_ t67 b0 lists
  | .s3 t105 t106 t107 b0 Epoch_ Target_ Prev_ Spill_ Percent_ Stamp_ Since_ Ramped_ Up_ Sup_ Changes_ b2 => plan_Get_3 t105 t106 t107 b0 Epoch_ Target_ Prev_ Spill_ Percent_ Stamp_ Since_ Ramped_ Up_ Sup_ Changes_ b2
theorem plan_Get_0_ok {b : List Int} {r : Plan × Int} {x : plan_Get_S ⊕ (Plan × Int)} (h : plan_Get_0 b = some x) (ha : After E (Cx.of Try.f15 false 0) plan_Get_Q plan_Get_M r x) : FinQ E (Cx.of Try.f15 false 0) (QW (plan_Get_Q r)) (.go (plan_Get_M (.s0 b))) := by
  unfold plan_Get_0 at h
  refine adv_ok hm 21 _ ?_
  obtain rfl := Option.some.inj h
  exact r_cut 4149 [.blk 0 [some 1, some 1], .blk 1 [some 1, some 1, some 1]] (m' := (plan_Get_M (.s1 b 0 0 (⟨0, 0, 0, 0, 0, 0, 0, 0, 0, 0, [], []⟩ : Plan) ([[], [], []])))) (by kernel_rfl) ha
theorem plan_Get_1_ok {b : List Int} {at_ : Int} {t12 : Int} {b0 : Plan} {lists : List (List Int)} {r : Plan × Int} {x : plan_Get_S ⊕ (Plan × Int)} (h : plan_Get_1 b at_ t12 b0 lists = some x) (ha : After E (Cx.of Try.f15 false 0) plan_Get_Q plan_Get_M r x) : FinQ E (Cx.of Try.f15 false 0) (QW (plan_Get_Q r)) (.go (plan_Get_M (.s1 b at_ t12 b0 lists))) := by
  unfold plan_Get_1 at h
  refine adv_ok hm 7 _ ?_
  refine p_split h (by kernel_rfl) (fun h1 h => ?_) (fun h1 h => ?_)
  · -- true
    refine adv_ok hm 18 _ ?_
    have ok2 := fun (y : (List Int) × Int × Int) (hy : wire_Ints b at_ = some y) => wire_Ints_ok hy
    refine p_callE [] (args1 := [D.sl false 1 (List.map (eInt .u8) b), D.int .i64 at_]) (args := [D.sl false 1 (List.map (eInt .u8) b), D.int .i64 at_]) (fun y2 => D.tup [D.sl false 1 (List.map (eInt .i64) y2.1), D.int .i64 y2.2.1, D.int .i64 y2.2.2]) (fun y2 => []) h (by kernel_rfl) ⟨rfl, rfl⟩ ok2 (fun y2 h2 h => ?_)
    refine adv_ok hm 5 _ ?_
    refine p_need h (by kernel_rfl) (fun h3 h => ?_)
    refine adv_ok hm 1 _ ?_
    refine p_row (((List.map (eSl 1 (eInt .i64)) lists))[(0 + t12.toNat)]?) (eSl 1 (eInt .i64)) h (by kernel_rfl) List.getElem?_map (fun y4 h5 h => ?_)
    refine r_rows (List.set (List.map (eSl 1 (eInt .i64)) lists) (0 + t12.toNat) ((eSl 1 (eInt .i64)) y2.1)) (List.map (eSl 1 (eInt .i64)) (List.set lists (0 + t12.toNat) y2.1)) (by kernel_rfl) (rows_set _ _ _ _) ?_
    refine adv_ok hm 9 _ ?_
    refine p_split h (by kernel_rfl) (fun h6 h => ?_) (fun h6 h => ?_)
    · -- true
      refine adv_ok hm 10 _ ?_
      obtain rfl := Option.some.inj h
      have hv := ha
      simp only [After] at hv
      subst hv
      exact r_retF [.slot 0 [some 1, some 1]] (d := D.tup [D.agg [D.int .i64 0, D.int .i64 0, D.int .i64 0, D.int .i64 0, D.int .i64 0, D.int .i64 0, D.int .i64 0, D.int .i64 0, D.int .u64 0, D.int .u64 0, D.sl false 1 [], D.sl false 1 []], D.int .i64 41]) (s := []) (by kernel_rfl) Cx.fin_of ⟨rfl, rfl⟩
    · -- false
      refine adv_ok hm 7 _ ?_
      obtain rfl := Option.some.inj h
      exact r_to (q' := .go (plan_Get_M (.s1 b y2.2.1 (IntKind.i64.wrap (t12 + 1)) b0 (List.set lists (0 + t12.toNat) y2.1)))) (by kernel_rfl) ha
  · -- false
    refine adv_ok hm 6 _ ?_
    refine p_row (((List.map (eSl 1 (eInt .i64)) lists))[0]?) (eSl 1 (eInt .i64)) h (by kernel_rfl) List.getElem?_map (fun y7 h8 h => ?_)
    refine adv_ok hm 5 _ ?_
    refine p_split h (by kernel_rfl) (fun h9 h => ?_) (fun h9 h => ?_)
    · -- true
      refine adv_ok hm 29 _ ?_
      obtain rfl := Option.some.inj h
      exact r_cut 147573952589676413204 [] (m' := (plan_Get_M (.s2 y7 true b0 lists))) (by kernel_rfl) ha
    · -- false
      refine adv_ok hm 3 _ ?_
      refine p_split h (by kernel_rfl) (fun h10 h => ?_) (fun h10 h => ?_)
      · -- true
        refine adv_ok hm 25 _ ?_
        obtain rfl := Option.some.inj h
        exact r_cut 147573952589676413204 [] (m' := (plan_Get_M (.s2 y7 true b0 lists))) (by kernel_rfl) ha
      · -- false
        refine adv_ok hm 1 _ ?_
        refine p_need h (by kernel_rfl) (fun h11 h => ?_)
        refine adv_ok hm 1 _ ?_
        refine p_row (((List.map (eInt .i64) y7))[1]?) (eInt .i64) h (by kernel_rfl) List.getElem?_map (fun y12 h13 h => ?_)
        refine adv_ok hm 2 _ ?_
        refine p_need h (by kernel_rfl) (fun h14 h => ?_)
        refine adv_ok hm 1 _ ?_
        refine p_row (((List.map (eInt .i64) y7))[2]?) (eInt .i64) h (by kernel_rfl) List.getElem?_map (fun y15 h16 h => ?_)
        refine adv_ok hm 2 _ ?_
        refine p_need h (by kernel_rfl) (fun h17 h => ?_)
        refine adv_ok hm 1 _ ?_
        refine p_row (((List.map (eInt .i64) y7))[3]?) (eInt .i64) h (by kernel_rfl) List.getElem?_map (fun y18 h19 h => ?_)
        refine adv_ok hm 2 _ ?_
        refine p_need h (by kernel_rfl) (fun h20 h => ?_)
        refine adv_ok hm 1 _ ?_
        refine p_row (((List.map (eInt .i64) y7))[4]?) (eInt .i64) h (by kernel_rfl) List.getElem?_map (fun y21 h22 h => ?_)
        refine adv_ok hm 3 _ ?_
        have ok23 := fun (y : Bool) (hy : plan_all (-1) 1048576 ([y12, y15, y18, y21]) = some y) => plan_all_ok hy
        refine p_callDE [] (args1 := [D.int .i64 (-1), D.int .i64 1048576, D.sl false 1 [[D.int .i64 y12], [D.int .i64 y15], [D.int .i64 y18], [D.int .i64 y21]]]) (args := [D.int .i64 (-1), D.int .i64 1048576, D.sl false 1 [[D.int .i64 y12], [D.int .i64 y15], [D.int .i64 y18], [D.int .i64 y21]]]) (fun y23 => D.bool y23) h (by kernel_rfl) rfl ok23 (fun y23 h23 h => ?_)
        refine adv_ok hm 2 _ ?_
        refine p_split h (by kernel_rfl) (fun h24 h => ?_) (fun h24 h => ?_)
        · -- true
          refine adv_ok hm 9 _ ?_
          obtain rfl := Option.some.inj h
          exact r_cut 147573952589676413204 [] (m' := (plan_Get_M (.s2 y7 true b0 lists))) (by kernel_rfl) ha
        · -- false
          refine adv_ok hm 1 _ ?_
          refine p_need h (by kernel_rfl) (fun h25 h => ?_)
          refine r_rows (List.drop 8 (List.take ((List.map (eInt .i64) y7).length) (List.map (eInt .i64) y7))) (List.map (eInt .i64) (List.drop 8 (List.take ((List.map (eInt .i64) y7).length) y7))) (by kernel_rfl) (rows_cut _ _ _ _) ?_
          refine adv_ok hm 1 _ ?_
          have ok26 := fun (y : Bool) (hy : plan_all 0 1048576 (List.drop 8 (List.take ((List.map (eInt .i64) y7).length) y7)) = some y) => plan_all_ok hy
          refine p_callDE [] (args1 := [D.int .i64 0, D.int .i64 1048576, D.sl false 1 (List.map (eInt .i64) (List.drop 8 (List.take ((List.map (eInt .i64) y7).length) y7)))]) (args := [D.int .i64 0, D.int .i64 1048576, D.sl false 1 (List.map (eInt .i64) (List.drop 8 (List.take ((List.map (eInt .i64) y7).length) y7)))]) (fun y26 => D.bool y26) h (by kernel_rfl) rfl ok26 (fun y26 h26 h => ?_)
          refine adv_ok hm 2 _ ?_
          refine p_split h (by kernel_rfl) (fun h27 h => ?_) (fun h27 h => ?_)
          · -- true
            refine adv_ok hm 4 _ ?_
            obtain rfl := Option.some.inj h
            exact r_cut 147573952589676413204 [] (m' := (plan_Get_M (.s2 y7 true b0 lists))) (by kernel_rfl) ha
          · -- false
            refine adv_ok hm 2 _ ?_
            refine p_row (((List.map (eSl 1 (eInt .i64)) lists))[1]?) (eSl 1 (eInt .i64)) h (by kernel_rfl) List.getElem?_map (fun y28 h29 h => ?_)
            refine adv_ok hm 1 _ ?_
            have ok30 := fun (y : Bool) (hy : plan_all 0 1000000 y28 = some y) => plan_all_ok hy
            refine p_callDE [] (args1 := [D.int .i64 0, D.int .i64 1000000, D.sl false 1 (List.map (eInt .i64) y28)]) (args := [D.int .i64 0, D.int .i64 1000000, D.sl false 1 (List.map (eInt .i64) y28)]) (fun y30 => D.bool y30) h (by kernel_rfl) rfl ok30 (fun y30 h30 h => ?_)
            refine adv_ok hm 2 _ ?_
            obtain rfl := Option.some.inj h
            exact r_cut 147573952589676413204 [] (m' := (plan_Get_M (.s2 y7 (!y30) b0 lists))) (by kernel_rfl) ha
theorem plan_Get_2_ok {l_ : List Int} {t67 : Bool} {b0 : Plan} {lists : List (List Int)} {r : Plan × Int} {x : plan_Get_S ⊕ (Plan × Int)} (h : plan_Get_2 l_ t67 b0 lists = some x) (ha : After E (Cx.of Try.f15 false 0) plan_Get_Q plan_Get_M r x) : FinQ E (Cx.of Try.f15 false 0) (QW (plan_Get_Q r)) (.go (plan_Get_M (.s2 l_ t67 b0 lists))) := by
  unfold plan_Get_2 at h
  refine adv_ok hm 1 _ ?_
  refine p_split h (by kernel_rfl) (fun h1 h => ?_) (fun h1 h => ?_)
  · -- true
    refine adv_ok hm 10 _ ?_
    obtain rfl := Option.some.inj h
    have hv := ha
    simp only [After] at hv
    subst hv
    exact r_retF [.slot 0 [some 1, some 1]] (d := D.tup [D.agg [D.int .i64 0, D.int .i64 0, D.int .i64 0, D.int .i64 0, D.int .i64 0, D.int .i64 0, D.int .i64 0, D.int .i64 0, D.int .u64 0, D.int .u64 0, D.sl false 1 [], D.sl false 1 []], D.int .i64 41]) (s := []) (by kernel_rfl) Cx.fin_of ⟨rfl, rfl⟩
  · -- false
    refine adv_ok hm 3 _ ?_
    refine p_need h (by kernel_rfl) (fun h2 h => ?_)
    refine p_row (((List.map (eInt .i64) l_))[0]?) (eInt .i64) h (by kernel_rfl) List.getElem?_map (fun y3 h4 h => ?_)
    refine p_need h (by kernel_rfl) (fun h5 h => ?_)
    refine p_row (((List.map (eInt .i64) l_))[1]?) (eInt .i64) h (by kernel_rfl) List.getElem?_map (fun y6 h7 h => ?_)
    refine p_need h (by kernel_rfl) (fun h8 h => ?_)
    refine p_row (((List.map (eInt .i64) l_))[2]?) (eInt .i64) h (by kernel_rfl) List.getElem?_map (fun y9 h10 h => ?_)
    refine p_need h (by kernel_rfl) (fun h11 h => ?_)
    refine p_row (((List.map (eInt .i64) l_))[3]?) (eInt .i64) h (by kernel_rfl) List.getElem?_map (fun y12 h13 h => ?_)
    refine p_need h (by kernel_rfl) (fun h14 h => ?_)
    refine p_row (((List.map (eInt .i64) l_))[4]?) (eInt .i64) h (by kernel_rfl) List.getElem?_map (fun y15 h16 h => ?_)
    refine p_need h (by kernel_rfl) (fun h17 h => ?_)
    refine p_row (((List.map (eInt .i64) l_))[5]?) (eInt .i64) h (by kernel_rfl) List.getElem?_map (fun y18 h19 h => ?_)
    refine p_need h (by kernel_rfl) (fun h20 h => ?_)
    refine p_row (((List.map (eInt .i64) l_))[6]?) (eInt .i64) h (by kernel_rfl) List.getElem?_map (fun y21 h22 h => ?_)
    refine p_need h (by kernel_rfl) (fun h23 h => ?_)
    refine p_row (((List.map (eInt .i64) l_))[7]?) (eInt .i64) h (by kernel_rfl) List.getElem?_map (fun y24 h25 h => ?_)
    refine p_need h (by kernel_rfl) (fun h26 h => ?_)
    refine p_row (((List.map (eInt .i64) l_))[8]?) (eInt .i64) h (by kernel_rfl) List.getElem?_map (fun y27 h28 h => ?_)
    refine p_need h (by kernel_rfl) (fun h29 h => ?_)
    refine p_row (((List.map (eInt .i64) l_))[9]?) (eInt .i64) h (by kernel_rfl) List.getElem?_map (fun y30 h31 h => ?_)
    refine adv_ok hm 1 _ ?_
    refine p_row (((List.map (eSl 1 (eInt .i64)) lists))[2]?) (eSl 1 (eInt .i64)) h (by kernel_rfl) List.getElem?_map (fun y32 h33 h => ?_)
    refine adv_ok hm 8 _ ?_
    refine p_row (((List.map (eSl 1 (eInt .i64)) lists))[1]?) (eSl 1 (eInt .i64)) h (by kernel_rfl) List.getElem?_map (fun y34 h35 h => ?_)
    refine adv_ok hm 6 _ ?_
    obtain rfl := Option.some.inj h
    refine r_cut 283953734451123385935261518004740 [.matc 1 0 10 1] (m' := { td := [It.lpc (codeAt (bodyOf Try.f15) [1, 1, 1, 1, 1, 1, 1, 0, 1, 0, 0]) 283953734451123385935261518004740, It.blk 2, It.code (codeAt (bodyOf Try.f15) [1, 1, 1, 1, 1, 1, 1, 1])], fr := [(2, D.ptr 0 0 0), (9, D.ptr 1 0 0), (105, D.sl false 1 (List.map (eInt .i64) y34)), (106, D.int .i64 (((List.map (eInt .i64) y34).length : Nat) : Int)), (107, D.int .i64 0)], st := [some { sz := 12, deep := false, rows := [[D.int .i64 b0.Epoch, D.int .i64 b0.Target, D.int .i64 b0.Prev, D.int .i64 b0.Spill, D.int .i64 b0.Percent, D.int .i64 b0.Stamp, D.int .i64 b0.Since, D.int .i64 b0.Ramped, D.int .u64 b0.Up, D.int .u64 b0.Sup, D.sl false 1 (List.map (eInt .i64) b0.Pen), D.sl false 1 (List.map (eInt .i64) b0.Changes)]] }, some { sz := 12, deep := true, rows := [[D.int .i64 y3, D.int .i64 y6, D.int .i64 y9, D.int .i64 y12, D.int .i64 y15, D.int .i64 y18, D.int .i64 y21, D.int .i64 y24, D.int .u64 (IntKind.u64.wrap (y27)), D.int .u64 (IntKind.u64.wrap (y30)), D.msl 2 0 0 0 false, D.sl false 1 (List.map (eInt .i64) y32)]] }, some { sz := 1, deep := false, rows := [] }] }) (by kernel_rfl) ?_
    refine r_len (n1 := 0) (n2 := (List.map (eInt .i64) ([])).length) (fun n_len => .go { td := [It.lpc (codeAt (bodyOf Try.f15) [1, 1, 1, 1, 1, 1, 1, 0, 1, 0, 0]) 283953734451123385935261518004740, It.blk 2, It.code (codeAt (bodyOf Try.f15) [1, 1, 1, 1, 1, 1, 1, 1])], fr := [(2, D.ptr 0 0 0), (9, D.ptr 1 0 0), (105, D.sl false 1 (List.map (eInt .i64) y34)), (106, D.int .i64 (((List.map (eInt .i64) y34).length : Nat) : Int)), (107, D.int .i64 0)], st := [some { sz := 12, deep := false, rows := [[D.int .i64 b0.Epoch, D.int .i64 b0.Target, D.int .i64 b0.Prev, D.int .i64 b0.Spill, D.int .i64 b0.Percent, D.int .i64 b0.Stamp, D.int .i64 b0.Since, D.int .i64 b0.Ramped, D.int .u64 b0.Up, D.int .u64 b0.Sup, D.sl false 1 (List.map (eInt .i64) b0.Pen), D.sl false 1 (List.map (eInt .i64) b0.Changes)]] }, some { sz := 12, deep := true, rows := [[D.int .i64 y3, D.int .i64 y6, D.int .i64 y9, D.int .i64 y12, D.int .i64 y15, D.int .i64 y18, D.int .i64 y21, D.int .i64 y24, D.int .u64 (IntKind.u64.wrap (y27)), D.int .u64 (IntKind.u64.wrap (y30)), D.msl 2 0 n_len n_len false, D.sl false 1 (List.map (eInt .i64) y32)]] }, some { sz := 1, deep := false, rows := [] }] }) (by simp) ?_
    exact ha
theorem plan_Get_3_ok {t105 : List Int} {t106 : Int} {t107 : Int} {b0 : Plan} {Epoch_ : Int} {Target_ : Int} {Prev_ : Int} {Spill_ : Int} {Percent_ : Int} {Stamp_ : Int} {Since_ : Int} {Ramped_ : Int} {Up_ : Int} {Sup_ : Int} {Changes_ : List Int} {b2 : List Int} {r : Plan × Int} {x : plan_Get_S ⊕ (Plan × Int)} (h : plan_Get_3 t105 t106 t107 b0 Epoch_ Target_ Prev_ Spill_ Percent_ Stamp_ Since_ Ramped_ Up_ Sup_ Changes_ b2 = some x) (ha : After E (Cx.of Try.f15 false 0) plan_Get_Q plan_Get_M r x) : FinQ E (Cx.of Try.f15 false 0) (QW (plan_Get_Q r)) (.go (plan_Get_M (.s3 t105 t106 t107 b0 Epoch_ Target_ Prev_ Spill_ Percent_ Stamp_ Since_ Ramped_ Up_ Sup_ Changes_ b2))) := by
  unfold plan_Get_3 at h
  refine adv_ok hm 7 _ ?_
  refine p_split h (by kernel_rfl) (fun h1 h => ?_) (fun h1 h => ?_)
  · -- true
    refine adv_ok hm 6 _ ?_
    refine p_need h (by kernel_rfl) (fun h2 h => ?_)
    refine adv_ok hm 1 _ ?_
    refine p_row (((List.map (eInt .i64) t105))[t107.toNat]?) (eInt .i64) h (by kernel_rfl) List.getElem?_map (fun y3 h4 h => ?_)
    refine adv_ok hm 10 _ ?_
    refine p_need h (by kernel_rfl) (fun h5 h => ?_)
    refine r_needT (b := (Nat.ble (0 + (List.map (eInt .i64) b2).length) ((List.map (eInt .i64) b2).length))) (by kernel_rfl) (ble_full _) ?_
    refine r_rows (List.take ((List.map (eInt .i64) b2).length) (List.drop 0 (List.map (eInt .i64) b2)) ++ (List.map (eInt .i64) ([y3]))) (List.map (eInt .i64) (b2 ++ [y3])) (by kernel_rfl) (rows_app _ _ _) ?_
    refine adv_ok hm 11 _ ?_
    obtain rfl := Option.some.inj h
    exact r_to (q' := .go (plan_Get_M (.s3 t105 t106 (IntKind.i64.wrap (t107 + 1)) b0 Epoch_ Target_ Prev_ Spill_ Percent_ Stamp_ Since_ Ramped_ Up_ Sup_ Changes_ (b2 ++ [y3])))) (by kernel_rfl) ha
  · -- false
    refine adv_ok hm 7 _ ?_
    refine r_needT (b := (Nat.ble (0 + (List.map (eInt .i64) b2).length) ((List.map (eInt .i64) b2).length))) (by kernel_rfl) (ble_full _) ?_
    have ok6 := fun (y : Bool) (hy : plan_Right (⟨Epoch_, Target_, Prev_, Spill_, Percent_, Stamp_, Since_, Ramped_, Up_, Sup_, b2, Changes_⟩ : Plan) = some y) => plan_Right_ok hy
    refine p_callE [] (args1 := [D.agg [D.int .i64 Epoch_, D.int .i64 Target_, D.int .i64 Prev_, D.int .i64 Spill_, D.int .i64 Percent_, D.int .i64 Stamp_, D.int .i64 Since_, D.int .i64 Ramped_, D.int .u64 Up_, D.int .u64 Sup_, D.sl false 1 (List.take ((List.map (eInt .i64) b2).length) (List.drop 0 (List.map (eInt .i64) b2))), D.sl false 1 (List.map (eInt .i64) Changes_)]]) (args := [D.agg [D.int .i64 Epoch_, D.int .i64 Target_, D.int .i64 Prev_, D.int .i64 Spill_, D.int .i64 Percent_, D.int .i64 Stamp_, D.int .i64 Since_, D.int .i64 Ramped_, D.int .u64 Up_, D.int .u64 Sup_, D.sl false 1 (List.map (eInt .i64) b2), D.sl false 1 (List.map (eInt .i64) Changes_)]]) (fun y6 => D.bool y6) (fun y6 => []) h (by kernel_rfl) ⟨by simp [List.take_of_length_le, List.map_take, List.map_drop], rfl⟩ ok6 (fun y6 h6 h => ?_)
    refine adv_ok hm 3 _ ?_
    refine p_split h (by kernel_rfl) (fun h7 h => ?_) (fun h7 h => ?_)
    · -- true
      refine adv_ok hm 10 _ ?_
      obtain rfl := Option.some.inj h
      have hv := ha
      simp only [After] at hv
      subst hv
      exact r_retF [.slot 0 [some 1, some 1]] (d := D.tup [D.agg [D.int .i64 0, D.int .i64 0, D.int .i64 0, D.int .i64 0, D.int .i64 0, D.int .i64 0, D.int .i64 0, D.int .i64 0, D.int .u64 0, D.int .u64 0, D.sl false 1 [], D.sl false 1 []], D.int .i64 41]) (s := []) (by kernel_rfl) Cx.fin_of ⟨rfl, rfl⟩
    · -- false
      refine adv_ok hm 12 _ ?_
      refine r_needT (b := (Nat.ble (0 + (List.map (eInt .i64) b2).length) ((List.map (eInt .i64) b2).length))) (by kernel_rfl) (ble_full _) ?_
      obtain rfl := Option.some.inj h
      have hv := ha
      simp only [After] at hv
      subst hv
      exact r_retE [] (d1 := D.tup [D.agg [D.int .i64 Epoch_, D.int .i64 Target_, D.int .i64 Prev_, D.int .i64 Spill_, D.int .i64 Percent_, D.int .i64 Stamp_, D.int .i64 Since_, D.int .i64 Ramped_, D.int .u64 Up_, D.int .u64 Sup_, D.sl false 1 (List.take ((List.map (eInt .i64) b2).length) (List.drop 0 (List.map (eInt .i64) b2))), D.sl false 1 (List.map (eInt .i64) Changes_)], D.int .i64 0]) (d := D.tup [D.agg [D.int .i64 Epoch_, D.int .i64 Target_, D.int .i64 Prev_, D.int .i64 Spill_, D.int .i64 Percent_, D.int .i64 Stamp_, D.int .i64 Since_, D.int .i64 Ramped_, D.int .u64 Up_, D.int .u64 Sup_, D.sl false 1 (List.map (eInt .i64) b2), D.sl false 1 (List.map (eInt .i64) Changes_)], D.int .i64 0]) (s1 := []) (s := []) (by kernel_rfl) ⟨by simp [List.take_of_length_le, List.map_take, List.map_drop], rfl⟩ ⟨rfl, rfl⟩ Cx.fin_of
theorem plan_Get_ev {b : List Int} {r : Plan × Int} (h : Ev plan_Get_step (.s0 b) r) : Sound E 15 [D.sl false 1 (List.map (eInt .u8) b)] [] (plan_Get_Q r) :=
  sound_ofW (m := plan_Get_M (.s0 b)) (fn := Try.f15) (by kernel_rfl) (by kernel_rfl) (ev_run (C := (Cx.of Try.f15 false 0)) (fun s x r hs ha => by
    cases s with
    | s0 => exact plan_Get_0_ok hs ha
    | s1 => exact plan_Get_1_ok hs ha
    | s2 => exact plan_Get_2_ok hs ha
    | s3 => exact plan_Get_3_ok hs ha) h)
noncomputable def plan_Get (b : List Int) : Option (Plan × Int) := evf plan_Get_step (.s0 b)
theorem plan_Get_ok {b : List Int} {r : Plan × Int} (h : plan_Get b = some r) : Sound E 15 [D.sl false 1 (List.map (eInt .u8) b)] [] (plan_Get_Q r) := plan_Get_ev (evf_ev h)
end Go.RX.L

set_option linter.unusedSimpArgs false
set_option linter.unusedVariables false
set_option maxRecDepth 100000
set_option maxHeartbeats 4000000
namespace Go.RX.L
open Go Go.RX Go.Proofs
attribute [local irreducible] FinQ
def slices_Equal_Q (y : Bool) (d : D) (s : Sto) : Prop := d = D.bool y ∧ s = []
inductive slices_Equal_S where
  | s0 (s1 : List Int) (s2 : List Int)
  | s1 (s1 : List Int) (s2 : List Int) (t12 : Int) (t13 : Int)
noncomputable def slices_Equal_M : slices_Equal_S → M
  | .s0 s1 s2 => ⟨[.code (bodyOf Try.f32)], [(0, D.sl false 1 (List.map (eInt .i64) s1)), (1, D.sl false 1 (List.map (eInt .i64) s2))], []⟩
  | .s1 s1 s2 t12 t13 => { td := [It.lpc (codeAt (bodyOf Try.f32) [1, 1, 0, 1, 0, 0]) 12291, It.blk 0, It.code (codeAt (bodyOf Try.f32) [1, 1, 1])], fr := [(0, D.sl false 1 (List.map (eInt .i64) s1)), (1, D.sl false 1 (List.map (eInt .i64) s2)), (12, D.int .i64 t12), (13, D.int .i64 t13)], st := [] }
noncomputable def slices_Equal_0 (s1 : List Int) (s2 : List Int) : Option (slices_Equal_S ⊕ Bool) := (bif (((((List.map (eInt .i64) s1).length : Nat) : Int) : Int) != (((List.map (eInt .i64) s2).length : Nat) : Int)) then (some (.inr false)) else (some (.inl (.s1 s1 s2 (((List.map (eInt .i64) s1).length : Nat) : Int) 0))))
noncomputable def slices_Equal_1 (s1 : List Int) (s2 : List Int) (t12 : Int) (t13 : Int) : Option (slices_Equal_S ⊕ Bool) := (bif (decide ((t13 : Int) < t12)) then (bif ((decide ((0 : Int) ≤ t13)) && (decide ((t13 : Int) < (((List.map (eInt .i64) s1).length : Nat) : Int)))) then (((s1)[t13.toNat]?).bind fun y3 => (bif ((decide ((0 : Int) ≤ t13)) && (decide ((t13 : Int) < (((List.map (eInt .i64) s2).length : Nat) : Int)))) then (((s2)[t13.toNat]?).bind fun y6 => (bif ((y3 : Int) != y6) then (some (.inr false)) else (some (.inl (.s1 s1 s2 t12 (IntKind.i64.wrap (t13 + 1))))))) else none)) else none) else (some (.inr true)))
noncomputable def slices_Equal_step : slices_Equal_S → Option (slices_Equal_S ⊕ Bool)
  | .s0 s1 s2 => slices_Equal_0 s1 s2
  | .s1 s1 s2 t12 t13 => slices_Equal_1 s1 s2 t12 t13
theorem slices_Equal_0_ok {s1 : List Int} {s2 : List Int} {r : Bool} {x : slices_Equal_S ⊕ Bool} (h : slices_Equal_0 s1 s2 = some x) (ha : After E (Cx.of Try.f32 false 0) slices_Equal_Q slices_Equal_M r x) : FinQ E (Cx.of Try.f32 false 0) (QW (slices_Equal_Q r)) (.go (slices_Equal_M (.s0 s1 s2))) := by
  unfold slices_Equal_0 at h
  refine adv_ok hm 14 _ ?_
  refine p_split h (by kernel_rfl) (fun h1 h => ?_) (fun h1 h => ?_)
  · -- true
    refine adv_ok hm 5 _ ?_
    obtain rfl := Option.some.inj h
    have hv := ha
    simp only [After] at hv
    subst hv
    exact r_retF [] (d := D.bool false) (s := []) (by kernel_rfl) Cx.fin_of ⟨rfl, rfl⟩
  · -- false
    refine adv_ok hm 11 _ ?_
    obtain rfl := Option.some.inj h
    exact r_to (q' := .go (slices_Equal_M (.s1 s1 s2 (((List.map (eInt .i64) s1).length : Nat) : Int) 0))) (by kernel_rfl) ha
theorem slices_Equal_1_ok {s1 : List Int} {s2 : List Int} {t12 : Int} {t13 : Int} {r : Bool} {x : slices_Equal_S ⊕ Bool} (h : slices_Equal_1 s1 s2 t12 t13 = some x) (ha : After E (Cx.of Try.f32 false 0) slices_Equal_Q slices_Equal_M r x) : FinQ E (Cx.of Try.f32 false 0) (QW (slices_Equal_Q r)) (.go (slices_Equal_M (.s1 s1 s2 t12 t13))) := by
  unfold slices_Equal_1 at h
  refine adv_ok hm 7 _ ?_
  refine p_split h (by kernel_rfl) (fun h1 h => ?_) (fun h1 h => ?_)
  · -- true
    refine adv_ok hm 10 _ ?_
    refine p_need h (by kernel_rfl) (fun h2 h => ?_)
    refine p_row (((List.map (eInt .i64) s1))[t13.toNat]?) (eInt .i64) h (by kernel_rfl) List.getElem?_map (fun y3 h4 h => ?_)
    refine p_need h (by kernel_rfl) (fun h5 h => ?_)
    refine p_row (((List.map (eInt .i64) s2))[t13.toNat]?) (eInt .i64) h (by kernel_rfl) List.getElem?_map (fun y6 h7 h => ?_)
    refine adv_ok hm 1 _ ?_
    refine p_split h (by kernel_rfl) (fun h8 h => ?_) (fun h8 h => ?_)
    · -- true
      refine adv_ok hm 5 _ ?_
      obtain rfl := Option.some.inj h
      have hv := ha
      simp only [After] at hv
      subst hv
      exact r_retF [] (d := D.bool false) (s := []) (by kernel_rfl) Cx.fin_of ⟨rfl, rfl⟩
    · -- false
      refine adv_ok hm 7 _ ?_
      obtain rfl := Option.some.inj h
      exact r_to (q' := .go (slices_Equal_M (.s1 s1 s2 t12 (IntKind.i64.wrap (t13 + 1))))) (by kernel_rfl) ha
  · -- false
    refine adv_ok hm 6 _ ?_
    obtain rfl := Option.some.inj h
    have hv := ha
    simp only [After] at hv
    subst hv
    exact r_retF [] (d := D.bool true) (s := []) (by kernel_rfl) Cx.fin_of ⟨rfl, rfl⟩
theorem slices_Equal_ev {s1 : List Int} {s2 : List Int} {r : Bool} (h : Ev slices_Equal_step (.s0 s1 s2) r) : Sound E 32 [D.sl false 1 (List.map (eInt .i64) s1), D.sl false 1 (List.map (eInt .i64) s2)] [] (slices_Equal_Q r) :=
  sound_ofW (m := slices_Equal_M (.s0 s1 s2)) (fn := Try.f32) (by kernel_rfl) (by kernel_rfl) (ev_run (C := (Cx.of Try.f32 false 0)) (fun s x r hs ha => by
    cases s with
    | s0 => exact slices_Equal_0_ok hs ha
    | s1 => exact slices_Equal_1_ok hs ha) h)
noncomputable def slices_Equal (s1 : List Int) (s2 : List Int) : Option Bool := evf slices_Equal_step (.s0 s1 s2)
theorem slices_Equal_ok {s1 : List Int} {s2 : List Int} {r : Bool} (h : slices_Equal s1 s2 = some r) : Sound E 32 [D.sl false 1 (List.map (eInt .i64) s1), D.sl false 1 (List.map (eInt .i64) s2)] [] (slices_Equal_Q r) := slices_Equal_ev (evf_ev h)
end Go.RX.L

set_option linter.unusedSimpArgs false
set_option linter.unusedVariables false
set_option maxRecDepth 100000
set_option maxHeartbeats 4000000
namespace Go.RX.L
open Go Go.RX Go.Proofs
attribute [local irreducible] FinQ
def slices_Equal_v2_Q (y : Bool) (d : D) (s : Sto) : Prop := d = D.bool y ∧ s = []
inductive slices_Equal_v2_S where
  | s0 (s1 : List Int) (s2 : List Int)
  | s1 (s1 : List Int) (s2 : List Int) (t12 : Int) (t13 : Int)
noncomputable def slices_Equal_v2_M : slices_Equal_v2_S → M
  | .s0 s1 s2 => ⟨[.code (bodyOf Try.f33)], [(0, D.sl false 1 (List.map (eInt .i64) s1)), (1, D.sl false 1 (List.map (eInt .i64) s2))], []⟩
  | .s1 s1 s2 t12 t13 => { td := [It.lpc (codeAt (bodyOf Try.f33) [1, 1, 0, 1, 0, 0]) 12291, It.blk 0, It.code (codeAt (bodyOf Try.f33) [1, 1, 1])], fr := [(0, D.sl false 1 (List.map (eInt .i64) s1)), (1, D.sl false 1 (List.map (eInt .i64) s2)), (12, D.int .i64 t12), (13, D.int .i64 t13)], st := [] }
noncomputable def slices_Equal_v2_0 (s1 : List Int) (s2 : List Int) : Option (slices_Equal_v2_S ⊕ Bool) := (bif (((((List.map (eInt .i64) s1).length : Nat) : Int) : Int) != (((List.map (eInt .i64) s2).length : Nat) : Int)) then (some (.inr false)) else (some (.inl (.s1 s1 s2 (((List.map (eInt .i64) s1).length : Nat) : Int) 0))))
noncomputable def slices_Equal_v2_1 (s1 : List Int) (s2 : List Int) (t12 : Int) (t13 : Int) : Option (slices_Equal_v2_S ⊕ Bool) := (bif (decide ((t13 : Int) < t12)) then (bif ((decide ((0 : Int) ≤ t13)) && (decide ((t13 : Int) < (((List.map (eInt .i64) s1).length : Nat) : Int)))) then (((s1)[t13.toNat]?).bind fun y3 => (bif ((decide ((0 : Int) ≤ t13)) && (decide ((t13 : Int) < (((List.map (eInt .i64) s2).length : Nat) : Int)))) then (((s2)[t13.toNat]?).bind fun y6 => (bif ((y3 : Int) != y6) then (some (.inr false)) else (some (.inl (.s1 s1 s2 t12 (IntKind.i64.wrap (t13 + 1))))))) else none)) else none) else (some (.inr true)))
noncomputable def slices_Equal_v2_step : slices_Equal_v2_S → Option (slices_Equal_v2_S ⊕ Bool)
  | .s0 s1 s2 => slices_Equal_v2_0 s1 s2
  | .s1 s1 s2 t12 t13 => slices_Equal_v2_1 s1 s2 t12 t13
theorem slices_Equal_v2_0_ok {s1 : List Int} {s2 : List Int} {r : Bool} {x : slices_Equal_v2_S ⊕ Bool} (h : slices_Equal_v2_0 s1 s2 = some x) (ha : After E (Cx.of Try.f33 false 0) slices_Equal_v2_Q slices_Equal_v2_M r x) : FinQ E (Cx.of Try.f33 false 0) (QW (slices_Equal_v2_Q r)) (.go (slices_Equal_v2_M (.s0 s1 s2))) := by
  unfold slices_Equal_v2_0 at h
  refine adv_ok hm 14 _ ?_
  refine p_split h (by kernel_rfl) (fun h1 h => ?_) (fun h1 h => ?_)
  · -- true
    refine adv_ok hm 5 _ ?_
    obtain rfl := Option.some.inj h
    have hv := ha
    simp only [After] at hv
    subst hv
    exact r_retF [] (d := D.bool false) (s := []) (by kernel_rfl) Cx.fin_of ⟨rfl, rfl⟩
  · -- false
    refine adv_ok hm 11 _ ?_
    obtain rfl := Option.some.inj h
    exact r_to (q' := .go (slices_Equal_v2_M (.s1 s1 s2 (((List.map (eInt .i64) s1).length : Nat) : Int) 0))) (by kernel_rfl) ha
theorem slices_Equal_v2_1_ok {s1 : List Int} {s2 : List Int} {t12 : Int} {t13 : Int} {r : Bool} {x : slices_Equal_v2_S ⊕ Bool} (h : slices_Equal_v2_1 s1 s2 t12 t13 = some x) (ha : After E (Cx.of Try.f33 false 0) slices_Equal_v2_Q slices_Equal_v2_M r x) : FinQ E (Cx.of Try.f33 false 0) (QW (slices_Equal_v2_Q r)) (.go (slices_Equal_v2_M (.s1 s1 s2 t12 t13))) := by
  unfold slices_Equal_v2_1 at h
  refine adv_ok hm 7 _ ?_
  refine p_split h (by kernel_rfl) (fun h1 h => ?_) (fun h1 h => ?_)
  · -- true
    refine adv_ok hm 10 _ ?_
    refine p_need h (by kernel_rfl) (fun h2 h => ?_)
    refine p_row (((List.map (eInt .i64) s1))[t13.toNat]?) (eInt .i64) h (by kernel_rfl) List.getElem?_map (fun y3 h4 h => ?_)
    refine p_need h (by kernel_rfl) (fun h5 h => ?_)
    refine p_row (((List.map (eInt .i64) s2))[t13.toNat]?) (eInt .i64) h (by kernel_rfl) List.getElem?_map (fun y6 h7 h => ?_)
    refine adv_ok hm 1 _ ?_
    refine p_split h (by kernel_rfl) (fun h8 h => ?_) (fun h8 h => ?_)
    · -- true
      refine adv_ok hm 5 _ ?_
      obtain rfl := Option.some.inj h
      have hv := ha
      simp only [After] at hv
      subst hv
      exact r_retF [] (d := D.bool false) (s := []) (by kernel_rfl) Cx.fin_of ⟨rfl, rfl⟩
    · -- false
      refine adv_ok hm 7 _ ?_
      obtain rfl := Option.some.inj h
      exact r_to (q' := .go (slices_Equal_v2_M (.s1 s1 s2 t12 (IntKind.i64.wrap (t13 + 1))))) (by kernel_rfl) ha
  · -- false
    refine adv_ok hm 6 _ ?_
    obtain rfl := Option.some.inj h
    have hv := ha
    simp only [After] at hv
    subst hv
    exact r_retF [] (d := D.bool true) (s := []) (by kernel_rfl) Cx.fin_of ⟨rfl, rfl⟩
theorem slices_Equal_v2_ev {s1 : List Int} {s2 : List Int} {r : Bool} (h : Ev slices_Equal_v2_step (.s0 s1 s2) r) : Sound E 33 [D.sl false 1 (List.map (eInt .i64) s1), D.sl false 1 (List.map (eInt .i64) s2)] [] (slices_Equal_v2_Q r) :=
  sound_ofW (m := slices_Equal_v2_M (.s0 s1 s2)) (fn := Try.f33) (by kernel_rfl) (by kernel_rfl) (ev_run (C := (Cx.of Try.f33 false 0)) (fun s x r hs ha => by
    cases s with
    | s0 => exact slices_Equal_v2_0_ok hs ha
    | s1 => exact slices_Equal_v2_1_ok hs ha) h)
noncomputable def slices_Equal_v2 (s1 : List Int) (s2 : List Int) : Option Bool := evf slices_Equal_v2_step (.s0 s1 s2)
theorem slices_Equal_v2_ok {s1 : List Int} {s2 : List Int} {r : Bool} (h : slices_Equal_v2 s1 s2 = some r) : Sound E 33 [D.sl false 1 (List.map (eInt .i64) s1), D.sl false 1 (List.map (eInt .i64) s2)] [] (slices_Equal_v2_Q r) := slices_Equal_v2_ev (evf_ev h)
end Go.RX.L

set_option linter.unusedSimpArgs false
set_option linter.unusedVariables false
set_option maxRecDepth 100000
set_option maxHeartbeats 4000000
namespace Go.RX.L
open Go Go.RX Go.Proofs
attribute [local irreducible] FinQ
def plan_Same_Q (y : Bool) (d : D) (s : Sto) : Prop := d = D.bool y ∧ s = []
noncomputable def plan_Same (a : Plan) (b : Plan) : Option Bool := ((plan_numbers a).bind fun y1 => ((plan_numbers b).bind fun y2 => (bif (((y1.1 : Int) == y2.1) && (((y1.2.1 : Int) == y2.2.1) && (((y1.2.2.1 : Int) == y2.2.2.1) && (((y1.2.2.2.1 : Int) == y2.2.2.2.1) && (((y1.2.2.2.2.1 : Int) == y2.2.2.2.2.1) && (((y1.2.2.2.2.2.1 : Int) == y2.2.2.2.2.2.1) && (((y1.2.2.2.2.2.2.1 : Int) == y2.2.2.2.2.2.2.1) && (((y1.2.2.2.2.2.2.2.1 : Int) == y2.2.2.2.2.2.2.2.1) && (((y1.2.2.2.2.2.2.2.2.1 : Int) == y2.2.2.2.2.2.2.2.2.1) && (((y1.2.2.2.2.2.2.2.2.2 : Int) == y2.2.2.2.2.2.2.2.2.2) && true)))))))))) then ((slices_Equal a.Pen b.Pen).bind fun y4 => (bif y4 then ((slices_Equal_v2 a.Changes b.Changes).bind fun y6 => (some y6)) else (some false))) else (some false))))
theorem plan_Same_ok {a : Plan} {b : Plan} {r : Bool} (h : plan_Same a b = some r) : Sound E 20 [D.agg [D.int .i64 a.Epoch, D.int .i64 a.Target, D.int .i64 a.Prev, D.int .i64 a.Spill, D.int .i64 a.Percent, D.int .i64 a.Stamp, D.int .i64 a.Since, D.int .i64 a.Ramped, D.int .u64 a.Up, D.int .u64 a.Sup, D.sl false 1 (List.map (eInt .i64) a.Pen), D.sl false 1 (List.map (eInt .i64) a.Changes)], D.agg [D.int .i64 b.Epoch, D.int .i64 b.Target, D.int .i64 b.Prev, D.int .i64 b.Spill, D.int .i64 b.Percent, D.int .i64 b.Stamp, D.int .i64 b.Since, D.int .i64 b.Ramped, D.int .u64 b.Up, D.int .u64 b.Sup, D.sl false 1 (List.map (eInt .i64) b.Pen), D.sl false 1 (List.map (eInt .i64) b.Changes)]] [] (plan_Same_Q r) := by
  refine sound_ofW (m := ⟨[.code (bodyOf Try.f20)], [(0, D.agg [D.int .i64 a.Epoch, D.int .i64 a.Target, D.int .i64 a.Prev, D.int .i64 a.Spill, D.int .i64 a.Percent, D.int .i64 a.Stamp, D.int .i64 a.Since, D.int .i64 a.Ramped, D.int .u64 a.Up, D.int .u64 a.Sup, D.sl false 1 (List.map (eInt .i64) a.Pen), D.sl false 1 (List.map (eInt .i64) a.Changes)]), (1, D.agg [D.int .i64 b.Epoch, D.int .i64 b.Target, D.int .i64 b.Prev, D.int .i64 b.Spill, D.int .i64 b.Percent, D.int .i64 b.Stamp, D.int .i64 b.Since, D.int .i64 b.Ramped, D.int .u64 b.Up, D.int .u64 b.Sup, D.sl false 1 (List.map (eInt .i64) b.Pen), D.sl false 1 (List.map (eInt .i64) b.Changes)])], []⟩) (fn := Try.f20) (by kernel_rfl) (by kernel_rfl) ?_
  show FinQ E (Cx.of Try.f20 false 0) (QW (plan_Same_Q r)) _
  unfold plan_Same at h
  refine adv_ok hm 9 _ ?_
  have ok1 := fun (y : Int × Int × Int × Int × Int × Int × Int × Int × Int × Int) (hy : plan_numbers a = some y) => plan_numbers_ok hy
  refine p_callDE [] (args1 := [D.agg [D.int .i64 a.Epoch, D.int .i64 a.Target, D.int .i64 a.Prev, D.int .i64 a.Spill, D.int .i64 a.Percent, D.int .i64 a.Stamp, D.int .i64 a.Since, D.int .i64 a.Ramped, D.int .u64 a.Up, D.int .u64 a.Sup, D.sl false 1 (List.map (eInt .i64) a.Pen), D.sl false 1 (List.map (eInt .i64) a.Changes)]]) (args := [D.agg [D.int .i64 a.Epoch, D.int .i64 a.Target, D.int .i64 a.Prev, D.int .i64 a.Spill, D.int .i64 a.Percent, D.int .i64 a.Stamp, D.int .i64 a.Since, D.int .i64 a.Ramped, D.int .u64 a.Up, D.int .u64 a.Sup, D.sl false 1 (List.map (eInt .i64) a.Pen), D.sl false 1 (List.map (eInt .i64) a.Changes)]]) (fun y1 => D.agg [D.int .i64 y1.1, D.int .i64 y1.2.1, D.int .i64 y1.2.2.1, D.int .i64 y1.2.2.2.1, D.int .i64 y1.2.2.2.2.1, D.int .i64 y1.2.2.2.2.2.1, D.int .i64 y1.2.2.2.2.2.2.1, D.int .i64 y1.2.2.2.2.2.2.2.1, D.int .i64 y1.2.2.2.2.2.2.2.2.1, D.int .i64 y1.2.2.2.2.2.2.2.2.2]) h (by kernel_rfl) rfl ok1 (fun y1 h1 h => ?_)
  refine adv_ok hm 1 _ ?_
  have ok2 := fun (y : Int × Int × Int × Int × Int × Int × Int × Int × Int × Int) (hy : plan_numbers b = some y) => plan_numbers_ok hy
  refine p_callDE [] (args1 := [D.agg [D.int .i64 b.Epoch, D.int .i64 b.Target, D.int .i64 b.Prev, D.int .i64 b.Spill, D.int .i64 b.Percent, D.int .i64 b.Stamp, D.int .i64 b.Since, D.int .i64 b.Ramped, D.int .u64 b.Up, D.int .u64 b.Sup, D.sl false 1 (List.map (eInt .i64) b.Pen), D.sl false 1 (List.map (eInt .i64) b.Changes)]]) (args := [D.agg [D.int .i64 b.Epoch, D.int .i64 b.Target, D.int .i64 b.Prev, D.int .i64 b.Spill, D.int .i64 b.Percent, D.int .i64 b.Stamp, D.int .i64 b.Since, D.int .i64 b.Ramped, D.int .u64 b.Up, D.int .u64 b.Sup, D.sl false 1 (List.map (eInt .i64) b.Pen), D.sl false 1 (List.map (eInt .i64) b.Changes)]]) (fun y2 => D.agg [D.int .i64 y2.1, D.int .i64 y2.2.1, D.int .i64 y2.2.2.1, D.int .i64 y2.2.2.2.1, D.int .i64 y2.2.2.2.2.1, D.int .i64 y2.2.2.2.2.2.1, D.int .i64 y2.2.2.2.2.2.2.1, D.int .i64 y2.2.2.2.2.2.2.2.1, D.int .i64 y2.2.2.2.2.2.2.2.2.1, D.int .i64 y2.2.2.2.2.2.2.2.2.2]) h (by kernel_rfl) rfl ok2 (fun y2 h2 h => ?_)
  refine p_split h (by kernel_rfl) (fun h3 h => ?_) (fun h3 h => ?_)
  · -- true
    refine adv_ok hm 6 _ ?_
    have ok4 := fun (y : Bool) (hy : slices_Equal a.Pen b.Pen = some y) => slices_Equal_ok hy
    refine p_callDE [] (args1 := [D.sl false 1 (List.map (eInt .i64) a.Pen), D.sl false 1 (List.map (eInt .i64) b.Pen)]) (args := [D.sl false 1 (List.map (eInt .i64) a.Pen), D.sl false 1 (List.map (eInt .i64) b.Pen)]) (fun y4 => D.bool y4) h (by kernel_rfl) rfl ok4 (fun y4 h4 h => ?_)
    refine adv_ok hm 1 _ ?_
    refine p_split h (by kernel_rfl) (fun h5 h => ?_) (fun h5 h => ?_)
    · -- true
      refine adv_ok hm 6 _ ?_
      have ok6 := fun (y : Bool) (hy : slices_Equal_v2 a.Changes b.Changes = some y) => slices_Equal_v2_ok hy
      refine p_callDE [] (args1 := [D.sl false 1 (List.map (eInt .i64) a.Changes), D.sl false 1 (List.map (eInt .i64) b.Changes)]) (args := [D.sl false 1 (List.map (eInt .i64) a.Changes), D.sl false 1 (List.map (eInt .i64) b.Changes)]) (fun y6 => D.bool y6) h (by kernel_rfl) rfl ok6 (fun y6 h6 h => ?_)
      refine adv_ok hm 2 _ ?_
      obtain rfl := Option.some.inj h
      exact r_retF [] (d := D.bool y6) (s := []) (by kernel_rfl) Cx.fin_of ⟨rfl, rfl⟩
    · -- false
      refine adv_ok hm 6 _ ?_
      obtain rfl := Option.some.inj h
      exact r_retF [] (d := D.bool false) (s := []) (by kernel_rfl) Cx.fin_of ⟨rfl, rfl⟩
  · -- false
    refine adv_ok hm 12 _ ?_
    obtain rfl := Option.some.inj h
    exact r_retF [] (d := D.bool false) (s := []) (by kernel_rfl) Cx.fin_of ⟨rfl, rfl⟩
end Go.RX.L

set_option linter.unusedSimpArgs false
set_option linter.unusedVariables false
set_option maxRecDepth 100000
set_option maxHeartbeats 4000000
namespace Go.RX.L
open Go Go.RX Go.Proofs
attribute [local irreducible] FinQ
def ref04_in_Q (y : Bool) (d : D) (s : Sto) : Prop := d = D.bool y ∧ s = []
noncomputable def ref04_in (n : Int) (low : Int) (high : Int) : Option Bool := (bif (decide ((n : Int) ≥ low)) then (some (decide ((n : Int) ≤ high))) else (some false))
theorem ref04_in_ok {n : Int} {low : Int} {high : Int} {r : Bool} (h : ref04_in n low high = some r) : Sound E 27 [D.int .i64 n, D.int .i64 low, D.int .i64 high] [] (ref04_in_Q r) := by
  refine sound_ofW (m := ⟨[.code (bodyOf Try.f27)], [(0, D.int .i64 n), (1, D.int .i64 low), (2, D.int .i64 high)], []⟩) (fn := Try.f27) (by kernel_rfl) (by kernel_rfl) ?_
  show FinQ E (Cx.of Try.f27 false 0) (QW (ref04_in_Q r)) _
  unfold ref04_in at h
  refine adv_ok hm 11 _ ?_
  refine p_split h (by kernel_rfl) (fun h1 h => ?_) (fun h1 h => ?_)
  · -- true
    refine adv_ok hm 9 _ ?_
    obtain rfl := Option.some.inj h
    exact r_retF [] (d := D.bool (decide ((n : Int) ≤ high))) (s := []) (by kernel_rfl) Cx.fin_of ⟨rfl, rfl⟩
  · -- false
    refine adv_ok hm 9 _ ?_
    obtain rfl := Option.some.inj h
    exact r_retF [] (d := D.bool false) (s := []) (by kernel_rfl) Cx.fin_of ⟨rfl, rfl⟩
end Go.RX.L

set_option linter.unusedSimpArgs false
set_option linter.unusedVariables false
set_option maxRecDepth 100000
set_option maxHeartbeats 4000000
namespace Go.RX.L
open Go Go.RX Go.Proofs
attribute [local irreducible] FinQ
def ref04_Right_Q (y : Bool) (d : D) (s : Sto) : Prop := d = D.bool y ∧ s = []
inductive ref04_Right_S where
  | s0 (p_ : Plan)
  | s1 (t47 : Bool) (p_ : Plan)
  | s2 (t85 : Bool) (p_ : Plan)
  | s3 (i : Int) (p_ : Plan)
  | s4 (i : Int) (p_ : Plan)
noncomputable def ref04_Right_M : ref04_Right_S → M
  | .s0 p_ => ⟨[.code (bodyOf Try.f14)], [(0, D.agg [D.int .i64 p_.Epoch, D.int .i64 p_.Target, D.int .i64 p_.Prev, D.int .i64 p_.Spill, D.int .i64 p_.Percent, D.int .i64 p_.Stamp, D.int .i64 p_.Since, D.int .i64 p_.Ramped, D.int .u64 p_.Up, D.int .u64 p_.Sup, D.sl false 1 (List.map (eInt .i64) p_.Pen), D.sl false 1 (List.map (eInt .i64) p_.Changes)])], []⟩
  | .s1 t47 p_ => { td := [It.code (codeAt (bodyOf Try.f14) [1, 0, 1]), It.code (codeAt (bodyOf Try.f14) [1, 1])], fr := [(1, D.ptr 0 0 0), (47, D.bool t47)], st := [some { sz := 12, deep := false, rows := [[D.int .i64 p_.Epoch, D.int .i64 p_.Target, D.int .i64 p_.Prev, D.int .i64 p_.Spill, D.int .i64 p_.Percent, D.int .i64 p_.Stamp, D.int .i64 p_.Since, D.int .i64 p_.Ramped, D.int .u64 p_.Up, D.int .u64 p_.Sup, D.sl false 1 (List.map (eInt .i64) p_.Pen), D.sl false 1 (List.map (eInt .i64) p_.Changes)]] }] }
  | .s2 t85 p_ => { td := [It.code (codeAt (bodyOf Try.f14) [1, 1, 0, 1]), It.code (codeAt (bodyOf Try.f14) [1, 1, 1])], fr := [(1, D.ptr 0 0 0), (85, D.bool t85)], st := [some { sz := 12, deep := false, rows := [[D.int .i64 p_.Epoch, D.int .i64 p_.Target, D.int .i64 p_.Prev, D.int .i64 p_.Spill, D.int .i64 p_.Percent, D.int .i64 p_.Stamp, D.int .i64 p_.Since, D.int .i64 p_.Ramped, D.int .u64 p_.Up, D.int .u64 p_.Sup, D.sl false 1 (List.map (eInt .i64) p_.Pen), D.sl false 1 (List.map (eInt .i64) p_.Changes)]] }] }
  | .s3 i p_ => { td := [It.lpc (codeAt (bodyOf Try.f14) [1, 1, 1, 0, 1, 0, 0]) 10, It.blk 0, It.code (codeAt (bodyOf Try.f14) [1, 1, 1, 1])], fr := [(1, D.ptr 0 0 0), (3, D.int .i64 i)], st := [some { sz := 12, deep := false, rows := [[D.int .i64 p_.Epoch, D.int .i64 p_.Target, D.int .i64 p_.Prev, D.int .i64 p_.Spill, D.int .i64 p_.Percent, D.int .i64 p_.Stamp, D.int .i64 p_.Since, D.int .i64 p_.Ramped, D.int .u64 p_.Up, D.int .u64 p_.Sup, D.sl false 1 (List.map (eInt .i64) p_.Pen), D.sl false 1 (List.map (eInt .i64) p_.Changes)]] }] }
  | .s4 i p_ => { td := [It.lpc (codeAt (bodyOf Try.f14) [1, 1, 1, 1, 0, 1, 0, 0]) 18, It.blk 2, It.code (codeAt (bodyOf Try.f14) [1, 1, 1, 1, 1])], fr := [(1, D.ptr 0 0 0), (4, D.int .i64 i)], st := [some { sz := 12, deep := false, rows := [[D.int .i64 p_.Epoch, D.int .i64 p_.Target, D.int .i64 p_.Prev, D.int .i64 p_.Spill, D.int .i64 p_.Percent, D.int .i64 p_.Stamp, D.int .i64 p_.Since, D.int .i64 p_.Ramped, D.int .u64 p_.Up, D.int .u64 p_.Sup, D.sl false 1 (List.map (eInt .i64) p_.Pen), D.sl false 1 (List.map (eInt .i64) p_.Changes)]] }] }
noncomputable def ref04_Right_0 (p_ : Plan) : Option (ref04_Right_S ⊕ Bool) := (bif (decide ((p_.Epoch : Int) < 0)) then (some (.inl (.s1 true p_))) else (bif (decide ((p_.Target : Int) < (-1))) then (some (.inl (.s1 true p_))) else (bif (decide ((p_.Target : Int) ≥ 16)) then (some (.inl (.s1 true p_))) else (bif (decide ((p_.Prev : Int) < (-1))) then (some (.inl (.s1 true p_))) else (bif (decide ((p_.Prev : Int) ≥ 16)) then (some (.inl (.s1 true p_))) else (bif (decide ((p_.Spill : Int) < (-1))) then (some (.inl (.s1 true p_))) else (bif (decide ((p_.Spill : Int) ≥ 16)) then (some (.inl (.s1 true p_))) else (bif (decide ((p_.Percent : Int) < 0)) then (some (.inl (.s1 true p_))) else (some (.inl (.s1 (decide ((p_.Percent : Int) > 100)) p_)))))))))))
noncomputable def ref04_Right_1 (t47 : Bool) (p_ : Plan) : Option (ref04_Right_S ⊕ Bool) := (bif t47 then (some (.inr false)) else ((ref04_in p_.Stamp 0 1099511627776).bind fun y2 => (bif (!y2) then (some (.inl (.s2 true p_))) else ((ref04_in p_.Since 0 1099511627776).bind fun y4 => (bif (!y4) then (some (.inl (.s2 true p_))) else ((ref04_in p_.Ramped 0 1099511627776).bind fun y6 => (bif (!y6) then (some (.inl (.s2 true p_))) else (bif (decide ((p_.Up : Int) > 65535)) then (some (.inl (.s2 true p_))) else (bif (decide ((p_.Sup : Int) > 65535)) then (some (.inl (.s2 true p_))) else (bif (decide (((((List.map (eInt .i64) p_.Pen).length : Nat) : Int) : Int) > 16)) then (some (.inl (.s2 true p_))) else (some (.inl (.s2 (decide (((((List.map (eInt .i64) p_.Changes).length : Nat) : Int) : Int) > 8)) p_)))))))))))))
noncomputable def ref04_Right_2 (t85 : Bool) (p_ : Plan) : Option (ref04_Right_S ⊕ Bool) := (bif t85 then (some (.inr false)) else (some (.inl (.s3 0 p_))))
noncomputable def ref04_Right_3 (i : Int) (p_ : Plan) : Option (ref04_Right_S ⊕ Bool) := (bif (decide ((i : Int) < (((List.map (eInt .i64) p_.Pen).length : Nat) : Int))) then (bif ((decide ((0 : Int) ≤ i)) && (decide ((i : Int) < (((List.map (eInt .i64) p_.Pen).length : Nat) : Int)))) then (((p_.Pen)[i.toNat]?).bind fun y3 => (bif (decide ((y3 : Int) < 0)) then (some (.inr false)) else (bif ((decide ((0 : Int) ≤ i)) && (decide ((i : Int) < (((List.map (eInt .i64) p_.Pen).length : Nat) : Int)))) then (((p_.Pen)[i.toNat]?).bind fun y7 => (bif (decide ((y7 : Int) > 1000000)) then (some (.inr false)) else (some (.inl (.s3 (IntKind.i64.wrap (i + 1)) p_))))) else none))) else none) else (some (.inl (.s4 0 p_))))
noncomputable def ref04_Right_4 (i : Int) (p_ : Plan) : Option (ref04_Right_S ⊕ Bool) := (bif (decide ((i : Int) < (((List.map (eInt .i64) p_.Changes).length : Nat) : Int))) then (bif ((decide ((0 : Int) ≤ i)) && (decide ((i : Int) < (((List.map (eInt .i64) p_.Changes).length : Nat) : Int)))) then (((p_.Changes)[i.toNat]?).bind fun y3 => ((ref04_in y3 0 1099511627776).bind fun y5 => (bif (!y5) then (some (.inr false)) else (bif (decide ((i : Int) > 0)) then (bif ((decide ((0 : Int) ≤ (IntKind.i64.wrap (i - 1)))) && (decide (((IntKind.i64.wrap (i - 1)) : Int) < (((List.map (eInt .i64) p_.Changes).length : Nat) : Int)))) then (((p_.Changes)[(IntKind.i64.wrap (i - 1)).toNat]?).bind fun y9 => (bif ((decide ((0 : Int) ≤ i)) && (decide ((i : Int) < (((List.map (eInt .i64) p_.Changes).length : Nat) : Int)))) then (((p_.Changes)[i.toNat]?).bind fun y12 => (bif (decide ((y9 : Int) > y12)) then (some (.inr false)) else (some (.inl (.s4 (IntKind.i64.wrap (i + 1)) p_))))) else none)) else none) else (some (.inl (.s4 (IntKind.i64.wrap (i + 1)) p_))))))) else none) else (some (.inr true)))
noncomputable def ref04_Right_step : ref04_Right_S → Option (ref04_Right_S ⊕ Bool)
  | .s0 p_ => ref04_Right_0 p_
  | .s1 t47 p_ => ref04_Right_1 t47 p_
  | .s2 t85 p_ => ref04_Right_2 t85 p_
  | .s3 i p_ => ref04_Right_3 i p_
  | .s4 i p_ => ref04_Right_4 i p_
theorem ref04_Right_0_ok {p_ : Plan} {r : Bool} {x : ref04_Right_S ⊕ Bool} (h : ref04_Right_0 p_ = some x) (ha : After E (Cx.of Try.f14 false 0) ref04_Right_Q ref04_Right_M r x) : FinQ E (Cx.of Try.f14 false 0) (QW (ref04_Right_Q r)) (.go (ref04_Right_M (.s0 p_))) := by
  unfold ref04_Right_0 at h
  refine adv_ok hm 14 _ ?_
  refine p_split h (by kernel_rfl) (fun h1 h => ?_) (fun h1 h => ?_)
  · -- true
    refine adv_ok hm 70 _ ?_
    obtain rfl := Option.some.inj h
    exact r_cut 140737488355330 [] (m' := (ref04_Right_M (.s1 true p_))) (by kernel_rfl) ha
  · -- false
    refine adv_ok hm 9 _ ?_
    refine p_split h (by kernel_rfl) (fun h2 h => ?_) (fun h2 h => ?_)
    · -- true
      refine adv_ok hm 61 _ ?_
      obtain rfl := Option.some.inj h
      exact r_cut 140737488355330 [] (m' := (ref04_Right_M (.s1 true p_))) (by kernel_rfl) ha
    · -- false
      refine adv_ok hm 9 _ ?_
      refine p_split h (by kernel_rfl) (fun h3 h => ?_) (fun h3 h => ?_)
      · -- true
        refine adv_ok hm 52 _ ?_
        obtain rfl := Option.some.inj h
        exact r_cut 140737488355330 [] (m' := (ref04_Right_M (.s1 true p_))) (by kernel_rfl) ha
      · -- false
        refine adv_ok hm 9 _ ?_
        refine p_split h (by kernel_rfl) (fun h4 h => ?_) (fun h4 h => ?_)
        · -- true
          refine adv_ok hm 43 _ ?_
          obtain rfl := Option.some.inj h
          exact r_cut 140737488355330 [] (m' := (ref04_Right_M (.s1 true p_))) (by kernel_rfl) ha
        · -- false
          refine adv_ok hm 9 _ ?_
          refine p_split h (by kernel_rfl) (fun h5 h => ?_) (fun h5 h => ?_)
          · -- true
            refine adv_ok hm 34 _ ?_
            obtain rfl := Option.some.inj h
            exact r_cut 140737488355330 [] (m' := (ref04_Right_M (.s1 true p_))) (by kernel_rfl) ha
          · -- false
            refine adv_ok hm 9 _ ?_
            refine p_split h (by kernel_rfl) (fun h6 h => ?_) (fun h6 h => ?_)
            · -- true
              refine adv_ok hm 25 _ ?_
              obtain rfl := Option.some.inj h
              exact r_cut 140737488355330 [] (m' := (ref04_Right_M (.s1 true p_))) (by kernel_rfl) ha
            · -- false
              refine adv_ok hm 9 _ ?_
              refine p_split h (by kernel_rfl) (fun h7 h => ?_) (fun h7 h => ?_)
              · -- true
                refine adv_ok hm 16 _ ?_
                obtain rfl := Option.some.inj h
                exact r_cut 140737488355330 [] (m' := (ref04_Right_M (.s1 true p_))) (by kernel_rfl) ha
              · -- false
                refine adv_ok hm 9 _ ?_
                refine p_split h (by kernel_rfl) (fun h8 h => ?_) (fun h8 h => ?_)
                · -- true
                  refine adv_ok hm 7 _ ?_
                  obtain rfl := Option.some.inj h
                  exact r_cut 140737488355330 [] (m' := (ref04_Right_M (.s1 true p_))) (by kernel_rfl) ha
                · -- false
                  refine adv_ok hm 8 _ ?_
                  obtain rfl := Option.some.inj h
                  exact r_cut 140737488355330 [] (m' := (ref04_Right_M (.s1 (decide ((p_.Percent : Int) > 100)) p_))) (by kernel_rfl) ha
theorem ref04_Right_1_ok {t47 : Bool} {p_ : Plan} {r : Bool} {x : ref04_Right_S ⊕ Bool} (h : ref04_Right_1 t47 p_ = some x) (ha : After E (Cx.of Try.f14 false 0) ref04_Right_Q ref04_Right_M r x) : FinQ E (Cx.of Try.f14 false 0) (QW (ref04_Right_Q r)) (.go (ref04_Right_M (.s1 t47 p_))) := by
  unfold ref04_Right_1 at h
  refine adv_ok hm 1 _ ?_
  refine p_split h (by kernel_rfl) (fun h1 h => ?_) (fun h1 h => ?_)
  · -- true
    refine adv_ok hm 5 _ ?_
    obtain rfl := Option.some.inj h
    have hv := ha
    simp only [After] at hv
    subst hv
    exact r_retF [] (d := D.bool false) (s := []) (by kernel_rfl) Cx.fin_of ⟨rfl, rfl⟩
  · -- false
    refine adv_ok hm 8 _ ?_
    have ok2 := fun (y : Bool) (hy : ref04_in p_.Stamp 0 1099511627776 = some y) => ref04_in_ok hy
    refine p_callE [] (args1 := [D.int .i64 p_.Stamp, D.int .i64 0, D.int .i64 1099511627776]) (args := [D.int .i64 p_.Stamp, D.int .i64 0, D.int .i64 1099511627776]) (fun y2 => D.bool y2) (fun y2 => []) h (by kernel_rfl) ⟨rfl, rfl⟩ ok2 (fun y2 h2 h => ?_)
    refine adv_ok hm 3 _ ?_
    refine p_split h (by kernel_rfl) (fun h3 h => ?_) (fun h3 h => ?_)
    · -- true
      refine adv_ok hm 60 _ ?_
      obtain rfl := Option.some.inj h
      exact r_cut 38685626227668133590597634 [] (m' := (ref04_Right_M (.s2 true p_))) (by kernel_rfl) ha
    · -- false
      refine adv_ok hm 5 _ ?_
      have ok4 := fun (y : Bool) (hy : ref04_in p_.Since 0 1099511627776 = some y) => ref04_in_ok hy
      refine p_callE [] (args1 := [D.int .i64 p_.Since, D.int .i64 0, D.int .i64 1099511627776]) (args := [D.int .i64 p_.Since, D.int .i64 0, D.int .i64 1099511627776]) (fun y4 => D.bool y4) (fun y4 => []) h (by kernel_rfl) ⟨rfl, rfl⟩ ok4 (fun y4 h4 h => ?_)
      refine adv_ok hm 6 _ ?_
      refine p_split h (by kernel_rfl) (fun h5 h => ?_) (fun h5 h => ?_)
      · -- true
        refine adv_ok hm 49 _ ?_
        obtain rfl := Option.some.inj h
        exact r_cut 38685626227668133590597634 [] (m' := (ref04_Right_M (.s2 true p_))) (by kernel_rfl) ha
      · -- false
        refine adv_ok hm 5 _ ?_
        have ok6 := fun (y : Bool) (hy : ref04_in p_.Ramped 0 1099511627776 = some y) => ref04_in_ok hy
        refine p_callE [] (args1 := [D.int .i64 p_.Ramped, D.int .i64 0, D.int .i64 1099511627776]) (args := [D.int .i64 p_.Ramped, D.int .i64 0, D.int .i64 1099511627776]) (fun y6 => D.bool y6) (fun y6 => []) h (by kernel_rfl) ⟨rfl, rfl⟩ ok6 (fun y6 h6 h => ?_)
        refine adv_ok hm 6 _ ?_
        refine p_split h (by kernel_rfl) (fun h7 h => ?_) (fun h7 h => ?_)
        · -- true
          refine adv_ok hm 38 _ ?_
          obtain rfl := Option.some.inj h
          exact r_cut 38685626227668133590597634 [] (m' := (ref04_Right_M (.s2 true p_))) (by kernel_rfl) ha
        · -- false
          refine adv_ok hm 9 _ ?_
          refine p_split h (by kernel_rfl) (fun h8 h => ?_) (fun h8 h => ?_)
          · -- true
            refine adv_ok hm 29 _ ?_
            obtain rfl := Option.some.inj h
            exact r_cut 38685626227668133590597634 [] (m' := (ref04_Right_M (.s2 true p_))) (by kernel_rfl) ha
          · -- false
            refine adv_ok hm 9 _ ?_
            refine p_split h (by kernel_rfl) (fun h9 h => ?_) (fun h9 h => ?_)
            · -- true
              refine adv_ok hm 20 _ ?_
              obtain rfl := Option.some.inj h
              exact r_cut 38685626227668133590597634 [] (m' := (ref04_Right_M (.s2 true p_))) (by kernel_rfl) ha
            · -- false
              refine adv_ok hm 11 _ ?_
              refine p_split h (by kernel_rfl) (fun h10 h => ?_) (fun h10 h => ?_)
              · -- true
                refine adv_ok hm 9 _ ?_
                obtain rfl := Option.some.inj h
                exact r_cut 38685626227668133590597634 [] (m' := (ref04_Right_M (.s2 true p_))) (by kernel_rfl) ha
              · -- false
                refine adv_ok hm 10 _ ?_
                obtain rfl := Option.some.inj h
                exact r_cut 38685626227668133590597634 [] (m' := (ref04_Right_M (.s2 (decide (((((List.map (eInt .i64) p_.Changes).length : Nat) : Int) : Int) > 8)) p_))) (by kernel_rfl) ha
theorem ref04_Right_2_ok {t85 : Bool} {p_ : Plan} {r : Bool} {x : ref04_Right_S ⊕ Bool} (h : ref04_Right_2 t85 p_ = some x) (ha : After E (Cx.of Try.f14 false 0) ref04_Right_Q ref04_Right_M r x) : FinQ E (Cx.of Try.f14 false 0) (QW (ref04_Right_Q r)) (.go (ref04_Right_M (.s2 t85 p_))) := by
  unfold ref04_Right_2 at h
  refine adv_ok hm 1 _ ?_
  refine p_split h (by kernel_rfl) (fun h1 h => ?_) (fun h1 h => ?_)
  · -- true
    refine adv_ok hm 5 _ ?_
    obtain rfl := Option.some.inj h
    have hv := ha
    simp only [After] at hv
    subst hv
    exact r_retF [] (d := D.bool false) (s := []) (by kernel_rfl) Cx.fin_of ⟨rfl, rfl⟩
  · -- false
    refine adv_ok hm 9 _ ?_
    obtain rfl := Option.some.inj h
    exact r_to (q' := .go (ref04_Right_M (.s3 0 p_))) (by kernel_rfl) ha
theorem ref04_Right_3_ok {i : Int} {p_ : Plan} {r : Bool} {x : ref04_Right_S ⊕ Bool} (h : ref04_Right_3 i p_ = some x) (ha : After E (Cx.of Try.f14 false 0) ref04_Right_Q ref04_Right_M r x) : FinQ E (Cx.of Try.f14 false 0) (QW (ref04_Right_Q r)) (.go (ref04_Right_M (.s3 i p_))) := by
  unfold ref04_Right_3 at h
  refine adv_ok hm 12 _ ?_
  refine p_split h (by kernel_rfl) (fun h1 h => ?_) (fun h1 h => ?_)
  · -- true
    refine adv_ok hm 10 _ ?_
    refine p_need h (by kernel_rfl) (fun h2 h => ?_)
    refine adv_ok hm 1 _ ?_
    refine p_row (((List.map (eInt .i64) p_.Pen))[i.toNat]?) (eInt .i64) h (by kernel_rfl) List.getElem?_map (fun y3 h4 h => ?_)
    refine adv_ok hm 3 _ ?_
    refine p_split h (by kernel_rfl) (fun h5 h => ?_) (fun h5 h => ?_)
    · -- true
      refine adv_ok hm 20 _ ?_
      obtain rfl := Option.some.inj h
      have hv := ha
      simp only [After] at hv
      subst hv
      exact r_retF [] (d := D.bool false) (s := []) (by kernel_rfl) Cx.fin_of ⟨rfl, rfl⟩
    · -- false
      refine adv_ok hm 7 _ ?_
      refine p_need h (by kernel_rfl) (fun h6 h => ?_)
      refine adv_ok hm 2 _ ?_
      refine p_row (((List.map (eInt .i64) p_.Pen))[i.toNat]?) (eInt .i64) h (by kernel_rfl) List.getElem?_map (fun y7 h8 h => ?_)
      refine adv_ok hm 6 _ ?_
      refine p_split h (by kernel_rfl) (fun h9 h => ?_) (fun h9 h => ?_)
      · -- true
        refine adv_ok hm 5 _ ?_
        obtain rfl := Option.some.inj h
        have hv := ha
        simp only [After] at hv
        subst hv
        exact r_retF [] (d := D.bool false) (s := []) (by kernel_rfl) Cx.fin_of ⟨rfl, rfl⟩
      · -- false
        refine adv_ok hm 8 _ ?_
        obtain rfl := Option.some.inj h
        exact r_to (q' := .go (ref04_Right_M (.s3 (IntKind.i64.wrap (i + 1)) p_))) (by kernel_rfl) ha
  · -- false
    refine adv_ok hm 9 _ ?_
    obtain rfl := Option.some.inj h
    exact r_to (q' := .go (ref04_Right_M (.s4 0 p_))) (by kernel_rfl) ha
theorem ref04_Right_4_ok {i : Int} {p_ : Plan} {r : Bool} {x : ref04_Right_S ⊕ Bool} (h : ref04_Right_4 i p_ = some x) (ha : After E (Cx.of Try.f14 false 0) ref04_Right_Q ref04_Right_M r x) : FinQ E (Cx.of Try.f14 false 0) (QW (ref04_Right_Q r)) (.go (ref04_Right_M (.s4 i p_))) := by
  unfold ref04_Right_4 at h
  refine adv_ok hm 12 _ ?_
  refine p_split h (by kernel_rfl) (fun h1 h => ?_) (fun h1 h => ?_)
  · -- true
    refine adv_ok hm 6 _ ?_
    refine p_need h (by kernel_rfl) (fun h2 h => ?_)
    refine p_row (((List.map (eInt .i64) p_.Changes))[i.toNat]?) (eInt .i64) h (by kernel_rfl) List.getElem?_map (fun y3 h4 h => ?_)
    have ok5 := fun (y : Bool) (hy : ref04_in y3 0 1099511627776 = some y) => ref04_in_ok hy
    refine p_callDE [] (args1 := [D.int .i64 y3, D.int .i64 0, D.int .i64 1099511627776]) (args := [D.int .i64 y3, D.int .i64 0, D.int .i64 1099511627776]) (fun y5 => D.bool y5) h (by kernel_rfl) rfl ok5 (fun y5 h5 h => ?_)
    refine p_split h (by kernel_rfl) (fun h6 h => ?_) (fun h6 h => ?_)
    · -- true
      refine adv_ok hm 11 _ ?_
      obtain rfl := Option.some.inj h
      have hv := ha
      simp only [After] at hv
      subst hv
      exact r_retF [] (d := D.bool false) (s := []) (by kernel_rfl) Cx.fin_of ⟨rfl, rfl⟩
    · -- false
      refine adv_ok hm 2 _ ?_
      refine p_split h (by kernel_rfl) (fun h7 h => ?_) (fun h7 h => ?_)
      · -- true
        refine adv_ok hm 5 _ ?_
        refine p_need h (by kernel_rfl) (fun h8 h => ?_)
        refine adv_ok hm 1 _ ?_
        refine p_row (((List.map (eInt .i64) p_.Changes))[(IntKind.i64.wrap (i - 1)).toNat]?) (eInt .i64) h (by kernel_rfl) List.getElem?_map (fun y9 h10 h => ?_)
        refine adv_ok hm 5 _ ?_
        refine p_need h (by kernel_rfl) (fun h11 h => ?_)
        refine adv_ok hm 1 _ ?_
        refine p_row (((List.map (eInt .i64) p_.Changes))[i.toNat]?) (eInt .i64) h (by kernel_rfl) List.getElem?_map (fun y12 h13 h => ?_)
        refine adv_ok hm 5 _ ?_
        refine p_split h (by kernel_rfl) (fun h14 h => ?_) (fun h14 h => ?_)
        · -- true
          refine adv_ok hm 5 _ ?_
          obtain rfl := Option.some.inj h
          have hv := ha
          simp only [After] at hv
          subst hv
          exact r_retF [] (d := D.bool false) (s := []) (by kernel_rfl) Cx.fin_of ⟨rfl, rfl⟩
        · -- false
          refine adv_ok hm 8 _ ?_
          obtain rfl := Option.some.inj h
          exact r_to (q' := .go (ref04_Right_M (.s4 (IntKind.i64.wrap (i + 1)) p_))) (by kernel_rfl) ha
      · -- false
        refine adv_ok hm 24 _ ?_
        obtain rfl := Option.some.inj h
        exact r_to (q' := .go (ref04_Right_M (.s4 (IntKind.i64.wrap (i + 1)) p_))) (by kernel_rfl) ha
  · -- false
    refine adv_ok hm 6 _ ?_
    obtain rfl := Option.some.inj h
    have hv := ha
    simp only [After] at hv
    subst hv
    exact r_retF [] (d := D.bool true) (s := []) (by kernel_rfl) Cx.fin_of ⟨rfl, rfl⟩
theorem ref04_Right_ev {p_ : Plan} {r : Bool} (h : Ev ref04_Right_step (.s0 p_) r) : Sound E 14 [D.agg [D.int .i64 p_.Epoch, D.int .i64 p_.Target, D.int .i64 p_.Prev, D.int .i64 p_.Spill, D.int .i64 p_.Percent, D.int .i64 p_.Stamp, D.int .i64 p_.Since, D.int .i64 p_.Ramped, D.int .u64 p_.Up, D.int .u64 p_.Sup, D.sl false 1 (List.map (eInt .i64) p_.Pen), D.sl false 1 (List.map (eInt .i64) p_.Changes)]] [] (ref04_Right_Q r) :=
  sound_ofW (m := ref04_Right_M (.s0 p_)) (fn := Try.f14) (by kernel_rfl) (by kernel_rfl) (ev_run (C := (Cx.of Try.f14 false 0)) (fun s x r hs ha => by
    cases s with
    | s0 => exact ref04_Right_0_ok hs ha
    | s1 => exact ref04_Right_1_ok hs ha
    | s2 => exact ref04_Right_2_ok hs ha
    | s3 => exact ref04_Right_3_ok hs ha
    | s4 => exact ref04_Right_4_ok hs ha) h)
noncomputable def ref04_Right (p_ : Plan) : Option Bool := evf ref04_Right_step (.s0 p_)
theorem ref04_Right_ok {p_ : Plan} {r : Bool} (h : ref04_Right p_ = some r) : Sound E 14 [D.agg [D.int .i64 p_.Epoch, D.int .i64 p_.Target, D.int .i64 p_.Prev, D.int .i64 p_.Spill, D.int .i64 p_.Percent, D.int .i64 p_.Stamp, D.int .i64 p_.Since, D.int .i64 p_.Ramped, D.int .u64 p_.Up, D.int .u64 p_.Sup, D.sl false 1 (List.map (eInt .i64) p_.Pen), D.sl false 1 (List.map (eInt .i64) p_.Changes)]] [] (ref04_Right_Q r) := ref04_Right_ev (evf_ev h)
end Go.RX.L

set_option linter.unusedSimpArgs false
set_option linter.unusedVariables false
set_option maxRecDepth 100000
set_option maxHeartbeats 4000000
namespace Go.RX.L
open Go Go.RX Go.Proofs
attribute [local irreducible] FinQ
def ref04_Put_Q (y : (List Int) × Int) (d : D) (s : Sto) : Prop := d = D.tup [D.sl false 1 (List.map (eInt .u8) y.1), D.int .i64 y.2] ∧ s = []
inductive ref04_Put_S where
  | s0 (p_ : Plan)
  | s1 (i : Int) (p_ : Plan) (pen : List Int)
noncomputable def ref04_Put_M : ref04_Put_S → M
  | .s0 p_ => ⟨[.code (bodyOf Try.f12)], [(0, D.agg [D.int .i64 p_.Epoch, D.int .i64 p_.Target, D.int .i64 p_.Prev, D.int .i64 p_.Spill, D.int .i64 p_.Percent, D.int .i64 p_.Stamp, D.int .i64 p_.Since, D.int .i64 p_.Ramped, D.int .u64 p_.Up, D.int .u64 p_.Sup, D.sl false 1 (List.map (eInt .i64) p_.Pen), D.sl false 1 (List.map (eInt .i64) p_.Changes)])], []⟩
  | .s1 i p_ pen => { td := [It.lpc (codeAt (bodyOf Try.f12) [1, 1, 1, 1, 0, 1, 0, 0]) 98, It.blk 0, It.code (codeAt (bodyOf Try.f12) [1, 1, 1, 1, 1])], fr := [(1, D.ptr 0 0 0), (5, D.msl 1 0 ((List.map (eInt .i64) pen).length) ((List.map (eInt .i64) pen).length) false), (6, D.int .i64 i)], st := [some { sz := 12, deep := false, rows := [[D.int .i64 p_.Epoch, D.int .i64 p_.Target, D.int .i64 p_.Prev, D.int .i64 p_.Spill, D.int .i64 p_.Percent, D.int .i64 p_.Stamp, D.int .i64 p_.Since, D.int .i64 p_.Ramped, D.int .u64 p_.Up, D.int .u64 p_.Sup, D.sl false 1 (List.map (eInt .i64) p_.Pen), D.sl false 1 (List.map (eInt .i64) p_.Changes)]] }, some { sz := 1, deep := false, rows := (List.map (eInt .i64) pen) }] }
noncomputable def ref04_Put_0 (p_ : Plan) : Option (ref04_Put_S ⊕ ((List Int) × Int)) := ((ref04_Right p_).bind fun y1 => (bif (!y1) then (some (.inr ([], 41))) else (some (.inl (.s1 0 p_ ([]))))))
noncomputable def ref04_Put_1 (i : Int) (p_ : Plan) (pen : List Int) : Option (ref04_Put_S ⊕ ((List Int) × Int)) := (bif (decide ((i : Int) < (((List.map (eInt .i64) p_.Pen).length : Nat) : Int))) then (bif ((decide ((0 : Int) ≤ i)) && (decide ((i : Int) < (((List.map (eInt .i64) p_.Pen).length : Nat) : Int)))) then (((p_.Pen)[i.toNat]?).bind fun y3 => (bif (decide (((List.map (eInt .i64) pen).length + 1) * 8 ≤ bytesLim)) then (some (.inl (.s1 (IntKind.i64.wrap (i + 1)) p_ (pen ++ [y3])))) else none)) else none) else ((ref01_PutInts ([p_.Epoch, p_.Target, p_.Prev, p_.Spill, p_.Percent, p_.Stamp, p_.Since, p_.Ramped, (IntKind.i64.wrap (p_.Up)), (IntKind.i64.wrap (p_.Sup))])).bind fun y6 => ((ref01_PutInts pen).bind fun y7 => ((ref01_PutInts p_.Changes).bind fun y8 => (bif (decide (((List.map (eInt .u8) y6.2).length + (List.take ((List.map (eInt .u8) y7.2).length) (List.drop 0 (List.map (eInt .u8) y7.2))).length) * 1 ≤ bytesLim)) then (bif (decide (((List.map (eInt .u8) (y6.2 ++ y7.2)).length + (List.take ((List.map (eInt .u8) y8.2).length) (List.drop 0 (List.map (eInt .u8) y8.2))).length) * 1 ≤ bytesLim)) then (some (.inr (((y6.2 ++ y7.2) ++ y8.2), 0))) else none) else none)))))
noncomputable def ref04_Put_step : ref04_Put_S → Option (ref04_Put_S ⊕ ((List Int) × Int))
  | .s0 p_ => ref04_Put_0 p_
  | .s1 i p_ pen => ref04_Put_1 i p_ pen
theorem ref04_Put_0_ok {p_ : Plan} {r : (List Int) × Int} {x : ref04_Put_S ⊕ ((List Int) × Int)} (h : ref04_Put_0 p_ = some x) (ha : After E (Cx.of Try.f12 false 0) ref04_Put_Q ref04_Put_M r x) : FinQ E (Cx.of Try.f12 false 0) (QW (ref04_Put_Q r)) (.go (ref04_Put_M (.s0 p_))) := by
  unfold ref04_Put_0 at h
  refine adv_ok hm 11 _ ?_
  have ok1 := fun (y : Bool) (hy : ref04_Right p_ = some y) => ref04_Right_ok hy
  refine p_callE [] (args1 := [D.agg [D.int .i64 p_.Epoch, D.int .i64 p_.Target, D.int .i64 p_.Prev, D.int .i64 p_.Spill, D.int .i64 p_.Percent, D.int .i64 p_.Stamp, D.int .i64 p_.Since, D.int .i64 p_.Ramped, D.int .u64 p_.Up, D.int .u64 p_.Sup, D.sl false 1 (List.map (eInt .i64) p_.Pen), D.sl false 1 (List.map (eInt .i64) p_.Changes)]]) (args := [D.agg [D.int .i64 p_.Epoch, D.int .i64 p_.Target, D.int .i64 p_.Prev, D.int .i64 p_.Spill, D.int .i64 p_.Percent, D.int .i64 p_.Stamp, D.int .i64 p_.Since, D.int .i64 p_.Ramped, D.int .u64 p_.Up, D.int .u64 p_.Sup, D.sl false 1 (List.map (eInt .i64) p_.Pen), D.sl false 1 (List.map (eInt .i64) p_.Changes)]]) (fun y1 => D.bool y1) (fun y1 => []) h (by kernel_rfl) ⟨rfl, rfl⟩ ok1 (fun y1 h1 h => ?_)
  refine adv_ok hm 9 _ ?_
  refine p_split h (by kernel_rfl) (fun h2 h => ?_) (fun h2 h => ?_)
  · -- true
    refine adv_ok hm 6 _ ?_
    obtain rfl := Option.some.inj h
    have hv := ha
    simp only [After] at hv
    subst hv
    exact r_retF [.slot 0 [some 1]] (d := D.tup [D.sl false 1 [], D.int .i64 41]) (s := []) (by kernel_rfl) Cx.fin_of ⟨rfl, rfl⟩
  · -- false
    refine adv_ok hm 13 _ ?_
    obtain rfl := Option.some.inj h
    refine r_cut 98 [.mat 5 1] (m' := { td := [It.lpc (codeAt (bodyOf Try.f12) [1, 1, 1, 1, 0, 1, 0, 0]) 98, It.blk 0, It.code (codeAt (bodyOf Try.f12) [1, 1, 1, 1, 1])], fr := [(1, D.ptr 0 0 0), (5, D.msl 1 0 0 0 false), (6, D.int .i64 0)], st := [some { sz := 12, deep := false, rows := [[D.int .i64 p_.Epoch, D.int .i64 p_.Target, D.int .i64 p_.Prev, D.int .i64 p_.Spill, D.int .i64 p_.Percent, D.int .i64 p_.Stamp, D.int .i64 p_.Since, D.int .i64 p_.Ramped, D.int .u64 p_.Up, D.int .u64 p_.Sup, D.sl false 1 (List.map (eInt .i64) p_.Pen), D.sl false 1 (List.map (eInt .i64) p_.Changes)]] }, some { sz := 1, deep := false, rows := [] }] }) (by kernel_rfl) ?_
    refine r_len (n1 := 0) (n2 := (List.map (eInt .i64) ([])).length) (fun n_len => .go { td := [It.lpc (codeAt (bodyOf Try.f12) [1, 1, 1, 1, 0, 1, 0, 0]) 98, It.blk 0, It.code (codeAt (bodyOf Try.f12) [1, 1, 1, 1, 1])], fr := [(1, D.ptr 0 0 0), (5, D.msl 1 0 n_len n_len false), (6, D.int .i64 0)], st := [some { sz := 12, deep := false, rows := [[D.int .i64 p_.Epoch, D.int .i64 p_.Target, D.int .i64 p_.Prev, D.int .i64 p_.Spill, D.int .i64 p_.Percent, D.int .i64 p_.Stamp, D.int .i64 p_.Since, D.int .i64 p_.Ramped, D.int .u64 p_.Up, D.int .u64 p_.Sup, D.sl false 1 (List.map (eInt .i64) p_.Pen), D.sl false 1 (List.map (eInt .i64) p_.Changes)]] }, some { sz := 1, deep := false, rows := [] }] }) (by simp) ?_
    exact ha
theorem ref04_Put_1_ok {i : Int} {p_ : Plan} {pen : List Int} {r : (List Int) × Int} {x : ref04_Put_S ⊕ ((List Int) × Int)} (h : ref04_Put_1 i p_ pen = some x) (ha : After E (Cx.of Try.f12 false 0) ref04_Put_Q ref04_Put_M r x) : FinQ E (Cx.of Try.f12 false 0) (QW (ref04_Put_Q r)) (.go (ref04_Put_M (.s1 i p_ pen))) := by
  unfold ref04_Put_1 at h
  refine adv_ok hm 12 _ ?_
  refine p_split h (by kernel_rfl) (fun h1 h => ?_) (fun h1 h => ?_)
  · -- true
    refine adv_ok hm 10 _ ?_
    refine p_need h (by kernel_rfl) (fun h2 h => ?_)
    refine adv_ok hm 1 _ ?_
    refine p_row (((List.map (eInt .i64) p_.Pen))[i.toNat]?) (eInt .i64) h (by kernel_rfl) List.getElem?_map (fun y3 h4 h => ?_)
    refine adv_ok hm 3 _ ?_
    refine p_need h (by kernel_rfl) (fun h5 h => ?_)
    refine r_needT (b := (Nat.ble (0 + (List.map (eInt .i64) pen).length) ((List.map (eInt .i64) pen).length))) (by kernel_rfl) (ble_full _) ?_
    refine r_rows (List.take ((List.map (eInt .i64) pen).length) (List.drop 0 (List.map (eInt .i64) pen)) ++ (List.map (eInt .i64) ([y3]))) (List.map (eInt .i64) (pen ++ [y3])) (by kernel_rfl) (rows_app _ _ _) ?_
    refine adv_ok hm 9 _ ?_
    obtain rfl := Option.some.inj h
    exact r_to (q' := .go (ref04_Put_M (.s1 (IntKind.i64.wrap (i + 1)) p_ (pen ++ [y3])))) (by kernel_rfl) ha
  · -- false
    refine adv_ok hm 38 _ ?_
    have ok6 := fun (y : Int × (List Int)) (hy : ref01_PutInts ([p_.Epoch, p_.Target, p_.Prev, p_.Spill, p_.Percent, p_.Stamp, p_.Since, p_.Ramped, (IntKind.i64.wrap (p_.Up)), (IntKind.i64.wrap (p_.Sup))]) = some y) => ref01_PutInts_ok hy
    refine p_callE [] (args1 := [D.sl false 1 [[D.int .i64 p_.Epoch], [D.int .i64 p_.Target], [D.int .i64 p_.Prev], [D.int .i64 p_.Spill], [D.int .i64 p_.Percent], [D.int .i64 p_.Stamp], [D.int .i64 p_.Since], [D.int .i64 p_.Ramped], [D.int .i64 (IntKind.i64.wrap (p_.Up))], [D.int .i64 (IntKind.i64.wrap (p_.Sup))]]]) (args := [D.sl false 1 [[D.int .i64 p_.Epoch], [D.int .i64 p_.Target], [D.int .i64 p_.Prev], [D.int .i64 p_.Spill], [D.int .i64 p_.Percent], [D.int .i64 p_.Stamp], [D.int .i64 p_.Since], [D.int .i64 p_.Ramped], [D.int .i64 (IntKind.i64.wrap (p_.Up))], [D.int .i64 (IntKind.i64.wrap (p_.Sup))]]]) (fun y6 => D.tup [D.msl 0 0 ((List.map (eInt .u8) y6.2).length) ((List.map (eInt .u8) y6.2).length) false, D.int .i64 y6.1]) (fun y6 => [some { sz := 1, deep := false, rows := (List.map (eInt .u8) y6.2) }]) h (by kernel_rfl) ⟨rfl, rfl⟩ ok6 (fun y6 h6 h => ?_)
    refine adv_ok hm 10 _ ?_
    refine r_needT (b := (Nat.ble (0 + (List.map (eInt .i64) pen).length) ((List.map (eInt .i64) pen).length))) (by kernel_rfl) (ble_full _) ?_
    have ok7 := fun (y : Int × (List Int)) (hy : ref01_PutInts pen = some y) => ref01_PutInts_ok hy
    refine p_callE [] (args1 := [D.sl false 1 (List.take ((List.map (eInt .i64) pen).length) (List.drop 0 (List.map (eInt .i64) pen)))]) (args := [D.sl false 1 (List.map (eInt .i64) pen)]) (fun y7 => D.tup [D.msl 0 0 ((List.map (eInt .u8) y7.2).length) ((List.map (eInt .u8) y7.2).length) false, D.int .i64 y7.1]) (fun y7 => [some { sz := 1, deep := false, rows := (List.map (eInt .u8) y7.2) }]) h (by kernel_rfl) ⟨by simp [List.take_of_length_le, List.map_take, List.map_drop], rfl⟩ ok7 (fun y7 h7 h => ?_)
    refine adv_ok hm 12 _ ?_
    have ok8 := fun (y : Int × (List Int)) (hy : ref01_PutInts p_.Changes = some y) => ref01_PutInts_ok hy
    refine p_callE [] (args1 := [D.sl false 1 (List.map (eInt .i64) p_.Changes)]) (args := [D.sl false 1 (List.map (eInt .i64) p_.Changes)]) (fun y8 => D.tup [D.msl 0 0 ((List.map (eInt .u8) y8.2).length) ((List.map (eInt .u8) y8.2).length) false, D.int .i64 y8.1]) (fun y8 => [some { sz := 1, deep := false, rows := (List.map (eInt .u8) y8.2) }]) h (by kernel_rfl) ⟨rfl, rfl⟩ ok8 (fun y8 h8 h => ?_)
    refine adv_ok hm 11 _ ?_
    refine r_needT (b := (Nat.beq ((List.take ((List.map (eInt .u8) y7.2).length) (List.drop 0 (List.map (eInt .u8) y7.2))).length) ((List.map (eInt .u8) y7.2).length))) (by kernel_rfl) (by simp) ?_
    refine p_need h (by kernel_rfl) (fun h9 h => ?_)
    refine r_needT (b := (Nat.ble (0 + (List.map (eInt .u8) y6.2).length) ((List.map (eInt .u8) y6.2).length))) (by kernel_rfl) (ble_full _) ?_
    refine r_rows (List.take ((List.map (eInt .u8) y6.2).length) (List.drop 0 (List.map (eInt .u8) y6.2)) ++ (List.take ((List.map (eInt .u8) y7.2).length) (List.drop 0 (List.map (eInt .u8) y7.2)))) (List.map (eInt .u8) (y6.2 ++ y7.2)) (by kernel_rfl) (by simp only [take_full, take_full', List.map_append]) ?_
    refine adv_ok hm 2 _ ?_
    refine r_needT (b := (Nat.beq ((List.take ((List.map (eInt .u8) y8.2).length) (List.drop 0 (List.map (eInt .u8) y8.2))).length) ((List.map (eInt .u8) y8.2).length))) (by kernel_rfl) (by simp) ?_
    refine p_need h (by kernel_rfl) (fun h10 h => ?_)
    refine r_needT (b := (Nat.ble (0 + (List.map (eInt .u8) (y6.2 ++ y7.2)).length) ((List.map (eInt .u8) (y6.2 ++ y7.2)).length))) (by kernel_rfl) (ble_full _) ?_
    refine r_rows (List.take ((List.map (eInt .u8) (y6.2 ++ y7.2)).length) (List.drop 0 (List.map (eInt .u8) (y6.2 ++ y7.2))) ++ (List.take ((List.map (eInt .u8) y8.2).length) (List.drop 0 (List.map (eInt .u8) y8.2)))) (List.map (eInt .u8) ((y6.2 ++ y7.2) ++ y8.2)) (by kernel_rfl) (by simp only [take_full, take_full', List.map_append]) ?_
    refine adv_ok hm 4 _ ?_
    refine r_needT (b := (Nat.ble (0 + (List.map (eInt .u8) ((y6.2 ++ y7.2) ++ y8.2)).length) ((List.map (eInt .u8) ((y6.2 ++ y7.2) ++ y8.2)).length))) (by kernel_rfl) (ble_full _) ?_
    obtain rfl := Option.some.inj h
    have hv := ha
    simp only [After] at hv
    subst hv
    exact r_retE [] (d1 := D.tup [D.sl false 1 (List.take ((List.map (eInt .u8) ((y6.2 ++ y7.2) ++ y8.2)).length) (List.drop 0 (List.map (eInt .u8) ((y6.2 ++ y7.2) ++ y8.2)))), D.int .i64 0]) (d := D.tup [D.sl false 1 (List.map (eInt .u8) ((y6.2 ++ y7.2) ++ y8.2)), D.int .i64 0]) (s1 := []) (s := []) (by kernel_rfl) ⟨by simp [List.take_of_length_le, List.map_take, List.map_drop], rfl⟩ ⟨rfl, rfl⟩ Cx.fin_of
theorem ref04_Put_ev {p_ : Plan} {r : (List Int) × Int} (h : Ev ref04_Put_step (.s0 p_) r) : Sound E 12 [D.agg [D.int .i64 p_.Epoch, D.int .i64 p_.Target, D.int .i64 p_.Prev, D.int .i64 p_.Spill, D.int .i64 p_.Percent, D.int .i64 p_.Stamp, D.int .i64 p_.Since, D.int .i64 p_.Ramped, D.int .u64 p_.Up, D.int .u64 p_.Sup, D.sl false 1 (List.map (eInt .i64) p_.Pen), D.sl false 1 (List.map (eInt .i64) p_.Changes)]] [] (ref04_Put_Q r) :=
  sound_ofW (m := ref04_Put_M (.s0 p_)) (fn := Try.f12) (by kernel_rfl) (by kernel_rfl) (ev_run (C := (Cx.of Try.f12 false 0)) (fun s x r hs ha => by
    cases s with
    | s0 => exact ref04_Put_0_ok hs ha
    | s1 => exact ref04_Put_1_ok hs ha) h)
noncomputable def ref04_Put (p_ : Plan) : Option ((List Int) × Int) := evf ref04_Put_step (.s0 p_)
theorem ref04_Put_ok {p_ : Plan} {r : (List Int) × Int} (h : ref04_Put p_ = some r) : Sound E 12 [D.agg [D.int .i64 p_.Epoch, D.int .i64 p_.Target, D.int .i64 p_.Prev, D.int .i64 p_.Spill, D.int .i64 p_.Percent, D.int .i64 p_.Stamp, D.int .i64 p_.Since, D.int .i64 p_.Ramped, D.int .u64 p_.Up, D.int .u64 p_.Sup, D.sl false 1 (List.map (eInt .i64) p_.Pen), D.sl false 1 (List.map (eInt .i64) p_.Changes)]] [] (ref04_Put_Q r) := ref04_Put_ev (evf_ev h)
end Go.RX.L

set_option linter.unusedSimpArgs false
set_option linter.unusedVariables false
set_option maxRecDepth 100000
set_option maxHeartbeats 4000000
namespace Go.RX.L
open Go Go.RX Go.Proofs
attribute [local irreducible] FinQ
def ref04_small_Q (y : Int) (d : D) (s : Sto) : Prop := d = D.int .i64 y ∧ s = []
noncomputable def ref04_small (n : Int) : Option Int := ((ref04_in n (-1) 1000000).bind fun y1 => (bif (!y1) then (some (-2)) else (some n)))
theorem ref04_small_ok {n : Int} {r : Int} (h : ref04_small n = some r) : Sound E 30 [D.int .i64 n] [] (ref04_small_Q r) := by
  refine sound_ofW (m := ⟨[.code (bodyOf Try.f30)], [(0, D.int .i64 n)], []⟩) (fn := Try.f30) (by kernel_rfl) (by kernel_rfl) ?_
  show FinQ E (Cx.of Try.f30 false 0) (QW (ref04_small_Q r)) _
  unfold ref04_small at h
  refine adv_ok hm 9 _ ?_
  have ok1 := fun (y : Bool) (hy : ref04_in n (-1) 1000000 = some y) => ref04_in_ok hy
  refine p_callE [] (args1 := [D.int .i64 n, D.int .i64 (-1), D.int .i64 1000000]) (args := [D.int .i64 n, D.int .i64 (-1), D.int .i64 1000000]) (fun y1 => D.bool y1) (fun y1 => []) h (by kernel_rfl) ⟨rfl, rfl⟩ ok1 (fun y1 h1 h => ?_)
  refine adv_ok hm 3 _ ?_
  refine p_split h (by kernel_rfl) (fun h2 h => ?_) (fun h2 h => ?_)
  · -- true
    refine adv_ok hm 5 _ ?_
    obtain rfl := Option.some.inj h
    exact r_retF [] (d := D.int .i64 (-2)) (s := []) (by kernel_rfl) Cx.fin_of ⟨rfl, rfl⟩
  · -- false
    refine adv_ok hm 7 _ ?_
    obtain rfl := Option.some.inj h
    exact r_retF [] (d := D.int .i64 n) (s := []) (by kernel_rfl) Cx.fin_of ⟨rfl, rfl⟩
end Go.RX.L

set_option linter.unusedSimpArgs false
set_option linter.unusedVariables false
set_option maxRecDepth 100000
set_option maxHeartbeats 4000000
namespace Go.RX.L
open Go Go.RX Go.Proofs
attribute [local irreducible] FinQ
def ref04_Get_Q (y : Plan × Int) (d : D) (s : Sto) : Prop := d = D.tup [D.agg [D.int .i64 y.1.Epoch, D.int .i64 y.1.Target, D.int .i64 y.1.Prev, D.int .i64 y.1.Spill, D.int .i64 y.1.Percent, D.int .i64 y.1.Stamp, D.int .i64 y.1.Since, D.int .i64 y.1.Ramped, D.int .u64 y.1.Up, D.int .u64 y.1.Sup, D.sl false 1 (List.map (eInt .i64) y.1.Pen), D.sl false 1 (List.map (eInt .i64) y.1.Changes)], D.int .i64 y.2] ∧ s = []
inductive ref04_Get_S where
  | s0 (b : List Int)
  | s1 (b : List Int) (l_ : List Int) (at_ : Int) (t24 : Bool) (b0 : Plan)
  | s2 (l_ : List Int) (pen : List Int) (changes : List Int) (t62 : Bool) (b0 : Plan)
  | s3 (pen : List Int) (i : Int) (b0 : Plan) (Epoch_ : Int) (Target_ : Int) (Prev_ : Int) (Spill_ : Int) (Percent_ : Int) (Stamp_ : Int) (Since_ : Int) (Ramped_ : Int) (Up_ : Int) (Sup_ : Int) (Changes_ : List Int) (b2 : List Int)
noncomputable def ref04_Get_M : ref04_Get_S → M
  | .s0 b => ⟨[.code (bodyOf Try.f16)], [(0, D.sl false 1 (List.map (eInt .u8) b))], []⟩
  | .s1 b l_ at_ t24 b0 => { td := [It.code (codeAt (bodyOf Try.f16) [1, 1, 0, 1]), It.code (codeAt (bodyOf Try.f16) [1, 1, 1])], fr := [(0, D.sl false 1 (List.map (eInt .u8) b)), (2, D.ptr 0 0 0), (4, D.sl false 1 (List.map (eInt .i64) l_)), (5, D.int .i64 at_), (24, D.bool t24)], st := [some { sz := 12, deep := false, rows := [[D.int .i64 b0.Epoch, D.int .i64 b0.Target, D.int .i64 b0.Prev, D.int .i64 b0.Spill, D.int .i64 b0.Percent, D.int .i64 b0.Stamp, D.int .i64 b0.Since, D.int .i64 b0.Ramped, D.int .u64 b0.Up, D.int .u64 b0.Sup, D.sl false 1 (List.map (eInt .i64) b0.Pen), D.sl false 1 (List.map (eInt .i64) b0.Changes)]] }] }
  | .s2 l_ pen changes t62 b0 => { td := [It.code (codeAt (bodyOf Try.f16) [1, 1, 1, 1, 1, 1, 0, 1]), It.code (codeAt (bodyOf Try.f16) [1, 1, 1, 1, 1, 1, 1])], fr := [(2, D.ptr 0 0 0), (4, D.sl false 1 (List.map (eInt .i64) l_)), (7, D.sl false 1 (List.map (eInt .i64) pen)), (8, D.sl false 1 (List.map (eInt .i64) changes)), (62, D.bool t62)], st := [some { sz := 12, deep := false, rows := [[D.int .i64 b0.Epoch, D.int .i64 b0.Target, D.int .i64 b0.Prev, D.int .i64 b0.Spill, D.int .i64 b0.Percent, D.int .i64 b0.Stamp, D.int .i64 b0.Since, D.int .i64 b0.Ramped, D.int .u64 b0.Up, D.int .u64 b0.Sup, D.sl false 1 (List.map (eInt .i64) b0.Pen), D.sl false 1 (List.map (eInt .i64) b0.Changes)]] }] }
  | .s3 pen i b0 Epoch_ Target_ Prev_ Spill_ Percent_ Stamp_ Since_ Ramped_ Up_ Sup_ Changes_ b2 => { td := [It.lpc (codeAt (bodyOf Try.f16) [1, 1, 1, 1, 1, 1, 1, 1, 0, 1, 0, 0]) 1668, It.blk 0, It.code (codeAt (bodyOf Try.f16) [1, 1, 1, 1, 1, 1, 1, 1, 1])], fr := [(2, D.ptr 0 0 0), (7, D.sl false 1 (List.map (eInt .i64) pen)), (9, D.ptr 1 0 0), (10, D.int .i64 i)], st := [some { sz := 12, deep := false, rows := [[D.int .i64 b0.Epoch, D.int .i64 b0.Target, D.int .i64 b0.Prev, D.int .i64 b0.Spill, D.int .i64 b0.Percent, D.int .i64 b0.Stamp, D.int .i64 b0.Since, D.int .i64 b0.Ramped, D.int .u64 b0.Up, D.int .u64 b0.Sup, D.sl false 1 (List.map (eInt .i64) b0.Pen), D.sl false 1 (List.map (eInt .i64) b0.Changes)]] }, some { sz := 12, deep := true, rows := [[D.int .i64 Epoch_, D.int .i64 Target_, D.int .i64 Prev_, D.int .i64 Spill_, D.int .i64 Percent_, D.int .i64 Stamp_, D.int .i64 Since_, D.int .i64 Ramped_, D.int .u64 Up_, D.int .u64 Sup_, D.msl 2 0 ((List.map (eInt .i64) b2).length) ((List.map (eInt .i64) b2).length) false, D.sl false 1 (List.map (eInt .i64) Changes_)]] }, some { sz := 1, deep := false, rows := (List.map (eInt .i64) b2) }] }
noncomputable def ref04_Get_0 (b : List Int) : Option (ref04_Get_S ⊕ (Plan × Int)) := ((ref01_Ints b 0).bind fun y1 => (bif ((y1.2.2 : Int) != 0) then (some (.inl (.s1 b y1.1 y1.2.1 true (⟨0, 0, 0, 0, 0, 0, 0, 0, 0, 0, [], []⟩ : Plan)))) else (some (.inl (.s1 b y1.1 y1.2.1 (((((List.map (eInt .i64) y1.1).length : Nat) : Int) : Int) != 10) (⟨0, 0, 0, 0, 0, 0, 0, 0, 0, 0, [], []⟩ : Plan))))))
noncomputable def ref04_Get_1 (b : List Int) (l_ : List Int) (at_ : Int) (t24 : Bool) (b0 : Plan) : Option (ref04_Get_S ⊕ (Plan × Int)) := (bif t24 then (some (.inr ((⟨0, 0, 0, 0, 0, 0, 0, 0, 0, 0, [], []⟩ : Plan), 41))) else ((ref01_Ints b at_).bind fun y2 => (bif ((y2.2.2 : Int) != 0) then (some (.inr ((⟨0, 0, 0, 0, 0, 0, 0, 0, 0, 0, [], []⟩ : Plan), 41))) else ((ref01_Ints b y2.2.1).bind fun y4 => (bif ((y4.2.2 : Int) != 0) then (some (.inl (.s2 l_ y2.1 y4.1 true b0))) else (bif ((y4.2.1 : Int) != (((List.map (eInt .u8) b).length : Nat) : Int)) then (some (.inl (.s2 l_ y2.1 y4.1 true b0))) else (bif (decide ((8 : Int) < (((List.map (eInt .i64) l_).length : Nat) : Int))) then (((l_)[8]?).bind fun y8 => (bif (decide ((y8 : Int) < 0)) then (some (.inl (.s2 l_ y2.1 y4.1 true b0))) else (bif (decide ((9 : Int) < (((List.map (eInt .i64) l_).length : Nat) : Int))) then (((l_)[9]?).bind fun y12 => (some (.inl (.s2 l_ y2.1 y4.1 (decide ((y12 : Int) < 0)) b0)))) else none))) else none)))))))
noncomputable def ref04_Get_2 (l_ : List Int) (pen : List Int) (changes : List Int) (t62 : Bool) (b0 : Plan) : Option (ref04_Get_S ⊕ (Plan × Int)) := (bif t62 then (some (.inr ((⟨0, 0, 0, 0, 0, 0, 0, 0, 0, 0, [], []⟩ : Plan), 41))) else (bif (decide ((0 : Int) < (((List.map (eInt .i64) l_).length : Nat) : Int))) then (((l_)[0]?).bind fun y3 => (bif (decide ((1 : Int) < (((List.map (eInt .i64) l_).length : Nat) : Int))) then (((l_)[1]?).bind fun y6 => ((ref04_small y6).bind fun y8 => (bif (decide ((2 : Int) < (((List.map (eInt .i64) l_).length : Nat) : Int))) then (((l_)[2]?).bind fun y10 => ((ref04_small y10).bind fun y12 => (bif (decide ((3 : Int) < (((List.map (eInt .i64) l_).length : Nat) : Int))) then (((l_)[3]?).bind fun y14 => ((ref04_small y14).bind fun y16 => (bif (decide ((4 : Int) < (((List.map (eInt .i64) l_).length : Nat) : Int))) then (((l_)[4]?).bind fun y18 => ((ref04_small y18).bind fun y20 => (bif (decide ((5 : Int) < (((List.map (eInt .i64) l_).length : Nat) : Int))) then (((l_)[5]?).bind fun y22 => (bif (decide ((6 : Int) < (((List.map (eInt .i64) l_).length : Nat) : Int))) then (((l_)[6]?).bind fun y25 => (bif (decide ((7 : Int) < (((List.map (eInt .i64) l_).length : Nat) : Int))) then (((l_)[7]?).bind fun y28 => (bif (decide ((8 : Int) < (((List.map (eInt .i64) l_).length : Nat) : Int))) then (((l_)[8]?).bind fun y31 => (bif (decide ((9 : Int) < (((List.map (eInt .i64) l_).length : Nat) : Int))) then (((l_)[9]?).bind fun y34 => (some (.inl (.s3 pen 0 b0 y3 y8 y12 y16 y20 y22 y25 y28 (IntKind.u64.wrap (y31)) (IntKind.u64.wrap (y34)) changes ([]))))) else none)) else none)) else none)) else none)) else none))) else none))) else none))) else none))) else none)) else none))
noncomputable def ref04_Get_3 (pen : List Int) (i : Int) (b0 : Plan) (Epoch_ : Int) (Target_ : Int) (Prev_ : Int) (Spill_ : Int) (Percent_ : Int) (Stamp_ : Int) (Since_ : Int) (Ramped_ : Int) (Up_ : Int) (Sup_ : Int) (Changes_ : List Int) (b2 : List Int) : Option (ref04_Get_S ⊕ (Plan × Int)) := (bif (decide ((i : Int) < (((List.map (eInt .i64) pen).length : Nat) : Int))) then (bif ((decide ((0 : Int) ≤ i)) && (decide ((i : Int) < (((List.map (eInt .i64) pen).length : Nat) : Int)))) then (((pen)[i.toNat]?).bind fun y3 => ((ref04_small y3).bind fun y5 => (bif (decide (((List.map (eInt .i64) b2).length + 1) * 8 ≤ bytesLim)) then (some (.inl (.s3 pen (IntKind.i64.wrap (i + 1)) b0 Epoch_ Target_ Prev_ Spill_ Percent_ Stamp_ Since_ Ramped_ Up_ Sup_ Changes_ (b2 ++ [y5])))) else none))) else none) else ((ref04_Right (⟨Epoch_, Target_, Prev_, Spill_, Percent_, Stamp_, Since_, Ramped_, Up_, Sup_, b2, Changes_⟩ : Plan)).bind fun y7 => (bif (!y7) then (some (.inr ((⟨0, 0, 0, 0, 0, 0, 0, 0, 0, 0, [], []⟩ : Plan), 41))) else (some (.inr ((⟨Epoch_, Target_, Prev_, Spill_, Percent_, Stamp_, Since_, Ramped_, Up_, Sup_, b2, Changes_⟩ : Plan), 0))))))
noncomputable def ref04_Get_step : ref04_Get_S → Option (ref04_Get_S ⊕ (Plan × Int))
  | .s0 b => ref04_Get_0 b
  | .s1 b l_ at_ t24 b0 => ref04_Get_1 b l_ at_ t24 b0
  | .s2 l_ pen changes t62 b0 => ref04_Get_2 l_ pen changes t62 b0
  | .s3 pen i b0 Epoch_ Target_ Prev_ Spill_ Percent_ Stamp_ Since_ Ramped_ Up_ Sup_ Changes_ b2 => ref04_Get_3 pen i b0 Epoch_ Target_ Prev_ Spill_ Percent_ Stamp_ Since_ Ramped_ Up_ Sup_ Changes_ b2
theorem ref04_Get_0_ok {b : List Int} {r : Plan × Int} {x : ref04_Get_S ⊕ (Plan × Int)} (h : ref04_Get_0 b = some x) (ha : After E (Cx.of Try.f16 false 0) ref04_Get_Q ref04_Get_M r x) : FinQ E (Cx.of Try.f16 false 0) (QW (ref04_Get_Q r)) (.go (ref04_Get_M (.s0 b))) := by
  unfold ref04_Get_0 at h
  refine adv_ok hm 9 _ ?_
  have ok1 := fun (y : (List Int) × Int × Int) (hy : ref01_Ints b 0 = some y) => ref01_Ints_ok hy
  refine p_callE [] (args1 := [D.sl false 1 (List.map (eInt .u8) b), D.int .i64 0]) (args := [D.sl false 1 (List.map (eInt .u8) b), D.int .i64 0]) (fun y1 => D.tup [D.sl false 1 (List.map (eInt .i64) y1.1), D.int .i64 y1.2.1, D.int .i64 y1.2.2]) (fun y1 => []) h (by kernel_rfl) ⟨rfl, rfl⟩ ok1 (fun y1 h1 h => ?_)
  refine adv_ok hm 15 _ ?_
  refine p_split h (by kernel_rfl) (fun h2 h => ?_) (fun h2 h => ?_)
  · -- true
    refine adv_ok hm 7 _ ?_
    obtain rfl := Option.some.inj h
    exact r_cut 16777269 [.blk 0 [some 1, some 1]] (m' := (ref04_Get_M (.s1 b y1.1 y1.2.1 true (⟨0, 0, 0, 0, 0, 0, 0, 0, 0, 0, [], []⟩ : Plan)))) (by kernel_rfl) ha
  · -- false
    refine adv_ok hm 7 _ ?_
    obtain rfl := Option.some.inj h
    exact r_cut 16777269 [.blk 0 [some 1, some 1]] (m' := (ref04_Get_M (.s1 b y1.1 y1.2.1 (((((List.map (eInt .i64) y1.1).length : Nat) : Int) : Int) != 10) (⟨0, 0, 0, 0, 0, 0, 0, 0, 0, 0, [], []⟩ : Plan)))) (by kernel_rfl) ha
theorem ref04_Get_1_ok {b : List Int} {l_ : List Int} {at_ : Int} {t24 : Bool} {b0 : Plan} {r : Plan × Int} {x : ref04_Get_S ⊕ (Plan × Int)} (h : ref04_Get_1 b l_ at_ t24 b0 = some x) (ha : After E (Cx.of Try.f16 false 0) ref04_Get_Q ref04_Get_M r x) : FinQ E (Cx.of Try.f16 false 0) (QW (ref04_Get_Q r)) (.go (ref04_Get_M (.s1 b l_ at_ t24 b0))) := by
  unfold ref04_Get_1 at h
  refine adv_ok hm 1 _ ?_
  refine p_split h (by kernel_rfl) (fun h1 h => ?_) (fun h1 h => ?_)
  · -- true
    refine adv_ok hm 10 _ ?_
    obtain rfl := Option.some.inj h
    have hv := ha
    simp only [After] at hv
    subst hv
    exact r_retF [.slot 0 [some 1, some 1]] (d := D.tup [D.agg [D.int .i64 0, D.int .i64 0, D.int .i64 0, D.int .i64 0, D.int .i64 0, D.int .i64 0, D.int .i64 0, D.int .i64 0, D.int .u64 0, D.int .u64 0, D.sl false 1 [], D.sl false 1 []], D.int .i64 41]) (s := []) (by kernel_rfl) Cx.fin_of ⟨rfl, rfl⟩
  · -- false
    refine adv_ok hm 6 _ ?_
    have ok2 := fun (y : (List Int) × Int × Int) (hy : ref01_Ints b at_ = some y) => ref01_Ints_ok hy
    refine p_callE [] (args1 := [D.sl false 1 (List.map (eInt .u8) b), D.int .i64 at_]) (args := [D.sl false 1 (List.map (eInt .u8) b), D.int .i64 at_]) (fun y2 => D.tup [D.sl false 1 (List.map (eInt .i64) y2.1), D.int .i64 y2.2.1, D.int .i64 y2.2.2]) (fun y2 => []) h (by kernel_rfl) ⟨rfl, rfl⟩ ok2 (fun y2 h2 h => ?_)
    refine adv_ok hm 15 _ ?_
    refine p_split h (by kernel_rfl) (fun h3 h => ?_) (fun h3 h => ?_)
    · -- true
      refine adv_ok hm 10 _ ?_
      obtain rfl := Option.some.inj h
      have hv := ha
      simp only [After] at hv
      subst hv
      exact r_retF [.slot 0 [some 1, some 1]] (d := D.tup [D.agg [D.int .i64 0, D.int .i64 0, D.int .i64 0, D.int .i64 0, D.int .i64 0, D.int .i64 0, D.int .i64 0, D.int .i64 0, D.int .u64 0, D.int .u64 0, D.sl false 1 [], D.sl false 1 []], D.int .i64 41]) (s := []) (by kernel_rfl) Cx.fin_of ⟨rfl, rfl⟩
    · -- false
      refine adv_ok hm 6 _ ?_
      have ok4 := fun (y : (List Int) × Int × Int) (hy : ref01_Ints b y2.2.1 = some y) => ref01_Ints_ok hy
      refine p_callE [] (args1 := [D.sl false 1 (List.map (eInt .u8) b), D.int .i64 y2.2.1]) (args := [D.sl false 1 (List.map (eInt .u8) b), D.int .i64 y2.2.1]) (fun y4 => D.tup [D.sl false 1 (List.map (eInt .i64) y4.1), D.int .i64 y4.2.1, D.int .i64 y4.2.2]) (fun y4 => []) h (by kernel_rfl) ⟨rfl, rfl⟩ ok4 (fun y4 h4 h => ?_)
      refine adv_ok hm 15 _ ?_
      refine p_split h (by kernel_rfl) (fun h5 h => ?_) (fun h5 h => ?_)
      · -- true
        refine adv_ok hm 31 _ ?_
        obtain rfl := Option.some.inj h
        exact r_cut 4611686018427388308 [] (m' := (ref04_Get_M (.s2 l_ y2.1 y4.1 true b0))) (by kernel_rfl) ha
      · -- false
        refine adv_ok hm 10 _ ?_
        refine p_split h (by kernel_rfl) (fun h6 h => ?_) (fun h6 h => ?_)
        · -- true
          refine adv_ok hm 20 _ ?_
          obtain rfl := Option.some.inj h
          exact r_cut 4611686018427388308 [] (m' := (ref04_Get_M (.s2 l_ y2.1 y4.1 true b0))) (by kernel_rfl) ha
        · -- false
          refine adv_ok hm 2 _ ?_
          refine p_need h (by kernel_rfl) (fun h7 h => ?_)
          refine adv_ok hm 2 _ ?_
          refine p_row (((List.map (eInt .i64) l_))[8]?) (eInt .i64) h (by kernel_rfl) List.getElem?_map (fun y8 h9 h => ?_)
          refine adv_ok hm 6 _ ?_
          refine p_split h (by kernel_rfl) (fun h10 h => ?_) (fun h10 h => ?_)
          · -- true
            refine adv_ok hm 9 _ ?_
            obtain rfl := Option.some.inj h
            exact r_cut 4611686018427388308 [] (m' := (ref04_Get_M (.s2 l_ y2.1 y4.1 true b0))) (by kernel_rfl) ha
          · -- false
            refine adv_ok hm 2 _ ?_
            refine p_need h (by kernel_rfl) (fun h11 h => ?_)
            refine adv_ok hm 2 _ ?_
            refine p_row (((List.map (eInt .i64) l_))[9]?) (eInt .i64) h (by kernel_rfl) List.getElem?_map (fun y12 h13 h => ?_)
            refine adv_ok hm 5 _ ?_
            obtain rfl := Option.some.inj h
            exact r_cut 4611686018427388308 [] (m' := (ref04_Get_M (.s2 l_ y2.1 y4.1 (decide ((y12 : Int) < 0)) b0))) (by kernel_rfl) ha
theorem ref04_Get_2_ok {l_ : List Int} {pen : List Int} {changes : List Int} {t62 : Bool} {b0 : Plan} {r : Plan × Int} {x : ref04_Get_S ⊕ (Plan × Int)} (h : ref04_Get_2 l_ pen changes t62 b0 = some x) (ha : After E (Cx.of Try.f16 false 0) ref04_Get_Q ref04_Get_M r x) : FinQ E (Cx.of Try.f16 false 0) (QW (ref04_Get_Q r)) (.go (ref04_Get_M (.s2 l_ pen changes t62 b0))) := by
  unfold ref04_Get_2 at h
  refine adv_ok hm 1 _ ?_
  refine p_split h (by kernel_rfl) (fun h1 h => ?_) (fun h1 h => ?_)
  · -- true
    refine adv_ok hm 10 _ ?_
    obtain rfl := Option.some.inj h
    have hv := ha
    simp only [After] at hv
    subst hv
    exact r_retF [.slot 0 [some 1, some 1]] (d := D.tup [D.agg [D.int .i64 0, D.int .i64 0, D.int .i64 0, D.int .i64 0, D.int .i64 0, D.int .i64 0, D.int .i64 0, D.int .i64 0, D.int .u64 0, D.int .u64 0, D.sl false 1 [], D.sl false 1 []], D.int .i64 41]) (s := []) (by kernel_rfl) Cx.fin_of ⟨rfl, rfl⟩
  · -- false
    refine adv_ok hm 3 _ ?_
    refine p_need h (by kernel_rfl) (fun h2 h => ?_)
    refine p_row (((List.map (eInt .i64) l_))[0]?) (eInt .i64) h (by kernel_rfl) List.getElem?_map (fun y3 h4 h => ?_)
    refine p_need h (by kernel_rfl) (fun h5 h => ?_)
    refine p_row (((List.map (eInt .i64) l_))[1]?) (eInt .i64) h (by kernel_rfl) List.getElem?_map (fun y6 h7 h => ?_)
    have ok8 := fun (y : Int) (hy : ref04_small y6 = some y) => ref04_small_ok hy
    refine p_callDE [] (args1 := [D.int .i64 y6]) (args := [D.int .i64 y6]) (fun y8 => D.int .i64 y8) h (by kernel_rfl) rfl ok8 (fun y8 h8 h => ?_)
    refine p_need h (by kernel_rfl) (fun h9 h => ?_)
    refine p_row (((List.map (eInt .i64) l_))[2]?) (eInt .i64) h (by kernel_rfl) List.getElem?_map (fun y10 h11 h => ?_)
    have ok12 := fun (y : Int) (hy : ref04_small y10 = some y) => ref04_small_ok hy
    refine p_callDE [] (args1 := [D.int .i64 y10]) (args := [D.int .i64 y10]) (fun y12 => D.int .i64 y12) h (by kernel_rfl) rfl ok12 (fun y12 h12 h => ?_)
    refine p_need h (by kernel_rfl) (fun h13 h => ?_)
    refine p_row (((List.map (eInt .i64) l_))[3]?) (eInt .i64) h (by kernel_rfl) List.getElem?_map (fun y14 h15 h => ?_)
    have ok16 := fun (y : Int) (hy : ref04_small y14 = some y) => ref04_small_ok hy
    refine p_callDE [] (args1 := [D.int .i64 y14]) (args := [D.int .i64 y14]) (fun y16 => D.int .i64 y16) h (by kernel_rfl) rfl ok16 (fun y16 h16 h => ?_)
    refine p_need h (by kernel_rfl) (fun h17 h => ?_)
    refine p_row (((List.map (eInt .i64) l_))[4]?) (eInt .i64) h (by kernel_rfl) List.getElem?_map (fun y18 h19 h => ?_)
    have ok20 := fun (y : Int) (hy : ref04_small y18 = some y) => ref04_small_ok hy
    refine p_callDE [] (args1 := [D.int .i64 y18]) (args := [D.int .i64 y18]) (fun y20 => D.int .i64 y20) h (by kernel_rfl) rfl ok20 (fun y20 h20 h => ?_)
    refine p_need h (by kernel_rfl) (fun h21 h => ?_)
    refine p_row (((List.map (eInt .i64) l_))[5]?) (eInt .i64) h (by kernel_rfl) List.getElem?_map (fun y22 h23 h => ?_)
    refine p_need h (by kernel_rfl) (fun h24 h => ?_)
    refine p_row (((List.map (eInt .i64) l_))[6]?) (eInt .i64) h (by kernel_rfl) List.getElem?_map (fun y25 h26 h => ?_)
    refine p_need h (by kernel_rfl) (fun h27 h => ?_)
    refine p_row (((List.map (eInt .i64) l_))[7]?) (eInt .i64) h (by kernel_rfl) List.getElem?_map (fun y28 h29 h => ?_)
    refine p_need h (by kernel_rfl) (fun h30 h => ?_)
    refine p_row (((List.map (eInt .i64) l_))[8]?) (eInt .i64) h (by kernel_rfl) List.getElem?_map (fun y31 h32 h => ?_)
    refine p_need h (by kernel_rfl) (fun h33 h => ?_)
    refine p_row (((List.map (eInt .i64) l_))[9]?) (eInt .i64) h (by kernel_rfl) List.getElem?_map (fun y34 h35 h => ?_)
    refine adv_ok hm 10 _ ?_
    obtain rfl := Option.some.inj h
    refine r_cut 1668 [.matc 1 0 10 1] (m' := { td := [It.lpc (codeAt (bodyOf Try.f16) [1, 1, 1, 1, 1, 1, 1, 1, 0, 1, 0, 0]) 1668, It.blk 0, It.code (codeAt (bodyOf Try.f16) [1, 1, 1, 1, 1, 1, 1, 1, 1])], fr := [(2, D.ptr 0 0 0), (7, D.sl false 1 (List.map (eInt .i64) pen)), (9, D.ptr 1 0 0), (10, D.int .i64 0)], st := [some { sz := 12, deep := false, rows := [[D.int .i64 b0.Epoch, D.int .i64 b0.Target, D.int .i64 b0.Prev, D.int .i64 b0.Spill, D.int .i64 b0.Percent, D.int .i64 b0.Stamp, D.int .i64 b0.Since, D.int .i64 b0.Ramped, D.int .u64 b0.Up, D.int .u64 b0.Sup, D.sl false 1 (List.map (eInt .i64) b0.Pen), D.sl false 1 (List.map (eInt .i64) b0.Changes)]] }, some { sz := 12, deep := true, rows := [[D.int .i64 y3, D.int .i64 y8, D.int .i64 y12, D.int .i64 y16, D.int .i64 y20, D.int .i64 y22, D.int .i64 y25, D.int .i64 y28, D.int .u64 (IntKind.u64.wrap (y31)), D.int .u64 (IntKind.u64.wrap (y34)), D.msl 2 0 0 0 false, D.sl false 1 (List.map (eInt .i64) changes)]] }, some { sz := 1, deep := false, rows := [] }] }) (by kernel_rfl) ?_
    refine r_len (n1 := 0) (n2 := (List.map (eInt .i64) ([])).length) (fun n_len => .go { td := [It.lpc (codeAt (bodyOf Try.f16) [1, 1, 1, 1, 1, 1, 1, 1, 0, 1, 0, 0]) 1668, It.blk 0, It.code (codeAt (bodyOf Try.f16) [1, 1, 1, 1, 1, 1, 1, 1, 1])], fr := [(2, D.ptr 0 0 0), (7, D.sl false 1 (List.map (eInt .i64) pen)), (9, D.ptr 1 0 0), (10, D.int .i64 0)], st := [some { sz := 12, deep := false, rows := [[D.int .i64 b0.Epoch, D.int .i64 b0.Target, D.int .i64 b0.Prev, D.int .i64 b0.Spill, D.int .i64 b0.Percent, D.int .i64 b0.Stamp, D.int .i64 b0.Since, D.int .i64 b0.Ramped, D.int .u64 b0.Up, D.int .u64 b0.Sup, D.sl false 1 (List.map (eInt .i64) b0.Pen), D.sl false 1 (List.map (eInt .i64) b0.Changes)]] }, some { sz := 12, deep := true, rows := [[D.int .i64 y3, D.int .i64 y8, D.int .i64 y12, D.int .i64 y16, D.int .i64 y20, D.int .i64 y22, D.int .i64 y25, D.int .i64 y28, D.int .u64 (IntKind.u64.wrap (y31)), D.int .u64 (IntKind.u64.wrap (y34)), D.msl 2 0 n_len n_len false, D.sl false 1 (List.map (eInt .i64) changes)]] }, some { sz := 1, deep := false, rows := [] }] }) (by simp) ?_
    exact ha
theorem ref04_Get_3_ok {pen : List Int} {i : Int} {b0 : Plan} {Epoch_ : Int} {Target_ : Int} {Prev_ : Int} {Spill_ : Int} {Percent_ : Int} {Stamp_ : Int} {Since_ : Int} {Ramped_ : Int} {Up_ : Int} {Sup_ : Int} {Changes_ : List Int} {b2 : List Int} {r : Plan × Int} {x : ref04_Get_S ⊕ (Plan × Int)} (h : ref04_Get_3 pen i b0 Epoch_ Target_ Prev_ Spill_ Percent_ Stamp_ Since_ Ramped_ Up_ Sup_ Changes_ b2 = some x) (ha : After E (Cx.of Try.f16 false 0) ref04_Get_Q ref04_Get_M r x) : FinQ E (Cx.of Try.f16 false 0) (QW (ref04_Get_Q r)) (.go (ref04_Get_M (.s3 pen i b0 Epoch_ Target_ Prev_ Spill_ Percent_ Stamp_ Since_ Ramped_ Up_ Sup_ Changes_ b2))) := by
  unfold ref04_Get_3 at h
  refine adv_ok hm 10 _ ?_
  refine p_split h (by kernel_rfl) (fun h1 h => ?_) (fun h1 h => ?_)
  · -- true
    refine adv_ok hm 5 _ ?_
    refine p_need h (by kernel_rfl) (fun h2 h => ?_)
    refine p_row (((List.map (eInt .i64) pen))[i.toNat]?) (eInt .i64) h (by kernel_rfl) List.getElem?_map (fun y3 h4 h => ?_)
    have ok5 := fun (y : Int) (hy : ref04_small y3 = some y) => ref04_small_ok hy
    refine p_callDE [] (args1 := [D.int .i64 y3]) (args := [D.int .i64 y3]) (fun y5 => D.int .i64 y5) h (by kernel_rfl) rfl ok5 (fun y5 h5 h => ?_)
    refine adv_ok hm 1 _ ?_
    refine p_need h (by kernel_rfl) (fun h6 h => ?_)
    refine r_needT (b := (Nat.ble (0 + (List.map (eInt .i64) b2).length) ((List.map (eInt .i64) b2).length))) (by kernel_rfl) (ble_full _) ?_
    refine r_rows (List.take ((List.map (eInt .i64) b2).length) (List.drop 0 (List.map (eInt .i64) b2)) ++ (List.map (eInt .i64) ([y5]))) (List.map (eInt .i64) (b2 ++ [y5])) (by kernel_rfl) (rows_app _ _ _) ?_
    refine adv_ok hm 9 _ ?_
    obtain rfl := Option.some.inj h
    exact r_to (q' := .go (ref04_Get_M (.s3 pen (IntKind.i64.wrap (i + 1)) b0 Epoch_ Target_ Prev_ Spill_ Percent_ Stamp_ Since_ Ramped_ Up_ Sup_ Changes_ (b2 ++ [y5])))) (by kernel_rfl) ha
  · -- false
    refine adv_ok hm 6 _ ?_
    refine r_needT (b := (Nat.ble (0 + (List.map (eInt .i64) b2).length) ((List.map (eInt .i64) b2).length))) (by kernel_rfl) (ble_full _) ?_
    have ok7 := fun (y : Bool) (hy : ref04_Right (⟨Epoch_, Target_, Prev_, Spill_, Percent_, Stamp_, Since_, Ramped_, Up_, Sup_, b2, Changes_⟩ : Plan) = some y) => ref04_Right_ok hy
    refine p_callE [] (args1 := [D.agg [D.int .i64 Epoch_, D.int .i64 Target_, D.int .i64 Prev_, D.int .i64 Spill_, D.int .i64 Percent_, D.int .i64 Stamp_, D.int .i64 Since_, D.int .i64 Ramped_, D.int .u64 Up_, D.int .u64 Sup_, D.sl false 1 (List.take ((List.map (eInt .i64) b2).length) (List.drop 0 (List.map (eInt .i64) b2))), D.sl false 1 (List.map (eInt .i64) Changes_)]]) (args := [D.agg [D.int .i64 Epoch_, D.int .i64 Target_, D.int .i64 Prev_, D.int .i64 Spill_, D.int .i64 Percent_, D.int .i64 Stamp_, D.int .i64 Since_, D.int .i64 Ramped_, D.int .u64 Up_, D.int .u64 Sup_, D.sl false 1 (List.map (eInt .i64) b2), D.sl false 1 (List.map (eInt .i64) Changes_)]]) (fun y7 => D.bool y7) (fun y7 => []) h (by kernel_rfl) ⟨by simp [List.take_of_length_le, List.map_take, List.map_drop], rfl⟩ ok7 (fun y7 h7 h => ?_)
    refine adv_ok hm 9 _ ?_
    refine p_split h (by kernel_rfl) (fun h8 h => ?_) (fun h8 h => ?_)
    · -- true
      refine adv_ok hm 10 _ ?_
      obtain rfl := Option.some.inj h
      have hv := ha
      simp only [After] at hv
      subst hv
      exact r_retF [.slot 0 [some 1, some 1]] (d := D.tup [D.agg [D.int .i64 0, D.int .i64 0, D.int .i64 0, D.int .i64 0, D.int .i64 0, D.int .i64 0, D.int .i64 0, D.int .i64 0, D.int .u64 0, D.int .u64 0, D.sl false 1 [], D.sl false 1 []], D.int .i64 41]) (s := []) (by kernel_rfl) Cx.fin_of ⟨rfl, rfl⟩
    · -- false
      refine adv_ok hm 12 _ ?_
      refine r_needT (b := (Nat.ble (0 + (List.map (eInt .i64) b2).length) ((List.map (eInt .i64) b2).length))) (by kernel_rfl) (ble_full _) ?_
      obtain rfl := Option.some.inj h
      have hv := ha
      simp only [After] at hv
      subst hv
      exact r_retE [] (d1 := D.tup [D.agg [D.int .i64 Epoch_, D.int .i64 Target_, D.int .i64 Prev_, D.int .i64 Spill_, D.int .i64 Percent_, D.int .i64 Stamp_, D.int .i64 Since_, D.int .i64 Ramped_, D.int .u64 Up_, D.int .u64 Sup_, D.sl false 1 (List.take ((List.map (eInt .i64) b2).length) (List.drop 0 (List.map (eInt .i64) b2))), D.sl false 1 (List.map (eInt .i64) Changes_)], D.int .i64 0]) (d := D.tup [D.agg [D.int .i64 Epoch_, D.int .i64 Target_, D.int .i64 Prev_, D.int .i64 Spill_, D.int .i64 Percent_, D.int .i64 Stamp_, D.int .i64 Since_, D.int .i64 Ramped_, D.int .u64 Up_, D.int .u64 Sup_, D.sl false 1 (List.map (eInt .i64) b2), D.sl false 1 (List.map (eInt .i64) Changes_)], D.int .i64 0]) (s1 := []) (s := []) (by kernel_rfl) ⟨by simp [List.take_of_length_le, List.map_take, List.map_drop], rfl⟩ ⟨rfl, rfl⟩ Cx.fin_of
theorem ref04_Get_ev {b : List Int} {r : Plan × Int} (h : Ev ref04_Get_step (.s0 b) r) : Sound E 16 [D.sl false 1 (List.map (eInt .u8) b)] [] (ref04_Get_Q r) :=
  sound_ofW (m := ref04_Get_M (.s0 b)) (fn := Try.f16) (by kernel_rfl) (by kernel_rfl) (ev_run (C := (Cx.of Try.f16 false 0)) (fun s x r hs ha => by
    cases s with
    | s0 => exact ref04_Get_0_ok hs ha
    | s1 => exact ref04_Get_1_ok hs ha
    | s2 => exact ref04_Get_2_ok hs ha
    | s3 => exact ref04_Get_3_ok hs ha) h)
noncomputable def ref04_Get (b : List Int) : Option (Plan × Int) := evf ref04_Get_step (.s0 b)
theorem ref04_Get_ok {b : List Int} {r : Plan × Int} (h : ref04_Get b = some r) : Sound E 16 [D.sl false 1 (List.map (eInt .u8) b)] [] (ref04_Get_Q r) := ref04_Get_ev (evf_ev h)
end Go.RX.L

set_option linter.unusedSimpArgs false
set_option linter.unusedVariables false
set_option maxRecDepth 100000
set_option maxHeartbeats 4000000
namespace Go.RX.L
open Go Go.RX Go.Proofs
attribute [local irreducible] FinQ
def ref01_Same_Q (y : Bool) (d : D) (s : Sto) : Prop := d = D.bool y ∧ s = []
inductive ref01_Same_S where
  | s0 (a : List Int) (b : List Int)
  | s1 (a : List Int) (b : List Int) (i : Int)
noncomputable def ref01_Same_M : ref01_Same_S → M
  | .s0 a b => ⟨[.code (bodyOf Try.f31)], [(0, D.sl false 1 (List.map (eInt .i64) a)), (1, D.sl false 1 (List.map (eInt .i64) b))], []⟩
  | .s1 a b i => { td := [It.lpc (codeAt (bodyOf Try.f31) [1, 1, 0, 1, 0, 0]) 35, It.blk 0, It.code (codeAt (bodyOf Try.f31) [1, 1, 1])], fr := [(0, D.sl false 1 (List.map (eInt .i64) a)), (1, D.sl false 1 (List.map (eInt .i64) b)), (5, D.int .i64 i)], st := [] }
noncomputable def ref01_Same_0 (a : List Int) (b : List Int) : Option (ref01_Same_S ⊕ Bool) := (bif (((((List.map (eInt .i64) a).length : Nat) : Int) : Int) != (((List.map (eInt .i64) b).length : Nat) : Int)) then (some (.inr false)) else (some (.inl (.s1 a b 0))))
noncomputable def ref01_Same_1 (a : List Int) (b : List Int) (i : Int) : Option (ref01_Same_S ⊕ Bool) := (bif (decide ((i : Int) < (((List.map (eInt .i64) a).length : Nat) : Int))) then (bif ((decide ((0 : Int) ≤ i)) && (decide ((i : Int) < (((List.map (eInt .i64) a).length : Nat) : Int)))) then (((a)[i.toNat]?).bind fun y3 => (bif ((decide ((0 : Int) ≤ i)) && (decide ((i : Int) < (((List.map (eInt .i64) b).length : Nat) : Int)))) then (((b)[i.toNat]?).bind fun y6 => (bif ((y3 : Int) != y6) then (some (.inr false)) else (some (.inl (.s1 a b (IntKind.i64.wrap (i + 1))))))) else none)) else none) else (some (.inr true)))
noncomputable def ref01_Same_step : ref01_Same_S → Option (ref01_Same_S ⊕ Bool)
  | .s0 a b => ref01_Same_0 a b
  | .s1 a b i => ref01_Same_1 a b i
theorem ref01_Same_0_ok {a : List Int} {b : List Int} {r : Bool} {x : ref01_Same_S ⊕ Bool} (h : ref01_Same_0 a b = some x) (ha : After E (Cx.of Try.f31 false 0) ref01_Same_Q ref01_Same_M r x) : FinQ E (Cx.of Try.f31 false 0) (QW (ref01_Same_Q r)) (.go (ref01_Same_M (.s0 a b))) := by
  unfold ref01_Same_0 at h
  refine adv_ok hm 14 _ ?_
  refine p_split h (by kernel_rfl) (fun h1 h => ?_) (fun h1 h => ?_)
  · -- true
    refine adv_ok hm 5 _ ?_
    obtain rfl := Option.some.inj h
    have hv := ha
    simp only [After] at hv
    subst hv
    exact r_retF [] (d := D.bool false) (s := []) (by kernel_rfl) Cx.fin_of ⟨rfl, rfl⟩
  · -- false
    refine adv_ok hm 9 _ ?_
    obtain rfl := Option.some.inj h
    exact r_to (q' := .go (ref01_Same_M (.s1 a b 0))) (by kernel_rfl) ha
theorem ref01_Same_1_ok {a : List Int} {b : List Int} {i : Int} {r : Bool} {x : ref01_Same_S ⊕ Bool} (h : ref01_Same_1 a b i = some x) (ha : After E (Cx.of Try.f31 false 0) ref01_Same_Q ref01_Same_M r x) : FinQ E (Cx.of Try.f31 false 0) (QW (ref01_Same_Q r)) (.go (ref01_Same_M (.s1 a b i))) := by
  unfold ref01_Same_1 at h
  refine adv_ok hm 10 _ ?_
  refine p_split h (by kernel_rfl) (fun h1 h => ?_) (fun h1 h => ?_)
  · -- true
    refine adv_ok hm 5 _ ?_
    refine p_need h (by kernel_rfl) (fun h2 h => ?_)
    refine p_row (((List.map (eInt .i64) a))[i.toNat]?) (eInt .i64) h (by kernel_rfl) List.getElem?_map (fun y3 h4 h => ?_)
    refine p_need h (by kernel_rfl) (fun h5 h => ?_)
    refine p_row (((List.map (eInt .i64) b))[i.toNat]?) (eInt .i64) h (by kernel_rfl) List.getElem?_map (fun y6 h7 h => ?_)
    refine adv_ok hm 1 _ ?_
    refine p_split h (by kernel_rfl) (fun h8 h => ?_) (fun h8 h => ?_)
    · -- true
      refine adv_ok hm 5 _ ?_
      obtain rfl := Option.some.inj h
      have hv := ha
      simp only [After] at hv
      subst hv
      exact r_retF [] (d := D.bool false) (s := []) (by kernel_rfl) Cx.fin_of ⟨rfl, rfl⟩
    · -- false
      refine adv_ok hm 8 _ ?_
      obtain rfl := Option.some.inj h
      exact r_to (q' := .go (ref01_Same_M (.s1 a b (IntKind.i64.wrap (i + 1))))) (by kernel_rfl) ha
  · -- false
    refine adv_ok hm 6 _ ?_
    obtain rfl := Option.some.inj h
    have hv := ha
    simp only [After] at hv
    subst hv
    exact r_retF [] (d := D.bool true) (s := []) (by kernel_rfl) Cx.fin_of ⟨rfl, rfl⟩
theorem ref01_Same_ev {a : List Int} {b : List Int} {r : Bool} (h : Ev ref01_Same_step (.s0 a b) r) : Sound E 31 [D.sl false 1 (List.map (eInt .i64) a), D.sl false 1 (List.map (eInt .i64) b)] [] (ref01_Same_Q r) :=
  sound_ofW (m := ref01_Same_M (.s0 a b)) (fn := Try.f31) (by kernel_rfl) (by kernel_rfl) (ev_run (C := (Cx.of Try.f31 false 0)) (fun s x r hs ha => by
    cases s with
    | s0 => exact ref01_Same_0_ok hs ha
    | s1 => exact ref01_Same_1_ok hs ha) h)
noncomputable def ref01_Same (a : List Int) (b : List Int) : Option Bool := evf ref01_Same_step (.s0 a b)
theorem ref01_Same_ok {a : List Int} {b : List Int} {r : Bool} (h : ref01_Same a b = some r) : Sound E 31 [D.sl false 1 (List.map (eInt .i64) a), D.sl false 1 (List.map (eInt .i64) b)] [] (ref01_Same_Q r) := ref01_Same_ev (evf_ev h)
end Go.RX.L

set_option linter.unusedSimpArgs false
set_option linter.unusedVariables false
set_option maxRecDepth 100000
set_option maxHeartbeats 4000000
namespace Go.RX.L
open Go Go.RX Go.Proofs
attribute [local irreducible] FinQ
def ref04_Same_Q (y : Bool) (d : D) (s : Sto) : Prop := d = D.bool y ∧ s = []
inductive ref04_Same_S where
  | s0 (a : Plan) (b : Plan)
  | s1 (t82 : Bool) (a : Plan) (b : Plan)
  | s2 (i : Int) (a : Plan) (b : Plan)
noncomputable def ref04_Same_M : ref04_Same_S → M
  | .s0 a b => ⟨[.code (bodyOf Try.f17)], [(0, D.agg [D.int .i64 a.Epoch, D.int .i64 a.Target, D.int .i64 a.Prev, D.int .i64 a.Spill, D.int .i64 a.Percent, D.int .i64 a.Stamp, D.int .i64 a.Since, D.int .i64 a.Ramped, D.int .u64 a.Up, D.int .u64 a.Sup, D.sl false 1 (List.map (eInt .i64) a.Pen), D.sl false 1 (List.map (eInt .i64) a.Changes)]), (1, D.agg [D.int .i64 b.Epoch, D.int .i64 b.Target, D.int .i64 b.Prev, D.int .i64 b.Spill, D.int .i64 b.Percent, D.int .i64 b.Stamp, D.int .i64 b.Since, D.int .i64 b.Ramped, D.int .u64 b.Up, D.int .u64 b.Sup, D.sl false 1 (List.map (eInt .i64) b.Pen), D.sl false 1 (List.map (eInt .i64) b.Changes)])], []⟩
  | .s1 t82 a b => { td := [It.code (codeAt (bodyOf Try.f17) [1, 0, 1]), It.code (codeAt (bodyOf Try.f17) [1, 1])], fr := [(2, D.ptr 0 0 0), (3, D.ptr 1 0 0), (82, D.bool t82)], st := [some { sz := 12, deep := false, rows := [[D.int .i64 a.Epoch, D.int .i64 a.Target, D.int .i64 a.Prev, D.int .i64 a.Spill, D.int .i64 a.Percent, D.int .i64 a.Stamp, D.int .i64 a.Since, D.int .i64 a.Ramped, D.int .u64 a.Up, D.int .u64 a.Sup, D.sl false 1 (List.map (eInt .i64) a.Pen), D.sl false 1 (List.map (eInt .i64) a.Changes)]] }, some { sz := 12, deep := false, rows := [[D.int .i64 b.Epoch, D.int .i64 b.Target, D.int .i64 b.Prev, D.int .i64 b.Spill, D.int .i64 b.Percent, D.int .i64 b.Stamp, D.int .i64 b.Since, D.int .i64 b.Ramped, D.int .u64 b.Up, D.int .u64 b.Sup, D.sl false 1 (List.map (eInt .i64) b.Pen), D.sl false 1 (List.map (eInt .i64) b.Changes)]] }] }
  | .s2 i a b => { td := [It.lpc (codeAt (bodyOf Try.f17) [1, 1, 0, 1, 0, 0]) 44, It.blk 0, It.code (codeAt (bodyOf Try.f17) [1, 1, 1])], fr := [(2, D.ptr 0 0 0), (3, D.ptr 1 0 0), (5, D.int .i64 i)], st := [some { sz := 12, deep := false, rows := [[D.int .i64 a.Epoch, D.int .i64 a.Target, D.int .i64 a.Prev, D.int .i64 a.Spill, D.int .i64 a.Percent, D.int .i64 a.Stamp, D.int .i64 a.Since, D.int .i64 a.Ramped, D.int .u64 a.Up, D.int .u64 a.Sup, D.sl false 1 (List.map (eInt .i64) a.Pen), D.sl false 1 (List.map (eInt .i64) a.Changes)]] }, some { sz := 12, deep := false, rows := [[D.int .i64 b.Epoch, D.int .i64 b.Target, D.int .i64 b.Prev, D.int .i64 b.Spill, D.int .i64 b.Percent, D.int .i64 b.Stamp, D.int .i64 b.Since, D.int .i64 b.Ramped, D.int .u64 b.Up, D.int .u64 b.Sup, D.sl false 1 (List.map (eInt .i64) b.Pen), D.sl false 1 (List.map (eInt .i64) b.Changes)]] }] }
noncomputable def ref04_Same_0 (a : Plan) (b : Plan) : Option (ref04_Same_S ⊕ Bool) := (bif ((a.Epoch : Int) != b.Epoch) then (some (.inl (.s1 true a b))) else (bif ((a.Target : Int) != b.Target) then (some (.inl (.s1 true a b))) else (bif ((a.Prev : Int) != b.Prev) then (some (.inl (.s1 true a b))) else (bif ((a.Spill : Int) != b.Spill) then (some (.inl (.s1 true a b))) else (bif ((a.Percent : Int) != b.Percent) then (some (.inl (.s1 true a b))) else (bif ((a.Stamp : Int) != b.Stamp) then (some (.inl (.s1 true a b))) else (bif ((a.Since : Int) != b.Since) then (some (.inl (.s1 true a b))) else (bif ((a.Ramped : Int) != b.Ramped) then (some (.inl (.s1 true a b))) else (bif ((a.Up : Int) != b.Up) then (some (.inl (.s1 true a b))) else (bif ((a.Sup : Int) != b.Sup) then (some (.inl (.s1 true a b))) else (some (.inl (.s1 (((((List.map (eInt .i64) a.Pen).length : Nat) : Int) : Int) != (((List.map (eInt .i64) b.Pen).length : Nat) : Int)) a b)))))))))))))
noncomputable def ref04_Same_1 (t82 : Bool) (a : Plan) (b : Plan) : Option (ref04_Same_S ⊕ Bool) := (bif t82 then (some (.inr false)) else (some (.inl (.s2 0 a b))))
noncomputable def ref04_Same_2 (i : Int) (a : Plan) (b : Plan) : Option (ref04_Same_S ⊕ Bool) := (bif (decide ((i : Int) < (((List.map (eInt .i64) a.Pen).length : Nat) : Int))) then (bif ((decide ((0 : Int) ≤ i)) && (decide ((i : Int) < (((List.map (eInt .i64) a.Pen).length : Nat) : Int)))) then (((a.Pen)[i.toNat]?).bind fun y3 => (bif ((decide ((0 : Int) ≤ i)) && (decide ((i : Int) < (((List.map (eInt .i64) b.Pen).length : Nat) : Int)))) then (((b.Pen)[i.toNat]?).bind fun y6 => (bif ((y3 : Int) != y6) then (some (.inr false)) else (some (.inl (.s2 (IntKind.i64.wrap (i + 1)) a b))))) else none)) else none) else ((ref01_Same a.Changes b.Changes).bind fun y9 => (some (.inr y9))))
noncomputable def ref04_Same_step : ref04_Same_S → Option (ref04_Same_S ⊕ Bool)
  | .s0 a b => ref04_Same_0 a b
  | .s1 t82 a b => ref04_Same_1 t82 a b
  | .s2 i a b => ref04_Same_2 i a b
theorem ref04_Same_0_ok {a : Plan} {b : Plan} {r : Bool} {x : ref04_Same_S ⊕ Bool} (h : ref04_Same_0 a b = some x) (ha : After E (Cx.of Try.f17 false 0) ref04_Same_Q ref04_Same_M r x) : FinQ E (Cx.of Try.f17 false 0) (QW (ref04_Same_Q r)) (.go (ref04_Same_M (.s0 a b))) := by
  unfold ref04_Same_0 at h
  refine adv_ok hm 18 _ ?_
  refine p_split h (by kernel_rfl) (fun h1 h => ?_) (fun h1 h => ?_)
  · -- true
    refine adv_ok hm 132 _ ?_
    obtain rfl := Option.some.inj h
    exact r_cut 4835703278458516698824716 [] (m' := (ref04_Same_M (.s1 true a b))) (by kernel_rfl) ha
  · -- false
    refine adv_ok hm 14 _ ?_
    refine p_split h (by kernel_rfl) (fun h2 h => ?_) (fun h2 h => ?_)
    · -- true
      refine adv_ok hm 119 _ ?_
      obtain rfl := Option.some.inj h
      exact r_cut 4835703278458516698824716 [] (m' := (ref04_Same_M (.s1 true a b))) (by kernel_rfl) ha
    · -- false
      refine adv_ok hm 14 _ ?_
      refine p_split h (by kernel_rfl) (fun h3 h => ?_) (fun h3 h => ?_)
      · -- true
        refine adv_ok hm 106 _ ?_
        obtain rfl := Option.some.inj h
        exact r_cut 4835703278458516698824716 [] (m' := (ref04_Same_M (.s1 true a b))) (by kernel_rfl) ha
      · -- false
        refine adv_ok hm 14 _ ?_
        refine p_split h (by kernel_rfl) (fun h4 h => ?_) (fun h4 h => ?_)
        · -- true
          refine adv_ok hm 93 _ ?_
          obtain rfl := Option.some.inj h
          exact r_cut 4835703278458516698824716 [] (m' := (ref04_Same_M (.s1 true a b))) (by kernel_rfl) ha
        · -- false
          refine adv_ok hm 14 _ ?_
          refine p_split h (by kernel_rfl) (fun h5 h => ?_) (fun h5 h => ?_)
          · -- true
            refine adv_ok hm 80 _ ?_
            obtain rfl := Option.some.inj h
            exact r_cut 4835703278458516698824716 [] (m' := (ref04_Same_M (.s1 true a b))) (by kernel_rfl) ha
          · -- false
            refine adv_ok hm 14 _ ?_
            refine p_split h (by kernel_rfl) (fun h6 h => ?_) (fun h6 h => ?_)
            · -- true
              refine adv_ok hm 67 _ ?_
              obtain rfl := Option.some.inj h
              exact r_cut 4835703278458516698824716 [] (m' := (ref04_Same_M (.s1 true a b))) (by kernel_rfl) ha
            · -- false
              refine adv_ok hm 14 _ ?_
              refine p_split h (by kernel_rfl) (fun h7 h => ?_) (fun h7 h => ?_)
              · -- true
                refine adv_ok hm 54 _ ?_
                obtain rfl := Option.some.inj h
                exact r_cut 4835703278458516698824716 [] (m' := (ref04_Same_M (.s1 true a b))) (by kernel_rfl) ha
              · -- false
                refine adv_ok hm 14 _ ?_
                refine p_split h (by kernel_rfl) (fun h8 h => ?_) (fun h8 h => ?_)
                · -- true
                  refine adv_ok hm 41 _ ?_
                  obtain rfl := Option.some.inj h
                  exact r_cut 4835703278458516698824716 [] (m' := (ref04_Same_M (.s1 true a b))) (by kernel_rfl) ha
                · -- false
                  refine adv_ok hm 14 _ ?_
                  refine p_split h (by kernel_rfl) (fun h9 h => ?_) (fun h9 h => ?_)
                  · -- true
                    refine adv_ok hm 28 _ ?_
                    obtain rfl := Option.some.inj h
                    exact r_cut 4835703278458516698824716 [] (m' := (ref04_Same_M (.s1 true a b))) (by kernel_rfl) ha
                  · -- false
                    refine adv_ok hm 14 _ ?_
                    refine p_split h (by kernel_rfl) (fun h10 h => ?_) (fun h10 h => ?_)
                    · -- true
                      refine adv_ok hm 15 _ ?_
                      obtain rfl := Option.some.inj h
                      exact r_cut 4835703278458516698824716 [] (m' := (ref04_Same_M (.s1 true a b))) (by kernel_rfl) ha
                    · -- false
                      refine adv_ok hm 17 _ ?_
                      obtain rfl := Option.some.inj h
                      exact r_cut 4835703278458516698824716 [] (m' := (ref04_Same_M (.s1 (((((List.map (eInt .i64) a.Pen).length : Nat) : Int) : Int) != (((List.map (eInt .i64) b.Pen).length : Nat) : Int)) a b))) (by kernel_rfl) ha
theorem ref04_Same_1_ok {t82 : Bool} {a : Plan} {b : Plan} {r : Bool} {x : ref04_Same_S ⊕ Bool} (h : ref04_Same_1 t82 a b = some x) (ha : After E (Cx.of Try.f17 false 0) ref04_Same_Q ref04_Same_M r x) : FinQ E (Cx.of Try.f17 false 0) (QW (ref04_Same_Q r)) (.go (ref04_Same_M (.s1 t82 a b))) := by
  unfold ref04_Same_1 at h
  refine adv_ok hm 1 _ ?_
  refine p_split h (by kernel_rfl) (fun h1 h => ?_) (fun h1 h => ?_)
  · -- true
    refine adv_ok hm 5 _ ?_
    obtain rfl := Option.some.inj h
    have hv := ha
    simp only [After] at hv
    subst hv
    exact r_retF [] (d := D.bool false) (s := []) (by kernel_rfl) Cx.fin_of ⟨rfl, rfl⟩
  · -- false
    refine adv_ok hm 9 _ ?_
    obtain rfl := Option.some.inj h
    exact r_to (q' := .go (ref04_Same_M (.s2 0 a b))) (by kernel_rfl) ha
theorem ref04_Same_2_ok {i : Int} {a : Plan} {b : Plan} {r : Bool} {x : ref04_Same_S ⊕ Bool} (h : ref04_Same_2 i a b = some x) (ha : After E (Cx.of Try.f17 false 0) ref04_Same_Q ref04_Same_M r x) : FinQ E (Cx.of Try.f17 false 0) (QW (ref04_Same_Q r)) (.go (ref04_Same_M (.s2 i a b))) := by
  unfold ref04_Same_2 at h
  refine adv_ok hm 12 _ ?_
  refine p_split h (by kernel_rfl) (fun h1 h => ?_) (fun h1 h => ?_)
  · -- true
    refine adv_ok hm 6 _ ?_
    refine p_need h (by kernel_rfl) (fun h2 h => ?_)
    refine p_row (((List.map (eInt .i64) a.Pen))[i.toNat]?) (eInt .i64) h (by kernel_rfl) List.getElem?_map (fun y3 h4 h => ?_)
    refine adv_ok hm 1 _ ?_
    refine p_need h (by kernel_rfl) (fun h5 h => ?_)
    refine p_row (((List.map (eInt .i64) b.Pen))[i.toNat]?) (eInt .i64) h (by kernel_rfl) List.getElem?_map (fun y6 h7 h => ?_)
    refine adv_ok hm 1 _ ?_
    refine p_split h (by kernel_rfl) (fun h8 h => ?_) (fun h8 h => ?_)
    · -- true
      refine adv_ok hm 5 _ ?_
      obtain rfl := Option.some.inj h
      have hv := ha
      simp only [After] at hv
      subst hv
      exact r_retF [] (d := D.bool false) (s := []) (by kernel_rfl) Cx.fin_of ⟨rfl, rfl⟩
    · -- false
      refine adv_ok hm 8 _ ?_
      obtain rfl := Option.some.inj h
      exact r_to (q' := .go (ref04_Same_M (.s2 (IntKind.i64.wrap (i + 1)) a b))) (by kernel_rfl) ha
  · -- false
    refine adv_ok hm 10 _ ?_
    have ok9 := fun (y : Bool) (hy : ref01_Same a.Changes b.Changes = some y) => ref01_Same_ok hy
    refine p_callE [] (args1 := [D.sl false 1 (List.map (eInt .i64) a.Changes), D.sl false 1 (List.map (eInt .i64) b.Changes)]) (args := [D.sl false 1 (List.map (eInt .i64) a.Changes), D.sl false 1 (List.map (eInt .i64) b.Changes)]) (fun y9 => D.bool y9) (fun y9 => []) h (by kernel_rfl) ⟨rfl, rfl⟩ ok9 (fun y9 h9 h => ?_)
    refine adv_ok hm 3 _ ?_
    obtain rfl := Option.some.inj h
    have hv := ha
    simp only [After] at hv
    subst hv
    exact r_retF [] (d := D.bool y9) (s := []) (by kernel_rfl) Cx.fin_of ⟨rfl, rfl⟩
theorem ref04_Same_ev {a : Plan} {b : Plan} {r : Bool} (h : Ev ref04_Same_step (.s0 a b) r) : Sound E 17 [D.agg [D.int .i64 a.Epoch, D.int .i64 a.Target, D.int .i64 a.Prev, D.int .i64 a.Spill, D.int .i64 a.Percent, D.int .i64 a.Stamp, D.int .i64 a.Since, D.int .i64 a.Ramped, D.int .u64 a.Up, D.int .u64 a.Sup, D.sl false 1 (List.map (eInt .i64) a.Pen), D.sl false 1 (List.map (eInt .i64) a.Changes)], D.agg [D.int .i64 b.Epoch, D.int .i64 b.Target, D.int .i64 b.Prev, D.int .i64 b.Spill, D.int .i64 b.Percent, D.int .i64 b.Stamp, D.int .i64 b.Since, D.int .i64 b.Ramped, D.int .u64 b.Up, D.int .u64 b.Sup, D.sl false 1 (List.map (eInt .i64) b.Pen), D.sl false 1 (List.map (eInt .i64) b.Changes)]] [] (ref04_Same_Q r) :=
  sound_ofW (m := ref04_Same_M (.s0 a b)) (fn := Try.f17) (by kernel_rfl) (by kernel_rfl) (ev_run (C := (Cx.of Try.f17 false 0)) (fun s x r hs ha => by
    cases s with
    | s0 => exact ref04_Same_0_ok hs ha
    | s1 => exact ref04_Same_1_ok hs ha
    | s2 => exact ref04_Same_2_ok hs ha) h)
noncomputable def ref04_Same (a : Plan) (b : Plan) : Option Bool := evf ref04_Same_step (.s0 a b)
theorem ref04_Same_ok {a : Plan} {b : Plan} {r : Bool} (h : ref04_Same a b = some r) : Sound E 17 [D.agg [D.int .i64 a.Epoch, D.int .i64 a.Target, D.int .i64 a.Prev, D.int .i64 a.Spill, D.int .i64 a.Percent, D.int .i64 a.Stamp, D.int .i64 a.Since, D.int .i64 a.Ramped, D.int .u64 a.Up, D.int .u64 a.Sup, D.sl false 1 (List.map (eInt .i64) a.Pen), D.sl false 1 (List.map (eInt .i64) a.Changes)], D.agg [D.int .i64 b.Epoch, D.int .i64 b.Target, D.int .i64 b.Prev, D.int .i64 b.Spill, D.int .i64 b.Percent, D.int .i64 b.Stamp, D.int .i64 b.Since, D.int .i64 b.Ramped, D.int .u64 b.Up, D.int .u64 b.Sup, D.sl false 1 (List.map (eInt .i64) b.Pen), D.sl false 1 (List.map (eInt .i64) b.Changes)]] [] (ref04_Same_Q r) := ref04_Same_ev (evf_ev h)
end Go.RX.L

set_option linter.unusedSimpArgs false
set_option linter.unusedVariables false
namespace Go.RX.L
open Go Go.RX

def btw (lo hi : Int) (l : List Int) : Bool := l.all fun n => decide (lo ≤ n ∧ n ≤ hi)
theorem btw_cons (lo hi x : Int) (l : List Int) : btw lo hi (x :: l) = (decide (lo ≤ x ∧ x ≤ hi) && btw lo hi l) := rfl
theorem btw_iff {lo hi : Int} {l : List Int} : btw lo hi l = true ↔ ∀ x ∈ l, lo ≤ x ∧ x ≤ hi := by simp [btw]

theorem ix_loop (l : List Int) (lo hi : Int) (hl : l.length < 9223372036854775807) : ∀ (j k : Nat), k + j = l.length → ∃ r : Int, Ev slices_IndexFunc__all_1_step (.s1 l lo hi l.length k) r ∧ decide (r ≥ 0) = !(btw lo hi (l.drop k)) := by
  intro j
  induction j with
  | zero =>
    intro k hk
    refine ⟨-1, .done ?_, ?_⟩
    · simp [slices_IndexFunc__all_1_step, slices_IndexFunc__all_1_1, show ¬ (k : Int) < l.length by omega]
    · rw [List.drop_eq_nil_of_le (by omega)]; rfl
  | succ j ih =>
    intro k hk
    have hlt : k < l.length := by omega
    rw [List.drop_eq_getElem_cons hlt, btw_cons]
    by_cases h : lo ≤ l[k] ∧ l[k] ≤ hi
    · obtain ⟨r, h1, h2⟩ := ih (k + 1) (by omega)
      refine ⟨r, .next (s' := .s1 l lo hi l.length ((k + 1 : Nat) : Int)) ?_ h1, ?_⟩
      · have e1 : decide (l[k] < lo) = false := by simp; omega
        have e2 : decide (l[k] > hi) = false := by simp; omega
        simp only [slices_IndexFunc__all_1_step, slices_IndexFunc__all_1_1, List.length_map, ltB hlt, le0, Bool.and_self, cond_true, Int.toNat_natCast, List.getE hlt, Option.bind_some, plan_all_1, e1, e2, cond_false, wS (show k < 9223372036854775807 by omega)]
      · rw [h2, decide_eq_true h, Bool.true_and]
    · refine ⟨k, .done ?_, ?_⟩
      · have e : plan_all_1 l[k] lo hi = some true := by
          unfold plan_all_1
          by_cases h1 : l[k] < lo
          · rw [decide_eq_true h1]; rfl
          · have h2 : l[k] > hi := by omega
            rw [decide_eq_false h1, decide_eq_true h2]; rfl
        simp only [slices_IndexFunc__all_1_step, slices_IndexFunc__all_1_1, List.length_map, ltB hlt, le0, Bool.and_self, cond_true, Int.toNat_natCast, List.getE hlt, Option.bind_some, e]
      · rw [decide_eq_false h, Bool.false_and]; simp

theorem all_ok (lo hi : Int) {l : List Int} (hl : l.length < 9223372036854775807) : plan_all lo hi l = some (btw lo hi l) := by
  obtain ⟨r, h1, h2⟩ := ix_loop l lo hi hl l.length 0 (by omega)
  have h3 : slices_IndexFunc__all_1 l lo hi = some r := evf_of (.next (s' := .s1 l lo hi l.length 0) (by simp [slices_IndexFunc__all_1_step, slices_IndexFunc__all_1_0]) h1)
  simp only [plan_all, slices_ContainsFunc__all_1, h3, Option.bind_some, h2]
  simp

theorem ix_v2_loop (l : List Int) (lo hi : Int) (hl : l.length < 9223372036854775807) : ∀ (j k : Nat), k + j = l.length → ∃ r : Int, Ev slices_IndexFunc__all_1_v2_step (.s1 l lo hi l.length k) r ∧ decide (r ≥ 0) = !(btw lo hi (l.drop k)) := by
  intro j
  induction j with
  | zero =>
    intro k hk
    refine ⟨-1, .done ?_, ?_⟩
    · simp [slices_IndexFunc__all_1_v2_step, slices_IndexFunc__all_1_v2_1, show ¬ (k : Int) < l.length by omega]
    · rw [List.drop_eq_nil_of_le (by omega)]; rfl
  | succ j ih =>
    intro k hk
    have hlt : k < l.length := by omega
    rw [List.drop_eq_getElem_cons hlt, btw_cons]
    by_cases h : lo ≤ l[k] ∧ l[k] ≤ hi
    · obtain ⟨r, h1, h2⟩ := ih (k + 1) (by omega)
      refine ⟨r, .next (s' := .s1 l lo hi l.length ((k + 1 : Nat) : Int)) ?_ h1, ?_⟩
      · have e1 : decide (l[k] < lo) = false := by simp; omega
        have e2 : decide (l[k] > hi) = false := by simp; omega
        simp only [slices_IndexFunc__all_1_v2_step, slices_IndexFunc__all_1_v2_1, List.length_map, ltB hlt, le0, Bool.and_self, cond_true, Int.toNat_natCast, List.getE hlt, Option.bind_some, plan_all_1_v2, e1, e2, cond_false, wS (show k < 9223372036854775807 by omega)]
      · rw [h2, decide_eq_true h, Bool.true_and]
    · refine ⟨k, .done ?_, ?_⟩
      · have e : plan_all_1_v2 l[k] lo hi = some true := by
          unfold plan_all_1_v2
          by_cases h1 : l[k] < lo
          · rw [decide_eq_true h1]; rfl
          · have h2 : l[k] > hi := by omega
            rw [decide_eq_false h1, decide_eq_true h2]; rfl
        simp only [slices_IndexFunc__all_1_v2_step, slices_IndexFunc__all_1_v2_1, List.length_map, ltB hlt, le0, Bool.and_self, cond_true, Int.toNat_natCast, List.getE hlt, Option.bind_some, e]
      · rw [decide_eq_false h, Bool.false_and]; simp

theorem all_v2_ok (lo hi : Int) {l : List Int} (hl : l.length < 9223372036854775807) : plan_all_v2 lo hi l = some (btw lo hi l) := by
  obtain ⟨r, h1, h2⟩ := ix_v2_loop l lo hi hl l.length 0 (by omega)
  have h3 : slices_IndexFunc__all_1_v2 l lo hi = some r := evf_of (.next (s' := .s1 l lo hi l.length 0) (by simp [slices_IndexFunc__all_1_v2_step, slices_IndexFunc__all_1_v2_0]) h1)
  simp only [plan_all_v2, slices_ContainsFunc__all_1_v2, h3, Option.bind_some, h2]
  simp

theorem eq_loop (a b : List Int) (hl : a.length < 9223372036854775807) (hab : a.length = b.length) : ∀ (j k : Nat), k + j = a.length → Ev slices_Equal_step (.s1 a b a.length k) (decide (a.drop k = b.drop k)) := by
  intro j
  induction j with
  | zero =>
    intro k hk
    refine .done ?_
    rw [List.drop_eq_nil_of_le (by omega), List.drop_eq_nil_of_le (by omega)]
    simp [slices_Equal_step, slices_Equal_1, show ¬ (k : Int) < a.length by omega]
  | succ j ih =>
    intro k hk
    have h1 : k < a.length := by omega
    have h2 : k < b.length := by omega
    rw [List.drop_eq_getElem_cons h1, List.drop_eq_getElem_cons h2]
    by_cases h : a[k] = b[k]
    · refine .next (s' := .s1 a b a.length ((k + 1 : Nat) : Int)) ?_ ?_
      · have e : (a[k] != b[k]) = false := by simp [h]
        simp only [slices_Equal_step, slices_Equal_1, List.length_map, ltB h1, ltB h2, le0, Bool.and_self, cond_true, Int.toNat_natCast, List.getE h1, List.getE h2, Option.bind_some, e, cond_false, wS (show k < 9223372036854775807 by omega)]
      · rw [show (decide (a[k] :: a.drop (k + 1) = b[k] :: b.drop (k + 1))) = decide (a.drop (k + 1) = b.drop (k + 1)) by simp only [h, List.cons.injEq, true_and]]
        exact ih (k + 1) (by omega)
    · refine .done ?_
      have e : (a[k] != b[k]) = true := by simp [h]
      simp only [slices_Equal_step, slices_Equal_1, List.length_map, ltB h1, ltB h2, le0, Bool.and_self, cond_true, Int.toNat_natCast, List.getE h1, List.getE h2, Option.bind_some, e]
      rw [show (decide (a[k] :: a.drop (k + 1) = b[k] :: b.drop (k + 1))) = false by simp only [h, List.cons.injEq, false_and, decide_false]]

theorem equal_ok {a b : List Int} (hl : a.length < 9223372036854775807) : slices_Equal a b = some (decide (a = b)) := by
  by_cases hab : a.length = b.length
  · refine evf_of (.next (s' := .s1 a b a.length 0) (by simp [slices_Equal_step, slices_Equal_0, hab]) ?_)
    simpa using eq_loop a b hl hab a.length 0 (by omega)
  · refine evf_of (.done ?_)
    have e : (((a.length : Nat) : Int) != ((b.length : Nat) : Int)) = true := by simp; omega
    have hne : a ≠ b := fun h => hab (by rw [h])
    simp [slices_Equal_step, slices_Equal_0, e, hne]

theorem eq_v2_loop (a b : List Int) (hl : a.length < 9223372036854775807) (hab : a.length = b.length) : ∀ (j k : Nat), k + j = a.length → Ev slices_Equal_v2_step (.s1 a b a.length k) (decide (a.drop k = b.drop k)) := by
  intro j
  induction j with
  | zero =>
    intro k hk
    refine .done ?_
    rw [List.drop_eq_nil_of_le (by omega), List.drop_eq_nil_of_le (by omega)]
    simp [slices_Equal_v2_step, slices_Equal_v2_1, show ¬ (k : Int) < a.length by omega]
  | succ j ih =>
    intro k hk
    have h1 : k < a.length := by omega
    have h2 : k < b.length := by omega
    rw [List.drop_eq_getElem_cons h1, List.drop_eq_getElem_cons h2]
    by_cases h : a[k] = b[k]
    · refine .next (s' := .s1 a b a.length ((k + 1 : Nat) : Int)) ?_ ?_
      · have e : (a[k] != b[k]) = false := by simp [h]
        simp only [slices_Equal_v2_step, slices_Equal_v2_1, List.length_map, ltB h1, ltB h2, le0, Bool.and_self, cond_true, Int.toNat_natCast, List.getE h1, List.getE h2, Option.bind_some, e, cond_false, wS (show k < 9223372036854775807 by omega)]
      · rw [show (decide (a[k] :: a.drop (k + 1) = b[k] :: b.drop (k + 1))) = decide (a.drop (k + 1) = b.drop (k + 1)) by simp only [h, List.cons.injEq, true_and]]
        exact ih (k + 1) (by omega)
    · refine .done ?_
      have e : (a[k] != b[k]) = true := by simp [h]
      simp only [slices_Equal_v2_step, slices_Equal_v2_1, List.length_map, ltB h1, ltB h2, le0, Bool.and_self, cond_true, Int.toNat_natCast, List.getE h1, List.getE h2, Option.bind_some, e]
      rw [show (decide (a[k] :: a.drop (k + 1) = b[k] :: b.drop (k + 1))) = false by simp only [h, List.cons.injEq, false_and, decide_false]]

theorem equal_v2_ok {a b : List Int} (hl : a.length < 9223372036854775807) : slices_Equal_v2 a b = some (decide (a = b)) := by
  by_cases hab : a.length = b.length
  · refine evf_of (.next (s' := .s1 a b a.length 0) (by simp [slices_Equal_v2_step, slices_Equal_v2_0, hab]) ?_)
    simpa using eq_v2_loop a b hl hab a.length 0 (by omega)
  · refine evf_of (.done ?_)
    have e : (((a.length : Nat) : Int) != ((b.length : Nat) : Int)) = true := by simp; omega
    have hne : a ≠ b := fun h => hab (by rw [h])
    simp [slices_Equal_v2_step, slices_Equal_v2_0, e, hne]

/-- The first n steps do not fall. -/
def srtB (l : List Int) (n : Nat) : Bool := (List.range n).all fun i => decide (l.getD i 0 ≤ l.getD (i + 1) 0)
def srt (l : List Int) : Bool := srtB l (l.length - 1)
theorem srtB_succ (l : List Int) (n : Nat) : srtB l (n + 1) = (srtB l n && decide (l.getD n 0 ≤ l.getD (n + 1) 0)) := by
  simp [srtB, List.range_succ, Bool.and_comm]

theorem sorted_loop (l : List Int) (hl : l.length < 9223372036854775807) : ∀ (i : Nat), i < l.length ∨ i = 0 → Ev slices_IsSorted_step (.s1 l i) (srtB l i)
  | 0, _ => .done (by simp [slices_IsSorted_step, slices_IsSorted_1, srtB])
  | i + 1, h => by
    have h1 : i + 1 < l.length := by omega
    have h0 : i < l.length := by omega
    have e0 : decide (((i + 1 : Nat) : Int) > 0) = true := decide_eq_true (by omega)
    have e1 : IntKind.i64.wrap (((i + 1 : Nat) : Int) - 1) = (i : Int) := by rw [wI64 (by omega) (by omega)]; omega
    have less : ∀ x y : Int, cmp_Less x y = some (decide (x < y)) := fun x y => by
      simp only [cmp_Less, cmp_isNaN, Option.bind_some]
      simp
    rw [srtB_succ]
    have g1 : l.getD i 0 = l[i] := by simp [h0]
    have g2 : l.getD (i + 1) 0 = l[i + 1] := by simp [h1]
    rw [g1, g2]
    by_cases hle : l[i] ≤ l[i + 1]
    · rw [decide_eq_true hle, Bool.and_true]
      refine .next (s' := .s1 l i) ?_ (sorted_loop l hl i (.inl h0))
      have e2 : decide (l[i + 1] < l[i]) = false := by simp; omega
      simp only [slices_IsSorted_step, slices_IsSorted_1, List.length_map, e0, e1, ltB h0, ltB h1, le0, Bool.and_self, cond_true, Int.toNat_natCast, List.getE h0, List.getE h1, Option.bind_some, less, e2, cond_false]
    · rw [decide_eq_false hle, Bool.and_false]
      refine .done ?_
      have e2 : decide (l[i + 1] < l[i]) = true := by simp; omega
      simp only [slices_IsSorted_step, slices_IsSorted_1, List.length_map, e0, e1, ltB h0, ltB h1, le0, Bool.and_self, cond_true, Int.toNat_natCast, List.getE h0, List.getE h1, Option.bind_some, less, e2]

theorem sorted_ok {l : List Int} (hl : l.length < 9223372036854775807) : slices_IsSorted l = some (srt l) := by
  by_cases h0 : l.length = 0
  · have : l = [] := List.eq_nil_of_length_eq_zero h0
    subst this
    refine evf_of (.next (s' := .s1 [] (-1)) (by simp [slices_IsSorted_step, slices_IsSorted_0]; rfl) (.done (by simp [slices_IsSorted_step, slices_IsSorted_1, srt, srtB])))
  · refine evf_of (.next (s' := .s1 l ((l.length - 1 : Nat) : Int)) ?_ (sorted_loop l hl (l.length - 1) (.inl (by omega))))
    have : IntKind.i64.wrap ((l.length : Int) - 1) = ((l.length - 1 : Nat) : Int) := by rw [wI64 (by omega) (by omega)]; omega
    simp [slices_IsSorted_step, slices_IsSorted_0, this]

/-! ### right -/
def right0 (p : Plan) : Bool := decide (0 ≤ p.Epoch) && (btw (-1) 15 [p.Target, p.Prev, p.Spill] && btw 0 100 [p.Percent])
def right1 (p : Plan) : Bool := btw 0 1099511627776 [p.Stamp, p.Since, p.Ramped] && (decide (p.Up ≤ 65535) && decide (p.Sup ≤ 65535))
def right2 (p : Plan) : Bool := decide (p.Pen.length ≤ 16) && decide (p.Changes.length ≤ 8)
def right3 (p : Plan) : Bool := btw 0 1000000 p.Pen && (btw 0 1099511627776 p.Changes && srt p.Changes)
/-- May it be a plan? -/
def rightP (p : Plan) : Bool := right0 p && (right1 p && (right2 p && right3 p))

structure Rt (p : Plan) : Prop where
  epoch : 0 ≤ p.Epoch
  tps : ∀ x ∈ [p.Target, p.Prev, p.Spill], -1 ≤ x ∧ x ≤ 15
  pc : 0 ≤ p.Percent ∧ p.Percent ≤ 100
  times : ∀ x ∈ [p.Stamp, p.Since, p.Ramped], 0 ≤ x ∧ x ≤ 1099511627776
  up : p.Up ≤ 65535
  sup : p.Sup ≤ 65535
  penl : p.Pen.length ≤ 16
  chl : p.Changes.length ≤ 8
  pen : ∀ x ∈ p.Pen, 0 ≤ x ∧ x ≤ 1000000
  ch : ∀ x ∈ p.Changes, 0 ≤ x ∧ x ≤ 1099511627776
  srt : srt p.Changes = true

theorem rightP_iff {p : Plan} : rightP p = true ↔ Rt p := by
  constructor
  · intro h
    simp only [rightP, right0, right1, right2, right3, Bool.and_eq_true, decide_eq_true_eq, btw_iff] at h
    obtain ⟨⟨a1, a2, a3⟩, ⟨b1, b2, b3⟩, ⟨c1, c2⟩, d1, d2, d3⟩ := h
    exact ⟨a1, a2, a3 _ (by simp), b1, b2, b3, c1, c2, d1, d2, d3⟩
  · rintro ⟨a1, a2, a3, b1, b2, b3, c1, c2, d1, d2, d3⟩
    simp only [rightP, right0, right1, right2, right3, Bool.and_eq_true, decide_eq_true_eq, btw_iff]
    exact ⟨⟨a1, a2, fun x hx => by simp at hx; subst hx; exact a3⟩, ⟨b1, b2, b3⟩, ⟨c1, c2⟩, d1, d2, d3⟩

/-- Short enough. -/
structure Shrt (a : Plan) : Prop where
  pen : a.Pen.length < 9223372036854775807
  ch : a.Changes.length < 9223372036854775807
theorem short {l : List Int} (h : l.length * 8 ≤ reachBytes) : l.length < 9223372036854775807 := by
  have : reachBytes ≤ 9223372036854775807 := by decide
  omega
theorem Plan.Ok.shrt {a : Plan} (h : a.Ok) : Shrt a := by
  obtain ⟨-, -, -, -, -, -, -, -, -, -, h1, h2⟩ := h
  exact ⟨short h1.1, short h2.1⟩
theorem Rt.shrt {p : Plan} (h : Rt p) : Shrt p := ⟨by have := h.penl; omega, by have := h.chl; omega⟩

theorem right_ok {p : Plan} (hs : Shrt p) (hu : 0 ≤ p.Up) (hv : 0 ≤ p.Sup) : plan_Right p = some (rightP p) := by
  have k1 : plan_Right_1 false p = some (right3 p) := by
    simp only [plan_Right_1, cond_false, all_v2_ok 0 1000000 hs.pen, all_ok 0 1099511627776 hs.ch, sorted_ok hs.ch, Option.bind_some, right3]
    cases btw 0 1000000 p.Pen <;> cases btw 0 1099511627776 p.Changes <;> cases srt p.Changes <;> rfl
  have k2 : plan_Right_2 false p = some (right2 p && right3 p) := by
    simp only [plan_Right_2, cond_false, List.length_map, right2]
    by_cases h1 : p.Pen.length ≤ 16
    · have e1 : decide (((p.Pen.length : Nat) : Int) > 16) = false := by simp; omega
      rw [e1, decide_eq_true h1]
      by_cases h2 : p.Changes.length ≤ 8
      · have e2 : decide (((p.Changes.length : Nat) : Int) > 8) = false := by simp; omega
        rw [e2, decide_eq_true h2, cond_false, k1]; rfl
      · have e2 : decide (((p.Changes.length : Nat) : Int) > 8) = true := by simp; omega
        rw [e2, decide_eq_false h2]; rfl
    · have e1 : decide (((p.Pen.length : Nat) : Int) > 16) = true := by simp; omega
      rw [e1, decide_eq_false h1]; rfl
  have k3 : plan_Right_3 false p = some (right1 p && (right2 p && right3 p)) := by
    simp only [plan_Right_3, cond_false, all_ok 0 1099511627776 (l := [p.Stamp, p.Since, p.Ramped]) (by simp), Option.bind_some, right1]
    cases hb : btw 0 1099511627776 [p.Stamp, p.Since, p.Ramped] with
    | false => rfl
    | true =>
      have e : decide (mxI p.Up p.Sup ≥ 65536) = !(decide (p.Up ≤ 65535) && decide (p.Sup ≤ 65535)) := by
        unfold mxI
        by_cases h1 : p.Up ≤ 65535 <;> by_cases h2 : p.Sup ≤ 65535 <;> simp [h1, h2] <;> split <;> omega
      simp only [Bool.not_true, cond_false, e]
      cases (decide (p.Up ≤ 65535) && decide (p.Sup ≤ 65535)) with
      | false => rfl
      | true => simp only [Bool.not_true, k2]; rfl
  simp only [plan_Right, rightP, right0]
  by_cases h0 : p.Epoch < 0
  · rw [decide_eq_true h0, decide_eq_false (by omega : ¬ 0 ≤ p.Epoch)]; rfl
  · rw [decide_eq_false h0, decide_eq_true (by omega : 0 ≤ p.Epoch)]
    simp only [cond_false, all_v2_ok (-1) 15 (l := [p.Target, p.Prev, p.Spill]) (by simp), all_v2_ok 0 100 (l := [p.Percent]) (by simp), Option.bind_some]
    cases btw (-1) 15 [p.Target, p.Prev, p.Spill] with
    | false => rfl
    | true =>
      cases btw 0 100 [p.Percent] with
      | false => rfl
      | true => simp only [Bool.not_true, cond_false, k3]; rfl

theorem in_ok (n lo hi : Int) : ref04_in n lo hi = some (decide (lo ≤ n ∧ n ≤ hi)) := by
  unfold ref04_in
  by_cases h : n ≥ lo
  · by_cases h2 : n ≤ hi
    · rw [decide_eq_true h, decide_eq_true h2, decide_eq_true ⟨h, h2⟩]; rfl
    · rw [decide_eq_true h, decide_eq_false h2, decide_eq_false (p := lo ≤ n ∧ n ≤ hi) (by omega)]; rfl
  · rw [decide_eq_false h, decide_eq_false (p := lo ≤ n ∧ n ≤ hi) (by omega)]; rfl

theorem rpen_loop {p : Plan} (hs : Shrt p) {r : Bool} (h4 : Ev ref04_Right_step (.s4 0 p) r) : ∀ (j k : Nat), k + j = p.Pen.length → Ev ref04_Right_step (.s3 k p) (btw 0 1000000 (p.Pen.drop k) && r) := by
  intro j
  induction j with
  | zero =>
    intro k hk
    rw [List.drop_eq_nil_of_le (by omega)]
    refine .next (s' := .s4 0 p) ?_ h4
    simp only [ref04_Right_step, ref04_Right_3, List.length_map, geB (show p.Pen.length ≤ k by omega), cond_false]
  | succ j ih =>
    intro k hk
    have hlt : k < p.Pen.length := by omega
    have := hs.pen
    rw [List.drop_eq_getElem_cons hlt, btw_cons]
    by_cases h1 : p.Pen[k] < 0
    · rw [decide_eq_false (by omega), Bool.false_and, Bool.false_and]
      refine .done ?_
      simp only [ref04_Right_step, ref04_Right_3, List.length_map, ltB hlt, le0, Bool.and_self, cond_true, Int.toNat_natCast, List.getE hlt, Option.bind_some, decide_eq_true h1]
    · by_cases h2 : p.Pen[k] > 1000000
      · rw [decide_eq_false (by omega), Bool.false_and, Bool.false_and]
        refine .done ?_
        simp only [ref04_Right_step, ref04_Right_3, List.length_map, ltB hlt, le0, Bool.and_self, cond_true, Int.toNat_natCast, List.getE hlt, Option.bind_some, decide_eq_false h1, cond_false, decide_eq_true h2]
      · rw [decide_eq_true (by omega), Bool.true_and]
        refine .next (s' := .s3 ((k + 1 : Nat) : Int) p) ?_ (ih (k + 1) (by omega))
        simp only [ref04_Right_step, ref04_Right_3, List.length_map, ltB hlt, le0, Bool.and_self, cond_true, Int.toNat_natCast, List.getE hlt, Option.bind_some, decide_eq_false h1, cond_false, decide_eq_false h2, wS (show k < 9223372036854775807 by omega)]

/-- From place k on: all between, and none falls. -/
def chk (l : List Int) : Nat → Nat → Bool
  | _, 0 => true
  | k, j + 1 => decide (0 ≤ l.getD k 0 ∧ l.getD k 0 ≤ 1099511627776) && ((decide (k = 0) || decide (l.getD (k - 1) 0 ≤ l.getD k 0)) && chk l (k + 1) j)

theorem rch_loop {p : Plan} (hs : Shrt p) : ∀ (j k : Nat), k + j = p.Changes.length → Ev ref04_Right_step (.s4 k p) (chk p.Changes k j) := by
  intro j
  have hl := hs.ch
  induction j with
  | zero =>
    intro k hk
    refine .done ?_
    simp only [ref04_Right_step, ref04_Right_4, List.length_map, geB (show p.Changes.length ≤ k by omega), cond_false, chk]
  | succ j ih =>
    intro k hk
    have hlt : k < p.Changes.length := by omega
    have g : p.Changes.getD k 0 = p.Changes[k] := by simp [hlt]
    simp only [chk, g]
    by_cases h1 : 0 ≤ p.Changes[k] ∧ p.Changes[k] ≤ 1099511627776
    · rw [decide_eq_true h1, Bool.true_and]
      have hin : ref04_in p.Changes[k] 0 1099511627776 = some true := by rw [in_ok, decide_eq_true h1]
      cases k with
      | zero =>
        simp only [decide_true, Bool.true_or, Bool.true_and]
        refine .next (s' := .s4 ((0 + 1 : Nat) : Int) p) ?_ (ih 1 (by omega))
        have := ltB hlt
        simp only [ref04_Right_step, ref04_Right_4, List.length_map, ltB hlt, le0, Bool.and_self, cond_true, Int.toNat_natCast, List.getE hlt, Option.bind_some, hin, Bool.not_true, cond_false, wS (show 0 < 9223372036854775807 by omega)]
        rfl
      | succ k =>
        have hk0 : k < p.Changes.length := by omega
        have e0 : decide (((k + 1 : Nat) : Int) > 0) = true := decide_eq_true (by omega)
        have e1 : IntKind.i64.wrap (((k + 1 : Nat) : Int) - 1) = (k : Int) := by rw [wI64 (by omega) (by omega)]; omega
        have g0 : p.Changes.getD (k + 1 - 1) 0 = p.Changes[k] := by simp [hk0]
        rw [g0, decide_eq_false (by omega : ¬ k + 1 = 0), Bool.false_or]
        by_cases h2 : p.Changes[k] ≤ p.Changes[k + 1]
        · rw [decide_eq_true h2, Bool.true_and]
          refine .next (s' := .s4 ((k + 1 + 1 : Nat) : Int) p) ?_ (ih (k + 2) (by omega))
          have e2 : decide (p.Changes[k] > p.Changes[k + 1]) = false := by simp; omega
          simp only [ref04_Right_step, ref04_Right_4, List.length_map, ltB hlt, ltB hk0, le0, Bool.and_self, cond_true, Int.toNat_natCast, List.getE hlt, List.getE hk0, Option.bind_some, hin, Bool.not_true, cond_false, e0, e1, e2, wS (show k + 1 < 9223372036854775807 by omega)]
        · rw [decide_eq_false h2, Bool.false_and]
          refine .done ?_
          have e2 : decide (p.Changes[k] > p.Changes[k + 1]) = true := by simp; omega
          simp only [ref04_Right_step, ref04_Right_4, List.length_map, ltB hlt, ltB hk0, le0, Bool.and_self, cond_true, Int.toNat_natCast, List.getE hlt, List.getE hk0, Option.bind_some, hin, Bool.not_true, cond_false, e0, e1, e2]
    · rw [decide_eq_false h1, Bool.false_and]
      refine .done ?_
      have hin : ref04_in p.Changes[k] 0 1099511627776 = some false := by rw [in_ok, decide_eq_false h1]
      simp only [ref04_Right_step, ref04_Right_4, List.length_map, ltB hlt, le0, Bool.and_self, cond_true, Int.toNat_natCast, List.getE hlt, Option.bind_some, hin, Bool.not_false]

theorem chk_iff {l : List Int} : ∀ (j k : Nat), k + j = l.length → (chk l k j = true ↔ (∀ x ∈ l.drop k, 0 ≤ x ∧ x ≤ 1099511627776) ∧ ∀ i, k ≤ i → 0 < i → i < l.length → l.getD (i - 1) 0 ≤ l.getD i 0)
  | 0, k, hk => by
    rw [List.drop_eq_nil_of_le (by omega)]
    simp only [chk, true_iff]
    exact ⟨fun x hx => by simp at hx, fun i h1 h2 h3 => by omega⟩
  | j + 1, k, hk => by
    have hlt : k < l.length := by omega
    have ih := chk_iff (l := l) j (k + 1) (by omega)
    have g : l.getD k 0 = l[k] := by simp [hlt]
    simp only [chk, Bool.and_eq_true, Bool.or_eq_true, decide_eq_true_eq, ih]
    rw [List.drop_eq_getElem_cons hlt, g]
    constructor
    · rintro ⟨h1, h2, h3, h4⟩
      refine ⟨fun x hx => ?_, fun i i1 i2 i3 => ?_⟩
      · rcases List.mem_cons.1 hx with rfl | hx
        · exact h1
        · exact h3 x hx
      · rcases Nat.lt_or_ge k i with h | h
        · exact h4 i h i2 i3
        · have : i = k := by omega
          subst this
          rw [g]
          exact h2.resolve_left (by omega)
    · rintro ⟨h1, h2⟩
      refine ⟨h1 _ (List.mem_cons_self ..), ?_, fun x hx => h1 x (List.mem_cons_of_mem _ hx), fun i i1 i2 i3 => h2 i (by omega) i2 i3⟩
      rcases Nat.eq_zero_or_pos k with h | h
      · exact .inl h
      · have := h2 k (Nat.le_refl _) h hlt
        rw [g] at this
        exact .inr this

theorem srt_iff {l : List Int} : srt l = true ↔ ∀ i, 0 < i → i < l.length → l.getD (i - 1) 0 ≤ l.getD i 0 := by
  simp only [srt, srtB, List.all_eq_true, List.mem_range, decide_eq_true_eq]
  constructor
  · intro h i h1 h2
    have := h (i - 1) (by omega)
    rwa [show i - 1 + 1 = i by omega] at this
  · intro h i hi
    have := h (i + 1) (by omega) (by omega)
    simpa using this

theorem chk_all (l : List Int) : chk l 0 l.length = (btw 0 1099511627776 l && srt l) := by
  have h1 := chk_iff (l := l) l.length 0 (by omega)
  rw [Bool.eq_iff_iff, h1, Bool.and_eq_true, btw_iff, srt_iff]
  simp only [List.drop_zero, Nat.zero_le, true_implies]

theorem rright_ok {p : Plan} (hs : Shrt p) : ref04_Right p = some (rightP p) := by
  have h4 := rch_loop hs p.Changes.length 0 (by omega)
  rw [chk_all] at h4
  have h3 := rpen_loop hs h4 p.Pen.length 0 (by omega)
  rw [List.drop_zero] at h3
  have h2 : Ev ref04_Right_step (.s2 (!(right2 p)) p) (right2 p && right3 p) := by
    cases hr : right2 p with
    | false => exact .done rfl
    | true => exact .next (s' := .s3 0 p) rfl h3
  have h2t : Ev ref04_Right_step (.s2 true p) false := .done rfl
  have h1 : Ev ref04_Right_step (.s1 false p) (right1 p && (right2 p && right3 p)) := by
    simp only [right1, btw_cons]
    by_cases c1 : 0 ≤ p.Stamp ∧ p.Stamp ≤ 1099511627776
    · rw [decide_eq_true c1]
      by_cases c2 : 0 ≤ p.Since ∧ p.Since ≤ 1099511627776
      · rw [decide_eq_true c2]
        by_cases c3 : 0 ≤ p.Ramped ∧ p.Ramped ≤ 1099511627776
        · rw [decide_eq_true c3]
          by_cases c4 : p.Up ≤ 65535
          · rw [decide_eq_true c4]
            have d4 : decide (p.Up > 65535) = false := by simp; omega
            by_cases c5 : p.Sup ≤ 65535
            · rw [decide_eq_true c5]
              have d5 : decide (p.Sup > 65535) = false := by simp; omega
              refine .next (s' := .s2 (!(right2 p)) p) ?_ (by simpa [btw] using h2)
              simp only [ref04_Right_step, ref04_Right_1, cond_false, in_ok, decide_eq_true c1, decide_eq_true c2, decide_eq_true c3, Option.bind_some, Bool.not_true, d4, d5, List.length_map, right2]
              by_cases c6 : p.Pen.length ≤ 16
              · have d6 : decide (((p.Pen.length : Nat) : Int) > 16) = false := by simp; omega
                rw [d6, decide_eq_true c6]
                have d7 : decide (((p.Changes.length : Nat) : Int) > 8) = !(decide (p.Changes.length ≤ 8)) := by
                  by_cases c7 : p.Changes.length ≤ 8 <;> simp [c7] <;> omega
                rw [d7]; rfl
              · have d6 : decide (((p.Pen.length : Nat) : Int) > 16) = true := by simp; omega
                rw [d6, decide_eq_false c6]; rfl
            · rw [decide_eq_false c5]
              have d5 : decide (p.Sup > 65535) = true := by simp; omega
              refine .next (s' := .s2 true p) ?_ (by simpa [btw] using h2t)
              simp only [ref04_Right_step, ref04_Right_1, cond_false, in_ok, decide_eq_true c1, decide_eq_true c2, decide_eq_true c3, Option.bind_some, Bool.not_true, d4, d5, cond_true]
          · rw [decide_eq_false c4]
            have d4 : decide (p.Up > 65535) = true := by simp; omega
            refine .next (s' := .s2 true p) ?_ (by simpa [btw] using h2t)
            simp only [ref04_Right_step, ref04_Right_1, cond_false, in_ok, decide_eq_true c1, decide_eq_true c2, decide_eq_true c3, Option.bind_some, Bool.not_true, d4, cond_true]
        · rw [decide_eq_false c3]
          refine .next (s' := .s2 true p) ?_ (by simpa [btw] using h2t)
          simp only [ref04_Right_step, ref04_Right_1, cond_false, in_ok, decide_eq_true c1, decide_eq_true c2, decide_eq_false c3, Option.bind_some, Bool.not_true, Bool.not_false, cond_true]
      · rw [decide_eq_false c2]
        refine .next (s' := .s2 true p) ?_ (by simpa [btw] using h2t)
        simp only [ref04_Right_step, ref04_Right_1, cond_false, in_ok, decide_eq_true c1, decide_eq_false c2, Option.bind_some, Bool.not_true, Bool.not_false, cond_true]
    · rw [decide_eq_false c1]
      refine .next (s' := .s2 true p) ?_ (by simpa [btw] using h2t)
      simp only [ref04_Right_step, ref04_Right_1, cond_false, in_ok, decide_eq_false c1, Option.bind_some, Bool.not_false, cond_true]
  have h1t : Ev ref04_Right_step (.s1 true p) false := .done rfl
  have h0 : ref04_Right_step (.s0 p) = some (.inl (.s1 (!(right0 p)) p)) := by
    simp only [ref04_Right_step, ref04_Right_0, right0, btw_cons]
    by_cases c0 : p.Epoch < 0
    · rw [decide_eq_true c0, decide_eq_false (by omega : ¬ 0 ≤ p.Epoch)]; rfl
    rw [decide_eq_false c0, decide_eq_true (by omega : 0 ≤ p.Epoch)]
    by_cases c1 : p.Target < -1
    · rw [decide_eq_true c1, decide_eq_false (by omega : ¬ (-1 ≤ p.Target ∧ p.Target ≤ 15))]; rfl
    rw [decide_eq_false c1]
    by_cases c2 : p.Target ≥ 16
    · rw [decide_eq_true c2, decide_eq_false (by omega : ¬ (-1 ≤ p.Target ∧ p.Target ≤ 15))]; rfl
    rw [decide_eq_false c2, decide_eq_true (by omega : -1 ≤ p.Target ∧ p.Target ≤ 15)]
    by_cases c3 : p.Prev < -1
    · rw [decide_eq_true c3, decide_eq_false (by omega : ¬ (-1 ≤ p.Prev ∧ p.Prev ≤ 15))]; rfl
    rw [decide_eq_false c3]
    by_cases c4 : p.Prev ≥ 16
    · rw [decide_eq_true c4, decide_eq_false (by omega : ¬ (-1 ≤ p.Prev ∧ p.Prev ≤ 15))]; rfl
    rw [decide_eq_false c4, decide_eq_true (by omega : -1 ≤ p.Prev ∧ p.Prev ≤ 15)]
    by_cases c5 : p.Spill < -1
    · rw [decide_eq_true c5, decide_eq_false (by omega : ¬ (-1 ≤ p.Spill ∧ p.Spill ≤ 15))]; rfl
    rw [decide_eq_false c5]
    by_cases c6 : p.Spill ≥ 16
    · rw [decide_eq_true c6, decide_eq_false (by omega : ¬ (-1 ≤ p.Spill ∧ p.Spill ≤ 15))]; rfl
    rw [decide_eq_false c6, decide_eq_true (by omega : -1 ≤ p.Spill ∧ p.Spill ≤ 15)]
    by_cases c7 : p.Percent < 0
    · rw [decide_eq_true c7, decide_eq_false (by omega : ¬ (0 ≤ p.Percent ∧ p.Percent ≤ 100))]; rfl
    rw [decide_eq_false c7]
    by_cases c8 : p.Percent > 100
    · rw [decide_eq_true c8, decide_eq_false (by omega : ¬ (0 ≤ p.Percent ∧ p.Percent ≤ 100))]; rfl
    rw [decide_eq_false c8, decide_eq_true (by omega : 0 ≤ p.Percent ∧ p.Percent ≤ 100)]; rfl
  refine evf_of (.next h0 ?_)
  unfold rightP
  cases right0 p with
  | false => exact h1t
  | true => exact h1
end Go.RX.L
