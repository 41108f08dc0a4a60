/-
  Words and walks for MsgLimits. No condition.
-/
import Derived.Test.YtgjhdekafiodhaaDoorMsgLimitsY6
set_option linter.unusedSimpArgs false
set_option linter.unusedVariables false
set_option maxRecDepth 100000
set_option maxHeartbeats 4000000
namespace Go.RX.L
open Go Go.RX Go.Proofs
attribute [local irreducible] FinQ
def ref03_Put_Q (y : (List Int) × Int) (d : D) (s : Sto) : Prop := d = D.tup [D.sl false 1 (List.map (eInt .u8) y.1), D.int .i64 y.2] ∧ s = []
noncomputable def ref03_Put (kind : Int) (body : List Int) : Option ((List Int) × Int) := (bif (decide (((((List.map (eInt .u8) body).length : Nat) : Int) : Int) > 8192)) then (some ([], 2)) else (bif (decide ((4 + (List.map (eInt .u8) body).length) * 1 ≤ bytesLim)) then (bif (decide ((1 : Int) ≤ (((List.map (eInt .u8) ([247, kind, (IntKind.u8.wrap ((shrI .i64 (((List.map (eInt .u8) body).length : Nat) : Int) 8))), (IntKind.u8.wrap ((((List.map (eInt .u8) body).length : Nat) : Int)))] ++ body)).length : Nat) : Int))) then (bif (Nat.ble (1 + ((List.map (eInt .u8) ([247, kind, (IntKind.u8.wrap ((shrI .i64 (((List.map (eInt .u8) body).length : Nat) : Int) 8))), (IntKind.u8.wrap ((((List.map (eInt .u8) body).length : Nat) : Int)))] ++ body)).length - 1)) ((List.map (eInt .u8) ([247, kind, (IntKind.u8.wrap ((shrI .i64 (((List.map (eInt .u8) body).length : Nat) : Int) 8))), (IntKind.u8.wrap ((((List.map (eInt .u8) body).length : Nat) : Int)))] ++ body)).length)) then ((ref02_Sum (List.take ((List.map (eInt .u8) ([247, kind, (IntKind.u8.wrap ((shrI .i64 (((List.map (eInt .u8) body).length : Nat) : Int) 8))), (IntKind.u8.wrap ((((List.map (eInt .u8) body).length : Nat) : Int)))] ++ body)).length - 1) (List.drop 1 ([247, kind, (IntKind.u8.wrap ((shrI .i64 (((List.map (eInt .u8) body).length : Nat) : Int) 8))), (IntKind.u8.wrap ((((List.map (eInt .u8) body).length : Nat) : Int)))] ++ body)))).bind fun y5 => (bif (decide (((List.map (eInt .u8) ([247, kind, (IntKind.u8.wrap ((shrI .i64 (((List.map (eInt .u8) body).length : Nat) : Int) 8))), (IntKind.u8.wrap ((((List.map (eInt .u8) body).length : Nat) : Int)))] ++ body)).length + 4) * 1 ≤ bytesLim)) then (some ((([247, kind, (IntKind.u8.wrap ((shrI .i64 (((List.map (eInt .u8) body).length : Nat) : Int) 8))), (IntKind.u8.wrap ((((List.map (eInt .u8) body).length : Nat) : Int)))] ++ body) ++ [(IntKind.u8.wrap ((shrI .u32 y5 24))), (IntKind.u8.wrap ((shrI .u32 y5 16))), (IntKind.u8.wrap ((shrI .u32 y5 8))), (IntKind.u8.wrap (y5))]), 0)) else none)) else none) else none) else none))
theorem ref03_Put_ok {kind : Int} {body : List Int} {r : (List Int) × Int} (h : ref03_Put kind body = some r) : Sound E 23 [D.int .u8 kind, D.sl false 1 (List.map (eInt .u8) body)] [] (ref03_Put_Q r) := by
  refine sound_ofW (m := ⟨[.code (bodyOf Tryd.f23)], [(0, D.int .u8 kind), (1, D.sl false 1 (List.map (eInt .u8) body))], []⟩) (fn := Tryd.f23) (by kernel_rfl) (by kernel_rfl) ?_
  show FinQ E (Cx.of Tryd.f23 false 0) (QW (ref03_Put_Q r)) _
  unfold ref03_Put at h
  refine adv_ok hm 13 _ ?_
  refine p_split h (by kernel_rfl) (fun h1 h => ?_) (fun h1 h => ?_)
  · -- true
    refine adv_ok hm 6 _ ?_
    obtain rfl := Option.some.inj h
    exact r_retF [.slot 0 [some 1]] (d := D.tup [D.sl false 1 [], D.int .i64 2]) (s := []) (by kernel_rfl) Cx.fin_of ⟨rfl, rfl⟩
  · -- false
    refine adv_ok hm 20 _ ?_
    refine p_need h (by kernel_rfl) (fun h2 h => ?_)
    refine adv_ok hm 1 _ ?_
    refine r_rows ((List.map (eInt .u8) ([247, kind, (IntKind.u8.wrap ((shrI .i64 (((List.map (eInt .u8) body).length : Nat) : Int) 8))), (IntKind.u8.wrap ((((List.map (eInt .u8) body).length : Nat) : Int)))])) ++ (List.map (eInt .u8) body)) (List.map (eInt .u8) ([247, kind, (IntKind.u8.wrap ((shrI .i64 (((List.map (eInt .u8) body).length : Nat) : Int) 8))), (IntKind.u8.wrap ((((List.map (eInt .u8) body).length : Nat) : Int)))] ++ body)) (by kernel_rfl) (by simp only [take_full, take_full', List.map_append]) ?_
    refine adv_ok hm 6 _ ?_
    refine p_need h (by kernel_rfl) (fun h3 h => ?_)
    refine adv_ok hm 1 _ ?_
    refine p_need h (by kernel_rfl) (fun h4 h => ?_)
    have ok5 := fun (y : Int) (hy : ref02_Sum (List.take ((List.map (eInt .u8) ([247, kind, (IntKind.u8.wrap ((shrI .i64 (((List.map (eInt .u8) body).length : Nat) : Int) 8))), (IntKind.u8.wrap ((((List.map (eInt .u8) body).length : Nat) : Int)))] ++ body)).length - 1) (List.drop 1 ([247, kind, (IntKind.u8.wrap ((shrI .i64 (((List.map (eInt .u8) body).length : Nat) : Int) 8))), (IntKind.u8.wrap ((((List.map (eInt .u8) body).length : Nat) : Int)))] ++ body))) = some y) => ref02_Sum_ok hy
    refine p_callS [] (args1 := [D.sl false 1 (List.take ((List.map (eInt .u8) ([247, kind, (IntKind.u8.wrap ((shrI .i64 (((List.map (eInt .u8) body).length : Nat) : Int) 8))), (IntKind.u8.wrap ((((List.map (eInt .u8) body).length : Nat) : Int)))] ++ body)).length - 1) (List.drop 1 (List.map (eInt .u8) ([247, kind, (IntKind.u8.wrap ((shrI .i64 (((List.map (eInt .u8) body).length : Nat) : Int) 8))), (IntKind.u8.wrap ((((List.map (eInt .u8) body).length : Nat) : Int)))] ++ body))))]) h (by kernel_rfl) ⟨by simp [List.take_of_length_le, List.map_take, List.map_drop, Msg.enc, Plan.enc, reader.enc, place.enc], rfl⟩ ok5 (fun y5 h5 h => ?_)
    refine adv_ok hm 22 _ ?_
    refine p_need h (by kernel_rfl) (fun h6 h => ?_)
    refine r_needT (b := (Nat.ble (0 + (List.map (eInt .u8) ([247, kind, (IntKind.u8.wrap ((shrI .i64 (((List.map (eInt .u8) body).length : Nat) : Int) 8))), (IntKind.u8.wrap ((((List.map (eInt .u8) body).length : Nat) : Int)))] ++ body)).length) ((List.map (eInt .u8) ([247, kind, (IntKind.u8.wrap ((shrI .i64 (((List.map (eInt .u8) body).length : Nat) : Int) 8))), (IntKind.u8.wrap ((((List.map (eInt .u8) body).length : Nat) : Int)))] ++ body)).length))) (by kernel_rfl) (ble_full _) ?_
    refine r_rows (List.take ((List.map (eInt .u8) ([247, kind, (IntKind.u8.wrap ((shrI .i64 (((List.map (eInt .u8) body).length : Nat) : Int) 8))), (IntKind.u8.wrap ((((List.map (eInt .u8) body).length : Nat) : Int)))] ++ body)).length) (List.drop 0 (List.map (eInt .u8) ([247, kind, (IntKind.u8.wrap ((shrI .i64 (((List.map (eInt .u8) body).length : Nat) : Int) 8))), (IntKind.u8.wrap ((((List.map (eInt .u8) body).length : Nat) : Int)))] ++ body))) ++ (List.map (eInt .u8) ([(IntKind.u8.wrap ((shrI .u32 y5 24))), (IntKind.u8.wrap ((shrI .u32 y5 16))), (IntKind.u8.wrap ((shrI .u32 y5 8))), (IntKind.u8.wrap (y5))]))) (List.map (eInt .u8) (([247, kind, (IntKind.u8.wrap ((shrI .i64 (((List.map (eInt .u8) body).length : Nat) : Int) 8))), (IntKind.u8.wrap ((((List.map (eInt .u8) body).length : Nat) : Int)))] ++ body) ++ [(IntKind.u8.wrap ((shrI .u32 y5 24))), (IntKind.u8.wrap ((shrI .u32 y5 16))), (IntKind.u8.wrap ((shrI .u32 y5 8))), (IntKind.u8.wrap (y5))])) (by kernel_rfl) (rows_app _ _ _) ?_
    refine adv_ok hm 4 _ ?_
    refine r_needT (b := (Nat.ble (0 + (List.map (eInt .u8) (([247, kind, (IntKind.u8.wrap ((shrI .i64 (((List.map (eInt .u8) body).length : Nat) : Int) 8))), (IntKind.u8.wrap ((((List.map (eInt .u8) body).length : Nat) : Int)))] ++ body) ++ [(IntKind.u8.wrap ((shrI .u32 y5 24))), (IntKind.u8.wrap ((shrI .u32 y5 16))), (IntKind.u8.wrap ((shrI .u32 y5 8))), (IntKind.u8.wrap (y5))])).length) ((List.map (eInt .u8) (([247, kind, (IntKind.u8.wrap ((shrI .i64 (((List.map (eInt .u8) body).length : Nat) : Int) 8))), (IntKind.u8.wrap ((((List.map (eInt .u8) body).length : Nat) : Int)))] ++ body) ++ [(IntKind.u8.wrap ((shrI .u32 y5 24))), (IntKind.u8.wrap ((shrI .u32 y5 16))), (IntKind.u8.wrap ((shrI .u32 y5 8))), (IntKind.u8.wrap (y5))])).length))) (by kernel_rfl) (ble_full _) ?_
    obtain rfl := Option.some.inj h
    exact r_retE [] (d1 := D.tup [D.sl false 1 (List.take ((List.map (eInt .u8) (([247, kind, (IntKind.u8.wrap ((shrI .i64 (((List.map (eInt .u8) body).length : Nat) : Int) 8))), (IntKind.u8.wrap ((((List.map (eInt .u8) body).length : Nat) : Int)))] ++ body) ++ [(IntKind.u8.wrap ((shrI .u32 y5 24))), (IntKind.u8.wrap ((shrI .u32 y5 16))), (IntKind.u8.wrap ((shrI .u32 y5 8))), (IntKind.u8.wrap (y5))])).length) (List.drop 0 (List.map (eInt .u8) (([247, kind, (IntKind.u8.wrap ((shrI .i64 (((List.map (eInt .u8) body).length : Nat) : Int) 8))), (IntKind.u8.wrap ((((List.map (eInt .u8) body).length : Nat) : Int)))] ++ body) ++ [(IntKind.u8.wrap ((shrI .u32 y5 24))), (IntKind.u8.wrap ((shrI .u32 y5 16))), (IntKind.u8.wrap ((shrI .u32 y5 8))), (IntKind.u8.wrap (y5))])))), D.int .i64 0]) (d := D.tup [D.sl false 1 (List.map (eInt .u8) (([247, kind, (IntKind.u8.wrap ((shrI .i64 (((List.map (eInt .u8) body).length : Nat) : Int) 8))), (IntKind.u8.wrap ((((List.map (eInt .u8) body).length : Nat) : Int)))] ++ body) ++ [(IntKind.u8.wrap ((shrI .u32 y5 24))), (IntKind.u8.wrap ((shrI .u32 y5 16))), (IntKind.u8.wrap ((shrI .u32 y5 8))), (IntKind.u8.wrap (y5))])), D.int .i64 0]) (s1 := []) (s := []) (by kernel_rfl) ⟨by simp [List.take_of_length_le, List.map_take, List.map_drop], rfl⟩ ⟨rfl, rfl⟩ Cx.fin_of
end Go.RX.L

set_option linter.unusedSimpArgs false
set_option linter.unusedVariables false
set_option maxRecDepth 100000
set_option maxHeartbeats 4000000
namespace Go.RX.L
open Go Go.RX Go.Proofs
attribute [local irreducible] FinQ
def ref03_Get_Q (y : Int × (List Int) × Int × Int) (d : D) (s : Sto) : Prop := d = D.tup [D.int .u8 y.1, D.sl false 1 (List.map (eInt .u8) y.2.1), D.int .i64 y.2.2.1, D.int .i64 y.2.2.2] ∧ s = []
noncomputable def ref03_Get_1M (b : List Int) (at_ : Int) (t18 : Bool) : M := { td := [It.code (codeAt (bodyOf Tryd.f35) [1, 0, 1]), It.code (codeAt (bodyOf Tryd.f35) [1, 1])], fr := [(0, D.sl false 1 (List.map (eInt .u8) b)), (1, D.int .i64 at_), (18, D.bool t18)], st := [] }
noncomputable def ref03_Get_1 (b : List Int) (at_ : Int) (t18 : Bool) : Option (Int × (List Int) × Int × Int) := (bif t18 then (some (0, [], 0, 1)) else (bif ((decide (((0 : Nat) : Int) ≤ at_)) && (decide ((at_ : Int) ≤ (((List.map (eInt .u8) b).length : Nat) : Int)))) then (bif (((((List.map (eInt .u8) (List.drop at_.toNat (List.take ((List.map (eInt .u8) b).length) b))).length : Nat) : Int) : Int) == 0) then (some (0, [], 0, 31)) else (bif (decide ((0 : Int) < (((List.map (eInt .u8) (List.drop at_.toNat (List.take ((List.map (eInt .u8) b).length) b))).length : Nat) : Int))) then ((((List.drop at_.toNat (List.take ((List.map (eInt .u8) b).length) b)))[0]?).bind fun y5 => (bif ((y5 : Int) != 247) then (some (0, [], 0, 32)) else (bif (decide (((((List.map (eInt .u8) (List.drop at_.toNat (List.take ((List.map (eInt .u8) b).length) b))).length : Nat) : Int) : Int) < 8)) then (some (0, [], 0, 31)) else (bif (decide ((2 : Int) < (((List.map (eInt .u8) (List.drop at_.toNat (List.take ((List.map (eInt .u8) b).length) b))).length : Nat) : Int))) then ((((List.drop at_.toNat (List.take ((List.map (eInt .u8) b).length) b)))[2]?).bind fun y10 => (bif (decide ((3 : Int) < (((List.map (eInt .u8) (List.drop at_.toNat (List.take ((List.map (eInt .u8) b).length) b))).length : Nat) : Int))) then ((((List.drop at_.toNat (List.take ((List.map (eInt .u8) b).length) b)))[3]?).bind fun y13 => (bif (decide (((orI .i64 (shlI .i64 (IntKind.i64.wrap (y10)) 8) (IntKind.i64.wrap (y13))) : Int) > 8192)) then (some (0, [], 0, 2)) else (bif (decide (((((List.map (eInt .u8) (List.drop at_.toNat (List.take ((List.map (eInt .u8) b).length) b))).length : Nat) : Int) : Int) < (IntKind.i64.wrap ((orI .i64 (shlI .i64 (IntKind.i64.wrap (y10)) 8) (IntKind.i64.wrap (y13))) + 8)))) then (some (0, [], 0, 31)) else (bif ((decide ((0 : Int) ≤ (IntKind.i64.wrap ((orI .i64 (shlI .i64 (IntKind.i64.wrap (y10)) 8) (IntKind.i64.wrap (y13))) + 4)))) && (decide (((IntKind.i64.wrap ((orI .i64 (shlI .i64 (IntKind.i64.wrap (y10)) 8) (IntKind.i64.wrap (y13))) + 4)) : Int) < (((List.map (eInt .u8) (List.drop at_.toNat (List.take ((List.map (eInt .u8) b).length) b))).length : Nat) : Int)))) then ((((List.drop at_.toNat (List.take ((List.map (eInt .u8) b).length) b)))[(IntKind.i64.wrap ((orI .i64 (shlI .i64 (IntKind.i64.wrap (y10)) 8) (IntKind.i64.wrap (y13))) + 4)).toNat]?).bind fun y18 => (bif ((decide ((0 : Int) ≤ (IntKind.i64.wrap ((orI .i64 (shlI .i64 (IntKind.i64.wrap (y10)) 8) (IntKind.i64.wrap (y13))) + 5)))) && (decide (((IntKind.i64.wrap ((orI .i64 (shlI .i64 (IntKind.i64.wrap (y10)) 8) (IntKind.i64.wrap (y13))) + 5)) : Int) < (((List.map (eInt .u8) (List.drop at_.toNat (List.take ((List.map (eInt .u8) b).length) b))).length : Nat) : Int)))) then ((((List.drop at_.toNat (List.take ((List.map (eInt .u8) b).length) b)))[(IntKind.i64.wrap ((orI .i64 (shlI .i64 (IntKind.i64.wrap (y10)) 8) (IntKind.i64.wrap (y13))) + 5)).toNat]?).bind fun y21 => (bif ((decide ((0 : Int) ≤ (IntKind.i64.wrap ((orI .i64 (shlI .i64 (IntKind.i64.wrap (y10)) 8) (IntKind.i64.wrap (y13))) + 6)))) && (decide (((IntKind.i64.wrap ((orI .i64 (shlI .i64 (IntKind.i64.wrap (y10)) 8) (IntKind.i64.wrap (y13))) + 6)) : Int) < (((List.map (eInt .u8) (List.drop at_.toNat (List.take ((List.map (eInt .u8) b).length) b))).length : Nat) : Int)))) then ((((List.drop at_.toNat (List.take ((List.map (eInt .u8) b).length) b)))[(IntKind.i64.wrap ((orI .i64 (shlI .i64 (IntKind.i64.wrap (y10)) 8) (IntKind.i64.wrap (y13))) + 6)).toNat]?).bind fun y24 => (bif ((decide ((0 : Int) ≤ (IntKind.i64.wrap ((orI .i64 (shlI .i64 (IntKind.i64.wrap (y10)) 8) (IntKind.i64.wrap (y13))) + 7)))) && (decide (((IntKind.i64.wrap ((orI .i64 (shlI .i64 (IntKind.i64.wrap (y10)) 8) (IntKind.i64.wrap (y13))) + 7)) : Int) < (((List.map (eInt .u8) (List.drop at_.toNat (List.take ((List.map (eInt .u8) b).length) b))).length : Nat) : Int)))) then ((((List.drop at_.toNat (List.take ((List.map (eInt .u8) b).length) b)))[(IntKind.i64.wrap ((orI .i64 (shlI .i64 (IntKind.i64.wrap (y10)) 8) (IntKind.i64.wrap (y13))) + 7)).toNat]?).bind fun y27 => (bif ((decide (((0 : Nat) : Int) ≤ (IntKind.i64.wrap ((orI .i64 (shlI .i64 (IntKind.i64.wrap (y10)) 8) (IntKind.i64.wrap (y13))) + 4)))) && (decide (((IntKind.i64.wrap ((orI .i64 (shlI .i64 (IntKind.i64.wrap (y10)) 8) (IntKind.i64.wrap (y13))) + 4)) : Int) ≤ (((List.map (eInt .u8) (List.drop at_.toNat (List.take ((List.map (eInt .u8) b).length) b))).length : Nat) : Int)))) then (bif (decide ((1 : Int) ≤ (((IntKind.i64.wrap ((orI .i64 (shlI .i64 (IntKind.i64.wrap (y10)) 8) (IntKind.i64.wrap (y13))) + 4)).toNat : Nat) : Int))) then ((ref02_Sum (List.drop 1 (List.take ((IntKind.i64.wrap ((orI .i64 (shlI .i64 (IntKind.i64.wrap (y10)) 8) (IntKind.i64.wrap (y13))) + 4)).toNat) (List.drop at_.toNat (List.take ((List.map (eInt .u8) b).length) b))))).bind fun y31 => (bif ((y31 : Int) != (orI .u32 (orI .u32 (orI .u32 (shlI .u32 (IntKind.u32.wrap (y18)) 24) (shlI .u32 (IntKind.u32.wrap (y21)) 16)) (shlI .u32 (IntKind.u32.wrap (y24)) 8)) (IntKind.u32.wrap (y27)))) then (some (0, [], 0, 33)) else (bif (decide ((1 : Int) < (((List.map (eInt .u8) (List.drop at_.toNat (List.take ((List.map (eInt .u8) b).length) b))).length : Nat) : Int))) then ((((List.drop at_.toNat (List.take ((List.map (eInt .u8) b).length) b)))[1]?).bind fun y34 => (bif ((decide (((0 : Nat) : Int) ≤ (IntKind.i64.wrap ((orI .i64 (shlI .i64 (IntKind.i64.wrap (y10)) 8) (IntKind.i64.wrap (y13))) + 4)))) && (decide (((IntKind.i64.wrap ((orI .i64 (shlI .i64 (IntKind.i64.wrap (y10)) 8) (IntKind.i64.wrap (y13))) + 4)) : Int) ≤ (((List.map (eInt .u8) (List.drop at_.toNat (List.take ((List.map (eInt .u8) b).length) b))).length : Nat) : Int)))) then (bif (decide ((4 : Int) ≤ (((IntKind.i64.wrap ((orI .i64 (shlI .i64 (IntKind.i64.wrap (y10)) 8) (IntKind.i64.wrap (y13))) + 4)).toNat : Nat) : Int))) then (bif (decide ((0 + (List.map (eInt .u8) (List.drop 4 (List.take ((IntKind.i64.wrap ((orI .i64 (shlI .i64 (IntKind.i64.wrap (y10)) 8) (IntKind.i64.wrap (y13))) + 4)).toNat) (List.drop at_.toNat (List.take ((List.map (eInt .u8) b).length) b))))).length) * 1 ≤ bytesLim)) then (some (y34, (List.drop 4 (List.take ((IntKind.i64.wrap ((orI .i64 (shlI .i64 (IntKind.i64.wrap (y10)) 8) (IntKind.i64.wrap (y13))) + 4)).toNat) (List.drop at_.toNat (List.take ((List.map (eInt .u8) b).length) b)))), (IntKind.i64.wrap ((IntKind.i64.wrap (at_ + (orI .i64 (shlI .i64 (IntKind.i64.wrap (y10)) 8) (IntKind.i64.wrap (y13))))) + 8)), 0)) else none) else none) else none)) else none))) else none) else none)) else none)) else none)) else none)) else none)))) else none)) else none)))) else none)) else none))
theorem ref03_Get_1_ok {b : List Int} {at_ : Int} {t18 : Bool} {r : Int × (List Int) × Int × Int} (h : ref03_Get_1 b at_ t18 = some r) : FinQ E (Cx.of Tryd.f35 false 0) (QW (ref03_Get_Q r)) (.go (ref03_Get_1M b at_ t18)) := by
  unfold ref03_Get_1 at h
  refine adv_ok hm 1 _ ?_
  refine p_split h (by kernel_rfl) (fun h1 h => ?_) (fun h1 h => ?_)
  · -- true
    refine adv_ok hm 8 _ ?_
    obtain rfl := Option.some.inj h
    exact r_retF [.slot 0 [some 1]] (d := D.tup [D.int .u8 0, D.sl false 1 [], D.int .i64 0, D.int .i64 1]) (s := []) (by kernel_rfl) Cx.fin_of ⟨rfl, rfl⟩
  · -- false
    refine adv_ok hm 6 _ ?_
    refine p_need h (by kernel_rfl) (fun h2 h => ?_)
    refine r_rows (List.drop at_.toNat (List.take ((List.map (eInt .u8) b).length) (List.map (eInt .u8) b))) (List.map (eInt .u8) (List.drop at_.toNat (List.take ((List.map (eInt .u8) b).length) b))) (by kernel_rfl) (rows_cut _ _ _ _) ?_
    refine adv_ok hm 10 _ ?_
    refine p_split h (by kernel_rfl) (fun h3 h => ?_) (fun h3 h => ?_)
    · -- true
      refine adv_ok hm 8 _ ?_
      obtain rfl := Option.some.inj h
      exact r_retF [.slot 0 [some 1]] (d := D.tup [D.int .u8 0, D.sl false 1 [], D.int .i64 0, D.int .i64 31]) (s := []) (by kernel_rfl) Cx.fin_of ⟨rfl, rfl⟩
    · -- false
      refine adv_ok hm 6 _ ?_
      refine p_need h (by kernel_rfl) (fun h4 h => ?_)
      refine adv_ok hm 1 _ ?_
      refine p_row (((List.map (eInt .u8) (List.drop at_.toNat (List.take ((List.map (eInt .u8) b).length) b))))[0]?) (eInt .u8) h (by kernel_rfl) List.getElem?_map (fun y5 h6 h => ?_)
      refine adv_ok hm 3 _ ?_
      refine p_split h (by kernel_rfl) (fun h7 h => ?_) (fun h7 h => ?_)
      · -- true
        refine adv_ok hm 8 _ ?_
        obtain rfl := Option.some.inj h
        exact r_retF [.slot 0 [some 1]] (d := D.tup [D.int .u8 0, D.sl false 1 [], D.int .i64 0, D.int .i64 32]) (s := []) (by kernel_rfl) Cx.fin_of ⟨rfl, rfl⟩
      · -- false
        refine adv_ok hm 9 _ ?_
        refine p_split h (by kernel_rfl) (fun h8 h => ?_) (fun h8 h => ?_)
        · -- true
          refine adv_ok hm 8 _ ?_
          obtain rfl := Option.some.inj h
          exact r_retF [.slot 0 [some 1]] (d := D.tup [D.int .u8 0, D.sl false 1 [], D.int .i64 0, D.int .i64 31]) (s := []) (by kernel_rfl) Cx.fin_of ⟨rfl, rfl⟩
        · -- false
          refine adv_ok hm 3 _ ?_
          refine p_need h (by kernel_rfl) (fun h9 h => ?_)
          refine p_row (((List.map (eInt .u8) (List.drop at_.toNat (List.take ((List.map (eInt .u8) b).length) b))))[2]?) (eInt .u8) h (by kernel_rfl) List.getElem?_map (fun y10 h11 h => ?_)
          refine adv_ok hm 1 _ ?_
          refine p_need h (by kernel_rfl) (fun h12 h => ?_)
          refine p_row (((List.map (eInt .u8) (List.drop at_.toNat (List.take ((List.map (eInt .u8) b).length) b))))[3]?) (eInt .u8) h (by kernel_rfl) List.getElem?_map (fun y13 h14 h => ?_)
          refine adv_ok hm 7 _ ?_
          refine p_split h (by kernel_rfl) (fun h15 h => ?_) (fun h15 h => ?_)
          · -- true
            refine adv_ok hm 8 _ ?_
            obtain rfl := Option.some.inj h
            exact r_retF [.slot 0 [some 1]] (d := D.tup [D.int .u8 0, D.sl false 1 [], D.int .i64 0, D.int .i64 2]) (s := []) (by kernel_rfl) Cx.fin_of ⟨rfl, rfl⟩
          · -- false
            refine adv_ok hm 11 _ ?_
            refine p_split h (by kernel_rfl) (fun h16 h => ?_) (fun h16 h => ?_)
            · -- true
              refine adv_ok hm 8 _ ?_
              obtain rfl := Option.some.inj h
              exact r_retF [.slot 0 [some 1]] (d := D.tup [D.int .u8 0, D.sl false 1 [], D.int .i64 0, D.int .i64 31]) (s := []) (by kernel_rfl) Cx.fin_of ⟨rfl, rfl⟩
            · -- false
              refine adv_ok hm 3 _ ?_
              refine p_need h (by kernel_rfl) (fun h17 h => ?_)
              refine p_row (((List.map (eInt .u8) (List.drop at_.toNat (List.take ((List.map (eInt .u8) b).length) b))))[(IntKind.i64.wrap ((orI .i64 (shlI .i64 (IntKind.i64.wrap (y10)) 8) (IntKind.i64.wrap (y13))) + 4)).toNat]?) (eInt .u8) h (by kernel_rfl) List.getElem?_map (fun y18 h19 h => ?_)
              refine adv_ok hm 1 _ ?_
              refine p_need h (by kernel_rfl) (fun h20 h => ?_)
              refine p_row (((List.map (eInt .u8) (List.drop at_.toNat (List.take ((List.map (eInt .u8) b).length) b))))[(IntKind.i64.wrap ((orI .i64 (shlI .i64 (IntKind.i64.wrap (y10)) 8) (IntKind.i64.wrap (y13))) + 5)).toNat]?) (eInt .u8) h (by kernel_rfl) List.getElem?_map (fun y21 h22 h => ?_)
              refine adv_ok hm 1 _ ?_
              refine p_need h (by kernel_rfl) (fun h23 h => ?_)
              refine p_row (((List.map (eInt .u8) (List.drop at_.toNat (List.take ((List.map (eInt .u8) b).length) b))))[(IntKind.i64.wrap ((orI .i64 (shlI .i64 (IntKind.i64.wrap (y10)) 8) (IntKind.i64.wrap (y13))) + 6)).toNat]?) (eInt .u8) h (by kernel_rfl) List.getElem?_map (fun y24 h25 h => ?_)
              refine adv_ok hm 1 _ ?_
              refine p_need h (by kernel_rfl) (fun h26 h => ?_)
              refine p_row (((List.map (eInt .u8) (List.drop at_.toNat (List.take ((List.map (eInt .u8) b).length) b))))[(IntKind.i64.wrap ((orI .i64 (shlI .i64 (IntKind.i64.wrap (y10)) 8) (IntKind.i64.wrap (y13))) + 7)).toNat]?) (eInt .u8) h (by kernel_rfl) List.getElem?_map (fun y27 h28 h => ?_)
              refine adv_ok hm 7 _ ?_
              refine p_need h (by kernel_rfl) (fun h29 h => ?_)
              refine p_need h (by kernel_rfl) (fun h30 h => ?_)
              refine r_rows (List.drop 1 (List.take ((IntKind.i64.wrap ((orI .i64 (shlI .i64 (IntKind.i64.wrap (y10)) 8) (IntKind.i64.wrap (y13))) + 4)).toNat) (List.map (eInt .u8) (List.drop at_.toNat (List.take ((List.map (eInt .u8) b).length) b))))) (List.map (eInt .u8) (List.drop 1 (List.take ((IntKind.i64.wrap ((orI .i64 (shlI .i64 (IntKind.i64.wrap (y10)) 8) (IntKind.i64.wrap (y13))) + 4)).toNat) (List.drop at_.toNat (List.take ((List.map (eInt .u8) b).length) b))))) (by kernel_rfl) (rows_cut _ _ _ _) ?_
              refine adv_ok hm 1 _ ?_
              have ok31 := fun (y : Int) (hy : ref02_Sum (List.drop 1 (List.take ((IntKind.i64.wrap ((orI .i64 (shlI .i64 (IntKind.i64.wrap (y10)) 8) (IntKind.i64.wrap (y13))) + 4)).toNat) (List.drop at_.toNat (List.take ((List.map (eInt .u8) b).length) b)))) = some y) => ref02_Sum_ok hy
              refine p_callR [] h (by kernel_rfl) ok31 (fun y31 h31 h => ?_)
              refine adv_ok hm 4 _ ?_
              refine p_split h (by kernel_rfl) (fun h32 h => ?_) (fun h32 h => ?_)
              · -- true
                refine adv_ok hm 8 _ ?_
                obtain rfl := Option.some.inj h
                exact r_retF [.slot 0 [some 1]] (d := D.tup [D.int .u8 0, D.sl false 1 [], D.int .i64 0, D.int .i64 33]) (s := []) (by kernel_rfl) Cx.fin_of ⟨rfl, rfl⟩
              · -- false
                refine adv_ok hm 3 _ ?_
                refine p_need h (by kernel_rfl) (fun h33 h => ?_)
                refine p_row (((List.map (eInt .u8) (List.drop at_.toNat (List.take ((List.map (eInt .u8) b).length) b))))[1]?) (eInt .u8) h (by kernel_rfl) List.getElem?_map (fun y34 h35 h => ?_)
                refine p_need h (by kernel_rfl) (fun h36 h => ?_)
                refine p_need h (by kernel_rfl) (fun h37 h => ?_)
                refine r_rows (List.drop 4 (List.take ((IntKind.i64.wrap ((orI .i64 (shlI .i64 (IntKind.i64.wrap (y10)) 8) (IntKind.i64.wrap (y13))) + 4)).toNat) (List.map (eInt .u8) (List.drop at_.toNat (List.take ((List.map (eInt .u8) b).length) b))))) (List.map (eInt .u8) (List.drop 4 (List.take ((IntKind.i64.wrap ((orI .i64 (shlI .i64 (IntKind.i64.wrap (y10)) 8) (IntKind.i64.wrap (y13))) + 4)).toNat) (List.drop at_.toNat (List.take ((List.map (eInt .u8) b).length) b))))) (by kernel_rfl) (rows_cut _ _ _ _) ?_
                refine p_need h (by kernel_rfl) (fun h38 h => ?_)
                refine adv_ok hm 1 _ ?_
                refine r_rows (List.map (eInt .u8) (List.drop 4 (List.take ((IntKind.i64.wrap ((orI .i64 (shlI .i64 (IntKind.i64.wrap (y10)) 8) (IntKind.i64.wrap (y13))) + 4)).toNat) (List.drop at_.toNat (List.take ((List.map (eInt .u8) b).length) b))))) (List.map (eInt .u8) (List.drop 4 (List.take ((IntKind.i64.wrap ((orI .i64 (shlI .i64 (IntKind.i64.wrap (y10)) 8) (IntKind.i64.wrap (y13))) + 4)).toNat) (List.drop at_.toNat (List.take ((List.map (eInt .u8) b).length) b))))) (by kernel_rfl) (rfl) ?_
                refine adv_ok hm 1 _ ?_
                refine r_needT (b := (Nat.ble (0 + (List.map (eInt .u8) (List.drop 4 (List.take ((IntKind.i64.wrap ((orI .i64 (shlI .i64 (IntKind.i64.wrap (y10)) 8) (IntKind.i64.wrap (y13))) + 4)).toNat) (List.drop at_.toNat (List.take ((List.map (eInt .u8) b).length) b))))).length) ((List.map (eInt .u8) (List.drop 4 (List.take ((IntKind.i64.wrap ((orI .i64 (shlI .i64 (IntKind.i64.wrap (y10)) 8) (IntKind.i64.wrap (y13))) + 4)).toNat) (List.drop at_.toNat (List.take ((List.map (eInt .u8) b).length) b))))).length))) (by kernel_rfl) (ble_full _) ?_
                obtain rfl := Option.some.inj h
                exact r_retE [] (d1 := D.tup [D.int .u8 y34, D.sl false 1 (List.take ((List.map (eInt .u8) (List.drop 4 (List.take ((IntKind.i64.wrap ((orI .i64 (shlI .i64 (IntKind.i64.wrap (y10)) 8) (IntKind.i64.wrap (y13))) + 4)).toNat) (List.drop at_.toNat (List.take ((List.map (eInt .u8) b).length) b))))).length) (List.drop 0 (List.map (eInt .u8) (List.drop 4 (List.take ((IntKind.i64.wrap ((orI .i64 (shlI .i64 (IntKind.i64.wrap (y10)) 8) (IntKind.i64.wrap (y13))) + 4)).toNat) (List.drop at_.toNat (List.take ((List.map (eInt .u8) b).length) b))))))), D.int .i64 (IntKind.i64.wrap ((IntKind.i64.wrap (at_ + (orI .i64 (shlI .i64 (IntKind.i64.wrap (y10)) 8) (IntKind.i64.wrap (y13))))) + 8)), D.int .i64 0]) (d := D.tup [D.int .u8 y34, D.sl false 1 (List.map (eInt .u8) (List.drop 4 (List.take ((IntKind.i64.wrap ((orI .i64 (shlI .i64 (IntKind.i64.wrap (y10)) 8) (IntKind.i64.wrap (y13))) + 4)).toNat) (List.drop at_.toNat (List.take ((List.map (eInt .u8) b).length) b))))), D.int .i64 (IntKind.i64.wrap ((IntKind.i64.wrap (at_ + (orI .i64 (shlI .i64 (IntKind.i64.wrap (y10)) 8) (IntKind.i64.wrap (y13))))) + 8)), D.int .i64 0]) (s1 := []) (s := []) (by kernel_rfl) ⟨by simp [List.take_of_length_le, List.map_take, List.map_drop], rfl⟩ ⟨rfl, rfl⟩ Cx.fin_of
noncomputable def ref03_Get (b : List Int) (at_ : Int) : Option (Int × (List Int) × Int × Int) := (bif (decide ((at_ : Int) < 0)) then (ref03_Get_1 b at_ true) else (ref03_Get_1 b at_ (decide ((at_ : Int) > (((List.map (eInt .u8) b).length : Nat) : Int)))))
theorem ref03_Get_ok {b : List Int} {at_ : Int} {r : Int × (List Int) × Int × Int} (h : ref03_Get b at_ = some r) : Sound E 35 [D.sl false 1 (List.map (eInt .u8) b), D.int .i64 at_] [] (ref03_Get_Q r) := by
  refine sound_ofW (m := ⟨[.code (bodyOf Tryd.f35)], [(0, D.sl false 1 (List.map (eInt .u8) b)), (1, D.int .i64 at_)], []⟩) (fn := Tryd.f35) (by kernel_rfl) (by kernel_rfl) ?_
  show FinQ E (Cx.of Tryd.f35 false 0) (QW (ref03_Get_Q r)) _
  unfold ref03_Get at h
  refine adv_ok hm 14 _ ?_
  refine p_split h (by kernel_rfl) (fun h1 h => ?_) (fun h1 h => ?_)
  · -- true
    refine adv_ok hm 9 _ ?_
    exact r_cut 262147 [] (m' := (ref03_Get_1M b at_ true)) (by kernel_rfl) (ref03_Get_1_ok h)
  · -- false
    refine adv_ok hm 9 _ ?_
    exact r_cut 262147 [] (m' := (ref03_Get_1M b at_ (decide ((at_ : Int) > (((List.map (eInt .u8) b).length : Nat) : Int))))) (by kernel_rfl) (ref03_Get_1_ok h)
end Go.RX.L

set_option linter.unusedSimpArgs false
set_option linter.unusedVariables false
set_option maxRecDepth 100000
namespace Go.RX.L
open Go Go.RX

theorem shlI8 {a : Nat} (h : a < 36028797018963968) : shlI .i64 a 8 = ((a * 256 : Nat) : Int) := by
  unfold shlI
  rw [show min (8 : Int).toNat IntKind.i64.bits = 8 from rfl, show ((a : Int) * (2 : Int) ^ 8) = ((a * 256 : Nat) : Int) by norm_cast, wI64 (by omega) (by omega)]
theorem orI64n {a b : Nat} (ha : a < 9223372036854775808) (hb : b < 9223372036854775808) : orI .i64 a b = ((a ||| b : Nat) : Int) := by
  unfold orI
  have := Nat.or_lt_two_pow (n := 63) ha hb
  rw [BitVec.toNat_or, toNatI ha, toNatI hb, wI64 (by omega) (by omega)]
theorem or8 {a c : Nat} (hc : c < 256) : a * 256 ||| c = a * 256 + c := by
  rw [show a * 256 = 2 ^ 8 * a by omega, Nat.two_pow_add_eq_or_of_lt (by omega : c < 2 ^ 8)]
theorem len2 {a c : Nat} (ha : a < 256) (hc : c < 256) : orI .i64 (shlI .i64 (IntKind.i64.wrap (a : Int)) 8) (IntKind.i64.wrap (c : Int)) = ((a * 256 + c : Nat) : Int) := by
  rw [wI64 (by omega) (by omega), wI64 (by omega) (by omega), shlI8 (by omega), orI64n (by omega) (by omega), or8 hc]
theorem orU32 {a b : Nat} (ha : a < 4294967296) (hb : b < 4294967296) : orI .u32 a b = ((a ||| b : Nat) : Int) := by
  unfold orI
  have := Nat.or_lt_two_pow (n := 32) ha hb
  rw [BitVec.toNat_or, ofInt32 ha, ofInt32 hb, wrapU32 this]
theorem shlU32 {a k : Nat} (hk : k ≤ 32) (h : a * 2 ^ k < 4294967296) : shlI .u32 a k = ((a * 2 ^ k : Nat) : Int) := by
  unfold shlI
  have e : min (k : Int).toNat IntKind.u32.bits = k := by simp [IntKind.bits]; omega
  rw [e, show ((a : Int) * (2 : Int) ^ k) = ((a * 2 ^ k : Nat) : Int) by norm_cast, wrapU32 h]
theorem four32 {x y z u : Nat} (hx : x < 256) (hy : y < 256) (hz : z < 256) (hu : u < 256) : orI .u32 (orI .u32 (orI .u32 (shlI .u32 (IntKind.u32.wrap (x : Int)) 24) (shlI .u32 (IntKind.u32.wrap (y : Int)) 16)) (shlI .u32 (IntKind.u32.wrap (z : Int)) 8)) (IntKind.u32.wrap (u : Int)) = ((((x * 256 + y) * 256 + z) * 256 + u : Nat) : Int) := by
  have s1 : shlI .u32 x 24 = ((x * 16777216 : Nat) : Int) := shlU32 (k := 24) (by decide) (by omega)
  have s2 : shlI .u32 y 16 = ((y * 65536 : Nat) : Int) := shlU32 (k := 16) (by decide) (by omega)
  have s3 : shlI .u32 z 8 = ((z * 256 : Nat) : Int) := shlU32 (k := 8) (by decide) (by omega)
  have o1 : x * 16777216 ||| y * 65536 = x * 16777216 + y * 65536 := by
    rw [show x * 16777216 = 2 ^ 24 * x by omega, Nat.two_pow_add_eq_or_of_lt (by omega : y * 65536 < 2 ^ 24)]
  have o2 : (x * 16777216 + y * 65536) ||| z * 256 = x * 16777216 + y * 65536 + z * 256 := by
    rw [show x * 16777216 + y * 65536 = 2 ^ 16 * (x * 256 + y) by omega, Nat.two_pow_add_eq_or_of_lt (by omega : z * 256 < 2 ^ 16)]
  have o3 : (x * 16777216 + y * 65536 + z * 256) ||| u = x * 16777216 + y * 65536 + z * 256 + u := by
    rw [show x * 16777216 + y * 65536 + z * 256 = 2 ^ 8 * (x * 65536 + y * 256 + z) by omega, Nat.two_pow_add_eq_or_of_lt (by omega : u < 2 ^ 8)]
  rw [wrapU32 (by omega), wrapU32 (by omega), wrapU32 (by omega), wrapU32 (by omega), s1, s2, s3, orU32 (by omega) (by omega), o1, orU32 (by omega) (by omega), o2, orU32 (by omega) (by omega), o3]
  congr 1
  omega

theorem bytesN {l : List Int} (h : Bytes l) : ∃ m : List Nat, l = m.map (fun (n : Nat) => (n : Int)) ∧ ∀ n ∈ m, n < 256 := by
  refine ⟨l.map Int.toNat, ?_, ?_⟩
  · rw [List.map_map]
    conv => lhs; rw [← List.map_id l]
    refine List.map_congr_left fun c hc => ?_
    exact (Int.toNat_of_nonneg (h c hc).1).symm
  · intro n hn
    obtain ⟨c, hc, rfl⟩ := List.mem_map.1 hn
    have := h c hc
    omega

/-! ### writing -/
def putF (k : Int) (body : List Int) : List Int × Int := if body.length ≤ 8192 then (encF k body, 0) else ([], 2)

theorem shr8 {n : Nat} : shrI .i64 n 8 = ((n / 256 : Nat) : Int) := by
  unfold shrI
  rw [show min (8 : Int).toNat IntKind.i64.bits = 8 from rfl, Int.fdiv_eq_ediv_of_nonneg _ (by decide)]
  norm_cast
theorem headB (k : Int) {body : List Int} (h : body.length ≤ 8192) : [247, k, (IntKind.u8.wrap ((shrI .i64 ((body.length : Nat) : Int) 8))), (IntKind.u8.wrap (((body.length : Nat) : Int)))] ++ body = 247 :: inner k body := by
  rw [shr8, wrapU8_mod, wrapU8_mod, Nat.mod_eq_of_lt (a := body.length / 256) (by omega)]
  rfl
theorem sumB {k : Int} {body : List Int} (h : body.length ≤ 8192) : List.take ((247 :: inner k body).length - 1) (List.drop 1 (247 :: inner k body)) = inner k body := by
  simp

theorem frame_tail {s : Nat} (hs : s < 4294967296) {b : List Int} (hb : b.length ≤ 8300) : Ev frame_Put_step (.s1 s 24 b) (b ++ be4 s, 0) := by
  have e24 : shrI .u32 s 24 = ((s / 16777216 : Nat) : Int) := shrU32 (a := s) (k := 24) (by decide)
  have e16 : shrI .u32 s 16 = ((s / 65536 : Nat) : Int) := shrU32 (a := s) (k := 16) (by decide)
  have e8 : shrI .u32 s 8 = ((s / 256 : Nat) : Int) := shrU32 (a := s) (k := 8) (by decide)
  have e0 : shrI .u32 s 0 = (s : Int) := by have := shrU32 (a := s) (k := 0) (by decide); simpa using this
  have lim : ∀ n, n ≤ 8310 → decide ((n + 1) * 1 ≤ bytesLim) = true := fun n hn => limOk (by omega)
  refine .next (s' := .s1 s 16 (b ++ [((s / 16777216 % 256 : Nat) : Int)])) ?_ (.next (s' := .s1 s 8 (b ++ [((s / 16777216 % 256 : Nat) : Int), ((s / 65536 % 256 : Nat) : Int)])) ?_ (.next (s' := .s1 s 0 (b ++ [((s / 16777216 % 256 : Nat) : Int), ((s / 65536 % 256 : Nat) : Int), ((s / 256 % 256 : Nat) : Int)])) ?_ (.next (s' := .s1 s (-8) (b ++ be4 s)) ?_ (.done ?_))))
  · simp only [frame_Put_step, frame_Put_1, e24, wrapU8_mod, List.length_map, lim b.length (by omega)]
    rfl
  · simp only [frame_Put_step, frame_Put_1, e16, wrapU8_mod, List.length_map, List.length_append, List.length_cons, List.length_nil, lim (b.length + (0 + 1)) (by omega), List.append_assoc, List.cons_append, List.nil_append]
    rfl
  · simp only [frame_Put_step, frame_Put_1, e8, wrapU8_mod, List.length_map, List.length_append, List.length_cons, List.length_nil, lim (b.length + (0 + 1 + 1)) (by omega), List.append_assoc, List.cons_append, List.nil_append]
    rfl
  · simp only [frame_Put_step, frame_Put_1, e0, wrapU8_mod, List.length_map, List.length_append, List.length_cons, List.length_nil, lim (b.length + (0 + 1 + 1 + 1)) (by omega), List.append_assoc, List.cons_append, List.nil_append]
    rfl
  · rfl

theorem framePut_ok {k : Int} {body : List Int} (hk : 0 ≤ k ∧ k ≤ 255) (hb : Bytes body) (hm : body.length ≤ memB) : frame_Put k body = some (putF k body) := by
  unfold putF
  by_cases h : body.length ≤ 8192
  · rw [if_pos h]
    have hs := sum_ok (inner_bytes hk hb (by omega)) (by rw [inner_len]; omega)
    refine evf_of (.next (s' := .s1 (crc (inner k body) : Int) 24 (247 :: inner k body)) ?_ ?_)
    · have c1 : decide (((body.length : Nat) : Int) > 8192) = false := by simp; omega
      have c2 : decide ((4 + body.length) * 1 ≤ bytesLim) = true := limOk (by omega)
      have c3 : decide ((1 : Int) ≤ (((247 :: inner k body).length : Nat) : Int)) = true := by simp [inner_len]; omega
      have c4 : Nat.ble (1 + ((247 :: inner k body).length - 1)) (247 :: inner k body).length = true := by simp; omega
      simp only [frame_Put_step, frame_Put_0, List.length_map, c1, c2, headB k h, c3, c4, cond_false, cond_true, sumB h, hs, Option.bind_some]
    · exact frame_tail (crc_lt _) (by simp [inner_len]; omega)
  · rw [if_neg h]
    refine evf_of (.done ?_)
    have c1 : decide (((body.length : Nat) : Int) > 8192) = true := by simp; omega
    simp only [frame_Put_step, frame_Put_0, List.length_map, c1, cond_true]

theorem rframePut_ok {k : Int} {body : List Int} (hk : 0 ≤ k ∧ k ≤ 255) (hb : Bytes body) (hm : body.length ≤ memB) : ref03_Put k body = some (putF k body) := by
  unfold putF
  by_cases h : body.length ≤ 8192
  · rw [if_pos h]
    have hs := rsum_ok (inner_bytes hk hb (by omega)) (by rw [inner_len]; omega)
    have c1 : decide (((body.length : Nat) : Int) > 8192) = false := by simp; omega
    have c2 : decide ((4 + body.length) * 1 ≤ bytesLim) = true := limOk (by omega)
    have c3 : decide ((1 : Int) ≤ (((247 :: inner k body).length : Nat) : Int)) = true := by simp [inner_len]; omega
    have c4 : Nat.ble (1 + ((247 :: inner k body).length - 1)) (247 :: inner k body).length = true := by simp; omega
    have c5 : decide (((247 :: inner k body).length + 4) * 1 ≤ bytesLim) = true := limOk (by simp [inner_len]; omega)
    have e24 : shrI .u32 (crc (inner k body) : Nat) 24 = ((crc (inner k body) / 16777216 : Nat) : Int) := shrU32 (k := 24) (by decide)
    have e16 : shrI .u32 (crc (inner k body) : Nat) 16 = ((crc (inner k body) / 65536 : Nat) : Int) := shrU32 (k := 16) (by decide)
    have e8 : shrI .u32 (crc (inner k body) : Nat) 8 = ((crc (inner k body) / 256 : Nat) : Int) := shrU32 (k := 8) (by decide)
    simp only [ref03_Put, List.length_map, c1, c2, headB k h, c3, c4, cond_false, cond_true, sumB h, hs, Option.bind_some, c5]
    simp only [e24, e16, e8, wrapU8_mod]
    rfl
  · rw [if_neg h]
    have c1 : decide (((body.length : Nat) : Int) > 8192) = true := by simp; omega
    simp only [ref03_Put, List.length_map, c1, cond_true]
end Go.RX.L

set_option linter.unusedSimpArgs false
set_option linter.unusedVariables false
set_option maxRecDepth 100000
namespace Go.RX.L
open Go Go.RX

def rF (at_ : Nat) (x : Int ⊕ (Int × List Int × Nat)) : Int × List Int × Int × Int := match x with
  | .inl e => (0, [], 0, e)
  | .inr (k, body, m) => (k, body, ((at_ + m : Nat) : Int), 0)

/-- Behind the first byte of a frame whose length may be. -/
theorem pF_nil : pF [] = .inl 31 := rfl
theorem pF_magic {m : Int} {l : List Int} (h : m ≠ 247) : pF (m :: l) = .inl 32 := by simp only [pF, if_pos h]
theorem pF_short {l : List Int} (h : l.length < 7) : pF (247 :: l) = .inl 31 := by
  simp only [pF, if_neg (show ¬ ((247 : Int) ≠ 247) by simp), if_pos (show (247 :: l).length < 8 by simp; omega)]
theorem pF_long {k : Int} {a c : Nat} {r : List Int} (h : 4 ≤ r.length) (hn : 8192 < a * 256 + c) : pF (247 :: k :: (a : Int) :: (c : Int) :: r) = .inl 2 := by
  have hl : ¬ (247 :: k :: (a : Int) :: (c : Int) :: r).length < 8 := by simp; omega
  have hn' : numB 0 [(a : Int), (c : Int)] = a * 256 + c := by simp [numB]
  simp only [pF, if_neg (show ¬ ((247 : Int) ≠ 247) by simp), if_neg hl, List.getD_cons_succ, List.getD_cons_zero, hn', if_pos hn]
theorem pF_cut4 {k : Int} {a c : Nat} {r : List Int} (h : 4 ≤ r.length) (hn : a * 256 + c ≤ 8192) (hc : r.length < a * 256 + c + 4) : pF (247 :: k :: (a : Int) :: (c : Int) :: r) = .inl 31 := by
  have hl : ¬ (247 :: k :: (a : Int) :: (c : Int) :: r).length < 8 := by simp; omega
  have hn' : numB 0 [(a : Int), (c : Int)] = a * 256 + c := by simp [numB]
  have h2 : (247 :: k :: (a : Int) :: (c : Int) :: r).length < a * 256 + c + 8 := by simp; omega
  simp only [pF, if_neg (show ¬ ((247 : Int) ≠ 247) by simp), if_neg hl, List.getD_cons_succ, List.getD_cons_zero, hn', if_neg (show ¬ 8192 < a * 256 + c by omega), if_pos h2]
theorem pF_whole {k : Int} {a c : Nat} {r : List Int} (h : 4 ≤ r.length) (hn : a * 256 + c ≤ 8192) (hc : a * 256 + c + 4 ≤ r.length) : pF (247 :: k :: (a : Int) :: (c : Int) :: r) =
    if crc ((k :: (a : Int) :: (c : Int) :: r).take (a * 256 + c + 3)) ≠ numB 0 ((r.drop (a * 256 + c)).take 4) then .inl 33 else .inr (k, r.take (a * 256 + c), a * 256 + c + 8) := by
  have hl : ¬ (247 :: k :: (a : Int) :: (c : Int) :: r).length < 8 := by simp; omega
  have hn' : numB 0 [(a : Int), (c : Int)] = a * 256 + c := by simp [numB]
  have h2 : ¬ (247 :: k :: (a : Int) :: (c : Int) :: r).length < a * 256 + c + 8 := by simp; omega
  simp only [pF, if_neg (show ¬ ((247 : Int) ≠ 247) by simp), if_neg hl, List.getD_cons_succ, List.getD_cons_zero, hn', if_neg (show ¬ 8192 < a * 256 + c by omega), if_neg h2, List.drop_succ_cons, List.drop_zero]

theorem number_loop {b : List Int} (hb : Bytes b) (h4 : b.length ≤ 4) : ∀ (j k n : Nat), k + j = b.length → n < 256 ^ k → Ev frame_number_step (.s1 n b b.length k) ((numB n (b.drop k) : Nat) : Int) := by
  intro j
  induction j with
  | zero =>
    intro k n hk hn
    refine .done ?_
    rw [List.drop_of_length_le (by omega)]
    simp only [frame_number_step, frame_number_1, geB (show b.length ≤ k by omega), cond_false, numB]
  | succ j ih =>
    intro k n hk hn
    have hlt : k < b.length := by omega
    have hc := hb _ (List.getElem_mem hlt)
    obtain ⟨c, hc'⟩ : ∃ c : Nat, b[k] = (c : Int) := ⟨_, (Int.toNat_of_nonneg hc.1).symm⟩
    rw [hc'] at hc
    have hk4 : 256 ^ k ≤ 256 ^ 3 := Nat.pow_le_pow_right (by decide) (by omega)
    have hd : b.drop k = (c : Int) :: b.drop (k + 1) := by rw [← hc', List.drop_eq_getElem_cons hlt]
    have e1 : IntKind.i64.wrap (shlI .i64 (n : Int) 8 + IntKind.i64.wrap (c : Int)) = ((n * 256 + c : Nat) : Int) := by
      rw [shlI8 (by omega), wI64 (n := (c : Int)) (by omega) (by omega), wI64 (by omega) (by omega)]; norm_cast
    rw [hd]
    refine .next (s' := .s1 ((n * 256 + c : Nat) : Int) b b.length ((k + 1 : Nat) : Int)) ?_ (by
      show Ev frame_number_step _ ((numB (n * 256 + (c : Int).toNat) (b.drop (k + 1)) : Nat) : Int)
      rw [Int.toNat_natCast]
      exact ih (k + 1) _ (by omega) (by rw [Nat.pow_succ]; omega))
    simp only [frame_number_step, frame_number_1, ltB hlt, cond_true, List.length_map, ixB hlt, le0, Bool.and_self, Int.toNat_natCast, List.getE hlt, Option.bind_some, hc', e1, wS (show k < 9223372036854775807 by omega)]
theorem number_ok {b : List Int} (hb : Bytes b) (h4 : b.length ≤ 4) : frame_number b = some ((numB 0 b : Nat) : Int) := by
  refine evf_of (.next (s' := .s1 ((0 : Nat) : Int) b b.length ((0 : Nat) : Int)) ?_ ?_)
  · simp only [frame_number_step, frame_number_0, List.length_map]; rfl
  · have := number_loop hb h4 b.length 0 0 (by omega) (by decide)
    simpa using this

theorem clone_ok {b : List Int} (hm : b.length ≤ memB) : bytes_Clone b = some b := by
  have c : decide ((0 + b.length) * 1 ≤ bytesLim) = true := limOk (by simp only [memB] at hm; omega)
  simp only [bytes_Clone, List.length_map, c, cond_true]

theorem get2_err (at_ : Int) (e n : Int) (rest : List Int) (h : e ≠ 0) : frame_Get_2 at_ e n rest = some (0, [], 0, e) := by
  have : (e != 0) = true := by simp [h]
  simp only [frame_Get_2, this, cond_true]

theorem take_in {l : List Int} (hb : Bytes l) (n : Nat) : Bytes (l.take n) := fun c hc => hb c (List.mem_of_mem_take hc)
theorem drop_in {l : List Int} (hb : Bytes l) (n : Nat) : Bytes (l.drop n) := fun c hc => hb c (List.mem_of_mem_drop hc)

theorem get3_ok {at_ : Nat} {rest : List Int} (hb : Bytes rest) (hm : at_ + rest.length ≤ memB) (h0 : rest = [] ∨ rest.head? = some 247) : frame_Get_3 at_ rest false = some (rF at_ (pF rest)) := by
  simp only [memB] at hm
  have w1 : IntKind.i64.wrap (IntKind.i64.wrap (((rest.length : Nat) : Int) - 4) - 4) = (rest.length : Int) - 8 := by
    rw [wI64 (n := ((rest.length : Nat) : Int) - 4) (by omega) (by omega), wI64 (by omega) (by omega)]; omega
  by_cases h8 : rest.length < 8
  · have c1 : decide (((rest.length : Nat) : Int) < 8) = true := by simp; omega
    have e : pF rest = .inl 31 := by
      rcases h0 with rfl | h0
      · rfl
      · cases rest with
        | nil => rfl
        | cons m l =>
          obtain rfl := Option.some.inj h0
          exact pF_short (by simp at h8; omega)
    simp only [frame_Get_3, cond_false, List.length_map, c1, cond_true, get2_err _ _ _ _ (by decide : (31 : Int) ≠ 0), e, rF]
  · have c1 : decide (((rest.length : Nat) : Int) < 8) = false := by simp; omega
    have c2 : decide ((4 : Int) ≤ ((rest.length : Nat) : Int)) = true := by simp; omega
    have hx : ∃ k a c r, rest = 247 :: k :: a :: c :: r := by
      match rest, h8, h0 with
      | m :: k :: a :: c :: r, _, h0 =>
        rcases h0 with h0 | h0
        · cases h0
        · obtain rfl := Option.some.inj h0; exact ⟨k, a, c, r, rfl⟩
      | [], h, _ => simp at h
      | [_], h, _ => simp at h
      | [_, _], h, _ => simp at h
      | [_, _, _], h, _ => simp at h
    obtain ⟨k, a', c', r, rfl⟩ := hx
    have ha := hb a' (by simp)
    have hc := hb c' (by simp)
    obtain ⟨a, rfl⟩ := Int.eq_ofNat_of_zero_le ha.1
    obtain ⟨c, rfl⟩ := Int.eq_ofNat_of_zero_le hc.1
    have hbr : Bytes r := fun x hx => hb x (by simp [hx])
    have hk := hb k (by simp)
    simp only [List.length_cons] at h8 hm
    have hr4 : 4 ≤ r.length := by omega
    have n1 : frame_number [(a : Int), (c : Int)] = some ((a * 256 + c : Nat) : Int) := by
      have := number_ok (b := [(a : Int), (c : Int)]) (fun x hx => by simp only [List.mem_cons, List.not_mem_nil, or_false] at hx; rcases hx with rfl | rfl <;> assumption) (by simp)
      rw [this]; simp [numB]
    have d1 : List.drop 2 (List.take 4 (247 :: k :: (a : Int) :: (c : Int) :: r)) = [(a : Int), (c : Int)] := by simp
    generalize hn : a * 256 + c = n at *
    simp only [frame_Get_3, cond_false, List.length_map, c1, c2, cond_true, d1, n1, Option.bind_some, w1]
    by_cases hbig : 8192 < n
    · have c3 : decide ((n : Int) > 8192) = true := by simp; omega
      rw [pF_long hr4 (by omega)]
      simp only [c3, cond_true, get2_err _ _ _ _ (by decide : (2 : Int) ≠ 0), rF]
    · have c3 : decide ((n : Int) > 8192) = false := by simp; omega
      by_cases hs : r.length < n + 4
      · have c4 : decide ((n : Int) > ((247 :: k :: (a : Int) :: (c : Int) :: r).length : Int) - 8) = true := by simp; omega
        rw [pF_cut4 hr4 (by omega) (by omega)]
        simp only [c3, c4, cond_true, cond_false, get2_err _ _ _ _ (by decide : (31 : Int) ≠ 0), rF]
      · have c4 : decide ((n : Int) > ((247 :: k :: (a : Int) :: (c : Int) :: r).length : Int) - 8) = false := by simp; omega
        have w2 : IntKind.i64.wrap ((4 : Int) + (n : Int)) = ((n + 4 : Nat) : Int) := by rw [wI64 (by omega) (by omega)]; omega
        have w3 : IntKind.i64.wrap (((n + 4 : Nat) : Int) + 4) = ((n + 8 : Nat) : Int) := by rw [wI64 (by omega) (by omega)]; omega
        have c5 : (decide (((0 : Nat) : Int) ≤ ((n + 4 : Nat) : Int)) && decide (((n + 4 : Nat) : Int) ≤ ((247 :: k :: (a : Int) :: (c : Int) :: r).length : Int))) = true := by simp; omega
        have c6 : decide ((1 : Int) ≤ (((n + 4 : Nat) : Nat) : Int)) = true := by simp; omega
        have c6' : decide ((4 : Int) ≤ (((n + 4 : Nat) : Nat) : Int)) = true := by simp; omega
        have c7 : (decide (((0 : Nat) : Int) ≤ ((n + 8 : Nat) : Int)) && decide (((n + 8 : Nat) : Int) ≤ ((247 :: k :: (a : Int) :: (c : Int) :: r).length : Int))) = true := by simp; omega
        have c8 : (decide (((0 : Nat) : Int) ≤ ((n + 4 : Nat) : Int)) && decide (((n + 4 : Nat) : Int) ≤ ((n + 8 : Nat) : Int))) = true := by simp; omega
        have d2 : List.drop 1 (List.take (n + 4) (247 :: k :: (a : Int) :: (c : Int) :: r)) = (k :: (a : Int) :: (c : Int) :: r).take (n + 3) := by simp
        have d3 : List.drop (n + 4) (List.take (n + 8) (247 :: k :: (a : Int) :: (c : Int) :: r)) = (r.drop n).take 4 := by
          rw [List.drop_take, show n + 8 - (n + 4) = 4 by omega]; rfl
        have d4 : List.drop 4 (List.take (n + 4) (247 :: k :: (a : Int) :: (c : Int) :: r)) = r.take n := by simp
        have hs1 := sum_ok (b := (k :: (a : Int) :: (c : Int) :: r).take (n + 3)) (take_in (fun x hx => hb x (List.mem_cons_of_mem _ hx)) _) (by rw [List.length_take]; omega)
        have hs2 := number_ok (b := (r.drop n).take 4) (take_in (drop_in hbr _) _) (by rw [List.length_take]; omega)
        have hcl := crc_lt ((k :: (a : Int) :: (c : Int) :: r).take (n + 3))
        rw [pF_whole hr4 (by omega) (by omega), hn]
        simp only [c3, c4, cond_true, cond_false, w2, w3, c5, c6, c7, c8, Int.toNat_natCast, d2, d3, hs1, hs2, Option.bind_some, wI64 (n := ((crc ((k :: (a : Int) :: (c : Int) :: r).take (n + 3)) : Nat) : Int)) (by omega) (by omega)]
        by_cases hq : crc ((k :: (a : Int) :: (c : Int) :: r).take (n + 3)) = numB 0 ((r.drop n).take 4)
        · have q1 : ((((crc ((k :: (a : Int) :: (c : Int) :: r).take (n + 3)) : Nat) : Int)) != ((numB 0 ((r.drop n).take 4) : Nat) : Int)) = false := by rw [hq]; simp
          rw [q1, if_neg (by simpa using hq)]
          have c9 : decide ((1 : Int) < ((247 :: k :: (a : Int) :: (c : Int) :: r).length : Int)) = true := by simp; omega
          have w4 : IntKind.i64.wrap (IntKind.i64.wrap (IntKind.i64.wrap ((at_ : Int) + 4) + (n : Int)) + 4) = ((at_ + (n + 8) : Nat) : Int) := by
            rw [wI64 (n := (at_ : Int) + 4) (by omega) (by omega), wI64 (n := (at_ : Int) + 4 + (n : Int)) (by omega) (by omega), wI64 (by omega) (by omega)]; omega
          have cl := clone_ok (b := r.take n) (by rw [List.length_take]; simp only [memB]; omega)
          simp only [cond_false, frame_Get_2, bne_self_eq_false, List.length_map, c9, cond_true, List.getElem?_cons_succ, List.getElem?_cons_zero, Option.bind_some, w2, c5, c6', Int.toNat_natCast, d4, cl, w4, rF]
        · have q1 : ((((crc ((k :: (a : Int) :: (c : Int) :: r).take (n + 3)) : Nat) : Int)) != ((numB 0 ((r.drop n).take 4) : Nat) : Int)) = true := bne_iff_ne.2 fun h => hq (Int.ofNat.inj h)
          rw [q1, if_pos (by simpa using hq)]
          simp only [cond_true, get2_err _ _ _ _ (by decide : (33 : Int) ≠ 0), rF]

theorem frameGet_ok {b : List Int} (hb : Bytes b) (hm : b.length ≤ memB) {at_ : Nat} (h : at_ ≤ b.length) : frame_Get b at_ = some (rF at_ (pF (b.drop at_))) := by
  have hm' := hm
  simp only [memB] at hm'
  have c1 : decide ((at_ : Int) < 0) = false := by simp
  have c2 : decide ((at_ : Int) > ((b.length : Nat) : Int)) = false := by simp; omega
  have c3 : (decide (((0 : Nat) : Int) ≤ (at_ : Int)) && decide ((at_ : Int) ≤ ((b.length : Nat) : Int))) = true := by simp; omega
  simp only [frame_Get, c1, cond_false, List.length_map, c2, frame_Get_1, c3, cond_true, Int.toNat_natCast, List.take_length]
  have hlen : at_ + (b.drop at_).length ≤ memB := by rw [List.length_drop]; simp only [memB]; omega
  have hbd := drop_in hb at_
  generalize b.drop at_ = rest at *
  cases rest with
  | nil =>
    have := get3_ok (at_ := at_) (rest := []) hbd hlen (.inl rfl)
    exact this
  | cons m l =>
    have c4 : decide ((((m :: l).length : Nat) : Int) > 0) = true := by simp
    have c5 : decide ((0 : Int) < (((m :: l).length : Nat) : Int)) = true := by simp
    simp only [c4, c5, cond_true, List.getElem?_cons_zero, Option.bind_some]
    by_cases hq : m = 247
    · subst hq
      exact get3_ok hbd hlen (.inr rfl)
    · have : (m != 247) = true := by simp [hq]
      rw [this, pF_magic hq]
      simp only [frame_Get_3, cond_true, get2_err _ _ _ _ (by decide : (32 : Int) ≠ 0), rF]

/-! ### the document's reader -/
theorem num4 {l : List Int} {x y z u : Nat} (h : l = [(x : Int), (y : Int), (z : Int), (u : Int)]) : numB 0 l = ((x * 256 + y) * 256 + z) * 256 + u := by
  subst h; simp [numB]

theorem rframeGet_ok {b : List Int} (hb : Bytes b) (hm : b.length ≤ memB) {at_ : Nat} (h : at_ ≤ b.length) : ref03_Get b at_ = some (rF at_ (pF (b.drop at_))) := by
  have hm' := hm
  simp only [memB] at hm'
  have c1 : decide ((at_ : Int) < 0) = false := by simp
  have c2 : decide ((at_ : Int) > ((b.length : Nat) : Int)) = false := by simp; omega
  have c3 : (decide (((0 : Nat) : Int) ≤ (at_ : Int)) && decide ((at_ : Int) ≤ ((b.length : Nat) : Int))) = true := by simp; omega
  have hlen : at_ + (b.drop at_).length ≤ memB := by rw [List.length_drop]; simp only [memB]; omega
  have hbd := drop_in hb at_
  simp only [ref03_Get, c1, cond_false, List.length_map, c2, ref03_Get_1, c3, cond_true, Int.toNat_natCast, List.take_length]
  generalize b.drop at_ = rest at *
  simp only [memB] at hlen
  match rest, hbd, hlen with
  | [], _, _ => rfl
  | m :: l, hbd, hlen =>
    have c4 : ((((m :: l).length : Nat) : Int) == 0) = false := beq_eq_false_iff_ne.2 (by simp; omega)
    have c5 : decide ((0 : Int) < (((m :: l).length : Nat) : Int)) = true := by simp
    simp only [c4, cond_false, c5, cond_true, List.getElem?_cons_zero, Option.bind_some]
    by_cases hq : m = 247
    rotate_left
    · have : (m != 247) = true := by simp [hq]
      rw [this, pF_magic hq]; rfl
    subst hq
    simp only [bne_self_eq_false, cond_false]
    by_cases h8 : l.length < 7
    · have c6 : decide ((((247 :: l).length : Nat) : Int) < 8) = true := by simp; omega
      rw [c6, pF_short h8]; rfl
    have c6 : decide ((((247 :: l).length : Nat) : Int) < 8) = false := by simp; omega
    obtain ⟨k, a', c', r, rfl⟩ := cons3 (l := l) (by omega)
    have ha := hbd a' (by simp)
    have hc := hbd c' (by simp)
    obtain ⟨a, rfl⟩ := Int.eq_ofNat_of_zero_le ha.1
    obtain ⟨c, rfl⟩ := Int.eq_ofNat_of_zero_le hc.1
    have hbr : Bytes r := fun x hx => hbd x (by simp [hx])
    have hr4 : 4 ≤ r.length := by simp at h8; omega
    have ll : (247 :: k :: (a : Int) :: (c : Int) :: r).length = r.length + 4 := by simp
    simp only [ll] at hlen c6 ⊢
    have i2 : decide ((2 : Int) < ((r.length + 4 : Nat) : Int)) = true := by simp; omega
    have i3 : decide ((3 : Int) < ((r.length + 4 : Nat) : Int)) = true := by simp; omega
    have hl2 := len2 (a := a) (c := c) (by omega) (by omega)
    generalize hn : a * 256 + c = n at *
    simp only [c6, cond_false, i2, i3, cond_true, List.getElem?_cons_succ, List.getElem?_cons_zero, Option.bind_some, hl2]
    by_cases hbig : 8192 < n
    · have c7 : decide ((n : Int) > 8192) = true := by simp; omega
      rw [c7, pF_long hr4 (by omega)]; rfl
    have c7 : decide ((n : Int) > 8192) = false := by simp; omega
    have w8 : IntKind.i64.wrap ((n : Int) + 8) = ((n + 8 : Nat) : Int) := by rw [wI64 (by omega) (by omega)]; rfl
    simp only [c7, cond_false, w8]
    by_cases hs : r.length < n + 4
    · have c8 : decide (((r.length + 4 : Nat) : Int) < ((n + 8 : Nat) : Int)) = true := by simp; omega
      rw [c8, pF_cut4 hr4 (by omega) (by omega)]; rfl
    have c8 : decide (((r.length + 4 : Nat) : Int) < ((n + 8 : Nat) : Int)) = false := by simp; omega
    have w4 : IntKind.i64.wrap ((n : Int) + 4) = ((n + 4 : Nat) : Int) := by rw [wI64 (by omega) (by omega)]; rfl
    have w5 : IntKind.i64.wrap ((n : Int) + 5) = ((n + 5 : Nat) : Int) := by rw [wI64 (by omega) (by omega)]; rfl
    have w6 : IntKind.i64.wrap ((n : Int) + 6) = ((n + 6 : Nat) : Int) := by rw [wI64 (by omega) (by omega)]; rfl
    have w7 : IntKind.i64.wrap ((n : Int) + 7) = ((n + 7 : Nat) : Int) := by rw [wI64 (by omega) (by omega)]; rfl
    obtain ⟨x', y', z', u', hxyz⟩ := four4 (l := (r.drop n).take 4) (by rw [List.length_take, List.length_drop]; omega)
    have hmem : ∀ q ∈ [x', y', z', u'], 0 ≤ q ∧ q ≤ 255 := fun q hq => hbr q (by rw [← hxyz] at hq; exact List.mem_of_mem_drop (List.mem_of_mem_take hq))
    have hx := hmem x' (by simp)
    have hy := hmem y' (by simp)
    have hz := hmem z' (by simp)
    have hu := hmem u' (by simp)
    obtain ⟨x, rfl⟩ := Int.eq_ofNat_of_zero_le hx.1
    obtain ⟨y, rfl⟩ := Int.eq_ofNat_of_zero_le hy.1
    obtain ⟨z, rfl⟩ := Int.eq_ofNat_of_zero_le hz.1
    obtain ⟨u, rfl⟩ := Int.eq_ofNat_of_zero_le hu.1
    have hr : ∀ i, i < 4 → (247 :: k :: (a : Int) :: (c : Int) :: r)[n + 4 + i]? = [(x : Int), (y : Int), (z : Int), (u : Int)][i]? := by
      intro i hi
      rw [← hxyz, List.getElem?_take, if_pos hi, List.getElem?_drop, show n + 4 + i = (n + i) + 1 + 1 + 1 + 1 by omega]
      simp only [List.getElem?_cons_succ]
    have g4 := hr 0 (by decide)
    have g5 := hr 1 (by decide)
    have g6 := hr 2 (by decide)
    have g7 := hr 3 (by decide)
    simp only [Nat.add_zero, List.getElem?_cons_zero, List.getElem?_cons_succ] at g4 g5 g6 g7
    have b4 : (decide ((0 : Int) ≤ ((n + 4 : Nat) : Int)) && decide (((n + 4 : Nat) : Int) < ((r.length + 4 : Nat) : Int))) = true := by simp; omega
    have b5 : (decide ((0 : Int) ≤ ((n + 5 : Nat) : Int)) && decide (((n + 5 : Nat) : Int) < ((r.length + 4 : Nat) : Int))) = true := by simp; omega
    have b6 : (decide ((0 : Int) ≤ ((n + 6 : Nat) : Int)) && decide (((n + 6 : Nat) : Int) < ((r.length + 4 : Nat) : Int))) = true := by simp; omega
    have b7 : (decide ((0 : Int) ≤ ((n + 7 : Nat) : Int)) && decide (((n + 7 : Nat) : Int) < ((r.length + 4 : Nat) : Int))) = true := by simp; omega
    have b8' : (decide (((0 : Nat) : Int) ≤ ((n + 4 : Nat) : Int)) && decide (((n + 4 : Nat) : Int) ≤ ((r.length + 4 : Nat) : Int))) = true := by simp; omega
    have b9 : decide ((1 : Int) ≤ ((n + 4 : Nat) : Int)) = true := by simp; omega
    have b9' : decide ((4 : Int) ≤ ((n + 4 : Nat) : Int)) = true := by simp; omega
    have b10 : decide ((1 : Int) < ((r.length + 4 : Nat) : Int)) = true := by simp; omega
    have d2 : List.drop 1 (List.take (n + 4) (247 :: k :: (a : Int) :: (c : Int) :: r)) = (k :: (a : Int) :: (c : Int) :: r).take (n + 3) := by simp
    have d4 : List.drop 4 (List.take (n + 4) (247 :: k :: (a : Int) :: (c : Int) :: r)) = r.take n := by simp
    have hs1 := rsum_ok (b := (k :: (a : Int) :: (c : Int) :: r).take (n + 3)) (take_in (fun x hx => hbd x (List.mem_cons_of_mem _ hx)) _) (by rw [List.length_take]; omega)
    have hnum := num4 hxyz
    rw [pF_whole hr4 (by omega) (by omega), hn, hnum]
    simp only [c8, cond_false, w4, w5, w6, w7, b4, b5, b6, b7, cond_true, Int.toNat_natCast, List.getElem?_cons_succ, g4, g5, g6, g7, Option.bind_some, b8', b9, d2, hs1, four32 (show x < 256 by omega) (show y < 256 by omega) (show z < 256 by omega) (show u < 256 by omega)]
    by_cases hq : crc ((k :: (a : Int) :: (c : Int) :: r).take (n + 3)) = ((x * 256 + y) * 256 + z) * 256 + u
    · have q1 : ((((crc ((k :: (a : Int) :: (c : Int) :: r).take (n + 3)) : Nat) : Int)) != ((((x * 256 + y) * 256 + z) * 256 + u : Nat) : Int)) = false := by rw [hq]; simp
      have w9 : IntKind.i64.wrap (IntKind.i64.wrap ((at_ : Int) + (n : Int)) + 8) = ((at_ + (n + 8) : Nat) : Int) := by
        rw [wI64 (n := (at_ : Int) + (n : Int)) (by omega) (by omega), wI64 (by omega) (by omega)]; omega
      have b11 : decide ((0 + (r.take n).length) * 1 ≤ bytesLim) = true := limOk (by rw [List.length_take]; omega)
      rw [q1, if_neg (by simpa using hq)]
      simp only [cond_false, b10, cond_true, b8', b9', List.getElem?_cons_succ, List.getElem?_cons_zero, Option.bind_some, d4, b11, w9, rF]
    · have q1 : ((((crc ((k :: (a : Int) :: (c : Int) :: r).take (n + 3)) : Nat) : Int)) != ((((x * 256 + y) * 256 + z) * 256 + u : Nat) : Int)) = true := bne_iff_ne.2 fun h => hq (Int.ofNat.inj h)
      rw [q1, if_pos (by simpa using hq)]
      rfl
end Go.RX.L

set_option linter.unusedSimpArgs false
set_option linter.unusedVariables false
set_option maxRecDepth 100000
set_option maxHeartbeats 4000000
namespace Go.RX.L
open Go Go.RX Go.Proofs
attribute [local irreducible] FinQ
def wire_PutText_Q (y : Int × (List Int)) (d : D) (s : Sto) : Prop := d = D.tup [D.msl 0 0 ((List.map (eInt .u8) y.2).length) ((List.map (eInt .u8) y.2).length) false, D.int .i64 y.1] ∧ s = [some { sz := 1, deep := false, rows := (List.map (eInt .u8) y.2) }]
noncomputable def wire_PutText (s_ : List Int) : Option (Int × (List Int)) := (bif (decide (((((List.map (eInt .u8) s_).length : Nat) : Int) : Int) > 4096)) then (some (2, [])) else ((wire_PutInt (((List.map (eInt .u8) s_).length : Nat) : Int)).bind fun y2 => (bif (decide (((List.map (eInt .u8) y2).length + (List.map (eInt .u8) s_).length) * 1 ≤ bytesLim)) then (some (0, (y2 ++ s_))) else none)))
theorem wire_PutText_ok {s_ : List Int} {r : Int × (List Int)} (h : wire_PutText s_ = some r) : Sound E 26 [D.sl false 1 (List.map (eInt .u8) s_)] [] (wire_PutText_Q r) := by
  refine sound_ofW (m := ⟨[.code (bodyOf Tryd.f26)], [(0, D.sl false 1 (List.map (eInt .u8) s_))], []⟩) (fn := Tryd.f26) (by kernel_rfl) (by kernel_rfl) ?_
  show FinQ E (Cx.of Tryd.f26 true 0) (QW (wire_PutText_Q r)) _
  unfold wire_PutText at h
  refine adv_ok hm 13 _ ?_
  refine p_split h (by kernel_rfl) (fun h1 h => ?_) (fun h1 h => ?_)
  · -- true
    refine adv_ok hm 6 _ ?_
    obtain rfl := Option.some.inj h
    exact r_retF [.matt 0 0 1] (d := D.tup [D.msl 0 0 0 0 false, D.int .i64 2]) (s := [some { sz := 1, deep := false, rows := [] }]) (by kernel_rfl) Cx.fin_of ⟨rfl, rfl⟩
  · -- false
    refine adv_ok hm 6 _ ?_
    have ok2 := fun (y : List Int) (hy : wire_PutInt (((List.map (eInt .u8) s_).length : Nat) : Int) = some y) => wire_PutInt_ok hy
    refine p_callR [] h (by kernel_rfl) ok2 (fun y2 h2 h => ?_)
    refine adv_ok hm 2 _ ?_
    refine p_need h (by kernel_rfl) (fun h3 h => ?_)
    refine r_needT (b := (Nat.ble (0 + (List.map (eInt .u8) y2).length) ((List.map (eInt .u8) y2).length))) (by kernel_rfl) (ble_full _) ?_
    refine r_rows (List.take ((List.map (eInt .u8) y2).length) (List.drop 0 (List.map (eInt .u8) y2)) ++ (List.map (eInt .u8) s_)) (List.map (eInt .u8) (y2 ++ s_)) (by kernel_rfl) (rows_app _ _ _) ?_
    refine adv_ok hm 4 _ ?_
    obtain rfl := Option.some.inj h
    exact r_retF [] (d := D.tup [D.msl 0 0 ((List.map (eInt .u8) (y2 ++ s_)).length) ((List.map (eInt .u8) (y2 ++ s_)).length) false, D.int .i64 0]) (s := [some { sz := 1, deep := false, rows := (List.map (eInt .u8) (y2 ++ s_)) }]) (by kernel_rfl) Cx.fin_of ⟨rfl, rfl⟩
end Go.RX.L

set_option linter.unusedSimpArgs false
set_option linter.unusedVariables false
set_option maxRecDepth 100000
set_option maxHeartbeats 4000000
namespace Go.RX.L
open Go Go.RX Go.Proofs
attribute [local irreducible] FinQ
def wire_Text_Q (y : (List Int) × Int × Int) (d : D) (s : Sto) : Prop := d = D.tup [D.sl false 1 (List.map (eInt .u8) y.1), D.int .i64 y.2.1, D.int .i64 y.2.2] ∧ s = []
noncomputable def wire_Text (b : List Int) (at_ : Int) : Option ((List Int) × Int × Int) := ((wire_sized b at_ 4096).bind fun y1 => (bif ((y1.2.2 : Int) != 0) then (some ([], 0, y1.2.2)) else (bif (decide ((y1.1 : Int) > (IntKind.i64.wrap ((((List.map (eInt .u8) b).length : Nat) : Int) - y1.2.1)))) then (some ([], 0, 11)) else (bif ((decide (((0 : Nat) : Int) ≤ (IntKind.i64.wrap (y1.2.1 + y1.1)))) && (decide (((IntKind.i64.wrap (y1.2.1 + y1.1)) : Int) ≤ (((List.map (eInt .u8) b).length : Nat) : Int)))) then (bif ((decide (((0 : Nat) : Int) ≤ y1.2.1)) && (decide ((y1.2.1 : Int) ≤ (((IntKind.i64.wrap (y1.2.1 + y1.1)).toNat : Nat) : Int)))) then (bif (decide (((List.map (eInt .u8) (List.drop y1.2.1.toNat (List.take ((IntKind.i64.wrap (y1.2.1 + y1.1)).toNat) b))).length) * 1 ≤ bytesLim)) then (some ((List.drop y1.2.1.toNat (List.take ((IntKind.i64.wrap (y1.2.1 + y1.1)).toNat) b)), (IntKind.i64.wrap (y1.2.1 + y1.1)), 0)) else none) else none) else none))))
theorem wire_Text_ok {b : List Int} {at_ : Int} {r : (List Int) × Int × Int} (h : wire_Text b at_ = some r) : Sound E 61 [D.sl false 1 (List.map (eInt .u8) b), D.int .i64 at_] [] (wire_Text_Q r) := by
  refine sound_ofW (m := ⟨[.code (bodyOf Tryd.f61)], [(0, D.sl false 1 (List.map (eInt .u8) b)), (1, D.int .i64 at_)], []⟩) (fn := Tryd.f61) (by kernel_rfl) (by kernel_rfl) ?_
  show FinQ E (Cx.of Tryd.f61 false 0) (QW (wire_Text_Q r)) _
  unfold wire_Text at h
  refine adv_ok hm 11 _ ?_
  have ok1 := fun (y : Int × Int × Int) (hy : wire_sized b at_ 4096 = some y) => wire_sized_ok hy
  refine p_callR [] h (by kernel_rfl) ok1 (fun y1 h1 h => ?_)
  refine adv_ok hm 17 _ ?_
  refine p_split h (by kernel_rfl) (fun h2 h => ?_) (fun h2 h => ?_)
  · -- true
    refine adv_ok hm 8 _ ?_
    obtain rfl := Option.some.inj h
    exact r_retF [.slot 0 [some 1]] (d := D.tup [D.sl false 1 [], D.int .i64 0, D.int .i64 y1.2.2]) (s := []) (by kernel_rfl) Cx.fin_of ⟨rfl, rfl⟩
  · -- false
    refine adv_ok hm 11 _ ?_
    refine p_split h (by kernel_rfl) (fun h3 h => ?_) (fun h3 h => ?_)
    · -- true
      refine adv_ok hm 7 _ ?_
      obtain rfl := Option.some.inj h
      exact r_retF [.slot 0 [some 1]] (d := D.tup [D.sl false 1 [], D.int .i64 0, D.int .i64 11]) (s := []) (by kernel_rfl) Cx.fin_of ⟨rfl, rfl⟩
    · -- false
      refine adv_ok hm 10 _ ?_
      refine p_need h (by kernel_rfl) (fun h4 h => ?_)
      refine p_need h (by kernel_rfl) (fun h5 h => ?_)
      refine r_rows (List.drop y1.2.1.toNat (List.take ((IntKind.i64.wrap (y1.2.1 + y1.1)).toNat) (List.map (eInt .u8) b))) (List.map (eInt .u8) (List.drop y1.2.1.toNat (List.take ((IntKind.i64.wrap (y1.2.1 + y1.1)).toNat) b))) (by kernel_rfl) (rows_cut _ _ _ _) ?_
      refine adv_ok hm 1 _ ?_
      refine p_need h (by kernel_rfl) (fun h6 h => ?_)
      refine adv_ok hm 9 _ ?_
      refine r_needT (b := (Nat.ble (0 + (List.map (eInt .u8) (List.drop y1.2.1.toNat (List.take ((IntKind.i64.wrap (y1.2.1 + y1.1)).toNat) b))).length) ((List.map (eInt .u8) (List.drop y1.2.1.toNat (List.take ((IntKind.i64.wrap (y1.2.1 + y1.1)).toNat) b))).length))) (by kernel_rfl) (ble_full _) ?_
      obtain rfl := Option.some.inj h
      exact r_retE [] (d1 := D.tup [D.sl false 1 (List.take ((List.map (eInt .u8) (List.drop y1.2.1.toNat (List.take ((IntKind.i64.wrap (y1.2.1 + y1.1)).toNat) b))).length) (List.drop 0 (List.map (eInt .u8) (List.drop y1.2.1.toNat (List.take ((IntKind.i64.wrap (y1.2.1 + y1.1)).toNat) b))))), D.int .i64 (IntKind.i64.wrap (y1.2.1 + y1.1)), D.int .i64 0]) (d := D.tup [D.sl false 1 (List.map (eInt .u8) (List.drop y1.2.1.toNat (List.take ((IntKind.i64.wrap (y1.2.1 + y1.1)).toNat) b))), D.int .i64 (IntKind.i64.wrap (y1.2.1 + y1.1)), D.int .i64 0]) (s1 := []) (s := []) (by kernel_rfl) ⟨by simp [List.take_of_length_le, List.map_take, List.map_drop], rfl⟩ ⟨rfl, rfl⟩ Cx.fin_of
end Go.RX.L

set_option linter.unusedSimpArgs false
set_option linter.unusedVariables false
set_option maxRecDepth 100000
set_option maxHeartbeats 4000000
namespace Go.RX.L
open Go Go.RX Go.Proofs
attribute [local irreducible] FinQ
def ref01_PutText_Q (y : Int × (List Int)) (d : D) (s : Sto) : Prop := d = D.tup [D.msl 0 0 ((List.map (eInt .u8) y.2).length) ((List.map (eInt .u8) y.2).length) false, D.int .i64 y.1] ∧ s = [some { sz := 1, deep := false, rows := (List.map (eInt .u8) y.2) }]
noncomputable def ref01_PutText (s_ : List Int) : Option (Int × (List Int)) := (bif (decide (((((List.map (eInt .u8) s_).length : Nat) : Int) : Int) > 4096)) then (some (2, [])) else ((ref01_PutInt (((List.map (eInt .u8) s_).length : Nat) : Int)).bind fun y2 => (bif (decide (((List.map (eInt .u8) y2).length + (List.map (eInt .u8) s_).length) * 1 ≤ bytesLim)) then (some (0, (y2 ++ s_))) else none)))
theorem ref01_PutText_ok {s_ : List Int} {r : Int × (List Int)} (h : ref01_PutText s_ = some r) : Sound E 29 [D.sl false 1 (List.map (eInt .u8) s_)] [] (ref01_PutText_Q r) := by
  refine sound_ofW (m := ⟨[.code (bodyOf Tryd.f29)], [(0, D.sl false 1 (List.map (eInt .u8) s_))], []⟩) (fn := Tryd.f29) (by kernel_rfl) (by kernel_rfl) ?_
  show FinQ E (Cx.of Tryd.f29 true 0) (QW (ref01_PutText_Q r)) _
  unfold ref01_PutText at h
  refine adv_ok hm 13 _ ?_
  refine p_split h (by kernel_rfl) (fun h1 h => ?_) (fun h1 h => ?_)
  · -- true
    refine adv_ok hm 6 _ ?_
    obtain rfl := Option.some.inj h
    exact r_retF [.matt 0 0 1] (d := D.tup [D.msl 0 0 0 0 false, D.int .i64 2]) (s := [some { sz := 1, deep := false, rows := [] }]) (by kernel_rfl) Cx.fin_of ⟨rfl, rfl⟩
  · -- false
    refine adv_ok hm 6 _ ?_
    have ok2 := fun (y : List Int) (hy : ref01_PutInt (((List.map (eInt .u8) s_).length : Nat) : Int) = some y) => ref01_PutInt_ok hy
    refine p_callR [] h (by kernel_rfl) ok2 (fun y2 h2 h => ?_)
    refine adv_ok hm 2 _ ?_
    refine p_need h (by kernel_rfl) (fun h3 h => ?_)
    refine r_needT (b := (Nat.ble (0 + (List.map (eInt .u8) y2).length) ((List.map (eInt .u8) y2).length))) (by kernel_rfl) (ble_full _) ?_
    refine r_rows (List.take ((List.map (eInt .u8) y2).length) (List.drop 0 (List.map (eInt .u8) y2)) ++ (List.map (eInt .u8) s_)) (List.map (eInt .u8) (y2 ++ s_)) (by kernel_rfl) (rows_app _ _ _) ?_
    refine adv_ok hm 4 _ ?_
    obtain rfl := Option.some.inj h
    exact r_retF [] (d := D.tup [D.msl 0 0 ((List.map (eInt .u8) (y2 ++ s_)).length) ((List.map (eInt .u8) (y2 ++ s_)).length) false, D.int .i64 0]) (s := [some { sz := 1, deep := false, rows := (List.map (eInt .u8) (y2 ++ s_)) }]) (by kernel_rfl) Cx.fin_of ⟨rfl, rfl⟩
end Go.RX.L

set_option linter.unusedSimpArgs false
set_option linter.unusedVariables false
set_option maxRecDepth 100000
set_option maxHeartbeats 4000000
namespace Go.RX.L
open Go Go.RX Go.Proofs
attribute [local irreducible] FinQ
def ref01_Text_Q (y : (List Int) × Int × Int) (d : D) (s : Sto) : Prop := d = D.tup [D.sl false 1 (List.map (eInt .u8) y.1), D.int .i64 y.2.1, D.int .i64 y.2.2] ∧ s = []
noncomputable def ref01_Text_1M (b : List Int) (n : Int) (from_ : Int) (t26 : Bool) : M := { td := [It.code (codeAt (bodyOf Tryd.f41) [1, 1, 1, 0, 1]), It.code (codeAt (bodyOf Tryd.f41) [1, 1, 1, 1])], fr := [(0, D.sl false 1 (List.map (eInt .u8) b)), (7, D.int .i64 n), (8, D.int .i64 from_), (26, D.bool t26)], st := [] }
noncomputable def ref01_Text_1 (b : List Int) (n : Int) (from_ : Int) (t26 : Bool) : Option ((List Int) × Int × Int) := (bif t26 then (some ([], 0, 2)) else (bif (decide ((n : Int) > (IntKind.i64.wrap ((((List.map (eInt .u8) b).length : Nat) : Int) - from_)))) then (some ([], 0, 11)) else (bif ((decide (((0 : Nat) : Int) ≤ (IntKind.i64.wrap (from_ + n)))) && (decide (((IntKind.i64.wrap (from_ + n)) : Int) ≤ (((List.map (eInt .u8) b).length : Nat) : Int)))) then (bif ((decide (((0 : Nat) : Int) ≤ from_)) && (decide ((from_ : Int) ≤ (((IntKind.i64.wrap (from_ + n)).toNat : Nat) : Int)))) then (bif (decide ((0 + (List.map (eInt .u8) (List.drop from_.toNat (List.take ((IntKind.i64.wrap (from_ + n)).toNat) b))).length) * 1 ≤ bytesLim)) then (some ((List.drop from_.toNat (List.take ((IntKind.i64.wrap (from_ + n)).toNat) b)), (IntKind.i64.wrap (from_ + n)), 0)) else none) else none) else none)))
theorem ref01_Text_1_ok {b : List Int} {n : Int} {from_ : Int} {t26 : Bool} {r : (List Int) × Int × Int} (h : ref01_Text_1 b n from_ t26 = some r) : FinQ E (Cx.of Tryd.f41 false 0) (QW (ref01_Text_Q r)) (.go (ref01_Text_1M b n from_ t26)) := by
  unfold ref01_Text_1 at h
  refine adv_ok hm 1 _ ?_
  refine p_split h (by kernel_rfl) (fun h1 h => ?_) (fun h1 h => ?_)
  · -- true
    refine adv_ok hm 7 _ ?_
    obtain rfl := Option.some.inj h
    exact r_retF [.slot 0 [some 1]] (d := D.tup [D.sl false 1 [], D.int .i64 0, D.int .i64 2]) (s := []) (by kernel_rfl) Cx.fin_of ⟨rfl, rfl⟩
  · -- false
    refine adv_ok hm 12 _ ?_
    refine p_split h (by kernel_rfl) (fun h2 h => ?_) (fun h2 h => ?_)
    · -- true
      refine adv_ok hm 7 _ ?_
      obtain rfl := Option.some.inj h
      exact r_retF [.slot 0 [some 1]] (d := D.tup [D.sl false 1 [], D.int .i64 0, D.int .i64 11]) (s := []) (by kernel_rfl) Cx.fin_of ⟨rfl, rfl⟩
    · -- false
      refine adv_ok hm 15 _ ?_
      refine p_need h (by kernel_rfl) (fun h3 h => ?_)
      refine p_need h (by kernel_rfl) (fun h4 h => ?_)
      refine r_rows (List.drop from_.toNat (List.take ((IntKind.i64.wrap (from_ + n)).toNat) (List.map (eInt .u8) b))) (List.map (eInt .u8) (List.drop from_.toNat (List.take ((IntKind.i64.wrap (from_ + n)).toNat) b))) (by kernel_rfl) (rows_cut _ _ _ _) ?_
      refine adv_ok hm 1 _ ?_
      refine p_need h (by kernel_rfl) (fun h5 h => ?_)
      refine adv_ok hm 1 _ ?_
      refine r_rows (List.map (eInt .u8) (List.drop from_.toNat (List.take ((IntKind.i64.wrap (from_ + n)).toNat) b))) (List.map (eInt .u8) (List.drop from_.toNat (List.take ((IntKind.i64.wrap (from_ + n)).toNat) b))) (by kernel_rfl) (rfl) ?_
      refine adv_ok hm 6 _ ?_
      refine r_needT (b := (Nat.ble (0 + (List.map (eInt .u8) (List.drop from_.toNat (List.take ((IntKind.i64.wrap (from_ + n)).toNat) b))).length) ((List.map (eInt .u8) (List.drop from_.toNat (List.take ((IntKind.i64.wrap (from_ + n)).toNat) b))).length))) (by kernel_rfl) (ble_full _) ?_
      obtain rfl := Option.some.inj h
      exact r_retE [] (d1 := D.tup [D.sl false 1 (List.take ((List.map (eInt .u8) (List.drop from_.toNat (List.take ((IntKind.i64.wrap (from_ + n)).toNat) b))).length) (List.drop 0 (List.map (eInt .u8) (List.drop from_.toNat (List.take ((IntKind.i64.wrap (from_ + n)).toNat) b))))), D.int .i64 (IntKind.i64.wrap (from_ + n)), D.int .i64 0]) (d := D.tup [D.sl false 1 (List.map (eInt .u8) (List.drop from_.toNat (List.take ((IntKind.i64.wrap (from_ + n)).toNat) b))), D.int .i64 (IntKind.i64.wrap (from_ + n)), D.int .i64 0]) (s1 := []) (s := []) (by kernel_rfl) ⟨by simp [List.take_of_length_le, List.map_take, List.map_drop], rfl⟩ ⟨rfl, rfl⟩ Cx.fin_of
noncomputable def ref01_Text (b : List Int) (at_ : Int) : Option ((List Int) × Int × Int) := ((ref01_Int b at_).bind fun y1 => (bif ((y1.2.2 : Int) != 0) then (some ([], 0, y1.2.2)) else (bif (decide ((y1.1 : Int) < 0)) then (ref01_Text_1 b y1.1 y1.2.1 true) else (ref01_Text_1 b y1.1 y1.2.1 (decide ((y1.1 : Int) > 4096))))))
theorem ref01_Text_ok {b : List Int} {at_ : Int} {r : (List Int) × Int × Int} (h : ref01_Text b at_ = some r) : Sound E 41 [D.sl false 1 (List.map (eInt .u8) b), D.int .i64 at_] [] (ref01_Text_Q r) := by
  refine sound_ofW (m := ⟨[.code (bodyOf Tryd.f41)], [(0, D.sl false 1 (List.map (eInt .u8) b)), (1, D.int .i64 at_)], []⟩) (fn := Tryd.f41) (by kernel_rfl) (by kernel_rfl) ?_
  show FinQ E (Cx.of Tryd.f41 false 0) (QW (ref01_Text_Q r)) _
  unfold ref01_Text at h
  refine adv_ok hm 11 _ ?_
  have ok1 := fun (y : Int × Int × Int) (hy : ref01_Int b at_ = some y) => ref01_Int_ok hy
  refine p_callR [] h (by kernel_rfl) ok1 (fun y1 h1 h => ?_)
  refine adv_ok hm 15 _ ?_
  refine p_split h (by kernel_rfl) (fun h2 h => ?_) (fun h2 h => ?_)
  · -- true
    refine adv_ok hm 8 _ ?_
    obtain rfl := Option.some.inj h
    exact r_retF [.slot 0 [some 1]] (d := D.tup [D.sl false 1 [], D.int .i64 0, D.int .i64 y1.2.2]) (s := []) (by kernel_rfl) Cx.fin_of ⟨rfl, rfl⟩
  · -- false
    refine adv_ok hm 8 _ ?_
    refine p_split h (by kernel_rfl) (fun h3 h => ?_) (fun h3 h => ?_)
    · -- true
      refine adv_ok hm 5 _ ?_
      exact r_cut 67109249 [] (m' := (ref01_Text_1M b y1.1 y1.2.1 true)) (by kernel_rfl) (ref01_Text_1_ok h)
    · -- false
      refine adv_ok hm 5 _ ?_
      exact r_cut 67109249 [] (m' := (ref01_Text_1M b y1.1 y1.2.1 (decide ((y1.1 : Int) > 4096)))) (by kernel_rfl) (ref01_Text_1_ok h)
end Go.RX.L

set_option linter.unusedSimpArgs false
set_option linter.unusedVariables false
set_option maxRecDepth 100000
namespace Go.RX.L
open Go Go.RX

def encT (s : List Int) : List Int := encI (s.length : Int) ++ s
def putT (s : List Int) : Int × List Int := if s.length ≤ 4096 then (0, encT s) else (2, [])
def pT (l : List Int) : Int ⊕ (List Int × Nat) := match pI l with
  | .inl e => .inl e
  | .inr (n, k) => if n < 0 ∨ n > 4096 then .inl 2 else if n > (l.length : Int) - k then .inl 11 else .inr ((l.drop k).take n.toNat, k + n.toNat)

theorem pT_inl {l : List Int} {e : Int} (h : pI l = .inl e) : pT l = .inl e := by simp only [pT, h]
theorem pT_big {l : List Int} {n : Int} {k : Nat} (h : pI l = .inr (n, k)) (hn : n < 0 ∨ n > 4096) : pT l = .inl 2 := by simp only [pT, h, if_pos hn]
theorem pT_end {l : List Int} {n : Int} {k : Nat} (h : pI l = .inr (n, k)) (hn : ¬ (n < 0 ∨ n > 4096)) (h2 : n > (l.length : Int) - k) : pT l = .inl 11 := by simp only [pT, h, if_neg hn, if_pos h2]
theorem pT_inr {l : List Int} {n : Int} {k : Nat} (h : pI l = .inr (n, k)) (hn : ¬ (n < 0 ∨ n > 4096)) (h2 : ¬ n > (l.length : Int) - k) : pT l = .inr ((l.drop k).take n.toNat, k + n.toNat) := by simp only [pT, h, if_neg hn, if_neg h2]

theorem encT_bytes {s : List Int} (h : Bytes s) : Bytes (encT s) := fun c hc => (List.mem_append.1 hc).elim (encI_bytes _ c) (h c)
theorem encT_len {s : List Int} (h : s.length ≤ 4096) : (encT s).length ≤ s.length + 10 := by
  have := encI_len (inLen (n := s.length) (by omega))
  simp only [encT, List.length_append]; omega
theorem encT_pos (s : List Int) : 0 < (encT s).length := by
  have := encI_pos (s.length : Int)
  simp only [encT, List.length_append]; omega

theorem pT_enc {s : List Int} (h : s.length ≤ 4096) (rest : List Int) : pT (encT s ++ rest) = .inr (s, (encT s).length) := by
  have h1 := pI_enc (inLen (n := s.length) (by omega)) (s ++ rest)
  have e : encT s ++ rest = encI (s.length : Int) ++ (s ++ rest) := by simp [encT]
  rw [e, pT_inr h1 (by omega) (by simp only [List.length_append]; omega), List.drop_left, Int.toNat_natCast, List.take_left]
  simp only [encT, List.length_append]
theorem pT_dec {l s : List Int} {k : Nat} (hb : Bytes l) (h : pT l = .inr (s, k)) : l.take k = encT s ∧ k ≤ l.length ∧ k = (encT s).length ∧ s.length ≤ 4096 ∧ Bytes s := by
  cases hp : pI l with
  | inl e => rw [pT_inl hp] at h; cases h
  | inr x =>
    obtain ⟨n, j⟩ := x
    by_cases hn : n < 0 ∨ n > 4096
    · rw [pT_big hp hn] at h; cases h
    by_cases h2 : n > (l.length : Int) - j
    · rw [pT_end hp hn h2] at h; cases h
    rw [pT_inr hp hn h2] at h
    simp only [Sum.inr.injEq, Prod.mk.injEq] at h
    obtain ⟨rfl, rfl⟩ := h
    obtain ⟨a1, a2, a3, a4⟩ := pI_dec hb hp
    obtain ⟨m, rfl⟩ := Int.eq_ofNat_of_zero_le (show 0 ≤ n by omega)
    simp only [Int.toNat_natCast]
    have hl : ((l.drop j).take m).length = m := by rw [List.length_take, List.length_drop]; omega
    refine ⟨?_, by omega, ?_, by rw [hl]; omega, take_in (drop_in hb _) _⟩
    · rw [List.take_add, a1, encT, hl]
    · rw [encT, List.length_append, hl, ← a3]
theorem pT_err {l : List Int} {e : Int} (h : pT l = .inl e) : e ≠ 0 := by
  cases hp : pI l with
  | inl e' => rw [pT_inl hp] at h; obtain rfl := Sum.inl.inj h; rcases pI_err hp with rfl | rfl <;> decide
  | inr x =>
    obtain ⟨n, j⟩ := x
    by_cases hn : n < 0 ∨ n > 4096
    · rw [pT_big hp hn] at h; obtain rfl := Sum.inl.inj h; decide
    by_cases h2 : n > (l.length : Int) - j
    · rw [pT_end hp hn h2] at h; obtain rfl := Sum.inl.inj h; decide
    · rw [pT_inr hp hn h2] at h; cases h

theorem putText_ok {s : List Int} (hm : s.length ≤ memB) : wire_PutText s = some (putT s) := by
  unfold putT
  by_cases h : s.length ≤ 4096
  · rw [if_pos h]
    have hn := inLen (n := s.length) (by omega)
    have hl := encI_len hn
    have c1 : decide (((s.length : Nat) : Int) > 4096) = false := by simp; omega
    have c2 : decide (((encI (s.length : Int)).length + s.length) * 1 ≤ bytesLim) = true := limOk (by omega)
    simp only [wire_PutText, List.length_map, c1, cond_false, putInt_ok hn, Option.bind_some, c2, cond_true, encT]
  · rw [if_neg h]
    have c1 : decide (((s.length : Nat) : Int) > 4096) = true := by simp; omega
    simp only [wire_PutText, List.length_map, c1, cond_true]
theorem rputText_ok {s : List Int} (hm : s.length ≤ memB) : ref01_PutText s = some (putT s) := by
  unfold putT
  by_cases h : s.length ≤ 4096
  · rw [if_pos h]
    have hn := inLen (n := s.length) (by omega)
    have hl := encI_len hn
    have c1 : decide (((s.length : Nat) : Int) > 4096) = false := by simp; omega
    have c2 : decide (((encI (s.length : Int)).length + s.length) * 1 ≤ bytesLim) = true := limOk (by omega)
    simp only [ref01_PutText, List.length_map, c1, cond_false, rputInt_ok hn, Option.bind_some, c2, cond_true, encT]
  · rw [if_neg h]
    have c1 : decide (((s.length : Nat) : Int) > 4096) = true := by simp; omega
    simp only [ref01_PutText, List.length_map, c1, cond_true]

theorem text_ok {b : List Int} (hb : Bytes b) (hm : b.length ≤ memB) {at_ : Nat} (h : at_ ≤ b.length) : wire_Text b at_ = some (rL at_ (pT (b.drop at_))) := by
  have hi := int_ok hb hm h
  simp only [memB] at hm
  cases hp : pI (b.drop at_) with
  | inl e =>
    rw [hp] at hi
    have he := err_ne hp
    rw [pT_inl hp]
    simp only [wire_Text, wire_sized, hi, rI, Option.bind_some, he, cond_true, rL]
  | inr x =>
    obtain ⟨n, k⟩ := x
    rw [hp] at hi
    obtain ⟨a1, a2, a3, a4⟩ := pI_dec (drop_in hb at_) hp
    rw [List.length_drop] at a2
    have a4' := inI64.1 a4
    have z : ((0 : Int) != 0) = false := rfl
    have tw : ((2 : Int) != 0) = true := rfl
    by_cases hn : n < 0 ∨ n > 4096
    · rw [pT_big hp hn]
      rcases hn with hn | hn
      · have c1 : decide (n < 0) = true := decide_eq_true hn
        simp only [wire_Text, wire_sized, wire_sized_1, hi, rI, Option.bind_some, z, cond_false, c1, cond_true, tw, rL]
      · have c1 : decide (n < 0) = false := decide_eq_false (by omega)
        have c2 : decide (n > 4096) = true := decide_eq_true hn
        simp only [wire_Text, wire_sized, wire_sized_1, hi, rI, Option.bind_some, z, cond_false, c1, c2, cond_true, tw, rL]
    · have c1 : decide (n < 0) = false := decide_eq_false (by omega)
      have c2 : decide (n > 4096) = false := decide_eq_false (by omega)
      have w1 : IntKind.i64.wrap (((b.length : Nat) : Int) - ((at_ + k : Nat) : Int)) = (b.length : Int) - ((at_ + k : Nat) : Int) := wI64 (by omega) (by omega)
      by_cases h2 : n > ((b.drop at_).length : Int) - k
      · rw [pT_end hp hn h2]
        rw [List.length_drop] at h2
        have c3 : decide (n > (b.length : Int) - ((at_ + k : Nat) : Int)) = true := decide_eq_true (by omega)
        simp only [wire_Text, wire_sized, wire_sized_1, hi, rI, Option.bind_some, z, cond_false, c1, c2, List.length_map, w1, c3, cond_true, rL]
      · rw [pT_inr hp hn h2]
        rw [List.length_drop] at h2
        obtain ⟨m, rfl⟩ := Int.eq_ofNat_of_zero_le (show 0 ≤ n by omega)
        have c3 : decide ((m : Int) > (b.length : Int) - ((at_ + k : Nat) : Int)) = false := decide_eq_false (by omega)
        have w2 : IntKind.i64.wrap (((at_ + k : Nat) : Int) + (m : Int)) = ((at_ + k + m : Nat) : Int) := by rw [wI64 (by omega) (by omega)]; omega
        have c4 : (decide (((0 : Nat) : Int) ≤ ((at_ + k + m : Nat) : Int)) && decide (((at_ + k + m : Nat) : Int) ≤ ((b.length : Nat) : Int))) = true := by simp; omega
        have c5 : (decide (((0 : Nat) : Int) ≤ ((at_ + k : Nat) : Int)) && decide (((at_ + k : Nat) : Int) ≤ ((at_ + k + m : Nat) : Int))) = true := by simp; omega
        have d : List.drop (at_ + k) (List.take (at_ + k + m) b) = ((b.drop at_).drop k).take m := by
          rw [List.drop_take, List.drop_drop, show at_ + k + m - (at_ + k) = m by omega]
        have c6 : decide ((((b.drop at_).drop k).take m).length * 1 ≤ bytesLim) = true := limOk (by rw [List.length_take]; omega)
        simp only [wire_Text, wire_sized, wire_sized_1, hi, rI, Option.bind_some, z, cond_false, c1, c2, List.length_map, w1, c3, cond_true, w2, c4, c5, Int.toNat_natCast, d, c6, rL]
        rw [Nat.add_assoc]

theorem rtext_ok {b : List Int} (hb : Bytes b) (hm : b.length ≤ memB) {at_ : Nat} (h : at_ ≤ b.length) : ref01_Text b at_ = some (rL at_ (pT (b.drop at_))) := by
  have hi := rint_ok hb hm h
  simp only [memB] at hm
  cases hp : pI (b.drop at_) with
  | inl e =>
    rw [hp] at hi
    have he := err_ne hp
    rw [pT_inl hp]
    simp only [ref01_Text, hi, rI, Option.bind_some, he, cond_true, rL]
  | inr x =>
    obtain ⟨n, k⟩ := x
    rw [hp] at hi
    obtain ⟨a1, a2, a3, a4⟩ := pI_dec (drop_in hb at_) hp
    rw [List.length_drop] at a2
    have a4' := inI64.1 a4
    have z : ((0 : Int) != 0) = false := rfl
    by_cases hn : n < 0 ∨ n > 4096
    · rw [pT_big hp hn]
      rcases hn with hn | hn
      · have c1 : decide (n < 0) = true := decide_eq_true hn
        simp only [ref01_Text, ref01_Text_1, hi, rI, Option.bind_some, z, cond_false, c1, cond_true, rL]
      · have c1 : decide (n < 0) = false := decide_eq_false (by omega)
        have c2 : decide (n > 4096) = true := decide_eq_true hn
        simp only [ref01_Text, ref01_Text_1, hi, rI, Option.bind_some, z, cond_false, c1, c2, cond_true, rL]
    · have c1 : decide (n < 0) = false := decide_eq_false (by omega)
      have c2 : decide (n > 4096) = false := decide_eq_false (by omega)
      have w1 : IntKind.i64.wrap (((b.length : Nat) : Int) - ((at_ + k : Nat) : Int)) = (b.length : Int) - ((at_ + k : Nat) : Int) := wI64 (by omega) (by omega)
      by_cases h2 : n > ((b.drop at_).length : Int) - k
      · rw [pT_end hp hn h2]
        rw [List.length_drop] at h2
        have c3 : decide (n > (b.length : Int) - ((at_ + k : Nat) : Int)) = true := decide_eq_true (by omega)
        simp only [ref01_Text, ref01_Text_1, hi, rI, Option.bind_some, z, cond_false, c1, c2, List.length_map, w1, c3, cond_true, rL]
      · rw [pT_inr hp hn h2]
        rw [List.length_drop] at h2
        obtain ⟨m, rfl⟩ := Int.eq_ofNat_of_zero_le (show 0 ≤ n by omega)
        have c3 : decide ((m : Int) > (b.length : Int) - ((at_ + k : Nat) : Int)) = false := decide_eq_false (by omega)
        have w2 : IntKind.i64.wrap (((at_ + k : Nat) : Int) + (m : Int)) = ((at_ + k + m : Nat) : Int) := by rw [wI64 (by omega) (by omega)]; omega
        have c4 : (decide (((0 : Nat) : Int) ≤ ((at_ + k + m : Nat) : Int)) && decide (((at_ + k + m : Nat) : Int) ≤ ((b.length : Nat) : Int))) = true := by simp; omega
        have c5 : (decide (((0 : Nat) : Int) ≤ ((at_ + k : Nat) : Int)) && decide (((at_ + k : Nat) : Int) ≤ ((at_ + k + m : Nat) : Int))) = true := by simp; omega
        have d : List.drop (at_ + k) (List.take (at_ + k + m) b) = ((b.drop at_).drop k).take m := by
          rw [List.drop_take, List.drop_drop, show at_ + k + m - (at_ + k) = m by omega]
        have c6 : decide ((0 + (((b.drop at_).drop k).take m).length) * 1 ≤ bytesLim) = true := limOk (by rw [List.length_take]; omega)
        simp only [ref01_Text, ref01_Text_1, hi, rI, Option.bind_some, z, cond_false, c1, c2, List.length_map, w1, c3, cond_true, w2, c4, c5, Int.toNat_natCast, d, c6, rL]
        rw [Nat.add_assoc]

/-- A text, cut, is none. -/
theorem pT_cut {s : List Int} (h : s.length ≤ 4096) {j : Nat} (hj : j < (encT s).length) : ∃ e, pT ((encT s).take j) = .inl e := by
  have hn := inLen (n := s.length) (by omega)
  rw [encT, List.length_append] at hj
  by_cases h1 : j < (encI (s.length : Int)).length
  · refine ⟨11, ?_⟩
    rw [encT, List.take_append_of_le_length (by omega), pT_inl (pI_cut hn h1)]
  · have e1 : (encT s).take j = encI (s.length : Int) ++ s.take (j - (encI (s.length : Int)).length) := by
      rw [encT, List.take_append, List.take_of_length_le (by omega)]
    refine ⟨11, ?_⟩
    rw [e1, pT_end (pI_enc hn _) (by omega) (by rw [List.length_append, List.length_take]; omega)]
end Go.RX.L

set_option linter.unusedSimpArgs false
set_option linter.unusedVariables false
set_option maxRecDepth 100000
set_option maxHeartbeats 4000000
namespace Go.RX.L
open Go Go.RX Go.Proofs
attribute [local irreducible] FinQ
def plan_numbers_Q (y : Int × Int × Int × Int × Int × Int × Int × Int × Int × Int) (d : D) (s : Sto) : Prop := d = D.agg [D.int .i64 y.1, D.int .i64 y.2.1, D.int .i64 y.2.2.1, D.int .i64 y.2.2.2.1, D.int .i64 y.2.2.2.2.1, D.int .i64 y.2.2.2.2.2.1, D.int .i64 y.2.2.2.2.2.2.1, D.int .i64 y.2.2.2.2.2.2.2.1, D.int .i64 y.2.2.2.2.2.2.2.2.1, D.int .i64 y.2.2.2.2.2.2.2.2.2] ∧ s = []
noncomputable def plan_numbers (p_ : Plan) : Option (Int × Int × Int × Int × Int × Int × Int × Int × Int × Int) := (some (p_.Epoch, p_.Target, p_.Prev, p_.Spill, p_.Percent, p_.Stamp, p_.Since, p_.Ramped, (IntKind.i64.wrap (p_.Up)), (IntKind.i64.wrap (p_.Sup))))
theorem plan_numbers_ok {p_ : Plan} {r : Int × Int × Int × Int × Int × Int × Int × Int × Int × Int} (h : plan_numbers p_ = some r) : Sound E 51 [D.agg (Plan.enc p_)] [] (plan_numbers_Q r) := by
  refine sound_ofW (m := ⟨[.code (bodyOf Tryd.f51)], [(0, D.agg (Plan.enc p_))], []⟩) (fn := Tryd.f51) (by kernel_rfl) (by kernel_rfl) ?_
  show FinQ E (Cx.of Tryd.f51 false 0) (QW (plan_numbers_Q r)) _
  unfold plan_numbers at h
  refine adv_ok hm 47 _ ?_
  obtain rfl := Option.some.inj h
  exact r_retF [] (d := D.agg [D.int .i64 p_.Epoch, D.int .i64 p_.Target, D.int .i64 p_.Prev, D.int .i64 p_.Spill, D.int .i64 p_.Percent, D.int .i64 p_.Stamp, D.int .i64 p_.Since, D.int .i64 p_.Ramped, D.int .i64 (IntKind.i64.wrap (p_.Up)), D.int .i64 (IntKind.i64.wrap (p_.Sup))]) (s := []) (by kernel_rfl) Cx.fin_of ⟨rfl, rfl⟩
end Go.RX.L

set_option linter.unusedSimpArgs false
set_option linter.unusedVariables false
set_option maxRecDepth 100000
set_option maxHeartbeats 4000000
namespace Go.RX.L
open Go Go.RX Go.Proofs
attribute [local irreducible] FinQ
def plan_all_1_Q (y : Bool) (d : D) (s : Sto) : Prop := d = D.bool y ∧ s = []
noncomputable def plan_all_1 (n : Int) (t : Int) (t2 : Int) : Option Bool := (bif (decide ((n : Int) < t)) then (some true) else (some (decide ((n : Int) > t2))))
theorem plan_all_1_ok {n : Int} {t : Int} {t2 : Int} {r : Bool} (h : plan_all_1 n t t2 = some r) : Sound E 70 [D.int .i64 n, D.iptr 1 [[D.int .i64 t]] 0 0, D.iptr 1 [[D.int .i64 t2]] 0 0] [] (plan_all_1_Q r) := by
  refine sound_ofW (m := ⟨[.code (bodyOf Tryd.f70)], [(0, D.int .i64 n), (1, D.iptr 1 [[D.int .i64 t]] 0 0), (2, D.iptr 1 [[D.int .i64 t2]] 0 0)], []⟩) (fn := Tryd.f70) (by kernel_rfl) (by kernel_rfl) ?_
  show FinQ E (Cx.of Tryd.f70 false 0) (QW (plan_all_1_Q r)) _
  unfold plan_all_1 at h
  refine adv_ok hm 12 _ ?_
  refine p_split h (by kernel_rfl) (fun h1 h => ?_) (fun h1 h => ?_)
  · -- true
    refine adv_ok hm 9 _ ?_
    obtain rfl := Option.some.inj h
    exact r_retF [] (d := D.bool true) (s := []) (by kernel_rfl) Cx.fin_of ⟨rfl, rfl⟩
  · -- false
    refine adv_ok hm 10 _ ?_
    obtain rfl := Option.some.inj h
    exact r_retF [] (d := D.bool (decide ((n : Int) > t2))) (s := []) (by kernel_rfl) Cx.fin_of ⟨rfl, rfl⟩
end Go.RX.L

set_option linter.unusedSimpArgs false
set_option linter.unusedVariables false
set_option maxRecDepth 100000
set_option maxHeartbeats 4000000
namespace Go.RX.L
open Go Go.RX Go.Proofs
attribute [local irreducible] FinQ
def slices_IndexFunc__all_1_Q (y : Int) (d : D) (s : Sto) : Prop := d = D.int .i64 y ∧ s = []
inductive slices_IndexFunc__all_1_S where
  | s0 (s_ : List Int) (f : Int) (f2 : Int)
  | s1 (s_ : List Int) (f : Int) (f2 : Int) (t7 : Int) (t8 : Int)
noncomputable def slices_IndexFunc__all_1_M : slices_IndexFunc__all_1_S → M
  | .s0 s_ f f2 => ⟨[.code (bodyOf Tryd.f76)], [(0, D.sl false 1 (List.map (eInt .i64) s_)), (1, D.fn 70 [] [D.iptr 1 [[D.int .i64 f]] 0 0, D.iptr 1 [[D.int .i64 f2]] 0 0])], []⟩
  | .s1 s_ f f2 t7 t8 => { td := [It.lpc (codeAt (bodyOf Tryd.f76) [1, 0, 1, 0, 0]) 387, It.blk 0, It.code (codeAt (bodyOf Tryd.f76) [1, 1])], fr := [(0, D.sl false 1 (List.map (eInt .i64) s_)), (1, D.fn 70 [] [D.iptr 1 [[D.int .i64 f]] 0 0, D.iptr 1 [[D.int .i64 f2]] 0 0]), (7, D.int .i64 t7), (8, D.int .i64 t8)], st := [] }
noncomputable def slices_IndexFunc__all_1_0 (s_ : List Int) (f : Int) (f2 : Int) : Option (slices_IndexFunc__all_1_S ⊕ Int) := (some (.inl (.s1 s_ f f2 (((List.map (eInt .i64) s_).length : Nat) : Int) 0)))
noncomputable def slices_IndexFunc__all_1_1 (s_ : List Int) (f : Int) (f2 : Int) (t7 : Int) (t8 : Int) : Option (slices_IndexFunc__all_1_S ⊕ Int) := (bif (decide ((t8 : Int) < t7)) then (bif ((decide ((0 : Int) ≤ t8)) && (decide ((t8 : Int) < (((List.map (eInt .i64) s_).length : Nat) : Int)))) then (((s_)[t8.toNat]?).bind fun y3 => ((plan_all_1 y3 f f2).bind fun y5 => (bif y5 then (some (.inr t8)) else (some (.inl (.s1 s_ f f2 t7 (IntKind.i64.wrap (t8 + 1)))))))) else none) else (some (.inr (-1))))
noncomputable def slices_IndexFunc__all_1_step : slices_IndexFunc__all_1_S → Option (slices_IndexFunc__all_1_S ⊕ Int)
  | .s0 s_ f f2 => slices_IndexFunc__all_1_0 s_ f f2
  | .s1 s_ f f2 t7 t8 => slices_IndexFunc__all_1_1 s_ f f2 t7 t8
theorem slices_IndexFunc__all_1_0_ok {s_ : List Int} {f : Int} {f2 : Int} {r : Int} {x : slices_IndexFunc__all_1_S ⊕ Int} (h : slices_IndexFunc__all_1_0 s_ f f2 = some x) (ha : After E (Cx.of Tryd.f76 false 0) slices_IndexFunc__all_1_Q slices_IndexFunc__all_1_M r x) : FinQ E (Cx.of Tryd.f76 false 0) (QW (slices_IndexFunc__all_1_Q r)) (.go (slices_IndexFunc__all_1_M (.s0 s_ f f2))) := by
  unfold slices_IndexFunc__all_1_0 at h
  refine adv_ok hm 14 _ ?_
  obtain rfl := Option.some.inj h
  exact r_to (q' := .go (slices_IndexFunc__all_1_M (.s1 s_ f f2 (((List.map (eInt .i64) s_).length : Nat) : Int) 0))) (by kernel_rfl) ha
theorem slices_IndexFunc__all_1_1_ok {s_ : List Int} {f : Int} {f2 : Int} {t7 : Int} {t8 : Int} {r : Int} {x : slices_IndexFunc__all_1_S ⊕ Int} (h : slices_IndexFunc__all_1_1 s_ f f2 t7 t8 = some x) (ha : After E (Cx.of Tryd.f76 false 0) slices_IndexFunc__all_1_Q slices_IndexFunc__all_1_M r x) : FinQ E (Cx.of Tryd.f76 false 0) (QW (slices_IndexFunc__all_1_Q r)) (.go (slices_IndexFunc__all_1_M (.s1 s_ f f2 t7 t8))) := by
  unfold slices_IndexFunc__all_1_1 at h
  refine adv_ok hm 7 _ ?_
  refine p_split h (by kernel_rfl) (fun h1 h => ?_) (fun h1 h => ?_)
  · -- true
    refine adv_ok hm 14 _ ?_
    refine p_need h (by kernel_rfl) (fun h2 h => ?_)
    refine adv_ok hm 1 _ ?_
    refine p_row (((List.map (eInt .i64) s_))[t8.toNat]?) (eInt .i64) h (by kernel_rfl) List.getElem?_map (fun y3 h4 h => ?_)
    refine adv_ok hm 1 _ ?_
    have ok5 := fun (y : Bool) (hy : plan_all_1 y3 f f2 = some y) => plan_all_1_ok hy
    refine p_callR [] h (by kernel_rfl) ok5 (fun y5 h5 h => ?_)
    refine adv_ok hm 2 _ ?_
    refine p_split h (by kernel_rfl) (fun h6 h => ?_) (fun h6 h => ?_)
    · -- true
      refine adv_ok hm 6 _ ?_
      obtain rfl := Option.some.inj h
      have hv := ha
      simp only [After] at hv
      subst hv
      exact r_retF [] (d := D.int .i64 t8) (s := []) (by kernel_rfl) Cx.fin_of ⟨rfl, rfl⟩
    · -- false
      refine adv_ok hm 7 _ ?_
      obtain rfl := Option.some.inj h
      exact r_to (q' := .go (slices_IndexFunc__all_1_M (.s1 s_ f f2 t7 (IntKind.i64.wrap (t8 + 1))))) (by kernel_rfl) ha
  · -- false
    refine adv_ok hm 6 _ ?_
    obtain rfl := Option.some.inj h
    have hv := ha
    simp only [After] at hv
    subst hv
    exact r_retF [] (d := D.int .i64 (-1)) (s := []) (by kernel_rfl) Cx.fin_of ⟨rfl, rfl⟩
theorem slices_IndexFunc__all_1_ev {s_ : List Int} {f : Int} {f2 : Int} {r : Int} (h : Ev slices_IndexFunc__all_1_step (.s0 s_ f f2) r) : Sound E 76 [D.sl false 1 (List.map (eInt .i64) s_), D.fn 70 [] [D.iptr 1 [[D.int .i64 f]] 0 0, D.iptr 1 [[D.int .i64 f2]] 0 0]] [] (slices_IndexFunc__all_1_Q r) :=
  sound_ofW (m := slices_IndexFunc__all_1_M (.s0 s_ f f2)) (fn := Tryd.f76) (by kernel_rfl) (by kernel_rfl) (ev_run (C := (Cx.of Tryd.f76 false 0)) (fun s x r hs ha => by
    cases s with
    | s0 => exact slices_IndexFunc__all_1_0_ok hs ha
    | s1 => exact slices_IndexFunc__all_1_1_ok hs ha) h)
noncomputable def slices_IndexFunc__all_1 (s_ : List Int) (f : Int) (f2 : Int) : Option Int := evf slices_IndexFunc__all_1_step (.s0 s_ f f2)
theorem slices_IndexFunc__all_1_ok {s_ : List Int} {f : Int} {f2 : Int} {r : Int} (h : slices_IndexFunc__all_1 s_ f f2 = some r) : Sound E 76 [D.sl false 1 (List.map (eInt .i64) s_), D.fn 70 [] [D.iptr 1 [[D.int .i64 f]] 0 0, D.iptr 1 [[D.int .i64 f2]] 0 0]] [] (slices_IndexFunc__all_1_Q r) := slices_IndexFunc__all_1_ev (evf_ev h)
end Go.RX.L

set_option linter.unusedSimpArgs false
set_option linter.unusedVariables false
set_option maxRecDepth 100000
set_option maxHeartbeats 4000000
namespace Go.RX.L
open Go Go.RX Go.Proofs
attribute [local irreducible] FinQ
def slices_ContainsFunc__all_1_Q (y : Bool) (d : D) (s : Sto) : Prop := d = D.bool y ∧ s = []
noncomputable def slices_ContainsFunc__all_1 (s_ : List Int) (f : Int) (f2 : Int) : Option Bool := ((slices_IndexFunc__all_1 s_ f f2).bind fun y1 => (some (decide ((y1 : Int) ≥ 0))))
theorem slices_ContainsFunc__all_1_ok {s_ : List Int} {f : Int} {f2 : Int} {r : Bool} (h : slices_ContainsFunc__all_1 s_ f f2 = some r) : Sound E 69 [D.sl false 1 (List.map (eInt .i64) s_), D.fn 70 [] [D.iptr 1 [[D.int .i64 f]] 0 0, D.iptr 1 [[D.int .i64 f2]] 0 0]] [] (slices_ContainsFunc__all_1_Q r) := by
  refine sound_ofW (m := ⟨[.code (bodyOf Tryd.f69)], [(0, D.sl false 1 (List.map (eInt .i64) s_)), (1, D.fn 70 [] [D.iptr 1 [[D.int .i64 f]] 0 0, D.iptr 1 [[D.int .i64 f2]] 0 0])], []⟩) (fn := Tryd.f69) (by kernel_rfl) (by kernel_rfl) ?_
  show FinQ E (Cx.of Tryd.f69 false 0) (QW (slices_ContainsFunc__all_1_Q r)) _
  unfold slices_ContainsFunc__all_1 at h
  refine adv_ok hm 9 _ ?_
  have ok1 := fun (y : Int) (hy : slices_IndexFunc__all_1 s_ f f2 = some y) => slices_IndexFunc__all_1_ok hy
  refine p_callR [] h (by kernel_rfl) ok1 (fun y1 h1 h => ?_)
  refine adv_ok hm 4 _ ?_
  obtain rfl := Option.some.inj h
  exact r_retF [] (d := D.bool (decide ((y1 : Int) ≥ 0))) (s := []) (by kernel_rfl) Cx.fin_of ⟨rfl, rfl⟩
end Go.RX.L

set_option linter.unusedSimpArgs false
set_option linter.unusedVariables false
set_option maxRecDepth 100000
set_option maxHeartbeats 4000000
namespace Go.RX.L
open Go Go.RX Go.Proofs
attribute [local irreducible] FinQ
def plan_all_Q (y : Bool) (d : D) (s : Sto) : Prop := d = D.bool y ∧ s = []
noncomputable def plan_all (low : Int) (high : Int) (l_ : List Int) : Option Bool := ((slices_ContainsFunc__all_1 l_ low high).bind fun y1 => (some (!y1)))
theorem plan_all_ok {low : Int} {high : Int} {l_ : List Int} {r : Bool} (h : plan_all low high l_ = some r) : Sound E 54 [D.int .i64 low, D.int .i64 high, D.sl false 1 (List.map (eInt .i64) l_)] [] (plan_all_Q r) := by
  refine sound_ofW (m := ⟨[.code (bodyOf Tryd.f54)], [(0, D.int .i64 low), (1, D.int .i64 high), (2, D.sl false 1 (List.map (eInt .i64) l_))], []⟩) (fn := Tryd.f54) (by kernel_rfl) (by kernel_rfl) ?_
  show FinQ E (Cx.of Tryd.f54 false 0) (QW (plan_all_Q r)) _
  unfold plan_all at h
  refine adv_ok hm 11 _ ?_
  have ok1 := fun (y : Bool) (hy : slices_ContainsFunc__all_1 l_ low high = some y) => slices_ContainsFunc__all_1_ok hy
  refine p_callR [] h (by kernel_rfl) ok1 (fun y1 h1 h => ?_)
  refine adv_ok hm 4 _ ?_
  obtain rfl := Option.some.inj h
  exact r_retF [] (d := D.bool (!y1)) (s := []) (by kernel_rfl) Cx.fin_of ⟨rfl, rfl⟩
end Go.RX.L

set_option linter.unusedSimpArgs false
set_option linter.unusedVariables false
set_option maxRecDepth 100000
set_option maxHeartbeats 4000000
namespace Go.RX.L
open Go Go.RX Go.Proofs
attribute [local irreducible] FinQ
def plan_all_1_v2_Q (y : Bool) (d : D) (s : Sto) : Prop := d = D.bool y ∧ s = []
noncomputable def plan_all_1_v2 (n : Int) (t : Int) (t2 : Int) : Option Bool := (bif (decide ((n : Int) < t)) then (some true) else (some (decide ((n : Int) > t2))))
theorem plan_all_1_v2_ok {n : Int} {t : Int} {t2 : Int} {r : Bool} (h : plan_all_1_v2 n t t2 = some r) : Sound E 68 [D.int .i64 n, D.iptr 1 [[D.int .i64 t]] 0 0, D.iptr 1 [[D.int .i64 t2]] 0 0] [] (plan_all_1_v2_Q r) := by
  refine sound_ofW (m := ⟨[.code (bodyOf Tryd.f68)], [(0, D.int .i64 n), (1, D.iptr 1 [[D.int .i64 t]] 0 0), (2, D.iptr 1 [[D.int .i64 t2]] 0 0)], []⟩) (fn := Tryd.f68) (by kernel_rfl) (by kernel_rfl) ?_
  show FinQ E (Cx.of Tryd.f68 false 0) (QW (plan_all_1_v2_Q r)) _
  unfold plan_all_1_v2 at h
  refine adv_ok hm 12 _ ?_
  refine p_split h (by kernel_rfl) (fun h1 h => ?_) (fun h1 h => ?_)
  · -- true
    refine adv_ok hm 9 _ ?_
    obtain rfl := Option.some.inj h
    exact r_retF [] (d := D.bool true) (s := []) (by kernel_rfl) Cx.fin_of ⟨rfl, rfl⟩
  · -- false
    refine adv_ok hm 10 _ ?_
    obtain rfl := Option.some.inj h
    exact r_retF [] (d := D.bool (decide ((n : Int) > t2))) (s := []) (by kernel_rfl) Cx.fin_of ⟨rfl, rfl⟩
end Go.RX.L

set_option linter.unusedSimpArgs false
set_option linter.unusedVariables false
set_option maxRecDepth 100000
set_option maxHeartbeats 4000000
namespace Go.RX.L
open Go Go.RX Go.Proofs
attribute [local irreducible] FinQ
def slices_IndexFunc__all_1_v2_Q (y : Int) (d : D) (s : Sto) : Prop := d = D.int .i64 y ∧ s = []
inductive slices_IndexFunc__all_1_v2_S where
  | s0 (s_ : List Int) (f : Int) (f2 : Int)
  | s1 (s_ : List Int) (f : Int) (f2 : Int) (t7 : Int) (t8 : Int)
noncomputable def slices_IndexFunc__all_1_v2_M : slices_IndexFunc__all_1_v2_S → M
  | .s0 s_ f f2 => ⟨[.code (bodyOf Tryd.f75)], [(0, D.sl false 1 (List.map (eInt .i64) s_)), (1, D.fn 68 [] [D.iptr 1 [[D.int .i64 f]] 0 0, D.iptr 1 [[D.int .i64 f2]] 0 0])], []⟩
  | .s1 s_ f f2 t7 t8 => { td := [It.lpc (codeAt (bodyOf Tryd.f75) [1, 0, 1, 0, 0]) 387, It.blk 0, It.code (codeAt (bodyOf Tryd.f75) [1, 1])], fr := [(0, D.sl false 1 (List.map (eInt .i64) s_)), (1, D.fn 68 [] [D.iptr 1 [[D.int .i64 f]] 0 0, D.iptr 1 [[D.int .i64 f2]] 0 0]), (7, D.int .i64 t7), (8, D.int .i64 t8)], st := [] }
noncomputable def slices_IndexFunc__all_1_v2_0 (s_ : List Int) (f : Int) (f2 : Int) : Option (slices_IndexFunc__all_1_v2_S ⊕ Int) := (some (.inl (.s1 s_ f f2 (((List.map (eInt .i64) s_).length : Nat) : Int) 0)))
noncomputable def slices_IndexFunc__all_1_v2_1 (s_ : List Int) (f : Int) (f2 : Int) (t7 : Int) (t8 : Int) : Option (slices_IndexFunc__all_1_v2_S ⊕ Int) := (bif (decide ((t8 : Int) < t7)) then (bif ((decide ((0 : Int) ≤ t8)) && (decide ((t8 : Int) < (((List.map (eInt .i64) s_).length : Nat) : Int)))) then (((s_)[t8.toNat]?).bind fun y3 => ((plan_all_1_v2 y3 f f2).bind fun y5 => (bif y5 then (some (.inr t8)) else (some (.inl (.s1 s_ f f2 t7 (IntKind.i64.wrap (t8 + 1)))))))) else none) else (some (.inr (-1))))
noncomputable def slices_IndexFunc__all_1_v2_step : slices_IndexFunc__all_1_v2_S → Option (slices_IndexFunc__all_1_v2_S ⊕ Int)
  | .s0 s_ f f2 => slices_IndexFunc__all_1_v2_0 s_ f f2
  | .s1 s_ f f2 t7 t8 => slices_IndexFunc__all_1_v2_1 s_ f f2 t7 t8
theorem slices_IndexFunc__all_1_v2_0_ok {s_ : List Int} {f : Int} {f2 : Int} {r : Int} {x : slices_IndexFunc__all_1_v2_S ⊕ Int} (h : slices_IndexFunc__all_1_v2_0 s_ f f2 = some x) (ha : After E (Cx.of Tryd.f75 false 0) slices_IndexFunc__all_1_v2_Q slices_IndexFunc__all_1_v2_M r x) : FinQ E (Cx.of Tryd.f75 false 0) (QW (slices_IndexFunc__all_1_v2_Q r)) (.go (slices_IndexFunc__all_1_v2_M (.s0 s_ f f2))) := by
  unfold slices_IndexFunc__all_1_v2_0 at h
  refine adv_ok hm 14 _ ?_
  obtain rfl := Option.some.inj h
  exact r_to (q' := .go (slices_IndexFunc__all_1_v2_M (.s1 s_ f f2 (((List.map (eInt .i64) s_).length : Nat) : Int) 0))) (by kernel_rfl) ha
theorem slices_IndexFunc__all_1_v2_1_ok {s_ : List Int} {f : Int} {f2 : Int} {t7 : Int} {t8 : Int} {r : Int} {x : slices_IndexFunc__all_1_v2_S ⊕ Int} (h : slices_IndexFunc__all_1_v2_1 s_ f f2 t7 t8 = some x) (ha : After E (Cx.of Tryd.f75 false 0) slices_IndexFunc__all_1_v2_Q slices_IndexFunc__all_1_v2_M r x) : FinQ E (Cx.of Tryd.f75 false 0) (QW (slices_IndexFunc__all_1_v2_Q r)) (.go (slices_IndexFunc__all_1_v2_M (.s1 s_ f f2 t7 t8))) := by
  unfold slices_IndexFunc__all_1_v2_1 at h
  refine adv_ok hm 7 _ ?_
  refine p_split h (by kernel_rfl) (fun h1 h => ?_) (fun h1 h => ?_)
  · -- true
    refine adv_ok hm 14 _ ?_
    refine p_need h (by kernel_rfl) (fun h2 h => ?_)
    refine adv_ok hm 1 _ ?_
    refine p_row (((List.map (eInt .i64) s_))[t8.toNat]?) (eInt .i64) h (by kernel_rfl) List.getElem?_map (fun y3 h4 h => ?_)
    refine adv_ok hm 1 _ ?_
    have ok5 := fun (y : Bool) (hy : plan_all_1_v2 y3 f f2 = some y) => plan_all_1_v2_ok hy
    refine p_callR [] h (by kernel_rfl) ok5 (fun y5 h5 h => ?_)
    refine adv_ok hm 2 _ ?_
    refine p_split h (by kernel_rfl) (fun h6 h => ?_) (fun h6 h => ?_)
    · -- true
      refine adv_ok hm 6 _ ?_
      obtain rfl := Option.some.inj h
      have hv := ha
      simp only [After] at hv
      subst hv
      exact r_retF [] (d := D.int .i64 t8) (s := []) (by kernel_rfl) Cx.fin_of ⟨rfl, rfl⟩
    · -- false
      refine adv_ok hm 7 _ ?_
      obtain rfl := Option.some.inj h
      exact r_to (q' := .go (slices_IndexFunc__all_1_v2_M (.s1 s_ f f2 t7 (IntKind.i64.wrap (t8 + 1))))) (by kernel_rfl) ha
  · -- false
    refine adv_ok hm 6 _ ?_
    obtain rfl := Option.some.inj h
    have hv := ha
    simp only [After] at hv
    subst hv
    exact r_retF [] (d := D.int .i64 (-1)) (s := []) (by kernel_rfl) Cx.fin_of ⟨rfl, rfl⟩
theorem slices_IndexFunc__all_1_v2_ev {s_ : List Int} {f : Int} {f2 : Int} {r : Int} (h : Ev slices_IndexFunc__all_1_v2_step (.s0 s_ f f2) r) : Sound E 75 [D.sl false 1 (List.map (eInt .i64) s_), D.fn 68 [] [D.iptr 1 [[D.int .i64 f]] 0 0, D.iptr 1 [[D.int .i64 f2]] 0 0]] [] (slices_IndexFunc__all_1_v2_Q r) :=
  sound_ofW (m := slices_IndexFunc__all_1_v2_M (.s0 s_ f f2)) (fn := Tryd.f75) (by kernel_rfl) (by kernel_rfl) (ev_run (C := (Cx.of Tryd.f75 false 0)) (fun s x r hs ha => by
    cases s with
    | s0 => exact slices_IndexFunc__all_1_v2_0_ok hs ha
    | s1 => exact slices_IndexFunc__all_1_v2_1_ok hs ha) h)
noncomputable def slices_IndexFunc__all_1_v2 (s_ : List Int) (f : Int) (f2 : Int) : Option Int := evf slices_IndexFunc__all_1_v2_step (.s0 s_ f f2)
theorem slices_IndexFunc__all_1_v2_ok {s_ : List Int} {f : Int} {f2 : Int} {r : Int} (h : slices_IndexFunc__all_1_v2 s_ f f2 = some r) : Sound E 75 [D.sl false 1 (List.map (eInt .i64) s_), D.fn 68 [] [D.iptr 1 [[D.int .i64 f]] 0 0, D.iptr 1 [[D.int .i64 f2]] 0 0]] [] (slices_IndexFunc__all_1_v2_Q r) := slices_IndexFunc__all_1_v2_ev (evf_ev h)
end Go.RX.L

set_option linter.unusedSimpArgs false
set_option linter.unusedVariables false
set_option maxRecDepth 100000
set_option maxHeartbeats 4000000
namespace Go.RX.L
open Go Go.RX Go.Proofs
attribute [local irreducible] FinQ
def slices_ContainsFunc__all_1_v2_Q (y : Bool) (d : D) (s : Sto) : Prop := d = D.bool y ∧ s = []
noncomputable def slices_ContainsFunc__all_1_v2 (s_ : List Int) (f : Int) (f2 : Int) : Option Bool := ((slices_IndexFunc__all_1_v2 s_ f f2).bind fun y1 => (some (decide ((y1 : Int) ≥ 0))))
theorem slices_ContainsFunc__all_1_v2_ok {s_ : List Int} {f : Int} {f2 : Int} {r : Bool} (h : slices_ContainsFunc__all_1_v2 s_ f f2 = some r) : Sound E 67 [D.sl false 1 (List.map (eInt .i64) s_), D.fn 68 [] [D.iptr 1 [[D.int .i64 f]] 0 0, D.iptr 1 [[D.int .i64 f2]] 0 0]] [] (slices_ContainsFunc__all_1_v2_Q r) := by
  refine sound_ofW (m := ⟨[.code (bodyOf Tryd.f67)], [(0, D.sl false 1 (List.map (eInt .i64) s_)), (1, D.fn 68 [] [D.iptr 1 [[D.int .i64 f]] 0 0, D.iptr 1 [[D.int .i64 f2]] 0 0])], []⟩) (fn := Tryd.f67) (by kernel_rfl) (by kernel_rfl) ?_
  show FinQ E (Cx.of Tryd.f67 false 0) (QW (slices_ContainsFunc__all_1_v2_Q r)) _
  unfold slices_ContainsFunc__all_1_v2 at h
  refine adv_ok hm 9 _ ?_
  have ok1 := fun (y : Int) (hy : slices_IndexFunc__all_1_v2 s_ f f2 = some y) => slices_IndexFunc__all_1_v2_ok hy
  refine p_callR [] h (by kernel_rfl) ok1 (fun y1 h1 h => ?_)
  refine adv_ok hm 4 _ ?_
  obtain rfl := Option.some.inj h
  exact r_retF [] (d := D.bool (decide ((y1 : Int) ≥ 0))) (s := []) (by kernel_rfl) Cx.fin_of ⟨rfl, rfl⟩
end Go.RX.L

set_option linter.unusedSimpArgs false
set_option linter.unusedVariables false
set_option maxRecDepth 100000
set_option maxHeartbeats 4000000
namespace Go.RX.L
open Go Go.RX Go.Proofs
attribute [local irreducible] FinQ
def plan_all_v2_Q (y : Bool) (d : D) (s : Sto) : Prop := d = D.bool y ∧ s = []
noncomputable def plan_all_v2 (low : Int) (high : Int) (l_ : List Int) : Option Bool := ((slices_ContainsFunc__all_1_v2 l_ low high).bind fun y1 => (some (!y1)))
theorem plan_all_v2_ok {low : Int} {high : Int} {l_ : List Int} {r : Bool} (h : plan_all_v2 low high l_ = some r) : Sound E 53 [D.int .i64 low, D.int .i64 high, D.sl false 1 (List.map (eInt .i64) l_)] [] (plan_all_v2_Q r) := by
  refine sound_ofW (m := ⟨[.code (bodyOf Tryd.f53)], [(0, D.int .i64 low), (1, D.int .i64 high), (2, D.sl false 1 (List.map (eInt .i64) l_))], []⟩) (fn := Tryd.f53) (by kernel_rfl) (by kernel_rfl) ?_
  show FinQ E (Cx.of Tryd.f53 false 0) (QW (plan_all_v2_Q r)) _
  unfold plan_all_v2 at h
  refine adv_ok hm 11 _ ?_
  have ok1 := fun (y : Bool) (hy : slices_ContainsFunc__all_1_v2 l_ low high = some y) => slices_ContainsFunc__all_1_v2_ok hy
  refine p_callR [] h (by kernel_rfl) ok1 (fun y1 h1 h => ?_)
  refine adv_ok hm 4 _ ?_
  obtain rfl := Option.some.inj h
  exact r_retF [] (d := D.bool (!y1)) (s := []) (by kernel_rfl) Cx.fin_of ⟨rfl, rfl⟩
end Go.RX.L

set_option linter.unusedSimpArgs false
set_option linter.unusedVariables false
set_option maxRecDepth 100000
set_option maxHeartbeats 4000000
namespace Go.RX.L
open Go Go.RX Go.Proofs
attribute [local irreducible] FinQ
def cmp_isNaN_Q (y : Bool) (d : D) (s : Sto) : Prop := d = D.bool y ∧ s = []
noncomputable def cmp_isNaN (x_ : Int) : Option Bool := (some ((x_ : Int) != x_))
theorem cmp_isNaN_ok {x_ : Int} {r : Bool} (h : cmp_isNaN x_ = some r) : Sound E 77 [D.int .i64 x_] [] (cmp_isNaN_Q r) := by
  refine sound_ofW (m := ⟨[.code (bodyOf Tryd.f77)], [(0, D.int .i64 x_)], []⟩) (fn := Tryd.f77) (by kernel_rfl) (by kernel_rfl) ?_
  show FinQ E (Cx.of Tryd.f77 false 0) (QW (cmp_isNaN_Q r)) _
  unfold cmp_isNaN at h
  refine adv_ok hm 12 _ ?_
  obtain rfl := Option.some.inj h
  exact r_retF [] (d := D.bool ((x_ : Int) != x_)) (s := []) (by kernel_rfl) Cx.fin_of ⟨rfl, rfl⟩
end Go.RX.L

set_option linter.unusedSimpArgs false
set_option linter.unusedVariables false
set_option maxRecDepth 100000
set_option maxHeartbeats 4000000
namespace Go.RX.L
open Go Go.RX Go.Proofs
attribute [local irreducible] FinQ
def cmp_Less_Q (y : Bool) (d : D) (s : Sto) : Prop := d = D.bool y ∧ s = []
noncomputable def cmp_Less (x_ : Int) (y_ : Int) : Option Bool := ((cmp_isNaN x_).bind fun y1 => (bif y1 then ((cmp_isNaN y_).bind fun y3 => (bif (!y3) then (some true) else (some (decide ((x_ : Int) < y_))))) else (some (decide ((x_ : Int) < y_)))))
theorem cmp_Less_ok {x_ : Int} {y_ : Int} {r : Bool} (h : cmp_Less x_ y_ = some r) : Sound E 71 [D.int .i64 x_, D.int .i64 y_] [] (cmp_Less_Q r) := by
  refine sound_ofW (m := ⟨[.code (bodyOf Tryd.f71)], [(0, D.int .i64 x_), (1, D.int .i64 y_)], []⟩) (fn := Tryd.f71) (by kernel_rfl) (by kernel_rfl) ?_
  show FinQ E (Cx.of Tryd.f71 false 0) (QW (cmp_Less_Q r)) _
  unfold cmp_Less at h
  refine adv_ok hm 8 _ ?_
  have ok1 := fun (y : Bool) (hy : cmp_isNaN x_ = some y) => cmp_isNaN_ok hy
  refine p_callR [] h (by kernel_rfl) ok1 (fun y1 h1 h => ?_)
  refine adv_ok hm 2 _ ?_
  refine p_split h (by kernel_rfl) (fun h2 h => ?_) (fun h2 h => ?_)
  · -- true
    refine adv_ok hm 2 _ ?_
    have ok3 := fun (y : Bool) (hy : cmp_isNaN y_ = some y) => cmp_isNaN_ok hy
    refine p_callR [] h (by kernel_rfl) ok3 (fun y3 h3 h => ?_)
    refine adv_ok hm 6 _ ?_
    refine p_split h (by kernel_rfl) (fun h4 h => ?_) (fun h4 h => ?_)
    · -- true
      refine adv_ok hm 9 _ ?_
      obtain rfl := Option.some.inj h
      exact r_retF [] (d := D.bool true) (s := []) (by kernel_rfl) Cx.fin_of ⟨rfl, rfl⟩
    · -- false
      refine adv_ok hm 9 _ ?_
      obtain rfl := Option.some.inj h
      exact r_retF [] (d := D.bool (decide ((x_ : Int) < y_))) (s := []) (by kernel_rfl) Cx.fin_of ⟨rfl, rfl⟩
  · -- false
    refine adv_ok hm 18 _ ?_
    obtain rfl := Option.some.inj h
    exact r_retF [] (d := D.bool (decide ((x_ : Int) < y_))) (s := []) (by kernel_rfl) Cx.fin_of ⟨rfl, rfl⟩
end Go.RX.L

set_option linter.unusedSimpArgs false
set_option linter.unusedVariables false
set_option maxRecDepth 100000
set_option maxHeartbeats 4000000
namespace Go.RX.L
open Go Go.RX Go.Proofs
attribute [local irreducible] FinQ
def slices_IsSorted_Q (y : Bool) (d : D) (s : Sto) : Prop := d = D.bool y ∧ s = []
inductive slices_IsSorted_S where
  | s0 (x_ : List Int)
  | s1 (x_ : List Int) (i : Int)
noncomputable def slices_IsSorted_M : slices_IsSorted_S → M
  | .s0 x_ => ⟨[.code (bodyOf Tryd.f55)], [(0, D.sl false 1 (List.map (eInt .i64) x_))], []⟩
  | .s1 x_ i => { td := [It.lpc (codeAt (bodyOf Tryd.f55) [1, 0, 1, 0, 0]) 9, It.blk 0, It.code (codeAt (bodyOf Tryd.f55) [1, 1])], fr := [(0, D.sl false 1 (List.map (eInt .i64) x_)), (3, D.int .i64 i)], st := [] }
noncomputable def slices_IsSorted_0 (x_ : List Int) : Option (slices_IsSorted_S ⊕ Bool) := (some (.inl (.s1 x_ (IntKind.i64.wrap ((((List.map (eInt .i64) x_).length : Nat) : Int) - 1)))))
noncomputable def slices_IsSorted_1 (x_ : List Int) (i : Int) : Option (slices_IsSorted_S ⊕ Bool) := (bif (decide ((i : Int) > 0)) then (bif ((decide ((0 : Int) ≤ i)) && (decide ((i : Int) < (((List.map (eInt .i64) x_).length : Nat) : Int)))) then (((x_)[i.toNat]?).bind fun y3 => (bif ((decide ((0 : Int) ≤ (IntKind.i64.wrap (i - 1)))) && (decide (((IntKind.i64.wrap (i - 1)) : Int) < (((List.map (eInt .i64) x_).length : Nat) : Int)))) then (((x_)[(IntKind.i64.wrap (i - 1)).toNat]?).bind fun y6 => ((cmp_Less y3 y6).bind fun y8 => (bif y8 then (some (.inr false)) else (some (.inl (.s1 x_ (IntKind.i64.wrap (i - 1)))))))) else none)) else none) else (some (.inr true)))
noncomputable def slices_IsSorted_step : slices_IsSorted_S → Option (slices_IsSorted_S ⊕ Bool)
  | .s0 x_ => slices_IsSorted_0 x_
  | .s1 x_ i => slices_IsSorted_1 x_ i
theorem slices_IsSorted_0_ok {x_ : List Int} {r : Bool} {x : slices_IsSorted_S ⊕ Bool} (h : slices_IsSorted_0 x_ = some x) (ha : After E (Cx.of Tryd.f55 false 0) slices_IsSorted_Q slices_IsSorted_M r x) : FinQ E (Cx.of Tryd.f55 false 0) (QW (slices_IsSorted_Q r)) (.go (slices_IsSorted_M (.s0 x_))) := by
  unfold slices_IsSorted_0 at h
  refine adv_ok hm 15 _ ?_
  obtain rfl := Option.some.inj h
  exact r_to (q' := .go (slices_IsSorted_M (.s1 x_ (IntKind.i64.wrap ((((List.map (eInt .i64) x_).length : Nat) : Int) - 1))))) (by kernel_rfl) ha
theorem slices_IsSorted_1_ok {x_ : List Int} {i : Int} {r : Bool} {x : slices_IsSorted_S ⊕ Bool} (h : slices_IsSorted_1 x_ i = some x) (ha : After E (Cx.of Tryd.f55 false 0) slices_IsSorted_Q slices_IsSorted_M r x) : FinQ E (Cx.of Tryd.f55 false 0) (QW (slices_IsSorted_Q r)) (.go (slices_IsSorted_M (.s1 x_ i))) := by
  unfold slices_IsSorted_1 at h
  refine adv_ok hm 8 _ ?_
  refine p_split h (by kernel_rfl) (fun h1 h => ?_) (fun h1 h => ?_)
  · -- true
    refine adv_ok hm 5 _ ?_
    refine p_need h (by kernel_rfl) (fun h2 h => ?_)
    refine p_row (((List.map (eInt .i64) x_))[i.toNat]?) (eInt .i64) h (by kernel_rfl) List.getElem?_map (fun y3 h4 h => ?_)
    refine p_need h (by kernel_rfl) (fun h5 h => ?_)
    refine p_row (((List.map (eInt .i64) x_))[(IntKind.i64.wrap (i - 1)).toNat]?) (eInt .i64) h (by kernel_rfl) List.getElem?_map (fun y6 h7 h => ?_)
    have ok8 := fun (y : Bool) (hy : cmp_Less y3 y6 = some y) => cmp_Less_ok hy
    refine p_callDR [] h (by kernel_rfl) ok8 (fun y8 h8 h => ?_)
    refine adv_ok hm 1 _ ?_
    refine p_split h (by kernel_rfl) (fun h9 h => ?_) (fun h9 h => ?_)
    · -- true
      refine adv_ok hm 5 _ ?_
      obtain rfl := Option.some.inj h
      have hv := ha
      simp only [After] at hv
      subst hv
      exact r_retF [] (d := D.bool false) (s := []) (by kernel_rfl) Cx.fin_of ⟨rfl, rfl⟩
    · -- false
      refine adv_ok hm 8 _ ?_
      obtain rfl := Option.some.inj h
      exact r_to (q' := .go (slices_IsSorted_M (.s1 x_ (IntKind.i64.wrap (i - 1))))) (by kernel_rfl) ha
  · -- false
    refine adv_ok hm 6 _ ?_
    obtain rfl := Option.some.inj h
    have hv := ha
    simp only [After] at hv
    subst hv
    exact r_retF [] (d := D.bool true) (s := []) (by kernel_rfl) Cx.fin_of ⟨rfl, rfl⟩
theorem slices_IsSorted_ev {x_ : List Int} {r : Bool} (h : Ev slices_IsSorted_step (.s0 x_) r) : Sound E 55 [D.sl false 1 (List.map (eInt .i64) x_)] [] (slices_IsSorted_Q r) :=
  sound_ofW (m := slices_IsSorted_M (.s0 x_)) (fn := Tryd.f55) (by kernel_rfl) (by kernel_rfl) (ev_run (C := (Cx.of Tryd.f55 false 0)) (fun s x r hs ha => by
    cases s with
    | s0 => exact slices_IsSorted_0_ok hs ha
    | s1 => exact slices_IsSorted_1_ok hs ha) h)
noncomputable def slices_IsSorted (x_ : List Int) : Option Bool := evf slices_IsSorted_step (.s0 x_)
theorem slices_IsSorted_ok {x_ : List Int} {r : Bool} (h : slices_IsSorted x_ = some r) : Sound E 55 [D.sl false 1 (List.map (eInt .i64) x_)] [] (slices_IsSorted_Q r) := slices_IsSorted_ev (evf_ev h)
end Go.RX.L

set_option linter.unusedSimpArgs false
set_option linter.unusedVariables false
set_option maxRecDepth 100000
set_option maxHeartbeats 4000000
namespace Go.RX.L
open Go Go.RX Go.Proofs
attribute [local irreducible] FinQ
def plan_Right_Q (y : Bool) (d : D) (s : Sto) : Prop := d = D.bool y ∧ s = []
noncomputable def plan_Right_1M (t37 : Bool) (p_ : Plan) : M := { td := [It.code (codeAt (bodyOf Tryd.f30) [1, 0, 0, 1, 1, 1, 1, 1]), It.blk 0, It.code (codeAt (bodyOf Tryd.f30) [1, 1])], fr := [(1, D.ptr 0 0 0), (37, D.bool t37)], st := [some { sz := 12, deep := false, rows := [(Plan.enc p_)] }] }
noncomputable def plan_Right_1 (t37 : Bool) (p_ : Plan) : Option Bool := (bif t37 then (some false) else ((plan_all_v2 0 1000000 p_.Pen).bind fun y2 => (bif y2 then ((plan_all 0 1099511627776 p_.Changes).bind fun y4 => (bif y4 then ((slices_IsSorted p_.Changes).bind fun y6 => (some y6)) else (some false))) else (some false))))
theorem plan_Right_1_ok {t37 : Bool} {p_ : Plan} {r : Bool} (h : plan_Right_1 t37 p_ = some r) : FinQ E (Cx.of Tryd.f30 false 0) (QW (plan_Right_Q r)) (.go (plan_Right_1M t37 p_)) := by
  unfold plan_Right_1 at h
  refine adv_ok hm 1 _ ?_
  refine p_split h (by kernel_rfl) (fun h1 h => ?_) (fun h1 h => ?_)
  · -- true
    refine adv_ok hm 5 _ ?_
    obtain rfl := Option.some.inj h
    exact r_retF [] (d := D.bool false) (s := []) (by kernel_rfl) Cx.fin_of ⟨rfl, rfl⟩
  · -- false
    refine adv_ok hm 8 _ ?_
    have ok2 := fun (y : Bool) (hy : plan_all_v2 0 1000000 p_.Pen = some y) => plan_all_v2_ok hy
    refine p_callR [] h (by kernel_rfl) ok2 (fun y2 h2 h => ?_)
    refine adv_ok hm 2 _ ?_
    refine p_split h (by kernel_rfl) (fun h3 h => ?_) (fun h3 h => ?_)
    · -- true
      refine adv_ok hm 5 _ ?_
      have ok4 := fun (y : Bool) (hy : plan_all 0 1099511627776 p_.Changes = some y) => plan_all_ok hy
      refine p_callR [] h (by kernel_rfl) ok4 (fun y4 h4 h => ?_)
      refine adv_ok hm 4 _ ?_
      refine p_split h (by kernel_rfl) (fun h5 h => ?_) (fun h5 h => ?_)
      · -- true
        refine adv_ok hm 5 _ ?_
        have ok6 := fun (y : Bool) (hy : slices_IsSorted p_.Changes = some y) => slices_IsSorted_ok hy
        refine p_callR [] h (by kernel_rfl) ok6 (fun y6 h6 h => ?_)
        refine adv_ok hm 5 _ ?_
        obtain rfl := Option.some.inj h
        exact r_retF [] (d := D.bool y6) (s := []) (by kernel_rfl) Cx.fin_of ⟨rfl, rfl⟩
      · -- false
        refine adv_ok hm 9 _ ?_
        obtain rfl := Option.some.inj h
        exact r_retF [] (d := D.bool false) (s := []) (by kernel_rfl) Cx.fin_of ⟨rfl, rfl⟩
    · -- false
      refine adv_ok hm 18 _ ?_
      obtain rfl := Option.some.inj h
      exact r_retF [] (d := D.bool false) (s := []) (by kernel_rfl) Cx.fin_of ⟨rfl, rfl⟩
noncomputable def plan_Right_2M (t21 : Bool) (p_ : Plan) : M := { td := [It.code (codeAt (bodyOf Tryd.f30) [1, 0, 0, 1, 1, 1]), It.blk 0, It.code (codeAt (bodyOf Tryd.f30) [1, 1])], fr := [(1, D.ptr 0 0 0), (21, D.bool t21)], st := [some { sz := 12, deep := false, rows := [(Plan.enc p_)] }] }
noncomputable def plan_Right_2 (t21 : Bool) (p_ : Plan) : Option Bool := (bif t21 then (some false) else (bif (decide (((((List.map (eInt .i64) p_.Pen).length : Nat) : Int) : Int) > 16)) then (plan_Right_1 (decide (((((List.map (eInt .i64) p_.Pen).length : Nat) : Int) : Int) > 16)) p_) else (plan_Right_1 (decide (((((List.map (eInt .i64) p_.Changes).length : Nat) : Int) : Int) > 8)) p_)))
theorem plan_Right_2_ok {t21 : Bool} {p_ : Plan} {r : Bool} (h : plan_Right_2 t21 p_ = some r) : FinQ E (Cx.of Tryd.f30 false 0) (QW (plan_Right_Q r)) (.go (plan_Right_2M t21 p_)) := by
  unfold plan_Right_2 at h
  refine adv_ok hm 1 _ ?_
  refine p_split h (by kernel_rfl) (fun h1 h => ?_) (fun h1 h => ?_)
  · -- true
    refine adv_ok hm 5 _ ?_
    obtain rfl := Option.some.inj h
    exact r_retF [] (d := D.bool false) (s := []) (by kernel_rfl) Cx.fin_of ⟨rfl, rfl⟩
  · -- false
    refine adv_ok hm 11 _ ?_
    refine p_split h (by kernel_rfl) (fun h2 h => ?_) (fun h2 h => ?_)
    · -- true
      refine adv_ok hm 1 _ ?_
      exact r_cut 137438953474 [] (m' := (plan_Right_1M (decide (((((List.map (eInt .i64) p_.Pen).length : Nat) : Int) : Int) > 16)) p_)) (by kernel_rfl) (plan_Right_1_ok h)
    · -- false
      refine adv_ok hm 8 _ ?_
      exact r_cut 137438953474 [] (m' := (plan_Right_1M (decide (((((List.map (eInt .i64) p_.Changes).length : Nat) : Int) : Int) > 8)) p_)) (by kernel_rfl) (plan_Right_1_ok h)
noncomputable def plan_Right_3M (t3 : Bool) (p_ : Plan) : M := { td := [It.code (codeAt (bodyOf Tryd.f30) [1, 0, 0, 1]), It.blk 0, It.code (codeAt (bodyOf Tryd.f30) [1, 1])], fr := [(1, D.ptr 0 0 0), (3, D.bool t3)], st := [some { sz := 12, deep := false, rows := [(Plan.enc p_)] }] }
noncomputable def plan_Right_3 (t3 : Bool) (p_ : Plan) : Option Bool := (bif t3 then (some false) else ((plan_all 0 1099511627776 ([p_.Stamp, p_.Since, p_.Ramped])).bind fun y2 => (bif (!y2) then (plan_Right_2 (!y2) p_) else (plan_Right_2 (decide (((mxI p_.Up p_.Sup) : Int) ≥ 65536)) p_))))
theorem plan_Right_3_ok {t3 : Bool} {p_ : Plan} {r : Bool} (h : plan_Right_3 t3 p_ = some r) : FinQ E (Cx.of Tryd.f30 false 0) (QW (plan_Right_Q r)) (.go (plan_Right_3M t3 p_)) := by
  unfold plan_Right_3 at h
  refine adv_ok hm 1 _ ?_
  refine p_split h (by kernel_rfl) (fun h1 h => ?_) (fun h1 h => ?_)
  · -- true
    refine adv_ok hm 5 _ ?_
    obtain rfl := Option.some.inj h
    exact r_retF [] (d := D.bool false) (s := []) (by kernel_rfl) Cx.fin_of ⟨rfl, rfl⟩
  · -- false
    refine adv_ok hm 15 _ ?_
    have ok2 := fun (y : Bool) (hy : plan_all 0 1099511627776 ([p_.Stamp, p_.Since, p_.Ramped]) = some y) => plan_all_ok hy
    refine p_callR [] h (by kernel_rfl) ok2 (fun y2 h2 h => ?_)
    refine adv_ok hm 4 _ ?_
    refine p_split h (by kernel_rfl) (fun h3 h => ?_) (fun h3 h => ?_)
    · -- true
      refine adv_ok hm 1 _ ?_
      exact r_cut 2097154 [] (m' := (plan_Right_2M (!y2) p_)) (by kernel_rfl) (plan_Right_2_ok h)
    · -- false
      refine adv_ok hm 11 _ ?_
      exact r_cut 2097154 [] (m' := (plan_Right_2M (decide (((mxI p_.Up p_.Sup) : Int) ≥ 65536)) p_)) (by kernel_rfl) (plan_Right_2_ok h)
noncomputable def plan_Right (p_ : Plan) : Option Bool := (bif (decide ((p_.Epoch : Int) < 0)) then (plan_Right_3 (decide ((p_.Epoch : Int) < 0)) p_) else ((plan_all_v2 (-1) 15 ([p_.Target, p_.Prev, p_.Spill])).bind fun y2 => (bif (!y2) then (plan_Right_3 (!y2) p_) else ((plan_all_v2 0 100 ([p_.Percent])).bind fun y4 => (plan_Right_3 (!y4) p_)))))
theorem plan_Right_ok {p_ : Plan} {r : Bool} (h : plan_Right p_ = some r) : Sound E 30 [D.agg (Plan.enc p_)] [] (plan_Right_Q r) := by
  refine sound_ofW (m := ⟨[.code (bodyOf Tryd.f30)], [(0, D.agg (Plan.enc p_))], []⟩) (fn := Tryd.f30) (by kernel_rfl) (by kernel_rfl) ?_
  show FinQ E (Cx.of Tryd.f30 false 0) (QW (plan_Right_Q r)) _
  unfold plan_Right at h
  refine adv_ok hm 17 _ ?_
  refine p_split h (by kernel_rfl) (fun h1 h => ?_) (fun h1 h => ?_)
  · -- true
    refine adv_ok hm 1 _ ?_
    exact r_cut 10 [] (m' := (plan_Right_3M (decide ((p_.Epoch : Int) < 0)) p_)) (by kernel_rfl) (plan_Right_3_ok h)
  · -- false
    refine adv_ok hm 14 _ ?_
    have ok2 := fun (y : Bool) (hy : plan_all_v2 (-1) 15 ([p_.Target, p_.Prev, p_.Spill]) = some y) => plan_all_v2_ok hy
    refine p_callR [] h (by kernel_rfl) ok2 (fun y2 h2 h => ?_)
    refine adv_ok hm 4 _ ?_
    refine p_split h (by kernel_rfl) (fun h3 h => ?_) (fun h3 h => ?_)
    · -- true
      refine adv_ok hm 1 _ ?_
      exact r_cut 10 [] (m' := (plan_Right_3M (!y2) p_)) (by kernel_rfl) (plan_Right_3_ok h)
    · -- false
      refine adv_ok hm 7 _ ?_
      have ok4 := fun (y : Bool) (hy : plan_all_v2 0 100 ([p_.Percent]) = some y) => plan_all_v2_ok hy
      refine p_callR [] h (by kernel_rfl) ok4 (fun y4 h4 h => ?_)
      refine adv_ok hm 3 _ ?_
      exact r_cut 10 [] (m' := (plan_Right_3M (!y4) p_)) (by kernel_rfl) (plan_Right_3_ok h)
end Go.RX.L

set_option linter.unusedSimpArgs false
set_option linter.unusedVariables false
set_option maxRecDepth 100000
set_option maxHeartbeats 4000000
namespace Go.RX.L
open Go Go.RX Go.Proofs
attribute [local irreducible] FinQ
def plan_Put_Q (y : (List Int) × Int) (d : D) (s : Sto) : Prop := d = D.tup [D.sl false 1 (List.map (eInt .u8) y.1), D.int .i64 y.2] ∧ s = []
inductive plan_Put_S where
  | s0 (p_ : Plan)
  | s1 (t17 : List Int) (t18 : Int) (t19 : Int) (p_ : Plan) (pen : List Int)
  | s2 (t36 : Int) (b : List Int) (b1 : List (List Int))
noncomputable def plan_Put_M : plan_Put_S → M
  | .s0 p_ => ⟨[.code (bodyOf Tryd.f25)], [(0, D.agg (Plan.enc p_))], []⟩
  | .s1 t17 t18 t19 p_ pen => { td := [It.lpc (codeAt (bodyOf Tryd.f25) [1, 1, 1, 0, 1, 0, 0]) 917522, It.blk 0, It.code (codeAt (bodyOf Tryd.f25) [1, 1, 1, 1])], fr := [(1, D.ptr 0 0 0), (4, D.msl 1 0 ((List.map (eInt .i64) pen).length) ((List.map (eInt .i64) pen).length) false), (17, D.sl false 1 (List.map (eInt .i64) t17)), (18, D.int .i64 t18), (19, D.int .i64 t19)], st := [some { sz := 12, deep := false, rows := [(Plan.enc p_)] }, some { sz := 1, deep := false, rows := (List.map (eInt .i64) pen) }] }
  | .s2 t36 b b1 => { td := [It.lpc (codeAt (bodyOf Tryd.f25) [1, 1, 1, 1, 1, 1, 0, 1, 0, 0]) 120259084544, It.blk 2, It.code (codeAt (bodyOf Tryd.f25) [1, 1, 1, 1, 1, 1, 1])], fr := [(8, D.msl 0 0 ((List.map (eInt .u8) b).length) ((List.map (eInt .u8) b).length) false), (34, D.msl 1 0 ((List.map (eSl 1 (eInt .i64)) b1).length) ((List.map (eSl 1 (eInt .i64)) b1).length) true), (35, D.int .i64 3), (36, D.int .i64 t36)], st := [some { sz := 1, deep := false, rows := (List.map (eInt .u8) b) }, some { sz := 1, deep := false, rows := (List.map (eSl 1 (eInt .i64)) b1) }] }
noncomputable def plan_Put_0 (p_ : Plan) : Option (plan_Put_S ⊕ ((List Int) × Int)) := ((plan_Right p_).bind fun y1 => (bif (!y1) then (some (.inr ([], 41))) else (some (.inl (.s1 p_.Pen (((List.map (eInt .i64) p_.Pen).length : Nat) : Int) 0 p_ ([]))))))
noncomputable def plan_Put_1 (t17 : List Int) (t18 : Int) (t19 : Int) (p_ : Plan) (pen : List Int) : Option (plan_Put_S ⊕ ((List Int) × Int)) := (bif (decide ((t19 : Int) < t18)) then (bif ((decide ((0 : Int) ≤ t19)) && (decide ((t19 : Int) < (((List.map (eInt .i64) t17).length : Nat) : Int)))) then (((t17)[t19.toNat]?).bind fun y3 => (bif (decide (((List.map (eInt .i64) pen).length + 1) * 8 ≤ bytesLim)) then (some (.inl (.s1 t17 t18 (IntKind.i64.wrap (t19 + 1)) p_ (pen ++ [y3])))) else none)) else none) else ((plan_numbers p_).bind fun y6 => (some (.inl (.s2 0 ([]) ([[y6.1, y6.2.1, y6.2.2.1, y6.2.2.2.1, y6.2.2.2.2.1, y6.2.2.2.2.2.1, y6.2.2.2.2.2.2.1, y6.2.2.2.2.2.2.2.1, y6.2.2.2.2.2.2.2.2.1, y6.2.2.2.2.2.2.2.2.2], pen, p_.Changes]))))))
noncomputable def plan_Put_2 (t36 : Int) (b : List Int) (b1 : List (List Int)) : Option (plan_Put_S ⊕ ((List Int) × Int)) := (bif (decide ((t36 : Int) < 3)) then (bif ((decide ((0 : Int) ≤ t36)) && (decide ((t36 : Int) < (((List.map (eSl 1 (eInt .i64)) b1).length : Nat) : Int)))) then (((b1)[(0 + t36.toNat)]?).bind fun y3 => ((wire_PutInts y3).bind fun y5 => (bif (decide (((List.map (eInt .u8) b).length + (List.take ((List.map (eInt .u8) y5.2).length) (List.drop 0 (List.map (eInt .u8) y5.2))).length) * 1 ≤ bytesLim)) then (some (.inl (.s2 (IntKind.i64.wrap (t36 + 1)) (b ++ y5.2) b1))) else none))) else none) else (some (.inr (b, 0))))
noncomputable def plan_Put_step : plan_Put_S → Option (plan_Put_S ⊕ ((List Int) × Int))
  | .s0 p_ => plan_Put_0 p_
  | .s1 t17 t18 t19 p_ pen => plan_Put_1 t17 t18 t19 p_ pen
  | .s2 t36 b b1 => plan_Put_2 t36 b b1
theorem plan_Put_0_ok {p_ : Plan} {r : (List Int) × Int} {x : plan_Put_S ⊕ ((List Int) × Int)} (h : plan_Put_0 p_ = some x) (ha : After E (Cx.of Tryd.f25 false 0) plan_Put_Q plan_Put_M r x) : FinQ E (Cx.of Tryd.f25 false 0) (QW (plan_Put_Q r)) (.go (plan_Put_M (.s0 p_))) := by
  unfold plan_Put_0 at h
  refine adv_ok hm 12 _ ?_
  have ok1 := fun (y : Bool) (hy : plan_Right p_ = some y) => plan_Right_ok hy
  refine p_callR [] h (by kernel_rfl) ok1 (fun y1 h1 h => ?_)
  refine adv_ok hm 3 _ ?_
  refine p_split h (by kernel_rfl) (fun h2 h => ?_) (fun h2 h => ?_)
  · -- true
    refine adv_ok hm 6 _ ?_
    obtain rfl := Option.some.inj h
    have hv := ha
    simp only [After] at hv
    subst hv
    exact r_retF [.slot 0 [some 1]] (d := D.tup [D.sl false 1 [], D.int .i64 41]) (s := []) (by kernel_rfl) Cx.fin_of ⟨rfl, rfl⟩
  · -- false
    refine adv_ok hm 17 _ ?_
    obtain rfl := Option.some.inj h
    refine r_cut 917522 [.mat 4 1] (m' := { td := [It.lpc (codeAt (bodyOf Tryd.f25) [1, 1, 1, 0, 1, 0, 0]) 917522, It.blk 0, It.code (codeAt (bodyOf Tryd.f25) [1, 1, 1, 1])], fr := [(1, D.ptr 0 0 0), (4, D.msl 1 0 0 0 false), (17, D.sl false 1 (List.map (eInt .i64) p_.Pen)), (18, D.int .i64 (((List.map (eInt .i64) p_.Pen).length : Nat) : Int)), (19, D.int .i64 0)], st := [some { sz := 12, deep := false, rows := [(Plan.enc p_)] }, some { sz := 1, deep := false, rows := [] }] }) (by kernel_rfl) ?_
    refine r_len (n1 := 0) (n2 := (List.map (eInt .i64) ([])).length) (fun n_len => .go { td := [It.lpc (codeAt (bodyOf Tryd.f25) [1, 1, 1, 0, 1, 0, 0]) 917522, It.blk 0, It.code (codeAt (bodyOf Tryd.f25) [1, 1, 1, 1])], fr := [(1, D.ptr 0 0 0), (4, D.msl 1 0 n_len n_len false), (17, D.sl false 1 (List.map (eInt .i64) p_.Pen)), (18, D.int .i64 (((List.map (eInt .i64) p_.Pen).length : Nat) : Int)), (19, D.int .i64 0)], st := [some { sz := 12, deep := false, rows := [[D.int .i64 p_.Epoch, D.int .i64 p_.Target, D.int .i64 p_.Prev, D.int .i64 p_.Spill, D.int .i64 p_.Percent, D.int .i64 p_.Stamp, D.int .i64 p_.Since, D.int .i64 p_.Ramped, D.int .u64 p_.Up, D.int .u64 p_.Sup, D.sl false 1 (List.map (eInt .i64) p_.Pen), D.sl false 1 (List.map (eInt .i64) p_.Changes)]] }, some { sz := 1, deep := false, rows := [] }] }) (by simp) ?_
    exact ha
theorem plan_Put_1_ok {t17 : List Int} {t18 : Int} {t19 : Int} {p_ : Plan} {pen : List Int} {r : (List Int) × Int} {x : plan_Put_S ⊕ ((List Int) × Int)} (h : plan_Put_1 t17 t18 t19 p_ pen = some x) (ha : After E (Cx.of Tryd.f25 false 0) plan_Put_Q plan_Put_M r x) : FinQ E (Cx.of Tryd.f25 false 0) (QW (plan_Put_Q r)) (.go (plan_Put_M (.s1 t17 t18 t19 p_ pen))) := by
  unfold plan_Put_1 at h
  refine adv_ok hm 7 _ ?_
  refine p_split h (by kernel_rfl) (fun h1 h => ?_) (fun h1 h => ?_)
  · -- true
    refine adv_ok hm 6 _ ?_
    refine p_need h (by kernel_rfl) (fun h2 h => ?_)
    refine adv_ok hm 1 _ ?_
    refine p_row (((List.map (eInt .i64) t17))[t19.toNat]?) (eInt .i64) h (by kernel_rfl) List.getElem?_map (fun y3 h4 h => ?_)
    refine adv_ok hm 8 _ ?_
    refine p_need h (by kernel_rfl) (fun h5 h => ?_)
    refine r_needT (b := (Nat.ble (0 + (List.map (eInt .i64) pen).length) ((List.map (eInt .i64) pen).length))) (by kernel_rfl) (ble_full _) ?_
    refine r_rows (List.take ((List.map (eInt .i64) pen).length) (List.drop 0 (List.map (eInt .i64) pen)) ++ (List.map (eInt .i64) ([y3]))) (List.map (eInt .i64) (pen ++ [y3])) (by kernel_rfl) (rows_app _ _ _) ?_
    refine adv_ok hm 8 _ ?_
    obtain rfl := Option.some.inj h
    exact r_to (q' := .go (plan_Put_M (.s1 t17 t18 (IntKind.i64.wrap (t19 + 1)) p_ (pen ++ [y3])))) (by kernel_rfl) ha
  · -- false
    refine adv_ok hm 6 _ ?_
    have ok6 := fun (y : Int × Int × Int × Int × Int × Int × Int × Int × Int × Int) (hy : plan_numbers p_ = some y) => plan_numbers_ok hy
    refine p_callR [] h (by kernel_rfl) ok6 (fun y6 h6 h => ?_)
    refine adv_ok hm 16 _ ?_
    refine r_fzC 0 0 0 (n1 := 10) (n2 := 10) (raw := ([[D.int .i64 y6.1], [D.int .i64 y6.2.1], [D.int .i64 y6.2.2.1], [D.int .i64 y6.2.2.2.1], [D.int .i64 y6.2.2.2.2.1], [D.int .i64 y6.2.2.2.2.2.1], [D.int .i64 y6.2.2.2.2.2.2.1], [D.int .i64 y6.2.2.2.2.2.2.2.1], [D.int .i64 y6.2.2.2.2.2.2.2.2.1], [D.int .i64 y6.2.2.2.2.2.2.2.2.2]])) (rs := ([[D.int .i64 y6.1], [D.int .i64 y6.2.1], [D.int .i64 y6.2.2.1], [D.int .i64 y6.2.2.2.1], [D.int .i64 y6.2.2.2.2.1], [D.int .i64 y6.2.2.2.2.2.1], [D.int .i64 y6.2.2.2.2.2.2.1], [D.int .i64 y6.2.2.2.2.2.2.2.1], [D.int .i64 y6.2.2.2.2.2.2.2.2.1], [D.int .i64 y6.2.2.2.2.2.2.2.2.2]])) (by kernel_rfl) rfl rfl ?_
    refine r_fzC 0 1 0 (n1 := (0 + (List.map (eInt .i64) pen).length)) (n2 := ((List.map (eInt .i64) pen).length)) (raw := (List.take ((List.map (eInt .i64) pen).length) (List.drop 0 (List.map (eInt .i64) pen)))) (rs := (List.map (eInt .i64) pen)) (by kernel_rfl) (ble_full _) (by simp only [take_full, take_full', List.map_take, List.map_drop]) ?_
    obtain rfl := Option.some.inj h
    refine r_cut 120259084544 [.mat 8 1] (m' := { td := [It.lpc (codeAt (bodyOf Tryd.f25) [1, 1, 1, 1, 1, 1, 0, 1, 0, 0]) 120259084544, It.blk 2, It.code (codeAt (bodyOf Tryd.f25) [1, 1, 1, 1, 1, 1, 1])], fr := [(8, D.msl 0 0 0 0 false), (34, D.msl 1 0 3 3 true), (35, D.int .i64 3), (36, D.int .i64 0)], st := [some { sz := 1, deep := false, rows := [] }, some { sz := 1, deep := false, rows := [[D.sl false 1 [[D.int .i64 y6.1], [D.int .i64 y6.2.1], [D.int .i64 y6.2.2.1], [D.int .i64 y6.2.2.2.1], [D.int .i64 y6.2.2.2.2.1], [D.int .i64 y6.2.2.2.2.2.1], [D.int .i64 y6.2.2.2.2.2.2.1], [D.int .i64 y6.2.2.2.2.2.2.2.1], [D.int .i64 y6.2.2.2.2.2.2.2.2.1], [D.int .i64 y6.2.2.2.2.2.2.2.2.2]]], [D.sl false 1 (List.map (eInt .i64) pen)], [D.sl false 1 (List.map (eInt .i64) p_.Changes)]] }] }) (by kernel_rfl) ?_
    refine r_len (n1 := 0) (n2 := (List.map (eInt .u8) ([])).length) (fun n_len => .go { td := [It.lpc (codeAt (bodyOf Tryd.f25) [1, 1, 1, 1, 1, 1, 0, 1, 0, 0]) 120259084544, It.blk 2, It.code (codeAt (bodyOf Tryd.f25) [1, 1, 1, 1, 1, 1, 1])], fr := [(8, D.msl 0 0 n_len n_len false), (34, D.msl 1 0 3 3 true), (35, D.int .i64 3), (36, D.int .i64 0)], st := [some { sz := 1, deep := false, rows := [] }, some { sz := 1, deep := false, rows := [[D.sl false 1 [[D.int .i64 y6.1], [D.int .i64 y6.2.1], [D.int .i64 y6.2.2.1], [D.int .i64 y6.2.2.2.1], [D.int .i64 y6.2.2.2.2.1], [D.int .i64 y6.2.2.2.2.2.1], [D.int .i64 y6.2.2.2.2.2.2.1], [D.int .i64 y6.2.2.2.2.2.2.2.1], [D.int .i64 y6.2.2.2.2.2.2.2.2.1], [D.int .i64 y6.2.2.2.2.2.2.2.2.2]]], [D.sl false 1 (List.map (eInt .i64) pen)], [D.sl false 1 (List.map (eInt .i64) p_.Changes)]] }] }) (by simp) ?_
    refine r_len (n1 := 3) (n2 := (List.map (eSl 1 (eInt .i64)) ([[y6.1, y6.2.1, y6.2.2.1, y6.2.2.2.1, y6.2.2.2.2.1, y6.2.2.2.2.2.1, y6.2.2.2.2.2.2.1, y6.2.2.2.2.2.2.2.1, y6.2.2.2.2.2.2.2.2.1, y6.2.2.2.2.2.2.2.2.2], pen, p_.Changes])).length) (fun n_len => .go { td := [It.lpc (codeAt (bodyOf Tryd.f25) [1, 1, 1, 1, 1, 1, 0, 1, 0, 0]) 120259084544, It.blk 2, It.code (codeAt (bodyOf Tryd.f25) [1, 1, 1, 1, 1, 1, 1])], fr := [(8, D.msl 0 0 ((List.map (eInt .u8) ([])).length) ((List.map (eInt .u8) ([])).length) false), (34, D.msl 1 0 n_len n_len true), (35, D.int .i64 3), (36, D.int .i64 0)], st := [some { sz := 1, deep := false, rows := [] }, some { sz := 1, deep := false, rows := [[D.sl false 1 [[D.int .i64 y6.1], [D.int .i64 y6.2.1], [D.int .i64 y6.2.2.1], [D.int .i64 y6.2.2.2.1], [D.int .i64 y6.2.2.2.2.1], [D.int .i64 y6.2.2.2.2.2.1], [D.int .i64 y6.2.2.2.2.2.2.1], [D.int .i64 y6.2.2.2.2.2.2.2.1], [D.int .i64 y6.2.2.2.2.2.2.2.2.1], [D.int .i64 y6.2.2.2.2.2.2.2.2.2]]], [D.sl false 1 (List.map (eInt .i64) pen)], [D.sl false 1 (List.map (eInt .i64) p_.Changes)]] }] }) (by simp) ?_
    exact ha
theorem plan_Put_2_ok {t36 : Int} {b : List Int} {b1 : List (List Int)} {r : (List Int) × Int} {x : plan_Put_S ⊕ ((List Int) × Int)} (h : plan_Put_2 t36 b b1 = some x) (ha : After E (Cx.of Tryd.f25 false 0) plan_Put_Q plan_Put_M r x) : FinQ E (Cx.of Tryd.f25 false 0) (QW (plan_Put_Q r)) (.go (plan_Put_M (.s2 t36 b b1))) := by
  unfold plan_Put_2 at h
  refine adv_ok hm 7 _ ?_
  refine p_split h (by kernel_rfl) (fun h1 h => ?_) (fun h1 h => ?_)
  · -- true
    refine adv_ok hm 6 _ ?_
    refine p_need h (by kernel_rfl) (fun h2 h => ?_)
    refine adv_ok hm 1 _ ?_
    refine p_row (((List.map (eSl 1 (eInt .i64)) b1))[(0 + t36.toNat)]?) (eSl 1 (eInt .i64)) h (by kernel_rfl) List.getElem?_map (fun y3 h4 h => ?_)
    refine adv_ok hm 6 _ ?_
    have ok5 := fun (y : Int × (List Int)) (hy : wire_PutInts y3 = some y) => wire_PutInts_ok hy
    refine p_callR [] h (by kernel_rfl) ok5 (fun y5 h5 h => ?_)
    refine adv_ok hm 10 _ ?_
    refine r_needT (b := (Nat.beq ((List.take ((List.map (eInt .u8) y5.2).length) (List.drop 0 (List.map (eInt .u8) y5.2))).length) ((List.map (eInt .u8) y5.2).length))) (by kernel_rfl) (by simp) ?_
    refine p_need h (by kernel_rfl) (fun h6 h => ?_)
    refine r_needT (b := (Nat.ble (0 + (List.map (eInt .u8) b).length) ((List.map (eInt .u8) b).length))) (by kernel_rfl) (ble_full _) ?_
    refine r_rows (List.take ((List.map (eInt .u8) b).length) (List.drop 0 (List.map (eInt .u8) b)) ++ (List.take ((List.map (eInt .u8) y5.2).length) (List.drop 0 (List.map (eInt .u8) y5.2)))) (List.map (eInt .u8) (b ++ y5.2)) (by kernel_rfl) (by simp only [take_full, take_full', List.map_append]) ?_
    refine adv_ok hm 8 _ ?_
    obtain rfl := Option.some.inj h
    exact r_to (q' := .go (plan_Put_M (.s2 (IntKind.i64.wrap (t36 + 1)) (b ++ y5.2) b1))) (by kernel_rfl) ha
  · -- false
    refine adv_ok hm 8 _ ?_
    refine r_needT (b := (Nat.ble (0 + (List.map (eInt .u8) b).length) ((List.map (eInt .u8) b).length))) (by kernel_rfl) (ble_full _) ?_
    obtain rfl := Option.some.inj h
    have hv := ha
    simp only [After] at hv
    subst hv
    exact r_retE [] (d1 := D.tup [D.sl false 1 (List.take ((List.map (eInt .u8) b).length) (List.drop 0 (List.map (eInt .u8) b))), D.int .i64 0]) (d := D.tup [D.sl false 1 (List.map (eInt .u8) b), D.int .i64 0]) (s1 := []) (s := []) (by kernel_rfl) ⟨by simp [List.take_of_length_le, List.map_take, List.map_drop], rfl⟩ ⟨rfl, rfl⟩ Cx.fin_of
theorem plan_Put_ev {p_ : Plan} {r : (List Int) × Int} (h : Ev plan_Put_step (.s0 p_) r) : Sound E 25 [D.agg (Plan.enc p_)] [] (plan_Put_Q r) :=
  sound_ofW (m := plan_Put_M (.s0 p_)) (fn := Tryd.f25) (by kernel_rfl) (by kernel_rfl) (ev_run (C := (Cx.of Tryd.f25 false 0)) (fun s x r hs ha => by
    cases s with
    | s0 => exact plan_Put_0_ok hs ha
    | s1 => exact plan_Put_1_ok hs ha
    | s2 => exact plan_Put_2_ok hs ha) h)
noncomputable def plan_Put (p_ : Plan) : Option ((List Int) × Int) := evf plan_Put_step (.s0 p_)
theorem plan_Put_ok {p_ : Plan} {r : (List Int) × Int} (h : plan_Put p_ = some r) : Sound E 25 [D.agg (Plan.enc p_)] [] (plan_Put_Q r) := plan_Put_ev (evf_ev h)
end Go.RX.L

set_option linter.unusedSimpArgs false
set_option linter.unusedVariables false
set_option maxRecDepth 100000
set_option maxHeartbeats 4000000
namespace Go.RX.L
open Go Go.RX Go.Proofs
attribute [local irreducible] FinQ
def plan_Get_Q (y : Plan × Int) (d : D) (s : Sto) : Prop := d = D.tup [D.agg (Plan.enc y.1), D.int .i64 y.2] ∧ s = []
inductive plan_Get_S where
  | s0 (b : List Int)
  | s1 (b : List Int) (at_ : Int) (t12 : Int) (b0 : Plan) (lists : List (List Int))
  | s2 (l_ : List Int) (t67 : Bool) (b0 : Plan) (lists : List (List Int))
  | s3 (t105 : List Int) (t106 : Int) (t107 : Int) (b0 : Plan) (Epoch_ : Int) (Target_ : Int) (Prev_ : Int) (Spill_ : Int) (Percent_ : Int) (Stamp_ : Int) (Since_ : Int) (Ramped_ : Int) (Up_ : Int) (Sup_ : Int) (Changes_ : List Int) (b2 : List Int)
noncomputable def plan_Get_M : plan_Get_S → M
  | .s0 b => ⟨[.code (bodyOf Tryd.f37)], [(0, D.sl false 1 (List.map (eInt .u8) b))], []⟩
  | .s1 b at_ t12 b0 lists => { td := [It.lpc (codeAt (bodyOf Tryd.f37) [1, 1, 1, 0, 1, 0, 0]) 4149, It.blk 0, It.code (codeAt (bodyOf Tryd.f37) [1, 1, 1, 1])], fr := [(0, D.sl false 1 (List.map (eInt .u8) b)), (2, D.ptr 0 0 0), (4, D.ptr 1 0 0), (5, D.int .i64 at_), (12, D.int .i64 t12)], st := [some { sz := 12, deep := false, rows := [(Plan.enc b0)] }, some { sz := 1, deep := false, rows := (List.map (eSl 1 (eInt .i64)) lists) }] }
  | .s2 l_ t67 b0 lists => { td := [It.code (codeAt (bodyOf Tryd.f37) [1, 1, 1, 1, 1, 0, 1]), It.code (codeAt (bodyOf Tryd.f37) [1, 1, 1, 1, 1, 1])], fr := [(2, D.ptr 0 0 0), (4, D.ptr 1 0 0), (8, D.sl false 1 (List.map (eInt .i64) l_)), (67, D.bool t67)], st := [some { sz := 12, deep := false, rows := [(Plan.enc b0)] }, some { sz := 1, deep := false, rows := (List.map (eSl 1 (eInt .i64)) lists) }] }
  | .s3 t105 t106 t107 b0 Epoch_ Target_ Prev_ Spill_ Percent_ Stamp_ Since_ Ramped_ Up_ Sup_ Changes_ b2 => { td := [It.lpc (codeAt (bodyOf Tryd.f37) [1, 1, 1, 1, 1, 1, 1, 0, 1, 0, 0]) 283953734451123385935261518004740, It.blk 2, It.code (codeAt (bodyOf Tryd.f37) [1, 1, 1, 1, 1, 1, 1, 1])], fr := [(2, D.ptr 0 0 0), (9, D.ptr 1 0 0), (105, D.sl false 1 (List.map (eInt .i64) t105)), (106, D.int .i64 t106), (107, D.int .i64 t107)], st := [some { sz := 12, deep := false, rows := [(Plan.enc b0)] }, some { sz := 12, deep := true, rows := [[D.int .i64 Epoch_, D.int .i64 Target_, D.int .i64 Prev_, D.int .i64 Spill_, D.int .i64 Percent_, D.int .i64 Stamp_, D.int .i64 Since_, D.int .i64 Ramped_, D.int .u64 Up_, D.int .u64 Sup_, D.msl 2 0 ((List.map (eInt .i64) b2).length) ((List.map (eInt .i64) b2).length) false, D.sl false 1 (List.map (eInt .i64) Changes_)]] }, some { sz := 1, deep := false, rows := (List.map (eInt .i64) b2) }] }
noncomputable def plan_Get_0 (b : List Int) : Option (plan_Get_S ⊕ (Plan × Int)) := (some (.inl (.s1 b 0 0 (⟨0, 0, 0, 0, 0, 0, 0, 0, 0, 0, [], []⟩ : Plan) ([[], [], []]))))
noncomputable def plan_Get_1 (b : List Int) (at_ : Int) (t12 : Int) (b0 : Plan) (lists : List (List Int)) : Option (plan_Get_S ⊕ (Plan × Int)) := (bif (decide ((t12 : Int) < 3)) then ((wire_Ints b at_).bind fun y2 => (bif ((decide ((0 : Int) ≤ t12)) && (decide ((t12 : Int) < ((3 : Nat) : Int)))) then (((lists)[(0 + t12.toNat)]?).bind fun y4 => (bif ((y2.2.2 : Int) != 0) then (some (.inr ((⟨0, 0, 0, 0, 0, 0, 0, 0, 0, 0, [], []⟩ : Plan), 41))) else (some (.inl (.s1 b y2.2.1 (IntKind.i64.wrap (t12 + 1)) b0 (List.set lists (0 + t12.toNat) y2.1)))))) else none)) else (((lists)[0]?).bind fun y7 => (bif ((at_ : Int) != (((List.map (eInt .u8) b).length : Nat) : Int)) then (some (.inl (.s2 y7 true b0 lists))) else (bif (((((List.map (eInt .i64) y7).length : Nat) : Int) : Int) != 10) then (some (.inl (.s2 y7 true b0 lists))) else (bif (decide ((1 : Int) < (((List.map (eInt .i64) y7).length : Nat) : Int))) then (((y7)[1]?).bind fun y12 => (bif (decide ((2 : Int) < (((List.map (eInt .i64) y7).length : Nat) : Int))) then (((y7)[2]?).bind fun y15 => (bif (decide ((3 : Int) < (((List.map (eInt .i64) y7).length : Nat) : Int))) then (((y7)[3]?).bind fun y18 => (bif (decide ((4 : Int) < (((List.map (eInt .i64) y7).length : Nat) : Int))) then (((y7)[4]?).bind fun y21 => ((plan_all (-1) 1048576 ([y12, y15, y18, y21])).bind fun y23 => (bif (!y23) then (some (.inl (.s2 y7 true b0 lists))) else (bif (decide ((8 : Int) ≤ (((List.map (eInt .i64) y7).length : Nat) : Int))) then ((plan_all 0 1048576 (List.drop 8 (List.take ((List.map (eInt .i64) y7).length) y7))).bind fun y26 => (bif (!y26) then (some (.inl (.s2 y7 true b0 lists))) else (((lists)[1]?).bind fun y28 => ((plan_all 0 1000000 y28).bind fun y30 => (some (.inl (.s2 y7 (!y30) b0 lists))))))) else none)))) else none)) else none)) else none)) else none)))))
noncomputable def plan_Get_2 (l_ : List Int) (t67 : Bool) (b0 : Plan) (lists : List (List Int)) : Option (plan_Get_S ⊕ (Plan × Int)) := (bif t67 then (some (.inr ((⟨0, 0, 0, 0, 0, 0, 0, 0, 0, 0, [], []⟩ : Plan), 41))) else (bif (decide ((0 : Int) < (((List.map (eInt .i64) l_).length : Nat) : Int))) then (((l_)[0]?).bind fun y3 => (bif (decide ((1 : Int) < (((List.map (eInt .i64) l_).length : Nat) : Int))) then (((l_)[1]?).bind fun y6 => (bif (decide ((2 : Int) < (((List.map (eInt .i64) l_).length : Nat) : Int))) then (((l_)[2]?).bind fun y9 => (bif (decide ((3 : Int) < (((List.map (eInt .i64) l_).length : Nat) : Int))) then (((l_)[3]?).bind fun y12 => (bif (decide ((4 : Int) < (((List.map (eInt .i64) l_).length : Nat) : Int))) then (((l_)[4]?).bind fun y15 => (bif (decide ((5 : Int) < (((List.map (eInt .i64) l_).length : Nat) : Int))) then (((l_)[5]?).bind fun y18 => (bif (decide ((6 : Int) < (((List.map (eInt .i64) l_).length : Nat) : Int))) then (((l_)[6]?).bind fun y21 => (bif (decide ((7 : Int) < (((List.map (eInt .i64) l_).length : Nat) : Int))) then (((l_)[7]?).bind fun y24 => (bif (decide ((8 : Int) < (((List.map (eInt .i64) l_).length : Nat) : Int))) then (((l_)[8]?).bind fun y27 => (bif (decide ((9 : Int) < (((List.map (eInt .i64) l_).length : Nat) : Int))) then (((l_)[9]?).bind fun y30 => (((lists)[2]?).bind fun y32 => (((lists)[1]?).bind fun y34 => (some (.inl (.s3 y34 (((List.map (eInt .i64) y34).length : Nat) : Int) 0 b0 y3 y6 y9 y12 y15 y18 y21 y24 (IntKind.u64.wrap (y27)) (IntKind.u64.wrap (y30)) y32 ([]))))))) else none)) else none)) else none)) else none)) else none)) else none)) else none)) else none)) else none)) else none))
noncomputable def plan_Get_3 (t105 : List Int) (t106 : Int) (t107 : Int) (b0 : Plan) (Epoch_ : Int) (Target_ : Int) (Prev_ : Int) (Spill_ : Int) (Percent_ : Int) (Stamp_ : Int) (Since_ : Int) (Ramped_ : Int) (Up_ : Int) (Sup_ : Int) (Changes_ : List Int) (b2 : List Int) : Option (plan_Get_S ⊕ (Plan × Int)) := (bif (decide ((t107 : Int) < t106)) then (bif ((decide ((0 : Int) ≤ t107)) && (decide ((t107 : Int) < (((List.map (eInt .i64) t105).length : Nat) : Int)))) then (((t105)[t107.toNat]?).bind fun y3 => (bif (decide (((List.map (eInt .i64) b2).length + 1) * 8 ≤ bytesLim)) then (some (.inl (.s3 t105 t106 (IntKind.i64.wrap (t107 + 1)) b0 Epoch_ Target_ Prev_ Spill_ Percent_ Stamp_ Since_ Ramped_ Up_ Sup_ Changes_ (b2 ++ [y3])))) else none)) else none) else ((plan_Right (⟨Epoch_, Target_, Prev_, Spill_, Percent_, Stamp_, Since_, Ramped_, Up_, Sup_, b2, Changes_⟩ : Plan)).bind fun y6 => (bif (!y6) then (some (.inr ((⟨0, 0, 0, 0, 0, 0, 0, 0, 0, 0, [], []⟩ : Plan), 41))) else (some (.inr ((⟨Epoch_, Target_, Prev_, Spill_, Percent_, Stamp_, Since_, Ramped_, Up_, Sup_, b2, Changes_⟩ : Plan), 0))))))
noncomputable def plan_Get_step : plan_Get_S → Option (plan_Get_S ⊕ (Plan × Int))
  | .s0 b => plan_Get_0 b
  | .s1 b at_ t12 b0 lists => plan_Get_1 b at_ t12 b0 lists
  | .s2 l_ t67 b0 lists => plan_Get_2 l_ t67 b0 lists
  | .s3 t105 t106 t107 b0 Epoch_ Target_ Prev_ Spill_ Percent_ Stamp_ Since_ Ramped_ Up_ Sup_ Changes_ b2 => plan_Get_3 t105 t106 t107 b0 Epoch_ Target_ Prev_ Spill_ Percent_ Stamp_ Since_ Ramped_ Up_ Sup_ Changes_ b2
theorem plan_Get_0_ok {b : List Int} {r : Plan × Int} {x : plan_Get_S ⊕ (Plan × Int)} (h : plan_Get_0 b = some x) (ha : After E (Cx.of Tryd.f37 false 0) plan_Get_Q plan_Get_M r x) : FinQ E (Cx.of Tryd.f37 false 0) (QW (plan_Get_Q r)) (.go (plan_Get_M (.s0 b))) := by
  unfold plan_Get_0 at h
  refine adv_ok hm 21 _ ?_
  obtain rfl := Option.some.inj h
  exact r_cut 4149 [.blk 0 [some 1, some 1], .blk 1 [some 1, some 1, some 1]] (m' := (plan_Get_M (.s1 b 0 0 (⟨0, 0, 0, 0, 0, 0, 0, 0, 0, 0, [], []⟩ : Plan) ([[], [], []])))) (by kernel_rfl) ha
theorem plan_Get_1_ok {b : List Int} {at_ : Int} {t12 : Int} {b0 : Plan} {lists : List (List Int)} {r : Plan × Int} {x : plan_Get_S ⊕ (Plan × Int)} (h : plan_Get_1 b at_ t12 b0 lists = some x) (ha : After E (Cx.of Tryd.f37 false 0) plan_Get_Q plan_Get_M r x) : FinQ E (Cx.of Tryd.f37 false 0) (QW (plan_Get_Q r)) (.go (plan_Get_M (.s1 b at_ t12 b0 lists))) := by
  unfold plan_Get_1 at h
  refine adv_ok hm 7 _ ?_
  refine p_split h (by kernel_rfl) (fun h1 h => ?_) (fun h1 h => ?_)
  · -- true
    refine adv_ok hm 18 _ ?_
    have ok2 := fun (y : (List Int) × Int × Int) (hy : wire_Ints b at_ = some y) => wire_Ints_ok hy
    refine p_callR [] h (by kernel_rfl) ok2 (fun y2 h2 h => ?_)
    refine adv_ok hm 5 _ ?_
    refine p_need h (by kernel_rfl) (fun h3 h => ?_)
    refine adv_ok hm 1 _ ?_
    refine p_row (((List.map (eSl 1 (eInt .i64)) lists))[(0 + t12.toNat)]?) (eSl 1 (eInt .i64)) h (by kernel_rfl) List.getElem?_map (fun y4 h5 h => ?_)
    refine r_rows (List.set (List.map (eSl 1 (eInt .i64)) lists) (0 + t12.toNat) ((eSl 1 (eInt .i64)) y2.1)) (List.map (eSl 1 (eInt .i64)) (List.set lists (0 + t12.toNat) y2.1)) (by kernel_rfl) (rows_set _ _ _ _) ?_
    refine adv_ok hm 9 _ ?_
    refine p_split h (by kernel_rfl) (fun h6 h => ?_) (fun h6 h => ?_)
    · -- true
      refine adv_ok hm 10 _ ?_
      obtain rfl := Option.some.inj h
      have hv := ha
      simp only [After] at hv
      subst hv
      exact r_retF [.slot 0 [some 1, some 1]] (d := D.tup [D.agg [D.int .i64 0, D.int .i64 0, D.int .i64 0, D.int .i64 0, D.int .i64 0, D.int .i64 0, D.int .i64 0, D.int .i64 0, D.int .u64 0, D.int .u64 0, D.sl false 1 [], D.sl false 1 []], D.int .i64 41]) (s := []) (by kernel_rfl) Cx.fin_of ⟨rfl, rfl⟩
    · -- false
      refine adv_ok hm 7 _ ?_
      obtain rfl := Option.some.inj h
      exact r_to (q' := .go (plan_Get_M (.s1 b y2.2.1 (IntKind.i64.wrap (t12 + 1)) b0 (List.set lists (0 + t12.toNat) y2.1)))) (by kernel_rfl) ha
  · -- false
    refine adv_ok hm 6 _ ?_
    refine p_row (((List.map (eSl 1 (eInt .i64)) lists))[0]?) (eSl 1 (eInt .i64)) h (by kernel_rfl) List.getElem?_map (fun y7 h8 h => ?_)
    refine adv_ok hm 5 _ ?_
    refine p_split h (by kernel_rfl) (fun h9 h => ?_) (fun h9 h => ?_)
    · -- true
      refine adv_ok hm 29 _ ?_
      obtain rfl := Option.some.inj h
      exact r_cut 147573952589676413204 [] (m' := (plan_Get_M (.s2 y7 true b0 lists))) (by kernel_rfl) ha
    · -- false
      refine adv_ok hm 3 _ ?_
      refine p_split h (by kernel_rfl) (fun h10 h => ?_) (fun h10 h => ?_)
      · -- true
        refine adv_ok hm 25 _ ?_
        obtain rfl := Option.some.inj h
        exact r_cut 147573952589676413204 [] (m' := (plan_Get_M (.s2 y7 true b0 lists))) (by kernel_rfl) ha
      · -- false
        refine adv_ok hm 1 _ ?_
        refine p_need h (by kernel_rfl) (fun h11 h => ?_)
        refine adv_ok hm 1 _ ?_
        refine p_row (((List.map (eInt .i64) y7))[1]?) (eInt .i64) h (by kernel_rfl) List.getElem?_map (fun y12 h13 h => ?_)
        refine adv_ok hm 2 _ ?_
        refine p_need h (by kernel_rfl) (fun h14 h => ?_)
        refine adv_ok hm 1 _ ?_
        refine p_row (((List.map (eInt .i64) y7))[2]?) (eInt .i64) h (by kernel_rfl) List.getElem?_map (fun y15 h16 h => ?_)
        refine adv_ok hm 2 _ ?_
        refine p_need h (by kernel_rfl) (fun h17 h => ?_)
        refine adv_ok hm 1 _ ?_
        refine p_row (((List.map (eInt .i64) y7))[3]?) (eInt .i64) h (by kernel_rfl) List.getElem?_map (fun y18 h19 h => ?_)
        refine adv_ok hm 2 _ ?_
        refine p_need h (by kernel_rfl) (fun h20 h => ?_)
        refine adv_ok hm 1 _ ?_
        refine p_row (((List.map (eInt .i64) y7))[4]?) (eInt .i64) h (by kernel_rfl) List.getElem?_map (fun y21 h22 h => ?_)
        refine adv_ok hm 3 _ ?_
        have ok23 := fun (y : Bool) (hy : plan_all (-1) 1048576 ([y12, y15, y18, y21]) = some y) => plan_all_ok hy
        refine p_callDR [] h (by kernel_rfl) ok23 (fun y23 h23 h => ?_)
        refine adv_ok hm 2 _ ?_
        refine p_split h (by kernel_rfl) (fun h24 h => ?_) (fun h24 h => ?_)
        · -- true
          refine adv_ok hm 9 _ ?_
          obtain rfl := Option.some.inj h
          exact r_cut 147573952589676413204 [] (m' := (plan_Get_M (.s2 y7 true b0 lists))) (by kernel_rfl) ha
        · -- false
          refine adv_ok hm 1 _ ?_
          refine p_need h (by kernel_rfl) (fun h25 h => ?_)
          refine r_rows (List.drop 8 (List.take ((List.map (eInt .i64) y7).length) (List.map (eInt .i64) y7))) (List.map (eInt .i64) (List.drop 8 (List.take ((List.map (eInt .i64) y7).length) y7))) (by kernel_rfl) (rows_cut _ _ _ _) ?_
          refine adv_ok hm 1 _ ?_
          have ok26 := fun (y : Bool) (hy : plan_all 0 1048576 (List.drop 8 (List.take ((List.map (eInt .i64) y7).length) y7)) = some y) => plan_all_ok hy
          refine p_callDR [] h (by kernel_rfl) ok26 (fun y26 h26 h => ?_)
          refine adv_ok hm 2 _ ?_
          refine p_split h (by kernel_rfl) (fun h27 h => ?_) (fun h27 h => ?_)
          · -- true
            refine adv_ok hm 4 _ ?_
            obtain rfl := Option.some.inj h
            exact r_cut 147573952589676413204 [] (m' := (plan_Get_M (.s2 y7 true b0 lists))) (by kernel_rfl) ha
          · -- false
            refine adv_ok hm 2 _ ?_
            refine p_row (((List.map (eSl 1 (eInt .i64)) lists))[1]?) (eSl 1 (eInt .i64)) h (by kernel_rfl) List.getElem?_map (fun y28 h29 h => ?_)
            refine adv_ok hm 1 _ ?_
            have ok30 := fun (y : Bool) (hy : plan_all 0 1000000 y28 = some y) => plan_all_ok hy
            refine p_callDR [] h (by kernel_rfl) ok30 (fun y30 h30 h => ?_)
            refine adv_ok hm 2 _ ?_
            obtain rfl := Option.some.inj h
            exact r_cut 147573952589676413204 [] (m' := (plan_Get_M (.s2 y7 (!y30) b0 lists))) (by kernel_rfl) ha
theorem plan_Get_2_ok {l_ : List Int} {t67 : Bool} {b0 : Plan} {lists : List (List Int)} {r : Plan × Int} {x : plan_Get_S ⊕ (Plan × Int)} (h : plan_Get_2 l_ t67 b0 lists = some x) (ha : After E (Cx.of Tryd.f37 false 0) plan_Get_Q plan_Get_M r x) : FinQ E (Cx.of Tryd.f37 false 0) (QW (plan_Get_Q r)) (.go (plan_Get_M (.s2 l_ t67 b0 lists))) := by
  unfold plan_Get_2 at h
  refine adv_ok hm 1 _ ?_
  refine p_split h (by kernel_rfl) (fun h1 h => ?_) (fun h1 h => ?_)
  · -- true
    refine adv_ok hm 10 _ ?_
    obtain rfl := Option.some.inj h
    have hv := ha
    simp only [After] at hv
    subst hv
    exact r_retF [.slot 0 [some 1, some 1]] (d := D.tup [D.agg [D.int .i64 0, D.int .i64 0, D.int .i64 0, D.int .i64 0, D.int .i64 0, D.int .i64 0, D.int .i64 0, D.int .i64 0, D.int .u64 0, D.int .u64 0, D.sl false 1 [], D.sl false 1 []], D.int .i64 41]) (s := []) (by kernel_rfl) Cx.fin_of ⟨rfl, rfl⟩
  · -- false
    refine adv_ok hm 3 _ ?_
    refine p_need h (by kernel_rfl) (fun h2 h => ?_)
    refine p_row (((List.map (eInt .i64) l_))[0]?) (eInt .i64) h (by kernel_rfl) List.getElem?_map (fun y3 h4 h => ?_)
    refine p_need h (by kernel_rfl) (fun h5 h => ?_)
    refine p_row (((List.map (eInt .i64) l_))[1]?) (eInt .i64) h (by kernel_rfl) List.getElem?_map (fun y6 h7 h => ?_)
    refine p_need h (by kernel_rfl) (fun h8 h => ?_)
    refine p_row (((List.map (eInt .i64) l_))[2]?) (eInt .i64) h (by kernel_rfl) List.getElem?_map (fun y9 h10 h => ?_)
    refine p_need h (by kernel_rfl) (fun h11 h => ?_)
    refine p_row (((List.map (eInt .i64) l_))[3]?) (eInt .i64) h (by kernel_rfl) List.getElem?_map (fun y12 h13 h => ?_)
    refine p_need h (by kernel_rfl) (fun h14 h => ?_)
    refine p_row (((List.map (eInt .i64) l_))[4]?) (eInt .i64) h (by kernel_rfl) List.getElem?_map (fun y15 h16 h => ?_)
    refine p_need h (by kernel_rfl) (fun h17 h => ?_)
    refine p_row (((List.map (eInt .i64) l_))[5]?) (eInt .i64) h (by kernel_rfl) List.getElem?_map (fun y18 h19 h => ?_)
    refine p_need h (by kernel_rfl) (fun h20 h => ?_)
    refine p_row (((List.map (eInt .i64) l_))[6]?) (eInt .i64) h (by kernel_rfl) List.getElem?_map (fun y21 h22 h => ?_)
    refine p_need h (by kernel_rfl) (fun h23 h => ?_)
    refine p_row (((List.map (eInt .i64) l_))[7]?) (eInt .i64) h (by kernel_rfl) List.getElem?_map (fun y24 h25 h => ?_)
    refine p_need h (by kernel_rfl) (fun h26 h => ?_)
    refine p_row (((List.map (eInt .i64) l_))[8]?) (eInt .i64) h (by kernel_rfl) List.getElem?_map (fun y27 h28 h => ?_)
    refine p_need h (by kernel_rfl) (fun h29 h => ?_)
    refine p_row (((List.map (eInt .i64) l_))[9]?) (eInt .i64) h (by kernel_rfl) List.getElem?_map (fun y30 h31 h => ?_)
    refine adv_ok hm 1 _ ?_
    refine p_row (((List.map (eSl 1 (eInt .i64)) lists))[2]?) (eSl 1 (eInt .i64)) h (by kernel_rfl) List.getElem?_map (fun y32 h33 h => ?_)
    refine adv_ok hm 8 _ ?_
    refine p_row (((List.map (eSl 1 (eInt .i64)) lists))[1]?) (eSl 1 (eInt .i64)) h (by kernel_rfl) List.getElem?_map (fun y34 h35 h => ?_)
    refine adv_ok hm 6 _ ?_
    obtain rfl := Option.some.inj h
    refine r_cut 283953734451123385935261518004740 [.matc 1 0 10 1] (m' := { td := [It.lpc (codeAt (bodyOf Tryd.f37) [1, 1, 1, 1, 1, 1, 1, 0, 1, 0, 0]) 283953734451123385935261518004740, It.blk 2, It.code (codeAt (bodyOf Tryd.f37) [1, 1, 1, 1, 1, 1, 1, 1])], fr := [(2, D.ptr 0 0 0), (9, D.ptr 1 0 0), (105, D.sl false 1 (List.map (eInt .i64) y34)), (106, D.int .i64 (((List.map (eInt .i64) y34).length : Nat) : Int)), (107, D.int .i64 0)], st := [some { sz := 12, deep := false, rows := [(Plan.enc b0)] }, some { sz := 12, deep := true, rows := [[D.int .i64 y3, D.int .i64 y6, D.int .i64 y9, D.int .i64 y12, D.int .i64 y15, D.int .i64 y18, D.int .i64 y21, D.int .i64 y24, D.int .u64 (IntKind.u64.wrap (y27)), D.int .u64 (IntKind.u64.wrap (y30)), D.msl 2 0 0 0 false, D.sl false 1 (List.map (eInt .i64) y32)]] }, some { sz := 1, deep := false, rows := [] }] }) (by kernel_rfl) ?_
    refine r_len (n1 := 0) (n2 := (List.map (eInt .i64) ([])).length) (fun n_len => .go { td := [It.lpc (codeAt (bodyOf Tryd.f37) [1, 1, 1, 1, 1, 1, 1, 0, 1, 0, 0]) 283953734451123385935261518004740, It.blk 2, It.code (codeAt (bodyOf Tryd.f37) [1, 1, 1, 1, 1, 1, 1, 1])], fr := [(2, D.ptr 0 0 0), (9, D.ptr 1 0 0), (105, D.sl false 1 (List.map (eInt .i64) y34)), (106, D.int .i64 (((List.map (eInt .i64) y34).length : Nat) : Int)), (107, D.int .i64 0)], st := [some { sz := 12, deep := false, rows := [[D.int .i64 b0.Epoch, D.int .i64 b0.Target, D.int .i64 b0.Prev, D.int .i64 b0.Spill, D.int .i64 b0.Percent, D.int .i64 b0.Stamp, D.int .i64 b0.Since, D.int .i64 b0.Ramped, D.int .u64 b0.Up, D.int .u64 b0.Sup, D.sl false 1 (List.map (eInt .i64) b0.Pen), D.sl false 1 (List.map (eInt .i64) b0.Changes)]] }, some { sz := 12, deep := true, rows := [[D.int .i64 y3, D.int .i64 y6, D.int .i64 y9, D.int .i64 y12, D.int .i64 y15, D.int .i64 y18, D.int .i64 y21, D.int .i64 y24, D.int .u64 (IntKind.u64.wrap (y27)), D.int .u64 (IntKind.u64.wrap (y30)), D.msl 2 0 n_len n_len false, D.sl false 1 (List.map (eInt .i64) y32)]] }, some { sz := 1, deep := false, rows := [] }] }) (by simp) ?_
    exact ha
theorem plan_Get_3_ok {t105 : List Int} {t106 : Int} {t107 : Int} {b0 : Plan} {Epoch_ : Int} {Target_ : Int} {Prev_ : Int} {Spill_ : Int} {Percent_ : Int} {Stamp_ : Int} {Since_ : Int} {Ramped_ : Int} {Up_ : Int} {Sup_ : Int} {Changes_ : List Int} {b2 : List Int} {r : Plan × Int} {x : plan_Get_S ⊕ (Plan × Int)} (h : plan_Get_3 t105 t106 t107 b0 Epoch_ Target_ Prev_ Spill_ Percent_ Stamp_ Since_ Ramped_ Up_ Sup_ Changes_ b2 = some x) (ha : After E (Cx.of Tryd.f37 false 0) plan_Get_Q plan_Get_M r x) : FinQ E (Cx.of Tryd.f37 false 0) (QW (plan_Get_Q r)) (.go (plan_Get_M (.s3 t105 t106 t107 b0 Epoch_ Target_ Prev_ Spill_ Percent_ Stamp_ Since_ Ramped_ Up_ Sup_ Changes_ b2))) := by
  unfold plan_Get_3 at h
  refine adv_ok hm 7 _ ?_
  refine p_split h (by kernel_rfl) (fun h1 h => ?_) (fun h1 h => ?_)
  · -- true
    refine adv_ok hm 6 _ ?_
    refine p_need h (by kernel_rfl) (fun h2 h => ?_)
    refine adv_ok hm 1 _ ?_
    refine p_row (((List.map (eInt .i64) t105))[t107.toNat]?) (eInt .i64) h (by kernel_rfl) List.getElem?_map (fun y3 h4 h => ?_)
    refine adv_ok hm 10 _ ?_
    refine p_need h (by kernel_rfl) (fun h5 h => ?_)
    refine r_needT (b := (Nat.ble (0 + (List.map (eInt .i64) b2).length) ((List.map (eInt .i64) b2).length))) (by kernel_rfl) (ble_full _) ?_
    refine r_rows (List.take ((List.map (eInt .i64) b2).length) (List.drop 0 (List.map (eInt .i64) b2)) ++ (List.map (eInt .i64) ([y3]))) (List.map (eInt .i64) (b2 ++ [y3])) (by kernel_rfl) (rows_app _ _ _) ?_
    refine adv_ok hm 11 _ ?_
    obtain rfl := Option.some.inj h
    exact r_to (q' := .go (plan_Get_M (.s3 t105 t106 (IntKind.i64.wrap (t107 + 1)) b0 Epoch_ Target_ Prev_ Spill_ Percent_ Stamp_ Since_ Ramped_ Up_ Sup_ Changes_ (b2 ++ [y3])))) (by kernel_rfl) ha
  · -- false
    refine adv_ok hm 7 _ ?_
    refine r_needT (b := (Nat.ble (0 + (List.map (eInt .i64) b2).length) ((List.map (eInt .i64) b2).length))) (by kernel_rfl) (ble_full _) ?_
    have ok6 := fun (y : Bool) (hy : plan_Right (⟨Epoch_, Target_, Prev_, Spill_, Percent_, Stamp_, Since_, Ramped_, Up_, Sup_, b2, Changes_⟩ : Plan) = some y) => plan_Right_ok hy
    refine p_callS [] (args1 := [D.agg [D.int .i64 Epoch_, D.int .i64 Target_, D.int .i64 Prev_, D.int .i64 Spill_, D.int .i64 Percent_, D.int .i64 Stamp_, D.int .i64 Since_, D.int .i64 Ramped_, D.int .u64 Up_, D.int .u64 Sup_, D.sl false 1 (List.take ((List.map (eInt .i64) b2).length) (List.drop 0 (List.map (eInt .i64) b2))), D.sl false 1 (List.map (eInt .i64) Changes_)]]) h (by kernel_rfl) ⟨by simp [List.take_of_length_le, List.map_take, List.map_drop, Msg.enc, Plan.enc, reader.enc, place.enc], rfl⟩ ok6 (fun y6 h6 h => ?_)
    refine adv_ok hm 3 _ ?_
    refine p_split h (by kernel_rfl) (fun h7 h => ?_) (fun h7 h => ?_)
    · -- true
      refine adv_ok hm 10 _ ?_
      obtain rfl := Option.some.inj h
      have hv := ha
      simp only [After] at hv
      subst hv
      exact r_retF [.slot 0 [some 1, some 1]] (d := D.tup [D.agg [D.int .i64 0, D.int .i64 0, D.int .i64 0, D.int .i64 0, D.int .i64 0, D.int .i64 0, D.int .i64 0, D.int .i64 0, D.int .u64 0, D.int .u64 0, D.sl false 1 [], D.sl false 1 []], D.int .i64 41]) (s := []) (by kernel_rfl) Cx.fin_of ⟨rfl, rfl⟩
    · -- false
      refine adv_ok hm 12 _ ?_
      refine r_needT (b := (Nat.ble (0 + (List.map (eInt .i64) b2).length) ((List.map (eInt .i64) b2).length))) (by kernel_rfl) (ble_full _) ?_
      obtain rfl := Option.some.inj h
      have hv := ha
      simp only [After] at hv
      subst hv
      exact r_retE [] (d1 := D.tup [D.agg [D.int .i64 Epoch_, D.int .i64 Target_, D.int .i64 Prev_, D.int .i64 Spill_, D.int .i64 Percent_, D.int .i64 Stamp_, D.int .i64 Since_, D.int .i64 Ramped_, D.int .u64 Up_, D.int .u64 Sup_, D.sl false 1 (List.take ((List.map (eInt .i64) b2).length) (List.drop 0 (List.map (eInt .i64) b2))), D.sl false 1 (List.map (eInt .i64) Changes_)], D.int .i64 0]) (d := D.tup [D.agg [D.int .i64 Epoch_, D.int .i64 Target_, D.int .i64 Prev_, D.int .i64 Spill_, D.int .i64 Percent_, D.int .i64 Stamp_, D.int .i64 Since_, D.int .i64 Ramped_, D.int .u64 Up_, D.int .u64 Sup_, D.sl false 1 (List.map (eInt .i64) b2), D.sl false 1 (List.map (eInt .i64) Changes_)], D.int .i64 0]) (s1 := []) (s := []) (by kernel_rfl) ⟨by simp [List.take_of_length_le, List.map_take, List.map_drop], rfl⟩ ⟨rfl, rfl⟩ Cx.fin_of
theorem plan_Get_ev {b : List Int} {r : Plan × Int} (h : Ev plan_Get_step (.s0 b) r) : Sound E 37 [D.sl false 1 (List.map (eInt .u8) b)] [] (plan_Get_Q r) :=
  sound_ofW (m := plan_Get_M (.s0 b)) (fn := Tryd.f37) (by kernel_rfl) (by kernel_rfl) (ev_run (C := (Cx.of Tryd.f37 false 0)) (fun s x r hs ha => by
    cases s with
    | s0 => exact plan_Get_0_ok hs ha
    | s1 => exact plan_Get_1_ok hs ha
    | s2 => exact plan_Get_2_ok hs ha
    | s3 => exact plan_Get_3_ok hs ha) h)
noncomputable def plan_Get (b : List Int) : Option (Plan × Int) := evf plan_Get_step (.s0 b)
theorem plan_Get_ok {b : List Int} {r : Plan × Int} (h : plan_Get b = some r) : Sound E 37 [D.sl false 1 (List.map (eInt .u8) b)] [] (plan_Get_Q r) := plan_Get_ev (evf_ev h)
end Go.RX.L

set_option linter.unusedSimpArgs false
set_option linter.unusedVariables false
set_option maxRecDepth 100000
set_option maxHeartbeats 4000000
namespace Go.RX.L
open Go Go.RX Go.Proofs
attribute [local irreducible] FinQ
def slices_Equal_Q (y : Bool) (d : D) (s : Sto) : Prop := d = D.bool y ∧ s = []
inductive slices_Equal_S where
  | s0 (s1 : List Int) (s2 : List Int)
  | s1 (s1 : List Int) (s2 : List Int) (t12 : Int) (t13 : Int)
noncomputable def slices_Equal_M : slices_Equal_S → M
  | .s0 s1 s2 => ⟨[.code (bodyOf Tryd.f56)], [(0, D.sl false 1 (List.map (eInt .i64) s1)), (1, D.sl false 1 (List.map (eInt .i64) s2))], []⟩
  | .s1 s1 s2 t12 t13 => { td := [It.lpc (codeAt (bodyOf Tryd.f56) [1, 1, 0, 1, 0, 0]) 12291, It.blk 0, It.code (codeAt (bodyOf Tryd.f56) [1, 1, 1])], fr := [(0, D.sl false 1 (List.map (eInt .i64) s1)), (1, D.sl false 1 (List.map (eInt .i64) s2)), (12, D.int .i64 t12), (13, D.int .i64 t13)], st := [] }
noncomputable def slices_Equal_0 (s1 : List Int) (s2 : List Int) : Option (slices_Equal_S ⊕ Bool) := (bif (((((List.map (eInt .i64) s1).length : Nat) : Int) : Int) != (((List.map (eInt .i64) s2).length : Nat) : Int)) then (some (.inr false)) else (some (.inl (.s1 s1 s2 (((List.map (eInt .i64) s1).length : Nat) : Int) 0))))
noncomputable def slices_Equal_1 (s1 : List Int) (s2 : List Int) (t12 : Int) (t13 : Int) : Option (slices_Equal_S ⊕ Bool) := (bif (decide ((t13 : Int) < t12)) then (bif ((decide ((0 : Int) ≤ t13)) && (decide ((t13 : Int) < (((List.map (eInt .i64) s1).length : Nat) : Int)))) then (((s1)[t13.toNat]?).bind fun y3 => (bif ((decide ((0 : Int) ≤ t13)) && (decide ((t13 : Int) < (((List.map (eInt .i64) s2).length : Nat) : Int)))) then (((s2)[t13.toNat]?).bind fun y6 => (bif ((y3 : Int) != y6) then (some (.inr false)) else (some (.inl (.s1 s1 s2 t12 (IntKind.i64.wrap (t13 + 1))))))) else none)) else none) else (some (.inr true)))
noncomputable def slices_Equal_step : slices_Equal_S → Option (slices_Equal_S ⊕ Bool)
  | .s0 s1 s2 => slices_Equal_0 s1 s2
  | .s1 s1 s2 t12 t13 => slices_Equal_1 s1 s2 t12 t13
theorem slices_Equal_0_ok {s1 : List Int} {s2 : List Int} {r : Bool} {x : slices_Equal_S ⊕ Bool} (h : slices_Equal_0 s1 s2 = some x) (ha : After E (Cx.of Tryd.f56 false 0) slices_Equal_Q slices_Equal_M r x) : FinQ E (Cx.of Tryd.f56 false 0) (QW (slices_Equal_Q r)) (.go (slices_Equal_M (.s0 s1 s2))) := by
  unfold slices_Equal_0 at h
  refine adv_ok hm 14 _ ?_
  refine p_split h (by kernel_rfl) (fun h1 h => ?_) (fun h1 h => ?_)
  · -- true
    refine adv_ok hm 5 _ ?_
    obtain rfl := Option.some.inj h
    have hv := ha
    simp only [After] at hv
    subst hv
    exact r_retF [] (d := D.bool false) (s := []) (by kernel_rfl) Cx.fin_of ⟨rfl, rfl⟩
  · -- false
    refine adv_ok hm 11 _ ?_
    obtain rfl := Option.some.inj h
    exact r_to (q' := .go (slices_Equal_M (.s1 s1 s2 (((List.map (eInt .i64) s1).length : Nat) : Int) 0))) (by kernel_rfl) ha
theorem slices_Equal_1_ok {s1 : List Int} {s2 : List Int} {t12 : Int} {t13 : Int} {r : Bool} {x : slices_Equal_S ⊕ Bool} (h : slices_Equal_1 s1 s2 t12 t13 = some x) (ha : After E (Cx.of Tryd.f56 false 0) slices_Equal_Q slices_Equal_M r x) : FinQ E (Cx.of Tryd.f56 false 0) (QW (slices_Equal_Q r)) (.go (slices_Equal_M (.s1 s1 s2 t12 t13))) := by
  unfold slices_Equal_1 at h
  refine adv_ok hm 7 _ ?_
  refine p_split h (by kernel_rfl) (fun h1 h => ?_) (fun h1 h => ?_)
  · -- true
    refine adv_ok hm 10 _ ?_
    refine p_need h (by kernel_rfl) (fun h2 h => ?_)
    refine p_row (((List.map (eInt .i64) s1))[t13.toNat]?) (eInt .i64) h (by kernel_rfl) List.getElem?_map (fun y3 h4 h => ?_)
    refine p_need h (by kernel_rfl) (fun h5 h => ?_)
    refine p_row (((List.map (eInt .i64) s2))[t13.toNat]?) (eInt .i64) h (by kernel_rfl) List.getElem?_map (fun y6 h7 h => ?_)
    refine adv_ok hm 1 _ ?_
    refine p_split h (by kernel_rfl) (fun h8 h => ?_) (fun h8 h => ?_)
    · -- true
      refine adv_ok hm 5 _ ?_
      obtain rfl := Option.some.inj h
      have hv := ha
      simp only [After] at hv
      subst hv
      exact r_retF [] (d := D.bool false) (s := []) (by kernel_rfl) Cx.fin_of ⟨rfl, rfl⟩
    · -- false
      refine adv_ok hm 7 _ ?_
      obtain rfl := Option.some.inj h
      exact r_to (q' := .go (slices_Equal_M (.s1 s1 s2 t12 (IntKind.i64.wrap (t13 + 1))))) (by kernel_rfl) ha
  · -- false
    refine adv_ok hm 6 _ ?_
    obtain rfl := Option.some.inj h
    have hv := ha
    simp only [After] at hv
    subst hv
    exact r_retF [] (d := D.bool true) (s := []) (by kernel_rfl) Cx.fin_of ⟨rfl, rfl⟩
theorem slices_Equal_ev {s1 : List Int} {s2 : List Int} {r : Bool} (h : Ev slices_Equal_step (.s0 s1 s2) r) : Sound E 56 [D.sl false 1 (List.map (eInt .i64) s1), D.sl false 1 (List.map (eInt .i64) s2)] [] (slices_Equal_Q r) :=
  sound_ofW (m := slices_Equal_M (.s0 s1 s2)) (fn := Tryd.f56) (by kernel_rfl) (by kernel_rfl) (ev_run (C := (Cx.of Tryd.f56 false 0)) (fun s x r hs ha => by
    cases s with
    | s0 => exact slices_Equal_0_ok hs ha
    | s1 => exact slices_Equal_1_ok hs ha) h)
noncomputable def slices_Equal (s1 : List Int) (s2 : List Int) : Option Bool := evf slices_Equal_step (.s0 s1 s2)
theorem slices_Equal_ok {s1 : List Int} {s2 : List Int} {r : Bool} (h : slices_Equal s1 s2 = some r) : Sound E 56 [D.sl false 1 (List.map (eInt .i64) s1), D.sl false 1 (List.map (eInt .i64) s2)] [] (slices_Equal_Q r) := slices_Equal_ev (evf_ev h)
end Go.RX.L

set_option linter.unusedSimpArgs false
set_option linter.unusedVariables false
set_option maxRecDepth 100000
set_option maxHeartbeats 4000000
namespace Go.RX.L
open Go Go.RX Go.Proofs
attribute [local irreducible] FinQ
def slices_Equal_v2_Q (y : Bool) (d : D) (s : Sto) : Prop := d = D.bool y ∧ s = []
inductive slices_Equal_v2_S where
  | s0 (s1 : List Int) (s2 : List Int)
  | s1 (s1 : List Int) (s2 : List Int) (t12 : Int) (t13 : Int)
noncomputable def slices_Equal_v2_M : slices_Equal_v2_S → M
  | .s0 s1 s2 => ⟨[.code (bodyOf Tryd.f45)], [(0, D.sl false 1 (List.map (eInt .i64) s1)), (1, D.sl false 1 (List.map (eInt .i64) s2))], []⟩
  | .s1 s1 s2 t12 t13 => { td := [It.lpc (codeAt (bodyOf Tryd.f45) [1, 1, 0, 1, 0, 0]) 12291, It.blk 0, It.code (codeAt (bodyOf Tryd.f45) [1, 1, 1])], fr := [(0, D.sl false 1 (List.map (eInt .i64) s1)), (1, D.sl false 1 (List.map (eInt .i64) s2)), (12, D.int .i64 t12), (13, D.int .i64 t13)], st := [] }
noncomputable def slices_Equal_v2_0 (s1 : List Int) (s2 : List Int) : Option (slices_Equal_v2_S ⊕ Bool) := (bif (((((List.map (eInt .i64) s1).length : Nat) : Int) : Int) != (((List.map (eInt .i64) s2).length : Nat) : Int)) then (some (.inr false)) else (some (.inl (.s1 s1 s2 (((List.map (eInt .i64) s1).length : Nat) : Int) 0))))
noncomputable def slices_Equal_v2_1 (s1 : List Int) (s2 : List Int) (t12 : Int) (t13 : Int) : Option (slices_Equal_v2_S ⊕ Bool) := (bif (decide ((t13 : Int) < t12)) then (bif ((decide ((0 : Int) ≤ t13)) && (decide ((t13 : Int) < (((List.map (eInt .i64) s1).length : Nat) : Int)))) then (((s1)[t13.toNat]?).bind fun y3 => (bif ((decide ((0 : Int) ≤ t13)) && (decide ((t13 : Int) < (((List.map (eInt .i64) s2).length : Nat) : Int)))) then (((s2)[t13.toNat]?).bind fun y6 => (bif ((y3 : Int) != y6) then (some (.inr false)) else (some (.inl (.s1 s1 s2 t12 (IntKind.i64.wrap (t13 + 1))))))) else none)) else none) else (some (.inr true)))
noncomputable def slices_Equal_v2_step : slices_Equal_v2_S → Option (slices_Equal_v2_S ⊕ Bool)
  | .s0 s1 s2 => slices_Equal_v2_0 s1 s2
  | .s1 s1 s2 t12 t13 => slices_Equal_v2_1 s1 s2 t12 t13
theorem slices_Equal_v2_0_ok {s1 : List Int} {s2 : List Int} {r : Bool} {x : slices_Equal_v2_S ⊕ Bool} (h : slices_Equal_v2_0 s1 s2 = some x) (ha : After E (Cx.of Tryd.f45 false 0) slices_Equal_v2_Q slices_Equal_v2_M r x) : FinQ E (Cx.of Tryd.f45 false 0) (QW (slices_Equal_v2_Q r)) (.go (slices_Equal_v2_M (.s0 s1 s2))) := by
  unfold slices_Equal_v2_0 at h
  refine adv_ok hm 14 _ ?_
  refine p_split h (by kernel_rfl) (fun h1 h => ?_) (fun h1 h => ?_)
  · -- true
    refine adv_ok hm 5 _ ?_
    obtain rfl := Option.some.inj h
    have hv := ha
    simp only [After] at hv
    subst hv
    exact r_retF [] (d := D.bool false) (s := []) (by kernel_rfl) Cx.fin_of ⟨rfl, rfl⟩
  · -- false
    refine adv_ok hm 11 _ ?_
    obtain rfl := Option.some.inj h
    exact r_to (q' := .go (slices_Equal_v2_M (.s1 s1 s2 (((List.map (eInt .i64) s1).length : Nat) : Int) 0))) (by kernel_rfl) ha
theorem slices_Equal_v2_1_ok {s1 : List Int} {s2 : List Int} {t12 : Int} {t13 : Int} {r : Bool} {x : slices_Equal_v2_S ⊕ Bool} (h : slices_Equal_v2_1 s1 s2 t12 t13 = some x) (ha : After E (Cx.of Tryd.f45 false 0) slices_Equal_v2_Q slices_Equal_v2_M r x) : FinQ E (Cx.of Tryd.f45 false 0) (QW (slices_Equal_v2_Q r)) (.go (slices_Equal_v2_M (.s1 s1 s2 t12 t13))) := by
  unfold slices_Equal_v2_1 at h
  refine adv_ok hm 7 _ ?_
  refine p_split h (by kernel_rfl) (fun h1 h => ?_) (fun h1 h => ?_)
  · -- true
    refine adv_ok hm 10 _ ?_
    refine p_need h (by kernel_rfl) (fun h2 h => ?_)
    refine p_row (((List.map (eInt .i64) s1))[t13.toNat]?) (eInt .i64) h (by kernel_rfl) List.getElem?_map (fun y3 h4 h => ?_)
    refine p_need h (by kernel_rfl) (fun h5 h => ?_)
    refine p_row (((List.map (eInt .i64) s2))[t13.toNat]?) (eInt .i64) h (by kernel_rfl) List.getElem?_map (fun y6 h7 h => ?_)
    refine adv_ok hm 1 _ ?_
    refine p_split h (by kernel_rfl) (fun h8 h => ?_) (fun h8 h => ?_)
    · -- true
      refine adv_ok hm 5 _ ?_
      obtain rfl := Option.some.inj h
      have hv := ha
      simp only [After] at hv
      subst hv
      exact r_retF [] (d := D.bool false) (s := []) (by kernel_rfl) Cx.fin_of ⟨rfl, rfl⟩
    · -- false
      refine adv_ok hm 7 _ ?_
      obtain rfl := Option.some.inj h
      exact r_to (q' := .go (slices_Equal_v2_M (.s1 s1 s2 t12 (IntKind.i64.wrap (t13 + 1))))) (by kernel_rfl) ha
  · -- false
    refine adv_ok hm 6 _ ?_
    obtain rfl := Option.some.inj h
    have hv := ha
    simp only [After] at hv
    subst hv
    exact r_retF [] (d := D.bool true) (s := []) (by kernel_rfl) Cx.fin_of ⟨rfl, rfl⟩
theorem slices_Equal_v2_ev {s1 : List Int} {s2 : List Int} {r : Bool} (h : Ev slices_Equal_v2_step (.s0 s1 s2) r) : Sound E 45 [D.sl false 1 (List.map (eInt .i64) s1), D.sl false 1 (List.map (eInt .i64) s2)] [] (slices_Equal_v2_Q r) :=
  sound_ofW (m := slices_Equal_v2_M (.s0 s1 s2)) (fn := Tryd.f45) (by kernel_rfl) (by kernel_rfl) (ev_run (C := (Cx.of Tryd.f45 false 0)) (fun s x r hs ha => by
    cases s with
    | s0 => exact slices_Equal_v2_0_ok hs ha
    | s1 => exact slices_Equal_v2_1_ok hs ha) h)
noncomputable def slices_Equal_v2 (s1 : List Int) (s2 : List Int) : Option Bool := evf slices_Equal_v2_step (.s0 s1 s2)
theorem slices_Equal_v2_ok {s1 : List Int} {s2 : List Int} {r : Bool} (h : slices_Equal_v2 s1 s2 = some r) : Sound E 45 [D.sl false 1 (List.map (eInt .i64) s1), D.sl false 1 (List.map (eInt .i64) s2)] [] (slices_Equal_v2_Q r) := slices_Equal_v2_ev (evf_ev h)
end Go.RX.L

set_option linter.unusedSimpArgs false
set_option linter.unusedVariables false
set_option maxRecDepth 100000
set_option maxHeartbeats 4000000
namespace Go.RX.L
open Go Go.RX Go.Proofs
attribute [local irreducible] FinQ
def plan_Same_Q (y : Bool) (d : D) (s : Sto) : Prop := d = D.bool y ∧ s = []
noncomputable def plan_Same (a : Plan) (b : Plan) : Option Bool := ((plan_numbers a).bind fun y1 => ((plan_numbers b).bind fun y2 => (bif (((y1.1 : Int) == y2.1) && (((y1.2.1 : Int) == y2.2.1) && (((y1.2.2.1 : Int) == y2.2.2.1) && (((y1.2.2.2.1 : Int) == y2.2.2.2.1) && (((y1.2.2.2.2.1 : Int) == y2.2.2.2.2.1) && (((y1.2.2.2.2.2.1 : Int) == y2.2.2.2.2.2.1) && (((y1.2.2.2.2.2.2.1 : Int) == y2.2.2.2.2.2.2.1) && (((y1.2.2.2.2.2.2.2.1 : Int) == y2.2.2.2.2.2.2.2.1) && (((y1.2.2.2.2.2.2.2.2.1 : Int) == y2.2.2.2.2.2.2.2.2.1) && (((y1.2.2.2.2.2.2.2.2.2 : Int) == y2.2.2.2.2.2.2.2.2.2) && true)))))))))) then ((slices_Equal a.Pen b.Pen).bind fun y4 => (bif y4 then ((slices_Equal_v2 a.Changes b.Changes).bind fun y6 => (some y6)) else (some false))) else (some false))))
theorem plan_Same_ok {a : Plan} {b : Plan} {r : Bool} (h : plan_Same a b = some r) : Sound E 31 [D.agg (Plan.enc a), D.agg (Plan.enc b)] [] (plan_Same_Q r) := by
  refine sound_ofW (m := ⟨[.code (bodyOf Tryd.f31)], [(0, D.agg (Plan.enc a)), (1, D.agg (Plan.enc b))], []⟩) (fn := Tryd.f31) (by kernel_rfl) (by kernel_rfl) ?_
  show FinQ E (Cx.of Tryd.f31 false 0) (QW (plan_Same_Q r)) _
  unfold plan_Same at h
  refine adv_ok hm 9 _ ?_
  have ok1 := fun (y : Int × Int × Int × Int × Int × Int × Int × Int × Int × Int) (hy : plan_numbers a = some y) => plan_numbers_ok hy
  refine p_callDR [] h (by kernel_rfl) ok1 (fun y1 h1 h => ?_)
  refine adv_ok hm 1 _ ?_
  have ok2 := fun (y : Int × Int × Int × Int × Int × Int × Int × Int × Int × Int) (hy : plan_numbers b = some y) => plan_numbers_ok hy
  refine p_callDR [] h (by kernel_rfl) ok2 (fun y2 h2 h => ?_)
  refine p_split h (by kernel_rfl) (fun h3 h => ?_) (fun h3 h => ?_)
  · -- true
    refine adv_ok hm 6 _ ?_
    have ok4 := fun (y : Bool) (hy : slices_Equal a.Pen b.Pen = some y) => slices_Equal_ok hy
    refine p_callDR [] h (by kernel_rfl) ok4 (fun y4 h4 h => ?_)
    refine adv_ok hm 1 _ ?_
    refine p_split h (by kernel_rfl) (fun h5 h => ?_) (fun h5 h => ?_)
    · -- true
      refine adv_ok hm 6 _ ?_
      have ok6 := fun (y : Bool) (hy : slices_Equal_v2 a.Changes b.Changes = some y) => slices_Equal_v2_ok hy
      refine p_callDR [] h (by kernel_rfl) ok6 (fun y6 h6 h => ?_)
      refine adv_ok hm 2 _ ?_
      obtain rfl := Option.some.inj h
      exact r_retF [] (d := D.bool y6) (s := []) (by kernel_rfl) Cx.fin_of ⟨rfl, rfl⟩
    · -- false
      refine adv_ok hm 6 _ ?_
      obtain rfl := Option.some.inj h
      exact r_retF [] (d := D.bool false) (s := []) (by kernel_rfl) Cx.fin_of ⟨rfl, rfl⟩
  · -- false
    refine adv_ok hm 12 _ ?_
    obtain rfl := Option.some.inj h
    exact r_retF [] (d := D.bool false) (s := []) (by kernel_rfl) Cx.fin_of ⟨rfl, rfl⟩
end Go.RX.L

set_option linter.unusedSimpArgs false
set_option linter.unusedVariables false
set_option maxRecDepth 100000
set_option maxHeartbeats 4000000
namespace Go.RX.L
open Go Go.RX Go.Proofs
attribute [local irreducible] FinQ
def ref04_in_Q (y : Bool) (d : D) (s : Sto) : Prop := d = D.bool y ∧ s = []
noncomputable def ref04_in (n : Int) (low : Int) (high : Int) : Option Bool := (bif (decide ((n : Int) ≥ low)) then (some (decide ((n : Int) ≤ high))) else (some false))
theorem ref04_in_ok {n : Int} {low : Int} {high : Int} {r : Bool} (h : ref04_in n low high = some r) : Sound E 57 [D.int .i64 n, D.int .i64 low, D.int .i64 high] [] (ref04_in_Q r) := by
  refine sound_ofW (m := ⟨[.code (bodyOf Tryd.f57)], [(0, D.int .i64 n), (1, D.int .i64 low), (2, D.int .i64 high)], []⟩) (fn := Tryd.f57) (by kernel_rfl) (by kernel_rfl) ?_
  show FinQ E (Cx.of Tryd.f57 false 0) (QW (ref04_in_Q r)) _
  unfold ref04_in at h
  refine adv_ok hm 11 _ ?_
  refine p_split h (by kernel_rfl) (fun h1 h => ?_) (fun h1 h => ?_)
  · -- true
    refine adv_ok hm 9 _ ?_
    obtain rfl := Option.some.inj h
    exact r_retF [] (d := D.bool (decide ((n : Int) ≤ high))) (s := []) (by kernel_rfl) Cx.fin_of ⟨rfl, rfl⟩
  · -- false
    refine adv_ok hm 9 _ ?_
    obtain rfl := Option.some.inj h
    exact r_retF [] (d := D.bool false) (s := []) (by kernel_rfl) Cx.fin_of ⟨rfl, rfl⟩
end Go.RX.L
