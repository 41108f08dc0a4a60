/-
  Words and walks for MsgLimits. No condition.
-/
import Derived.Test.YtgjhdekafiodhaaDoorMsgLimitsY8
set_option linter.unusedSimpArgs false
set_option linter.unusedVariables false
set_option maxRecDepth 100000
set_option maxHeartbeats 4000000
namespace Go.RX.L
open Go Go.RX Go.Proofs
attribute [local irreducible] FinQ
def ref05_Body_Q (y : Int × (List Int) × Int) (d : D) (s : Sto) : Prop := d = D.tup [D.int .u8 y.1, D.sl false 1 (List.map (eInt .u8) y.2.1), D.int .i64 y.2.2] ∧ s = []
noncomputable def ref05_Body_1M (m : Msg) (out : List Int) : M := { td := [It.code (codeAt (bodyOf Tryd.f13) [1, 1, 1, 1, 1, 1, 1])], fr := [(1, D.ptr 0 0 0), (7, D.msl 1 0 ((List.map (eInt .u8) out).length) ((List.map (eInt .u8) out).length) false)], st := [some { sz := 26, deep := false, rows := [(Msg.enc m)] }, some { sz := 1, deep := false, rows := (List.map (eInt .u8) out) }] }
noncomputable def ref05_Body_1 (m : Msg) (out : List Int) : Option (Int × (List Int) × Int) := ((ref01_PutInts m.ID).bind fun y1 => ((ref01_PutText m.Session).bind fun y2 => ((ref01_PutText m.Payload).bind fun y3 => (bif (decide (((List.map (eInt .u8) out).length + (List.take ((List.map (eInt .u8) y1.2).length) (List.drop 0 (List.map (eInt .u8) y1.2))).length) * 1 ≤ bytesLim)) then (bif (decide (((List.map (eInt .u8) (out ++ y1.2)).length + (List.take ((List.map (eInt .u8) y2.2).length) (List.drop 0 (List.map (eInt .u8) y2.2))).length) * 1 ≤ bytesLim)) then (bif (decide (((List.map (eInt .u8) ((out ++ y1.2) ++ y2.2)).length + (List.take ((List.map (eInt .u8) y3.2).length) (List.drop 0 (List.map (eInt .u8) y3.2))).length) * 1 ≤ bytesLim)) then (some ((IntKind.u8.wrap (m.Kind)), (((out ++ y1.2) ++ y2.2) ++ y3.2), 0)) else none) else none) else none))))
theorem ref05_Body_1_ok {m : Msg} {out : List Int} {r : Int × (List Int) × Int} (h : ref05_Body_1 m out = some r) : FinQ E (Cx.of Tryd.f13 false 0) (QW (ref05_Body_Q r)) (.go (ref05_Body_1M m out)) := by
  unfold ref05_Body_1 at h
  refine adv_ok hm 6 _ ?_
  have ok1 := fun (y : Int × (List Int)) (hy : ref01_PutInts m.ID = some y) => ref01_PutInts_ok hy
  refine p_callR [] h (by kernel_rfl) ok1 (fun y1 h1 h => ?_)
  refine adv_ok hm 12 _ ?_
  have ok2 := fun (y : Int × (List Int)) (hy : ref01_PutText m.Session = some y) => ref01_PutText_ok hy
  refine p_callR [] h (by kernel_rfl) ok2 (fun y2 h2 h => ?_)
  refine adv_ok hm 12 _ ?_
  have ok3 := fun (y : Int × (List Int)) (hy : ref01_PutText m.Payload = some y) => ref01_PutText_ok hy
  refine p_callR [] h (by kernel_rfl) ok3 (fun y3 h3 h => ?_)
  refine adv_ok hm 9 _ ?_
  refine r_needT (b := (Nat.beq ((List.take ((List.map (eInt .u8) y1.2).length) (List.drop 0 (List.map (eInt .u8) y1.2))).length) ((List.map (eInt .u8) y1.2).length))) (by kernel_rfl) (by simp) ?_
  refine p_need h (by kernel_rfl) (fun h4 h => ?_)
  refine r_needT (b := (Nat.ble (0 + (List.map (eInt .u8) out).length) ((List.map (eInt .u8) out).length))) (by kernel_rfl) (ble_full _) ?_
  refine r_rows (List.take ((List.map (eInt .u8) out).length) (List.drop 0 (List.map (eInt .u8) out)) ++ (List.take ((List.map (eInt .u8) y1.2).length) (List.drop 0 (List.map (eInt .u8) y1.2)))) (List.map (eInt .u8) (out ++ y1.2)) (by kernel_rfl) (by simp only [take_full, take_full', List.map_append]) ?_
  refine r_needT (b := (Nat.beq ((List.take ((List.map (eInt .u8) y2.2).length) (List.drop 0 (List.map (eInt .u8) y2.2))).length) ((List.map (eInt .u8) y2.2).length))) (by kernel_rfl) (by simp) ?_
  refine p_need h (by kernel_rfl) (fun h5 h => ?_)
  refine r_needT (b := (Nat.ble (0 + (List.map (eInt .u8) (out ++ y1.2)).length) ((List.map (eInt .u8) (out ++ y1.2)).length))) (by kernel_rfl) (ble_full _) ?_
  refine r_rows (List.take ((List.map (eInt .u8) (out ++ y1.2)).length) (List.drop 0 (List.map (eInt .u8) (out ++ y1.2))) ++ (List.take ((List.map (eInt .u8) y2.2).length) (List.drop 0 (List.map (eInt .u8) y2.2)))) (List.map (eInt .u8) ((out ++ y1.2) ++ y2.2)) (by kernel_rfl) (by simp only [take_full, take_full', List.map_append]) ?_
  refine r_needT (b := (Nat.beq ((List.take ((List.map (eInt .u8) y3.2).length) (List.drop 0 (List.map (eInt .u8) y3.2))).length) ((List.map (eInt .u8) y3.2).length))) (by kernel_rfl) (by simp) ?_
  refine p_need h (by kernel_rfl) (fun h6 h => ?_)
  refine r_needT (b := (Nat.ble (0 + (List.map (eInt .u8) ((out ++ y1.2) ++ y2.2)).length) ((List.map (eInt .u8) ((out ++ y1.2) ++ y2.2)).length))) (by kernel_rfl) (ble_full _) ?_
  refine r_rows (List.take ((List.map (eInt .u8) ((out ++ y1.2) ++ y2.2)).length) (List.drop 0 (List.map (eInt .u8) ((out ++ y1.2) ++ y2.2))) ++ (List.take ((List.map (eInt .u8) y3.2).length) (List.drop 0 (List.map (eInt .u8) y3.2)))) (List.map (eInt .u8) (((out ++ y1.2) ++ y2.2) ++ y3.2)) (by kernel_rfl) (by simp only [take_full, take_full', List.map_append]) ?_
  refine adv_ok hm 1 _ ?_
  refine r_needT (b := (Nat.ble (0 + (List.map (eInt .u8) (((out ++ y1.2) ++ y2.2) ++ y3.2)).length) ((List.map (eInt .u8) (((out ++ y1.2) ++ y2.2) ++ y3.2)).length))) (by kernel_rfl) (ble_full _) ?_
  obtain rfl := Option.some.inj h
  exact r_retE [] (d1 := D.tup [D.int .u8 (IntKind.u8.wrap (m.Kind)), D.sl false 1 (List.take ((List.map (eInt .u8) (((out ++ y1.2) ++ y2.2) ++ y3.2)).length) (List.drop 0 (List.map (eInt .u8) (((out ++ y1.2) ++ y2.2) ++ y3.2)))), D.int .i64 0]) (d := D.tup [D.int .u8 (IntKind.u8.wrap (m.Kind)), D.sl false 1 (List.map (eInt .u8) (((out ++ y1.2) ++ y2.2) ++ y3.2)), D.int .i64 0]) (s1 := []) (s := []) (by kernel_rfl) ⟨by simp [List.take_of_length_le, List.map_take, List.map_drop], rfl⟩ ⟨rfl, rfl⟩ Cx.fin_of
noncomputable def ref05_Body_2M (has : Int) (m : Msg) : M := { td := [It.code (codeAt (bodyOf Tryd.f13) [1, 1, 1, 1, 1])], fr := [(1, D.ptr 0 0 0), (6, D.int .i64 has)], st := [some { sz := 26, deep := false, rows := [(Msg.enc m)] }] }
noncomputable def ref05_Body_2 (has : Int) (m : Msg) : Option (Int × (List Int) × Int) := ((ref01_PutInts ([m.From, m.To, m.Epoch, m.Ballot, m.Accepted, m.Nonce, m.Time, (IntKind.i64.wrap (m.Up)), m.Code, has])).bind fun y1 => (bif m.HasPlan then ((ref04_Put m.Plan).bind fun y3 => ((ref01_PutText y3.1).bind fun y4 => (bif (decide (((List.map (eInt .u8) y1.2).length + (List.take ((List.map (eInt .u8) y4.2).length) (List.drop 0 (List.map (eInt .u8) y4.2))).length) * 1 ≤ bytesLim)) then (ref05_Body_1 m (y1.2 ++ y4.2)) else none))) else (ref05_Body_1 m y1.2)))
theorem ref05_Body_2_ok {has : Int} {m : Msg} {r : Int × (List Int) × Int} (h : ref05_Body_2 has m = some r) : FinQ E (Cx.of Tryd.f13 false 0) (QW (ref05_Body_Q r)) (.go (ref05_Body_2M has m)) := by
  unfold ref05_Body_2 at h
  refine adv_ok hm 34 _ ?_
  have ok1 := fun (y : Int × (List Int)) (hy : ref01_PutInts ([m.From, m.To, m.Epoch, m.Ballot, m.Accepted, m.Nonce, m.Time, (IntKind.i64.wrap (m.Up)), m.Code, has]) = some y) => ref01_PutInts_ok hy
  refine p_callR [] h (by kernel_rfl) ok1 (fun y1 h1 h => ?_)
  refine adv_ok hm 14 _ ?_
  refine p_split h (by kernel_rfl) (fun h2 h => ?_) (fun h2 h => ?_)
  · -- true
    refine adv_ok hm 6 _ ?_
    have ok3 := fun (y : (List Int) × Int) (hy : ref04_Put m.Plan = some y) => ref04_Put_ok hy
    refine p_callR [] h (by kernel_rfl) ok3 (fun y3 h3 h => ?_)
    refine adv_ok hm 10 _ ?_
    have ok4 := fun (y : Int × (List Int)) (hy : ref01_PutText y3.1 = some y) => ref01_PutText_ok hy
    refine p_callR [] h (by kernel_rfl) ok4 (fun y4 h4 h => ?_)
    refine adv_ok hm 10 _ ?_
    refine r_needT (b := (Nat.beq ((List.take ((List.map (eInt .u8) y4.2).length) (List.drop 0 (List.map (eInt .u8) y4.2))).length) ((List.map (eInt .u8) y4.2).length))) (by kernel_rfl) (by simp) ?_
    refine p_need h (by kernel_rfl) (fun h5 h => ?_)
    refine r_needT (b := (Nat.ble (0 + (List.map (eInt .u8) y1.2).length) ((List.map (eInt .u8) y1.2).length))) (by kernel_rfl) (ble_full _) ?_
    refine r_rows (List.take ((List.map (eInt .u8) y1.2).length) (List.drop 0 (List.map (eInt .u8) y1.2)) ++ (List.take ((List.map (eInt .u8) y4.2).length) (List.drop 0 (List.map (eInt .u8) y4.2)))) (List.map (eInt .u8) (y1.2 ++ y4.2)) (by kernel_rfl) (by simp only [take_full, take_full', List.map_append]) ?_
    refine adv_ok hm 2 _ ?_
    exact r_cut 130 [] (m' := (ref05_Body_1M m (y1.2 ++ y4.2))) (by kernel_rfl) (ref05_Body_1_ok h)
  · -- false
    refine adv_ok hm 1 _ ?_
    exact r_cut 130 [] (m' := (ref05_Body_1M m y1.2)) (by kernel_rfl) (ref05_Body_1_ok h)
noncomputable def ref05_Body (m : Msg) : Option (Int × (List Int) × Int) := ((ref05_Right m).bind fun y1 => (bif (!y1) then (some (0, [], 51)) else (bif m.HasPlan then (ref05_Body_2 1 m) else (ref05_Body_2 0 m))))
theorem ref05_Body_ok {m : Msg} {r : Int × (List Int) × Int} (h : ref05_Body m = some r) : Sound E 13 [D.agg (Msg.enc m)] [] (ref05_Body_Q r) := by
  refine sound_ofW (m := ⟨[.code (bodyOf Tryd.f13)], [(0, D.agg (Msg.enc m))], []⟩) (fn := Tryd.f13) (by kernel_rfl) (by kernel_rfl) ?_
  show FinQ E (Cx.of Tryd.f13 false 0) (QW (ref05_Body_Q r)) _
  unfold ref05_Body at h
  refine adv_ok hm 12 _ ?_
  have ok1 := fun (y : Bool) (hy : ref05_Right m = some y) => ref05_Right_ok hy
  refine p_callR [] h (by kernel_rfl) ok1 (fun y1 h1 h => ?_)
  refine adv_ok hm 9 _ ?_
  refine p_split h (by kernel_rfl) (fun h2 h => ?_) (fun h2 h => ?_)
  · -- true
    refine adv_ok hm 7 _ ?_
    obtain rfl := Option.some.inj h
    exact r_retF [.slot 0 [some 1]] (d := D.tup [D.int .u8 0, D.sl false 1 [], D.int .i64 51]) (s := []) (by kernel_rfl) Cx.fin_of ⟨rfl, rfl⟩
  · -- false
    refine adv_ok hm 13 _ ?_
    refine p_split h (by kernel_rfl) (fun h3 h => ?_) (fun h3 h => ?_)
    · -- true
      refine adv_ok hm 3 _ ?_
      exact r_cut 66 [] (m' := (ref05_Body_2M 1 m)) (by kernel_rfl) (ref05_Body_2_ok h)
    · -- false
      refine adv_ok hm 1 _ ?_
      exact r_cut 66 [] (m' := (ref05_Body_2M 0 m)) (by kernel_rfl) (ref05_Body_2_ok h)
end Go.RX.L

set_option linter.unusedSimpArgs false
set_option linter.unusedVariables false
set_option maxRecDepth 100000
set_option maxHeartbeats 4000000
namespace Go.RX.L
open Go Go.RX Go.Proofs
attribute [local irreducible] FinQ
def ref05_Put_Q (y : (List Int) × Int) (d : D) (s : Sto) : Prop := d = D.tup [D.sl false 1 (List.map (eInt .u8) y.1), D.int .i64 y.2] ∧ s = []
noncomputable def ref05_Put (m : Msg) : Option ((List Int) × Int) := ((ref05_Body m).bind fun y1 => (bif ((y1.2.2 : Int) != 0) then (some ([], y1.2.2)) else ((ref03_Put y1.1 y1.2.1).bind fun y3 => (some (y3.1, y3.2)))))
theorem ref05_Put_ok {m : Msg} {r : (List Int) × Int} (h : ref05_Put m = some r) : Sound E 11 [D.agg (Msg.enc m)] [] (ref05_Put_Q r) := by
  refine sound_ofW (m := ⟨[.code (bodyOf Tryd.f11)], [(0, D.agg (Msg.enc m))], []⟩) (fn := Tryd.f11) (by kernel_rfl) (by kernel_rfl) ?_
  show FinQ E (Cx.of Tryd.f11 false 0) (QW (ref05_Put_Q r)) _
  unfold ref05_Put at h
  refine adv_ok hm 11 _ ?_
  have ok1 := fun (y : Int × (List Int) × Int) (hy : ref05_Body m = some y) => ref05_Body_ok hy
  refine p_callR [] h (by kernel_rfl) ok1 (fun y1 h1 h => ?_)
  refine adv_ok hm 15 _ ?_
  refine p_split h (by kernel_rfl) (fun h2 h => ?_) (fun h2 h => ?_)
  · -- true
    refine adv_ok hm 7 _ ?_
    obtain rfl := Option.some.inj h
    exact r_retF [.slot 0 [some 1]] (d := D.tup [D.sl false 1 [], D.int .i64 y1.2.2]) (s := []) (by kernel_rfl) Cx.fin_of ⟨rfl, rfl⟩
  · -- false
    refine adv_ok hm 6 _ ?_
    have ok3 := fun (y : (List Int) × Int) (hy : ref03_Put y1.1 y1.2.1 = some y) => ref03_Put_ok hy
    refine p_callR [] h (by kernel_rfl) ok3 (fun y3 h3 h => ?_)
    refine adv_ok hm 6 _ ?_
    obtain rfl := Option.some.inj h
    exact r_retF [] (d := D.tup [D.sl false 1 (List.map (eInt .u8) y3.1), D.int .i64 y3.2]) (s := []) (by kernel_rfl) Cx.fin_of ⟨rfl, rfl⟩
end Go.RX.L

set_option linter.unusedSimpArgs false
set_option linter.unusedVariables false
set_option maxRecDepth 100000
namespace Go.RX.L
open Go Go.RX

/-! ### may it be? -/
def hdM (m : Msg) : Prop := 1 ≤ m.Kind ∧ m.Kind ≤ 19 ∧ 0 ≤ m.From ∧ m.From ≤ 255 ∧ 0 ≤ m.To ∧ m.To ≤ 255 ∧ m.Up ≤ 65535 ∧ 0 ≤ m.Code ∧ m.Code ≤ 1000
instance (m : Msg) : Decidable (hdM m) := by unfold hdM; infer_instance
def txM (m : Msg) : Prop := (m.ID.length = 0 ∨ m.ID.length = 3) ∧ m.Session.length ≤ 64 ∧ m.Payload.length ≤ 1024
instance (m : Msg) : Decidable (txM m) := by unfold txM; infer_instance
def planB (m : Msg) : Bool := bif m.HasPlan then rightP m.Plan else sameP m.Plan zeroPl
def rightM (m : Msg) : Bool := decide (hdM m) && (decide (txM m) && planB m)

structure Shm (m : Msg) : Prop where
  s : Shrt m.Plan
  up : inK .u64 m.Plan.Up
  sup : inK .u64 m.Plan.Sup

theorem mn3_lt (a b c : Int) : (mnI (mnI a b) c < 0) ↔ a < 0 ∨ b < 0 ∨ c < 0 := by unfold mnI; split <;> split <;> omega
theorem mx_gt (a b n : Int) : (mxI a b > n) ↔ a > n ∨ b > n := by unfold mxI; split <;> omega
theorem mx_ge (a b n : Int) : (mxI a b ≥ n) ↔ a ≥ n ∨ b ≥ n := by unfold mxI; split <;> omega
theorem zero_u : inK .u64 (0 : Int) := inU64.2 (by omega)

theorem right1_ok {m : Msg} (h : Shm m) : msg_Right_1 false m = some (planB m) := by
  have hu := inU64.1 h.up
  have hv := inU64.1 h.sup
  unfold msg_Right_1 planB
  cases m.HasPlan
  · have := same_ok (a := m.Plan) (b := zeroPl) h.s h.up zero_u h.sup zero_u
    simp only [cond_false]
    show (plan_Same m.Plan zeroPl).bind _ = _
    rw [this]; rfl
  · simp only [cond_false, cond_true, right_ok h.s hu.1 hv.1, Option.bind_some]

theorem right3_ok {m : Msg} (h : Shm m) : msg_Right_3 false m = some (decide (txM m) && planB m) := by
  have h1 := right1_ok h
  have t1 : msg_Right_1 true m = some false := rfl
  have t2 : msg_Right_2 true m = some false := rfl
  have h2 : msg_Right_2 false m = some (decide (m.Session.length ≤ 64 ∧ m.Payload.length ≤ 1024) && planB m) := by
    simp only [msg_Right_2, cond_false, List.length_map]
    by_cases a : m.Session.length ≤ 64
    · rw [show decide (((m.Session.length : Nat) : Int) > 64) = false from decide_eq_false (by omega)]
      by_cases b : m.Payload.length ≤ 1024
      · rw [show decide (((m.Payload.length : Nat) : Int) > 1024) = false from decide_eq_false (by omega), show decide (m.Session.length ≤ 64 ∧ m.Payload.length ≤ 1024) = true from decide_eq_true ⟨a, b⟩, Bool.true_and]; exact h1
      · rw [show decide (((m.Payload.length : Nat) : Int) > 1024) = true from decide_eq_true (by omega), show decide (m.Session.length ≤ 64 ∧ m.Payload.length ≤ 1024) = false from decide_eq_false (fun h => b h.2)]; rfl
    · rw [show decide (((m.Session.length : Nat) : Int) > 64) = true from decide_eq_true (by omega), show decide (m.Session.length ≤ 64 ∧ m.Payload.length ≤ 1024) = false from decide_eq_false (fun h => a h.1)]; rfl
  simp only [msg_Right_3, cond_false, List.length_map]
  by_cases a : m.ID.length = 0
  · rw [show decide (((m.ID.length : Nat) : Int) > 0) = false from decide_eq_false (by omega)]
    rw [show decide (txM m) = decide (m.Session.length ≤ 64 ∧ m.Payload.length ≤ 1024) from decide_eq_decide.2 (by unfold txM; omega)]
    exact h2
  · rw [show decide (((m.ID.length : Nat) : Int) > 0) = true from decide_eq_true (by omega)]
    by_cases b : m.ID.length = 3
    · rw [show (((m.ID.length : Nat) : Int) != 3) = false from by rw [b]; rfl, show decide (txM m) = decide (m.Session.length ≤ 64 ∧ m.Payload.length ≤ 1024) from decide_eq_decide.2 (by unfold txM; omega)]
      exact h2
    · rw [show (((m.ID.length : Nat) : Int) != 3) = true from bne_iff_ne.2 (by omega), show decide (txM m) = false from decide_eq_false (by unfold txM; omega)]
      rfl

theorem mright_ok {m : Msg} (h : Shm m) : msg_Right m = some (rightM m) := by
  have t3 : msg_Right_3 true m = some false := rfl
  by_cases hh : hdM m
  · have h' := hh
    unfold hdM at h'
    rw [rightM, decide_eq_true hh, Bool.true_and, ← right3_ok h]
    simp only [msg_Right]
    rw [show decide (m.Kind < 1) = false from decide_eq_false (by omega), show decide (m.Kind > 19) = false from decide_eq_false (by omega),
      show decide (mnI (mnI m.From m.To) m.Code < 0) = false from decide_eq_false (by rw [mn3_lt]; omega), show decide (mxI m.From m.To > 255) = false from decide_eq_false (by rw [mx_gt]; omega),
      show decide (m.Code > 1000) = false from decide_eq_false (by omega), show decide (m.Up ≥ 65536) = false from decide_eq_false (by omega)]
    rfl
  · rw [rightM, decide_eq_false hh, Bool.false_and]
    unfold hdM at hh
    simp only [msg_Right]
    cases h1 : decide (m.Kind < 1)
    · cases h2 : decide (m.Kind > 19)
      · cases h3 : decide (mnI (mnI m.From m.To) m.Code < 0)
        · cases h4 : decide (mxI m.From m.To > 255)
          · cases h5 : decide (m.Code > 1000)
            · rw [decide_eq_false_iff_not] at h1 h2 h3 h4 h5
              rw [mn3_lt] at h3
              rw [mx_gt] at h4
              rw [show decide (m.Up ≥ 65536) = true from decide_eq_true (by omega)]
              rfl
            · rfl
          · rfl
        · rfl
      · rfl
    · rfl

theorem rright2_ok {m : Msg} (h : Shm m) : ref05_Right_2 false m = some (planB m) := by
  unfold ref05_Right_2 planB
  cases m.HasPlan
  · have := rsame_ok (a := m.Plan) (b := zeroPl) h.s
    simp only [cond_false]
    show (ref04_Same m.Plan zeroPl).bind _ = _
    rw [this]; rfl
  · simp only [cond_false, cond_true, rright_ok h.s, Option.bind_some]
theorem rright1_ok {m : Msg} (h : Shm m) : ref05_Right_1 false m = some (decide (txM m) && planB m) := by
  have h1 := rright2_ok h
  have t2 : ref05_Right_2 true m = some false := rfl
  have h2 : (bif decide (((m.Session.length : Nat) : Int) > 64) then ref05_Right_2 true m else ref05_Right_2 (decide (((m.Payload.length : Nat) : Int) > 1024)) m) = some (decide (m.Session.length ≤ 64 ∧ m.Payload.length ≤ 1024) && planB m) := by
    by_cases a : m.Session.length ≤ 64
    · rw [show decide (((m.Session.length : Nat) : Int) > 64) = false from decide_eq_false (by omega)]
      by_cases b : m.Payload.length ≤ 1024
      · rw [show decide (((m.Payload.length : Nat) : Int) > 1024) = false from decide_eq_false (by omega), show decide (m.Session.length ≤ 64 ∧ m.Payload.length ≤ 1024) = true from decide_eq_true ⟨a, b⟩, Bool.true_and]; exact h1
      · rw [show decide (((m.Payload.length : Nat) : Int) > 1024) = true from decide_eq_true (by omega), show decide (m.Session.length ≤ 64 ∧ m.Payload.length ≤ 1024) = false from decide_eq_false (fun h => b h.2)]; rfl
    · rw [show decide (((m.Session.length : Nat) : Int) > 64) = true from decide_eq_true (by omega), show decide (m.Session.length ≤ 64 ∧ m.Payload.length ≤ 1024) = false from decide_eq_false (fun h => a h.1)]; rfl
  simp only [ref05_Right_1, cond_false, List.length_map, h2]
  by_cases a : m.ID.length = 0
  · rw [show (((m.ID.length : Nat) : Int) != 0) = false from by rw [a]; rfl]
    rw [show decide (txM m) = decide (m.Session.length ≤ 64 ∧ m.Payload.length ≤ 1024) from decide_eq_decide.2 (by unfold txM; omega)]
    rfl
  · rw [show (((m.ID.length : Nat) : Int) != 0) = true from bne_iff_ne.2 (by omega)]
    by_cases b : m.ID.length = 3
    · rw [show (((m.ID.length : Nat) : Int) != 3) = false from by rw [b]; rfl, show decide (txM m) = decide (m.Session.length ≤ 64 ∧ m.Payload.length ≤ 1024) from decide_eq_decide.2 (by unfold txM; omega)]
      rfl
    · rw [show (((m.ID.length : Nat) : Int) != 3) = true from bne_iff_ne.2 (by omega), show decide (txM m) = false from decide_eq_false (by unfold txM; omega)]
      rfl
theorem rmright_ok {m : Msg} (h : Shm m) : ref05_Right m = some (rightM m) := by
  have t3 : ref05_Right_1 true m = some false := rfl
  by_cases hh : hdM m
  · have h' := hh
    unfold hdM at h'
    rw [rightM, decide_eq_true hh, Bool.true_and, ← rright1_ok h]
    simp only [ref05_Right]
    rw [show decide (m.Kind < 1) = false from decide_eq_false (by omega), show decide (m.Kind > 19) = false from decide_eq_false (by omega),
      show decide (m.From < 0) = false from decide_eq_false (by omega), show decide (m.From > 255) = false from decide_eq_false (by omega),
      show decide (m.To < 0) = false from decide_eq_false (by omega), show decide (m.To > 255) = false from decide_eq_false (by omega),
      show decide (m.Up > 65535) = false from decide_eq_false (by omega), show decide (m.Code < 0) = false from decide_eq_false (by omega), show decide (m.Code > 1000) = false from decide_eq_false (by omega)]
    rfl
  · rw [rightM, decide_eq_false hh, Bool.false_and]
    unfold hdM at hh
    simp only [ref05_Right]
    cases h1 : decide (m.Kind < 1)
    case true => rfl
    cases h2 : decide (m.Kind > 19)
    case true => rfl
    cases h3 : decide (m.From < 0)
    case true => rfl
    cases h4 : decide (m.From > 255)
    case true => rfl
    cases h5 : decide (m.To < 0)
    case true => rfl
    cases h6 : decide (m.To > 255)
    case true => rfl
    cases h7 : decide (m.Up > 65535)
    case true => rfl
    cases h8 : decide (m.Code < 0)
    case true => rfl
    rw [decide_eq_false_iff_not] at h1 h2 h3 h4 h5 h6 h7 h8
    rw [show decide (m.Code > 1000) = true from decide_eq_true (by omega)]
    rfl
end Go.RX.L

set_option linter.unusedSimpArgs false
set_option linter.unusedVariables false
set_option maxRecDepth 100000
set_option maxHeartbeats 4000000
namespace Go.RX.L
open Go Go.RX Go.Proofs
attribute [local irreducible] FinQ
def bytes_Equal_Q (y : Bool) (d : D) (s : Sto) : Prop := d = D.bool y ∧ s = []
noncomputable def bytes_Equal (a : List Int) (b : List Int) : Option Bool := (some (((List.map b8 a) : List UInt8) == (List.map b8 b)))
theorem bytes_Equal_ok {a : List Int} {b : List Int} {r : Bool} (h : bytes_Equal a b = some r) : Sound E 46 [D.sl false 1 (List.map (eInt .u8) a), D.sl false 1 (List.map (eInt .u8) b)] [] (bytes_Equal_Q r) := by
  refine sound_ofW (m := ⟨[.code (bodyOf Tryd.f46)], [(0, D.sl false 1 (List.map (eInt .u8) a)), (1, D.sl false 1 (List.map (eInt .u8) b))], []⟩) (fn := Tryd.f46) (by kernel_rfl) (by kernel_rfl) ?_
  show FinQ E (Cx.of Tryd.f46 false 0) (QW (bytes_Equal_Q r)) _
  unfold bytes_Equal at h
  refine adv_ok hm 8 _ ?_
  refine r_str (rowsStr (List.map (eInt .u8) a)) (List.map b8 a) (by kernel_rfl) (rows_bytes _) ?_
  refine adv_ok hm 2 _ ?_
  refine r_str (rowsStr (List.map (eInt .u8) b)) (List.map b8 b) (by kernel_rfl) (rows_bytes _) ?_
  refine adv_ok hm 4 _ ?_
  obtain rfl := Option.some.inj h
  exact r_retF [] (d := D.bool (((List.map b8 a) : List UInt8) == (List.map b8 b))) (s := []) (by kernel_rfl) Cx.fin_of ⟨rfl, rfl⟩
end Go.RX.L

set_option linter.unusedSimpArgs false
set_option linter.unusedVariables false
set_option maxRecDepth 100000
set_option maxHeartbeats 4000000
namespace Go.RX.L
open Go Go.RX Go.Proofs
attribute [local irreducible] FinQ
def msg_Same_1_Q (y : Int × Int × Int × Int × Int × Int × Int × Int × Int) (d : D) (s : Sto) : Prop := d = D.agg [D.int .i64 y.1, D.int .i64 y.2.1, D.int .i64 y.2.2.1, D.int .i64 y.2.2.2.1, D.int .i64 y.2.2.2.2.1, D.int .i64 y.2.2.2.2.2.1, D.int .i64 y.2.2.2.2.2.2.1, D.int .i64 y.2.2.2.2.2.2.2.1, D.int .i64 y.2.2.2.2.2.2.2.2] ∧ s = []
noncomputable def msg_Same_1 (m : Msg) : Option (Int × Int × Int × Int × Int × Int × Int × Int × Int) := (some (m.Kind, m.From, m.To, m.Epoch, m.Ballot, m.Accepted, m.Nonce, m.Time, m.Code))
theorem msg_Same_1_ok {m : Msg} {r : Int × Int × Int × Int × Int × Int × Int × Int × Int} (h : msg_Same_1 m = some r) : Sound E 44 [D.agg (Msg.enc m)] [] (msg_Same_1_Q r) := by
  refine sound_ofW (m := ⟨[.code (bodyOf Tryd.f44)], [(0, D.agg (Msg.enc m))], []⟩) (fn := Tryd.f44) (by kernel_rfl) (by kernel_rfl) ?_
  show FinQ E (Cx.of Tryd.f44 false 0) (QW (msg_Same_1_Q r)) _
  unfold msg_Same_1 at h
  refine adv_ok hm 42 _ ?_
  obtain rfl := Option.some.inj h
  exact r_retF [] (d := D.agg [D.int .i64 m.Kind, D.int .i64 m.From, D.int .i64 m.To, D.int .i64 m.Epoch, D.int .i64 m.Ballot, D.int .i64 m.Accepted, D.int .i64 m.Nonce, D.int .i64 m.Time, D.int .i64 m.Code]) (s := []) (by kernel_rfl) Cx.fin_of ⟨rfl, rfl⟩
end Go.RX.L

set_option linter.unusedSimpArgs false
set_option linter.unusedVariables false
set_option maxRecDepth 100000
set_option maxHeartbeats 4000000
namespace Go.RX.L
open Go Go.RX Go.Proofs
attribute [local irreducible] FinQ
def msg_Same_Q (y : Bool) (d : D) (s : Sto) : Prop := d = D.bool y ∧ s = []
noncomputable def msg_Same (a : Msg) (b : Msg) : Option Bool := ((msg_Same_1 a).bind fun y1 => ((msg_Same_1 b).bind fun y2 => (bif (((y1.1 : Int) == y2.1) && (((y1.2.1 : Int) == y2.2.1) && (((y1.2.2.1 : Int) == y2.2.2.1) && (((y1.2.2.2.1 : Int) == y2.2.2.2.1) && (((y1.2.2.2.2.1 : Int) == y2.2.2.2.2.1) && (((y1.2.2.2.2.2.1 : Int) == y2.2.2.2.2.2.1) && (((y1.2.2.2.2.2.2.1 : Int) == y2.2.2.2.2.2.2.1) && (((y1.2.2.2.2.2.2.2.1 : Int) == y2.2.2.2.2.2.2.2.1) && (((y1.2.2.2.2.2.2.2.2 : Int) == y2.2.2.2.2.2.2.2.2) && true))))))))) then (bif ((a.Up : Int) == b.Up) then (bif (a.HasPlan == b.HasPlan) then ((plan_Same a.Plan b.Plan).bind fun y6 => (bif y6 then ((slices_Equal_v2 a.ID b.ID).bind fun y8 => (bif y8 then ((bytes_Equal a.Session b.Session).bind fun y10 => (bif y10 then ((bytes_Equal a.Payload b.Payload).bind fun y12 => (some y12)) else (some false))) else (some false))) else (some false))) else (some false)) else (some false)) else (some false))))
theorem msg_Same_ok {a : Msg} {b : Msg} {r : Bool} (h : msg_Same a b = some r) : Sound E 21 [D.agg (Msg.enc a), D.agg (Msg.enc b)] [] (msg_Same_Q r) := by
  refine sound_ofW (m := ⟨[.code (bodyOf Tryd.f21)], [(0, D.agg (Msg.enc a)), (1, D.agg (Msg.enc b))], []⟩) (fn := Tryd.f21) (by kernel_rfl) (by kernel_rfl) ?_
  show FinQ E (Cx.of Tryd.f21 false 0) (QW (msg_Same_Q r)) _
  unfold msg_Same at h
  refine adv_ok hm 13 _ ?_
  have ok1 := fun (y : Int × Int × Int × Int × Int × Int × Int × Int × Int) (hy : msg_Same_1 a = some y) => msg_Same_1_ok hy
  refine p_callDR [] h (by kernel_rfl) ok1 (fun y1 h1 h => ?_)
  refine adv_ok hm 1 _ ?_
  have ok2 := fun (y : Int × Int × Int × Int × Int × Int × Int × Int × Int) (hy : msg_Same_1 b = some y) => msg_Same_1_ok hy
  refine p_callDR [] h (by kernel_rfl) ok2 (fun y2 h2 h => ?_)
  refine p_split h (by kernel_rfl) (fun h3 h => ?_) (fun h3 h => ?_)
  · -- true
    refine adv_ok hm 7 _ ?_
    refine p_split h (by kernel_rfl) (fun h4 h => ?_) (fun h4 h => ?_)
    · -- true
      refine adv_ok hm 7 _ ?_
      refine p_split h (by kernel_rfl) (fun h5 h => ?_) (fun h5 h => ?_)
      · -- true
        refine adv_ok hm 6 _ ?_
        have ok6 := fun (y : Bool) (hy : plan_Same a.Plan b.Plan = some y) => plan_Same_ok hy
        refine p_callDR [] h (by kernel_rfl) ok6 (fun y6 h6 h => ?_)
        refine adv_ok hm 1 _ ?_
        refine p_split h (by kernel_rfl) (fun h7 h => ?_) (fun h7 h => ?_)
        · -- true
          refine adv_ok hm 6 _ ?_
          have ok8 := fun (y : Bool) (hy : slices_Equal_v2 a.ID b.ID = some y) => slices_Equal_v2_ok hy
          refine p_callDR [] h (by kernel_rfl) ok8 (fun y8 h8 h => ?_)
          refine adv_ok hm 1 _ ?_
          refine p_split h (by kernel_rfl) (fun h9 h => ?_) (fun h9 h => ?_)
          · -- true
            refine adv_ok hm 6 _ ?_
            have ok10 := fun (y : Bool) (hy : bytes_Equal a.Session b.Session = some y) => bytes_Equal_ok hy
            refine p_callDR [] h (by kernel_rfl) ok10 (fun y10 h10 h => ?_)
            refine adv_ok hm 1 _ ?_
            refine p_split h (by kernel_rfl) (fun h11 h => ?_) (fun h11 h => ?_)
            · -- true
              refine adv_ok hm 6 _ ?_
              have ok12 := fun (y : Bool) (hy : bytes_Equal a.Payload b.Payload = some y) => bytes_Equal_ok hy
              refine p_callDR [] h (by kernel_rfl) ok12 (fun y12 h12 h => ?_)
              refine adv_ok hm 2 _ ?_
              obtain rfl := Option.some.inj h
              exact r_retF [] (d := D.bool y12) (s := []) (by kernel_rfl) Cx.fin_of ⟨rfl, rfl⟩
            · -- false
              refine adv_ok hm 6 _ ?_
              obtain rfl := Option.some.inj h
              exact r_retF [] (d := D.bool false) (s := []) (by kernel_rfl) Cx.fin_of ⟨rfl, rfl⟩
          · -- false
            refine adv_ok hm 12 _ ?_
            obtain rfl := Option.some.inj h
            exact r_retF [] (d := D.bool false) (s := []) (by kernel_rfl) Cx.fin_of ⟨rfl, rfl⟩
        · -- false
          refine adv_ok hm 18 _ ?_
          obtain rfl := Option.some.inj h
          exact r_retF [] (d := D.bool false) (s := []) (by kernel_rfl) Cx.fin_of ⟨rfl, rfl⟩
      · -- false
        refine adv_ok hm 24 _ ?_
        obtain rfl := Option.some.inj h
        exact r_retF [] (d := D.bool false) (s := []) (by kernel_rfl) Cx.fin_of ⟨rfl, rfl⟩
    · -- false
      refine adv_ok hm 30 _ ?_
      obtain rfl := Option.some.inj h
      exact r_retF [] (d := D.bool false) (s := []) (by kernel_rfl) Cx.fin_of ⟨rfl, rfl⟩
  · -- false
    refine adv_ok hm 36 _ ?_
    obtain rfl := Option.some.inj h
    exact r_retF [] (d := D.bool false) (s := []) (by kernel_rfl) Cx.fin_of ⟨rfl, rfl⟩
end Go.RX.L

set_option linter.unusedSimpArgs false
set_option linter.unusedVariables false
set_option maxRecDepth 100000
set_option maxHeartbeats 4000000
namespace Go.RX.L
open Go Go.RX Go.Proofs
attribute [local irreducible] FinQ
def ref05_Same_Q (y : Bool) (d : D) (s : Sto) : Prop := d = D.bool y ∧ s = []
noncomputable def ref05_Same_1M (one : Bool) (a : Msg) (b : Msg) : M := { td := [It.code (codeAt (bodyOf Tryd.f20) [1, 1])], fr := [(2, D.ptr 0 0 0), (3, D.ptr 1 0 0), (5, D.bool one)], st := [some { sz := 26, deep := false, rows := [(Msg.enc a)] }, some { sz := 26, deep := false, rows := [(Msg.enc b)] }] }
noncomputable def ref05_Same_1 (one : Bool) (a : Msg) (b : Msg) : Option Bool := (bif one then (bif ((a.Kind : Int) == b.Kind) then (bif ((a.From : Int) == b.From) then (bif ((a.To : Int) == b.To) then (bif ((a.Epoch : Int) == b.Epoch) then (bif ((a.Ballot : Int) == b.Ballot) then (bif ((a.Accepted : Int) == b.Accepted) then (bif ((a.Nonce : Int) == b.Nonce) then (bif ((a.Time : Int) == b.Time) then (bif ((a.Up : Int) == b.Up) then (bif ((a.Code : Int) == b.Code) then (bif (a.HasPlan == b.HasPlan) then (bif (((List.map b8 a.Session) : List UInt8) == (List.map b8 b.Session)) then (some (((List.map b8 a.Payload) : List UInt8) == (List.map b8 b.Payload))) else (some false)) else (some false)) else (some false)) else (some false)) else (some false)) else (some false)) else (some false)) else (some false)) else (some false)) else (some false)) else (some false)) else (some false)) else (some false))
theorem ref05_Same_1_ok {one : Bool} {a : Msg} {b : Msg} {r : Bool} (h : ref05_Same_1 one a b = some r) : FinQ E (Cx.of Tryd.f20 false 0) (QW (ref05_Same_Q r)) (.go (ref05_Same_1M one a b)) := by
  unfold ref05_Same_1 at h
  refine adv_ok hm 5 _ ?_
  refine p_split h (by kernel_rfl) (fun h1 h => ?_) (fun h1 h => ?_)
  · -- true
    refine adv_ok hm 14 _ ?_
    refine p_split h (by kernel_rfl) (fun h2 h => ?_) (fun h2 h => ?_)
    · -- true
      refine adv_ok hm 14 _ ?_
      refine p_split h (by kernel_rfl) (fun h3 h => ?_) (fun h3 h => ?_)
      · -- true
        refine adv_ok hm 14 _ ?_
        refine p_split h (by kernel_rfl) (fun h4 h => ?_) (fun h4 h => ?_)
        · -- true
          refine adv_ok hm 14 _ ?_
          refine p_split h (by kernel_rfl) (fun h5 h => ?_) (fun h5 h => ?_)
          · -- true
            refine adv_ok hm 14 _ ?_
            refine p_split h (by kernel_rfl) (fun h6 h => ?_) (fun h6 h => ?_)
            · -- true
              refine adv_ok hm 14 _ ?_
              refine p_split h (by kernel_rfl) (fun h7 h => ?_) (fun h7 h => ?_)
              · -- true
                refine adv_ok hm 14 _ ?_
                refine p_split h (by kernel_rfl) (fun h8 h => ?_) (fun h8 h => ?_)
                · -- true
                  refine adv_ok hm 14 _ ?_
                  refine p_split h (by kernel_rfl) (fun h9 h => ?_) (fun h9 h => ?_)
                  · -- true
                    refine adv_ok hm 14 _ ?_
                    refine p_split h (by kernel_rfl) (fun h10 h => ?_) (fun h10 h => ?_)
                    · -- true
                      refine adv_ok hm 14 _ ?_
                      refine p_split h (by kernel_rfl) (fun h11 h => ?_) (fun h11 h => ?_)
                      · -- true
                        refine adv_ok hm 14 _ ?_
                        refine p_split h (by kernel_rfl) (fun h12 h => ?_) (fun h12 h => ?_)
                        · -- true
                          refine adv_ok hm 5 _ ?_
                          refine r_str (rowsStr (List.map (eInt .u8) a.Session)) (List.map b8 a.Session) (by kernel_rfl) (rows_bytes _) ?_
                          refine adv_ok hm 7 _ ?_
                          refine r_str (rowsStr (List.map (eInt .u8) b.Session)) (List.map b8 b.Session) (by kernel_rfl) (rows_bytes _) ?_
                          refine adv_ok hm 6 _ ?_
                          refine p_split h (by kernel_rfl) (fun h13 h => ?_) (fun h13 h => ?_)
                          · -- true
                            refine adv_ok hm 5 _ ?_
                            refine r_str (rowsStr (List.map (eInt .u8) a.Payload)) (List.map b8 a.Payload) (by kernel_rfl) (rows_bytes _) ?_
                            refine adv_ok hm 7 _ ?_
                            refine r_str (rowsStr (List.map (eInt .u8) b.Payload)) (List.map b8 b.Payload) (by kernel_rfl) (rows_bytes _) ?_
                            refine adv_ok hm 7 _ ?_
                            obtain rfl := Option.some.inj h
                            exact r_retF [] (d := D.bool (((List.map b8 a.Payload) : List UInt8) == (List.map b8 b.Payload))) (s := []) (by kernel_rfl) Cx.fin_of ⟨rfl, rfl⟩
                          · -- false
                            refine adv_ok hm 17 _ ?_
                            obtain rfl := Option.some.inj h
                            exact r_retF [] (d := D.bool false) (s := []) (by kernel_rfl) Cx.fin_of ⟨rfl, rfl⟩
                        · -- false
                          refine adv_ok hm 34 _ ?_
                          obtain rfl := Option.some.inj h
                          exact r_retF [] (d := D.bool false) (s := []) (by kernel_rfl) Cx.fin_of ⟨rfl, rfl⟩
                      · -- false
                        refine adv_ok hm 47 _ ?_
                        obtain rfl := Option.some.inj h
                        exact r_retF [] (d := D.bool false) (s := []) (by kernel_rfl) Cx.fin_of ⟨rfl, rfl⟩
                    · -- false
                      refine adv_ok hm 60 _ ?_
                      obtain rfl := Option.some.inj h
                      exact r_retF [] (d := D.bool false) (s := []) (by kernel_rfl) Cx.fin_of ⟨rfl, rfl⟩
                  · -- false
                    refine adv_ok hm 73 _ ?_
                    obtain rfl := Option.some.inj h
                    exact r_retF [] (d := D.bool false) (s := []) (by kernel_rfl) Cx.fin_of ⟨rfl, rfl⟩
                · -- false
                  refine adv_ok hm 86 _ ?_
                  obtain rfl := Option.some.inj h
                  exact r_retF [] (d := D.bool false) (s := []) (by kernel_rfl) Cx.fin_of ⟨rfl, rfl⟩
              · -- false
                refine adv_ok hm 99 _ ?_
                obtain rfl := Option.some.inj h
                exact r_retF [] (d := D.bool false) (s := []) (by kernel_rfl) Cx.fin_of ⟨rfl, rfl⟩
            · -- false
              refine adv_ok hm 112 _ ?_
              obtain rfl := Option.some.inj h
              exact r_retF [] (d := D.bool false) (s := []) (by kernel_rfl) Cx.fin_of ⟨rfl, rfl⟩
          · -- false
            refine adv_ok hm 125 _ ?_
            obtain rfl := Option.some.inj h
            exact r_retF [] (d := D.bool false) (s := []) (by kernel_rfl) Cx.fin_of ⟨rfl, rfl⟩
        · -- false
          refine adv_ok hm 138 _ ?_
          obtain rfl := Option.some.inj h
          exact r_retF [] (d := D.bool false) (s := []) (by kernel_rfl) Cx.fin_of ⟨rfl, rfl⟩
      · -- false
        refine adv_ok hm 151 _ ?_
        obtain rfl := Option.some.inj h
        exact r_retF [] (d := D.bool false) (s := []) (by kernel_rfl) Cx.fin_of ⟨rfl, rfl⟩
    · -- false
      refine adv_ok hm 164 _ ?_
      obtain rfl := Option.some.inj h
      exact r_retF [] (d := D.bool false) (s := []) (by kernel_rfl) Cx.fin_of ⟨rfl, rfl⟩
  · -- false
    refine adv_ok hm 177 _ ?_
    obtain rfl := Option.some.inj h
    exact r_retF [] (d := D.bool false) (s := []) (by kernel_rfl) Cx.fin_of ⟨rfl, rfl⟩
noncomputable def ref05_Same (a : Msg) (b : Msg) : Option Bool := ((ref04_Same a.Plan b.Plan).bind fun y1 => (bif y1 then ((ref01_Same a.ID b.ID).bind fun y3 => (ref05_Same_1 y3 a b)) else (ref05_Same_1 false a b)))
theorem ref05_Same_ok {a : Msg} {b : Msg} {r : Bool} (h : ref05_Same a b = some r) : Sound E 20 [D.agg (Msg.enc a), D.agg (Msg.enc b)] [] (ref05_Same_Q r) := by
  refine sound_ofW (m := ⟨[.code (bodyOf Tryd.f20)], [(0, D.agg (Msg.enc a)), (1, D.agg (Msg.enc b))], []⟩) (fn := Tryd.f20) (by kernel_rfl) (by kernel_rfl) ?_
  show FinQ E (Cx.of Tryd.f20 false 0) (QW (ref05_Same_Q r)) _
  unfold ref05_Same at h
  refine adv_ok hm 15 _ ?_
  have ok1 := fun (y : Bool) (hy : ref04_Same a.Plan b.Plan = some y) => ref04_Same_ok hy
  refine p_callR [] h (by kernel_rfl) ok1 (fun y1 h1 h => ?_)
  refine adv_ok hm 2 _ ?_
  refine p_split h (by kernel_rfl) (fun h2 h => ?_) (fun h2 h => ?_)
  · -- true
    refine adv_ok hm 10 _ ?_
    have ok3 := fun (y : Bool) (hy : ref01_Same a.ID b.ID = some y) => ref01_Same_ok hy
    refine p_callR [] h (by kernel_rfl) ok3 (fun y3 h3 h => ?_)
    refine adv_ok hm 4 _ ?_
    exact r_cut 44 [] (m' := (ref05_Same_1M y3 a b)) (by kernel_rfl) (ref05_Same_1_ok h)
  · -- false
    refine adv_ok hm 12 _ ?_
    exact r_cut 44 [] (m' := (ref05_Same_1M false a b)) (by kernel_rfl) (ref05_Same_1_ok h)
end Go.RX.L

set_option linter.unusedSimpArgs false
set_option linter.unusedVariables false
set_option maxRecDepth 100000
namespace Go.RX.L
open Go Go.RX

/-! ### bytes -/
/-- A message of words. -/
structure FineM (m : Msg) : Prop where
  sh : Shm m
  pl : Fine m.Plan
  w : I64s [m.Epoch, m.Ballot, m.Accepted, m.Nonce, m.Time]
  up : 0 ≤ m.Up
  id : I64s m.ID
  ses : Bytes m.Session
  pay : Bytes m.Payload
theorem Msg.Ok.fine {m : Msg} (h : m.Ok) : FineM m := by
  obtain ⟨h1, h2, h3, h4, h5, h6, h7, h8, h9, h10, -, hp, hid, hs, hq⟩ := h
  have hp' := hp
  obtain ⟨-, -, -, -, -, -, -, -, u1, u2, -, -⟩ := hp
  refine ⟨⟨hp'.shrt, u1, u2⟩, hp'.fine, ?_, (inU64.1 h9).1, fun x hx => hid.2 x hx, fun x hx => inU8.1 (hs.2 x hx), fun x hx => inU8.1 (hq.2 x hx)⟩
  intro x hx
  simp only [List.mem_cons, List.not_mem_nil, or_false] at hx
  rcases hx with rfl | rfl | rfl | rfl | rfl <;> assumption

def numsM (m : Msg) : List Int := [m.From, m.To, m.Epoch, m.Ballot, m.Accepted, m.Nonce, m.Time, m.Up, m.Code, bif m.HasPlan then 1 else 0]
def encQ (m : Msg) : List Int := bif m.HasPlan then encT (encP m.Plan) else []
def encB (m : Msg) : List Int := encL (numsM m) ++ (encQ m ++ (encL m.ID ++ (encT m.Session ++ encT m.Payload)))

theorem right_and {m : Msg} (h : rightM m = true) : hdM m ∧ txM m ∧ planB m = true := by
  simpa only [rightM, Bool.and_eq_true, decide_eq_true_eq] using h
theorem right_plan {m : Msg} (h : rightM m = true) (hp : m.HasPlan = true) : Rt m.Plan := by
  have := (right_and h).2.2
  rw [planB, hp] at this
  exact rightP_iff.1 this
theorem right_zero {m : Msg} (h : rightM m = true) (hp : m.HasPlan = false) : m.Plan = zeroPl := by
  have := (right_and h).2.2
  rw [planB, hp] at this
  exact sameP_iff.1 this

theorem numsM_in {m : Msg} (hf : FineM m) (h : rightM m = true) : I64s (numsM m) := by
  obtain ⟨h1, h2, h3⟩ := right_and h
  unfold hdM at h1
  have hu := hf.up
  have e1 := inI64.2 (show -9223372036854775808 ≤ m.From ∧ m.From ≤ 9223372036854775807 by omega)
  have e2 := inI64.2 (show -9223372036854775808 ≤ m.To ∧ m.To ≤ 9223372036854775807 by omega)
  have e3 := inI64.2 (show -9223372036854775808 ≤ m.Up ∧ m.Up ≤ 9223372036854775807 by omega)
  have e4 := inI64.2 (show -9223372036854775808 ≤ m.Code ∧ m.Code ≤ 9223372036854775807 by omega)
  have e5 : inK .i64 (bif m.HasPlan then 1 else 0) := by cases m.HasPlan <;> exact inI64.2 (by decide)
  have hw := hf.w
  intro x hx
  simp only [numsM, List.mem_cons, List.not_mem_nil, or_false] at hx
  rcases hx with rfl | rfl | rfl | rfl | rfl | rfl | rfl | rfl | rfl | rfl
  · exact e1
  · exact e2
  · exact hw _ (by simp)
  · exact hw _ (by simp)
  · exact hw _ (by simp)
  · exact hw _ (by simp)
  · exact hw _ (by simp)
  · exact e3
  · exact e4
  · exact e5

theorem encQ_bytes (m : Msg) : Bytes (encQ m) := by
  unfold encQ
  cases m.HasPlan
  · intro c hc; cases hc
  · exact encT_bytes (encP_bytes _)
theorem encB_bytes {m : Msg} (hf : FineM m) : Bytes (encB m) := fun c hc => by
  simp only [encB, List.mem_append] at hc
  rcases hc with hc | hc | hc | hc | hc
  · exact encL_bytes _ c hc
  · exact encQ_bytes m c hc
  · exact encL_bytes _ c hc
  · exact encT_bytes hf.ses c hc
  · exact encT_bytes hf.pay c hc
theorem encQ_len {m : Msg} (hf : FineM m) (h : rightM m = true) : (encQ m).length ≤ 1960 := by
  unfold encQ
  cases hp : m.HasPlan
  · simp
  · have h1 := encP_len hf.pl (right_plan h hp)
    have := encT_len (s := encP m.Plan) (by omega)
    simp only [cond_true]; omega
theorem id_len {m : Msg} (h : rightM m = true) : m.ID.length ≤ 3 ∧ m.Session.length ≤ 64 ∧ m.Payload.length ≤ 1024 := by
  have := (right_and h).2.1
  unfold txM at this
  omega
theorem encB_len {m : Msg} (hf : FineM m) (h : rightM m = true) : (encB m).length ≤ 4400 := by
  have a := encL_len (numsM_in hf h) (by simp [numsM])
  have b := encQ_len hf h
  have hi := id_len h
  have c := encL_len hf.id (by omega)
  have d := encT_len (s := m.Session) (by omega)
  have e := encT_len (s := m.Payload) (by omega)
  simp only [encB, List.length_append]
  omega

def bodyM (m : Msg) : Int × List Int × Int := if rightM m = true then (m.Kind, encB m, 0) else (0, [], 51)
def putM (m : Msg) : List Int × Int := if rightM m = true then (encF m.Kind (encB m), 0) else ([], 51)

theorem putT_s {s : List Int} (h : s.length ≤ 4096) : putT s = (0, encT s) := if_pos h

theorem body_s1 {m : Msg} (hs : m.Session.length ≤ 64) (hq : m.Payload.length ≤ 1024) (hk : 0 ≤ m.Kind ∧ m.Kind ≤ 255) {b : List Int} (hb : b.length ≤ 8000) :
    Ev msg_Body_step (.s1 0 m b [m.Session, m.Payload]) (m.Kind, b ++ (encT m.Session ++ encT m.Payload), 0) := by
  have n1 := encT_len (s := m.Session) (by omega)
  have n2 := encT_len (s := m.Payload) (by omega)
  have k1 := putText_ok (s := m.Session) (by simp only [memB]; omega)
  have k2 := putText_ok (s := m.Payload) (by simp only [memB]; omega)
  rw [putT_s (by omega)] at k1 k2
  refine .next (s' := .s1 1 m (b ++ encT m.Session) [m.Session, m.Payload]) ?_ (.next (s' := .s1 2 m (b ++ encT m.Session ++ encT m.Payload) [m.Session, m.Payload]) ?_ (.done ?_))
  · have hl : decide (((List.map (eInt .u8) b).length + (List.map (eInt .u8) (encT m.Session)).length) * 1 ≤ bytesLim) = true := limOk (by simp only [List.length_map]; omega)
    simp only [msg_Body_step, msg_Body_1, take_full]
    simp only [show (0 + (0 : Int).toNat) = 0 from rfl, List.getElem?_cons_zero, Option.bind_some, k1, hl]
    rfl
  · have hl : decide (((List.map (eInt .u8) (b ++ encT m.Session)).length + (List.map (eInt .u8) (encT m.Payload)).length) * 1 ≤ bytesLim) = true := limOk (by simp only [List.length_map, List.length_append]; omega)
    simp only [msg_Body_step, msg_Body_1, take_full]
    simp only [show (0 + (1 : Int).toNat) = 1 from rfl, List.getElem?_cons_succ, List.getElem?_cons_zero, Option.bind_some, k2, hl]
    rfl
  · rw [← List.append_assoc]
    simp only [msg_Body_step, msg_Body_1, wU8 hk.1 hk.2]
    rfl

theorem body_s2 {m : Msg} (hf : FineM m) (h : rightM m = true) {b : List Int} (hb : b.length ≤ 7000) :
    Ev msg_Body_step (.s2 m b) (m.Kind, b ++ (encL m.ID ++ (encT m.Session ++ encT m.Payload)), 0) := by
  have hi := id_len h
  have hh := (right_and h).1
  unfold hdM at hh
  have c := encL_len hf.id (by omega)
  have hl : decide (((List.map (eInt .u8) b).length + (List.map (eInt .u8) (encL m.ID)).length) * 1 ≤ bytesLim) = true := limOk (by simp only [List.length_map]; omega)
  refine .next (s' := .s1 0 m (b ++ encL m.ID) [m.Session, m.Payload]) ?_ ?_
  · simp only [msg_Body_step, msg_Body_2, take_full, putInts_ok hf.id (by omega), Option.bind_some, hl, cond_true]
  · have := body_s1 (m := m) (b := b ++ encL m.ID) hi.2.1 hi.2.2 (by omega) (by simp only [List.length_append]; omega)
    rw [List.append_assoc] at this
    exact this

theorem body_ok {m : Msg} (hf : FineM m) : msg_Body m = some (bodyM m) := by
  unfold bodyM
  by_cases h : rightM m = true
  · rw [if_pos h]
    have hi := numsM_in hf h
    have hu := hf.up
    have hh := (right_and h).1
    unfold hdM at hh
    have hw : IntKind.i64.wrap m.Up = m.Up := wI64 (by omega) (by omega)
    have nl := encL_len hi (by simp [numsM])
    refine evf_of (.next (s' := .s3 m (numsM m)) ?_ ?_)
    · simp only [msg_Body_step, msg_Body_0, mright_ok hf.sh, h, Option.bind_some, Bool.not_true, cond_false, hw, numsM]
      cases m.HasPlan <;> rfl
    · refine .next (s' := .s2 m (encL (numsM m) ++ encQ m)) ?_ ?_
      · simp only [msg_Body_step, msg_Body_3, putInts_ok hi (by simp [numsM]), Option.bind_some, take_full]
        unfold encQ
        cases hp : m.HasPlan
        · simp only [cond_false, List.append_nil]
        · have rp := right_plan h hp
          have pl := encP_len hf.pl rp
          have tl := encT_len (s := encP m.Plan) (by omega)
          have e1 : plan_Put m.Plan = some (encP m.Plan, 0) := by rw [put_ok hf.pl, putP, if_pos (rightP_iff.2 rp)]
          have e2 : wire_PutText (encP m.Plan) = some (0, encT (encP m.Plan)) := by rw [putText_ok (by simp only [memB]; omega), putT_s (by omega)]
          have hl : decide (((List.map (eInt .u8) (encL (numsM m))).length + (List.map (eInt .u8) (encT (encP m.Plan))).length) * 1 ≤ bytesLim) = true := limOk (by simp only [List.length_map]; omega)
          simp only [cond_true, e1, e2, Option.bind_some, hl]
      · have q := encQ_len hf h
        have := body_s2 hf h (b := encL (numsM m) ++ encQ m) (by simp only [List.length_append]; omega)
        rw [List.append_assoc] at this
        exact this
  · rw [if_neg h]
    refine evf_of (.done ?_)
    simp only [msg_Body_step, msg_Body_0, mright_ok hf.sh, Bool.eq_false_iff.2 h, Option.bind_some, Bool.not_false, cond_true]

theorem rbody_ok {m : Msg} (hf : FineM m) : ref05_Body m = some (bodyM m) := by
  unfold bodyM
  by_cases h : rightM m = true
  · rw [if_pos h]
    have hi := numsM_in hf h
    have hu := hf.up
    have hh := (right_and h).1
    unfold hdM at hh
    have hw : IntKind.i64.wrap m.Up = m.Up := wI64 (by omega) (by omega)
    have nl := encL_len hi (by simp [numsM])
    have il := id_len h
    have c := encL_len hf.id (by omega)
    have d := encT_len (s := m.Session) (by omega)
    have e := encT_len (s := m.Payload) (by omega)
    have q := encQ_len hf h
    have k1 := rputText_ok (s := m.Session) (by simp only [memB]; omega)
    have k2 := rputText_ok (s := m.Payload) (by simp only [memB]; omega)
    rw [putT_s (by omega)] at k1 k2
    have one : ∀ out : List Int, out.length ≤ 3000 → ref05_Body_1 m out = some (m.Kind, out ++ (encL m.ID ++ (encT m.Session ++ encT m.Payload)), 0) := by
      intro out ho
      have l1 : decide (((List.map (eInt .u8) out).length + (List.map (eInt .u8) (encL m.ID)).length) * 1 ≤ bytesLim) = true := limOk (by simp only [List.length_map]; omega)
      have l2 : decide (((List.map (eInt .u8) (out ++ encL m.ID)).length + (List.map (eInt .u8) (encT m.Session)).length) * 1 ≤ bytesLim) = true := limOk (by simp only [List.length_map, List.length_append]; omega)
      have l3 : decide (((List.map (eInt .u8) ((out ++ encL m.ID) ++ encT m.Session)).length + (List.map (eInt .u8) (encT m.Payload)).length) * 1 ≤ bytesLim) = true := limOk (by simp only [List.length_map, List.length_append]; omega)
      simp only [ref05_Body_1, rputInts_ok hf.id (by omega), k1, k2, Option.bind_some, take_full, l1, l2, l3, cond_true, wU8 (show 0 ≤ m.Kind by omega) (show m.Kind ≤ 255 by omega)]
      simp only [List.append_assoc]
    have two : ref05_Body_2 (bif m.HasPlan then 1 else 0) m = some (m.Kind, encB m, 0) := by
      have e0 : ref01_PutInts [m.From, m.To, m.Epoch, m.Ballot, m.Accepted, m.Nonce, m.Time, m.Up, m.Code, bif m.HasPlan then 1 else 0] = some (0, encL (numsM m)) := rputInts_ok hi (by simp [numsM])
      simp only [ref05_Body_2, hw, e0, Option.bind_some, take_full]
      have eb : encB m = encL (numsM m) ++ (encQ m ++ (encL m.ID ++ (encT m.Session ++ encT m.Payload))) := rfl
      rw [eb]
      unfold encQ at q ⊢
      cases hp : m.HasPlan
      · simp only [cond_false, List.nil_append]
        exact one _ (by omega)
      · have rp := right_plan h hp
        have pl := encP_len hf.pl rp
        have tl := encT_len (s := encP m.Plan) (by omega)
        have e1 : ref04_Put m.Plan = some (encP m.Plan, 0) := by rw [rput_ok hf.pl, putP, if_pos (rightP_iff.2 rp)]
        have e2 : ref01_PutText (encP m.Plan) = some (0, encT (encP m.Plan)) := by rw [rputText_ok (by simp only [memB]; omega), putT_s (by omega)]
        have hl : decide (((List.map (eInt .u8) (encL (numsM m))).length + (List.map (eInt .u8) (encT (encP m.Plan))).length) * 1 ≤ bytesLim) = true := limOk (by simp only [List.length_map]; omega)
        simp only [cond_true, e1, e2, Option.bind_some, hl]
        rw [one _ (by simp only [List.length_append]; omega), List.append_assoc]
    simp only [ref05_Body, rmright_ok hf.sh, h, Option.bind_some, Bool.not_true, cond_false]
    cases hp : m.HasPlan <;> rw [hp] at two <;> exact two
  · rw [if_neg h]
    simp only [ref05_Body, rmright_ok hf.sh, Bool.eq_false_iff.2 h, Option.bind_some, Bool.not_false, cond_true]

theorem mput_ok {m : Msg} (hf : FineM m) : msg_Put m = some (putM m) := by
  unfold putM
  simp only [msg_Put, body_ok hf, bodyM, Option.bind_some]
  by_cases h : rightM m = true
  · have hh := (right_and h).1
    unfold hdM at hh
    have hl := encB_len hf h
    simp only [if_pos h, bne_self_eq_false, cond_false, framePut_ok (show 0 ≤ m.Kind ∧ m.Kind ≤ 255 by omega) (encB_bytes hf) (by simp only [memB]; omega), Option.bind_some, putF, if_pos (show (encB m).length ≤ 8192 by omega)]
  · simp only [if_neg h]; rfl
theorem rmput_ok {m : Msg} (hf : FineM m) : ref05_Put m = some (putM m) := by
  unfold putM
  simp only [ref05_Put, rbody_ok hf, bodyM, Option.bind_some]
  by_cases h : rightM m = true
  · have hh := (right_and h).1
    unfold hdM at hh
    have hl := encB_len hf h
    simp only [if_pos h, bne_self_eq_false, cond_false, rframePut_ok (show 0 ≤ m.Kind ∧ m.Kind ≤ 255 by omega) (encB_bytes hf) (by simp only [memB]; omega), Option.bind_some, putF, if_pos (show (encB m).length ≤ 8192 by omega)]
  · simp only [if_neg h]; rfl

end Go.RX.L

set_option linter.unusedSimpArgs false
set_option linter.unusedVariables false
set_option maxRecDepth 100000
set_option maxHeartbeats 4000000
namespace Go.RX.L
open Go Go.RX Go.Proofs
attribute [local irreducible] FinQ
def msg_reader_ints_Q (y : (List Int) × reader) (d : D) (s : Sto) : Prop := d = D.sl false 1 (List.map (eInt .i64) y.1) ∧ s = [some { sz := 3, deep := false, rows := [(reader.enc y.2)] }]
noncomputable def msg_reader_ints (b0 : reader) : Option ((List Int) × reader) := (bif ((b0.place.e : Int) != 0) then (some ([], b0)) else ((wire_Ints b0.b b0.place.at_).bind fun y2 => (some (y2.1, (⟨(⟨y2.2.1, y2.2.2⟩ : place), b0.b⟩ : reader)))))
theorem msg_reader_ints_ok {b0 : reader} {r : (List Int) × reader} (h : msg_reader_ints b0 = some r) : Sound E 36 [D.ptr 0 0 0] [some { sz := 3, deep := false, rows := [(reader.enc b0)] }] (msg_reader_ints_Q r) := by
  refine sound_ofW (m := ⟨[.code (bodyOf Tryd.f36)], [(0, D.ptr 0 0 0)], [some { sz := 3, deep := false, rows := [(reader.enc b0)] }]⟩) (fn := Tryd.f36) (by kernel_rfl) (by kernel_rfl) ?_
  show FinQ E (Cx.of Tryd.f36 false 1) (QW (msg_reader_ints_Q r)) _
  unfold msg_reader_ints at h
  refine adv_ok hm 16 _ ?_
  refine p_split h (by kernel_rfl) (fun h1 h => ?_) (fun h1 h => ?_)
  · -- true
    refine adv_ok hm 5 _ ?_
    obtain rfl := Option.some.inj h
    exact r_retF [.slot 0 [some 1]] (d := D.sl false 1 []) (s := [some { sz := 3, deep := false, rows := [(reader.enc b0)] }]) (by kernel_rfl) Cx.fin_of ⟨rfl, rfl⟩
  · -- false
    refine adv_ok hm 9 _ ?_
    have ok2 := fun (y : (List Int) × Int × Int) (hy : wire_Ints b0.b b0.place.at_ = some y) => wire_Ints_ok hy
    refine p_callDR [] h (by kernel_rfl) ok2 (fun y2 h2 h => ?_)
    refine adv_ok hm 10 _ ?_
    obtain rfl := Option.some.inj h
    exact r_retF [] (d := D.sl false 1 (List.map (eInt .i64) y2.1)) (s := [some { sz := 3, deep := false, rows := [[D.int .i64 y2.2.1, D.int .i64 y2.2.2, D.sl false 1 (List.map (eInt .u8) b0.b)]] }]) (by kernel_rfl) Cx.fin_of ⟨rfl, rfl⟩
end Go.RX.L

set_option linter.unusedSimpArgs false
set_option linter.unusedVariables false
set_option maxRecDepth 100000
set_option maxHeartbeats 4000000
namespace Go.RX.L
open Go Go.RX Go.Proofs
attribute [local irreducible] FinQ
def msg_reader_text_Q (y : (List Int) × reader) (d : D) (s : Sto) : Prop := d = D.sl false 1 (List.map (eInt .u8) y.1) ∧ s = [some { sz := 3, deep := false, rows := [(reader.enc y.2)] }]
noncomputable def msg_reader_text (b0 : reader) : Option ((List Int) × reader) := (bif ((b0.place.e : Int) != 0) then (some ([], b0)) else ((wire_Text b0.b b0.place.at_).bind fun y2 => (some (y2.1, (⟨(⟨y2.2.1, y2.2.2⟩ : place), b0.b⟩ : reader)))))
theorem msg_reader_text_ok {b0 : reader} {r : (List Int) × reader} (h : msg_reader_text b0 = some r) : Sound E 38 [D.ptr 0 0 0] [some { sz := 3, deep := false, rows := [(reader.enc b0)] }] (msg_reader_text_Q r) := by
  refine sound_ofW (m := ⟨[.code (bodyOf Tryd.f38)], [(0, D.ptr 0 0 0)], [some { sz := 3, deep := false, rows := [(reader.enc b0)] }]⟩) (fn := Tryd.f38) (by kernel_rfl) (by kernel_rfl) ?_
  show FinQ E (Cx.of Tryd.f38 false 1) (QW (msg_reader_text_Q r)) _
  unfold msg_reader_text at h
  refine adv_ok hm 16 _ ?_
  refine p_split h (by kernel_rfl) (fun h1 h => ?_) (fun h1 h => ?_)
  · -- true
    refine adv_ok hm 5 _ ?_
    obtain rfl := Option.some.inj h
    exact r_retF [.slot 0 [some 1]] (d := D.sl false 1 []) (s := [some { sz := 3, deep := false, rows := [(reader.enc b0)] }]) (by kernel_rfl) Cx.fin_of ⟨rfl, rfl⟩
  · -- false
    refine adv_ok hm 9 _ ?_
    have ok2 := fun (y : (List Int) × Int × Int) (hy : wire_Text b0.b b0.place.at_ = some y) => wire_Text_ok hy
    refine p_callDR [] h (by kernel_rfl) ok2 (fun y2 h2 h => ?_)
    refine adv_ok hm 10 _ ?_
    obtain rfl := Option.some.inj h
    exact r_retF [] (d := D.sl false 1 (List.map (eInt .u8) y2.1)) (s := [some { sz := 3, deep := false, rows := [[D.int .i64 y2.2.1, D.int .i64 y2.2.2, D.sl false 1 (List.map (eInt .u8) b0.b)]] }]) (by kernel_rfl) Cx.fin_of ⟨rfl, rfl⟩
end Go.RX.L

set_option linter.unusedSimpArgs false
set_option linter.unusedVariables false
set_option maxRecDepth 100000
set_option maxHeartbeats 4000000
namespace Go.RX.L
open Go Go.RX Go.Proofs
attribute [local irreducible] FinQ
def msg_Of_Q (y : Msg × Int) (d : D) (s : Sto) : Prop := d = D.tup [D.agg (Msg.enc y.1), D.int .i64 y.2] ∧ s = []
noncomputable def msg_Of_2M (t149 : Bool) (b0 : Msg) (m : Msg) : M := { td := [It.code (codeAt (bodyOf Tryd.f18) [1, 1, 1, 1, 1, 1, 1, 1, 1, 0, 1]), It.code (codeAt (bodyOf Tryd.f18) [1, 1, 1, 1, 1, 1, 1, 1, 1, 1])], fr := [(4, D.ptr 0 0 0), (8, D.ptr 1 0 0), (149, D.bool t149)], st := [some { sz := 26, deep := false, rows := [(Msg.enc b0)] }, some { sz := 26, deep := false, rows := [(Msg.enc m)] }] }
noncomputable def msg_Of_2 (t149 : Bool) (b0 : Msg) (m : Msg) : Option (Msg × Int) := (bif t149 then (some ((⟨0, 0, 0, 0, 0, 0, 0, 0, 0, 0, false, (⟨0, 0, 0, 0, 0, 0, 0, 0, 0, 0, [], []⟩ : Plan), [], [], []⟩ : Msg), 51)) else (some (m, 0)))
theorem msg_Of_2_ok {t149 : Bool} {b0 : Msg} {m : Msg} {r : Msg × Int} (h : msg_Of_2 t149 b0 m = some r) : FinQ E (Cx.of Tryd.f18 false 0) (QW (msg_Of_Q r)) (.go (msg_Of_2M t149 b0 m)) := by
  unfold msg_Of_2 at h
  refine adv_ok hm 1 _ ?_
  refine p_split h (by kernel_rfl) (fun h1 h => ?_) (fun h1 h => ?_)
  · -- true
    refine adv_ok hm 10 _ ?_
    obtain rfl := Option.some.inj h
    exact r_retF [.slot 0 [some 1, some 1, some 1, some 1, some 1]] (d := D.tup [D.agg [D.int .i64 0, D.int .i64 0, D.int .i64 0, D.int .i64 0, D.int .i64 0, D.int .i64 0, D.int .i64 0, D.int .i64 0, D.int .u64 0, D.int .i64 0, D.bool false, D.int .i64 0, D.int .i64 0, D.int .i64 0, D.int .i64 0, D.int .i64 0, D.int .i64 0, D.int .i64 0, D.int .i64 0, D.int .u64 0, D.int .u64 0, D.sl false 1 [], D.sl false 1 [], D.sl false 1 [], D.sl false 1 [], D.sl false 1 []], D.int .i64 51]) (s := []) (by kernel_rfl) Cx.fin_of ⟨rfl, rfl⟩
  · -- false
    refine adv_ok hm 12 _ ?_
    obtain rfl := Option.some.inj h
    exact r_retF [] (d := D.tup [D.agg (Msg.enc m), D.int .i64 0]) (s := []) (by kernel_rfl) Cx.fin_of ⟨rfl, rfl⟩
noncomputable def msg_Of_3M (body : List Int) (b0 : Msg) (r_ : reader) (m : Msg) : M := { td := [It.code (codeAt (bodyOf Tryd.f18) [1, 1, 1, 1, 1, 1])], fr := [(1, D.sl false 1 (List.map (eInt .u8) body)), (4, D.ptr 0 0 0), (6, D.ptr 1 0 0), (8, D.ptr 2 0 0)], st := [some { sz := 26, deep := false, rows := [(Msg.enc b0)] }, some { sz := 3, deep := false, rows := [(reader.enc r_)] }, some { sz := 26, deep := false, rows := [(Msg.enc m)] }] }
noncomputable def msg_Of_3 (body : List Int) (b0 : Msg) (r_ : reader) (m : Msg) : Option (Msg × Int) := ((msg_reader_ints r_).bind fun y1 => ((msg_reader_text y1.2).bind fun y2 => ((msg_reader_text y2.2).bind fun y3 => (bif ((y3.2.place.e : Int) != 0) then (msg_Of_2 true b0 (⟨m.Kind, m.From, m.To, m.Epoch, m.Ballot, m.Accepted, m.Nonce, m.Time, m.Up, m.Code, m.HasPlan, m.Plan, y1.1, y2.1, y3.1⟩ : Msg)) else (bif ((y3.2.place.at_ : Int) != (((List.map (eInt .u8) body).length : Nat) : Int)) then (msg_Of_2 true b0 (⟨m.Kind, m.From, m.To, m.Epoch, m.Ballot, m.Accepted, m.Nonce, m.Time, m.Up, m.Code, m.HasPlan, m.Plan, y1.1, y2.1, y3.1⟩ : Msg)) else ((msg_Right (⟨m.Kind, m.From, m.To, m.Epoch, m.Ballot, m.Accepted, m.Nonce, m.Time, m.Up, m.Code, m.HasPlan, m.Plan, y1.1, y2.1, y3.1⟩ : Msg)).bind fun y6 => (msg_Of_2 (!y6) b0 (⟨m.Kind, m.From, m.To, m.Epoch, m.Ballot, m.Accepted, m.Nonce, m.Time, m.Up, m.Code, m.HasPlan, m.Plan, y1.1, y2.1, y3.1⟩ : Msg))))))))
theorem msg_Of_3_ok {body : List Int} {b0 : Msg} {r_ : reader} {m : Msg} {r : Msg × Int} (h : msg_Of_3 body b0 r_ m = some r) : FinQ E (Cx.of Tryd.f18 false 0) (QW (msg_Of_Q r)) (.go (msg_Of_3M body b0 r_ m)) := by
  unfold msg_Of_3 at h
  refine adv_ok hm 4 _ ?_
  have ok1 := fun (y : (List Int) × reader) (hy : msg_reader_ints r_ = some y) => msg_reader_ints_ok hy
  refine p_callR [] h (by kernel_rfl) ok1 (fun y1 h1 h => ?_)
  refine adv_ok hm 9 _ ?_
  have ok2 := fun (y : (List Int) × reader) (hy : msg_reader_text y1.2 = some y) => msg_reader_text_ok hy
  refine p_callR [] h (by kernel_rfl) ok2 (fun y2 h2 h => ?_)
  refine adv_ok hm 9 _ ?_
  have ok3 := fun (y : (List Int) × reader) (hy : msg_reader_text y2.2 = some y) => msg_reader_text_ok hy
  refine p_callR [] h (by kernel_rfl) ok3 (fun y3 h3 h => ?_)
  refine adv_ok hm 17 _ ?_
  refine p_split h (by kernel_rfl) (fun h4 h => ?_) (fun h4 h => ?_)
  · -- true
    refine adv_ok hm 26 _ ?_
    exact r_cut 713623846352979940529142984724747568191373584 [] (m' := (msg_Of_2M true b0 (⟨m.Kind, m.From, m.To, m.Epoch, m.Ballot, m.Accepted, m.Nonce, m.Time, m.Up, m.Code, m.HasPlan, m.Plan, y1.1, y2.1, y3.1⟩ : Msg))) (by kernel_rfl) (msg_Of_2_ok h)
  · -- false
    refine adv_ok hm 19 _ ?_
    refine p_split h (by kernel_rfl) (fun h5 h => ?_) (fun h5 h => ?_)
    · -- true
      refine adv_ok hm 7 _ ?_
      exact r_cut 713623846352979940529142984724747568191373584 [] (m' := (msg_Of_2M true b0 (⟨m.Kind, m.From, m.To, m.Epoch, m.Ballot, m.Accepted, m.Nonce, m.Time, m.Up, m.Code, m.HasPlan, m.Plan, y1.1, y2.1, y3.1⟩ : Msg))) (by kernel_rfl) (msg_Of_2_ok h)
    · -- false
      refine adv_ok hm 3 _ ?_
      have ok6 := fun (y : Bool) (hy : msg_Right (⟨m.Kind, m.From, m.To, m.Epoch, m.Ballot, m.Accepted, m.Nonce, m.Time, m.Up, m.Code, m.HasPlan, m.Plan, y1.1, y2.1, y3.1⟩ : Msg) = some y) => msg_Right_ok hy
      refine p_callR [] h (by kernel_rfl) ok6 (fun y6 h6 h => ?_)
      refine adv_ok hm 5 _ ?_
      exact r_cut 713623846352979940529142984724747568191373584 [] (m' := (msg_Of_2M (!y6) b0 (⟨m.Kind, m.From, m.To, m.Epoch, m.Ballot, m.Accepted, m.Nonce, m.Time, m.Up, m.Code, m.HasPlan, m.Plan, y1.1, y2.1, y3.1⟩ : Msg))) (by kernel_rfl) (msg_Of_2_ok h)
noncomputable def msg_Of_1M (kind : Int) (body : List Int) (l_ : List Int) (t70 : Bool) (b0 : Msg) (r_ : reader) : M := { td := [It.code (codeAt (bodyOf Tryd.f18) [1, 1, 1, 0, 1]), It.code (codeAt (bodyOf Tryd.f18) [1, 1, 1, 1])], fr := [(0, D.int .u8 kind), (1, D.sl false 1 (List.map (eInt .u8) body)), (4, D.ptr 0 0 0), (6, D.ptr 1 0 0), (7, D.sl false 1 (List.map (eInt .i64) l_)), (70, D.bool t70)], st := [some { sz := 26, deep := false, rows := [(Msg.enc b0)] }, some { sz := 3, deep := false, rows := [(reader.enc r_)] }] }
noncomputable def msg_Of_1 (kind : Int) (body : List Int) (l_ : List Int) (t70 : Bool) (b0 : Msg) (r_ : reader) : Option (Msg × Int) := (bif t70 then (some ((⟨0, 0, 0, 0, 0, 0, 0, 0, 0, 0, false, (⟨0, 0, 0, 0, 0, 0, 0, 0, 0, 0, [], []⟩ : Plan), [], [], []⟩ : Msg), 51)) else (bif (decide ((0 : Int) < (((List.map (eInt .i64) l_).length : Nat) : Int))) then (((l_)[0]?).bind fun y3 => (bif (decide ((1 : Int) < (((List.map (eInt .i64) l_).length : Nat) : Int))) then (((l_)[1]?).bind fun y6 => (bif (decide ((2 : Int) < (((List.map (eInt .i64) l_).length : Nat) : Int))) then (((l_)[2]?).bind fun y9 => (bif (decide ((3 : Int) < (((List.map (eInt .i64) l_).length : Nat) : Int))) then (((l_)[3]?).bind fun y12 => (bif (decide ((4 : Int) < (((List.map (eInt .i64) l_).length : Nat) : Int))) then (((l_)[4]?).bind fun y15 => (bif (decide ((5 : Int) < (((List.map (eInt .i64) l_).length : Nat) : Int))) then (((l_)[5]?).bind fun y18 => (bif (decide ((6 : Int) < (((List.map (eInt .i64) l_).length : Nat) : Int))) then (((l_)[6]?).bind fun y21 => (bif (decide ((7 : Int) < (((List.map (eInt .i64) l_).length : Nat) : Int))) then (((l_)[7]?).bind fun y24 => (bif (decide ((8 : Int) < (((List.map (eInt .i64) l_).length : Nat) : Int))) then (((l_)[8]?).bind fun y27 => (bif (decide ((9 : Int) < (((List.map (eInt .i64) l_).length : Nat) : Int))) then (((l_)[9]?).bind fun y30 => (bif ((y30 : Int) == 1) then ((msg_reader_text r_).bind fun y33 => ((plan_Get y33.1).bind fun y34 => (bif ((y34.2 : Int) != 0) then (some ((⟨0, 0, 0, 0, 0, 0, 0, 0, 0, 0, false, (⟨0, 0, 0, 0, 0, 0, 0, 0, 0, 0, [], []⟩ : Plan), [], [], []⟩ : Msg), 51)) else (msg_Of_3 body b0 y33.2 (⟨(IntKind.i64.wrap (kind)), y3, y6, y9, y12, y15, y18, y21, (IntKind.u64.wrap (y24)), y27, ((y30 : Int) == 1), y34.1, [], [], []⟩ : Msg))))) else (msg_Of_3 body b0 r_ (⟨(IntKind.i64.wrap (kind)), y3, y6, y9, y12, y15, y18, y21, (IntKind.u64.wrap (y24)), y27, ((y30 : Int) == 1), (⟨0, 0, 0, 0, 0, 0, 0, 0, 0, 0, [], []⟩ : Plan), [], [], []⟩ : Msg)))) else none)) else none)) else none)) else none)) else none)) else none)) else none)) else none)) else none)) else none))
theorem msg_Of_1_ok {kind : Int} {body : List Int} {l_ : List Int} {t70 : Bool} {b0 : Msg} {r_ : reader} {r : Msg × Int} (h : msg_Of_1 kind body l_ t70 b0 r_ = some r) : FinQ E (Cx.of Tryd.f18 false 0) (QW (msg_Of_Q r)) (.go (msg_Of_1M kind body l_ t70 b0 r_)) := by
  unfold msg_Of_1 at h
  refine adv_ok hm 1 _ ?_
  refine p_split h (by kernel_rfl) (fun h1 h => ?_) (fun h1 h => ?_)
  · -- true
    refine adv_ok hm 10 _ ?_
    obtain rfl := Option.some.inj h
    exact r_retF [.slot 0 [some 1, some 1, some 1, some 1, some 1]] (d := D.tup [D.agg [D.int .i64 0, D.int .i64 0, D.int .i64 0, D.int .i64 0, D.int .i64 0, D.int .i64 0, D.int .i64 0, D.int .i64 0, D.int .u64 0, D.int .i64 0, D.bool false, D.int .i64 0, D.int .i64 0, D.int .i64 0, D.int .i64 0, D.int .i64 0, D.int .i64 0, D.int .i64 0, D.int .i64 0, D.int .u64 0, D.int .u64 0, D.sl false 1 [], D.sl false 1 [], D.sl false 1 [], D.sl false 1 [], D.sl false 1 []], D.int .i64 51]) (s := []) (by kernel_rfl) Cx.fin_of ⟨rfl, rfl⟩
  · -- false
    refine adv_ok hm 3 _ ?_
    refine p_need h (by kernel_rfl) (fun h2 h => ?_)
    refine p_row (((List.map (eInt .i64) l_))[0]?) (eInt .i64) h (by kernel_rfl) List.getElem?_map (fun y3 h4 h => ?_)
    refine p_need h (by kernel_rfl) (fun h5 h => ?_)
    refine p_row (((List.map (eInt .i64) l_))[1]?) (eInt .i64) h (by kernel_rfl) List.getElem?_map (fun y6 h7 h => ?_)
    refine p_need h (by kernel_rfl) (fun h8 h => ?_)
    refine p_row (((List.map (eInt .i64) l_))[2]?) (eInt .i64) h (by kernel_rfl) List.getElem?_map (fun y9 h10 h => ?_)
    refine p_need h (by kernel_rfl) (fun h11 h => ?_)
    refine p_row (((List.map (eInt .i64) l_))[3]?) (eInt .i64) h (by kernel_rfl) List.getElem?_map (fun y12 h13 h => ?_)
    refine p_need h (by kernel_rfl) (fun h14 h => ?_)
    refine p_row (((List.map (eInt .i64) l_))[4]?) (eInt .i64) h (by kernel_rfl) List.getElem?_map (fun y15 h16 h => ?_)
    refine p_need h (by kernel_rfl) (fun h17 h => ?_)
    refine p_row (((List.map (eInt .i64) l_))[5]?) (eInt .i64) h (by kernel_rfl) List.getElem?_map (fun y18 h19 h => ?_)
    refine p_need h (by kernel_rfl) (fun h20 h => ?_)
    refine p_row (((List.map (eInt .i64) l_))[6]?) (eInt .i64) h (by kernel_rfl) List.getElem?_map (fun y21 h22 h => ?_)
    refine p_need h (by kernel_rfl) (fun h23 h => ?_)
    refine p_row (((List.map (eInt .i64) l_))[7]?) (eInt .i64) h (by kernel_rfl) List.getElem?_map (fun y24 h25 h => ?_)
    refine p_need h (by kernel_rfl) (fun h26 h => ?_)
    refine p_row (((List.map (eInt .i64) l_))[8]?) (eInt .i64) h (by kernel_rfl) List.getElem?_map (fun y27 h28 h => ?_)
    refine adv_ok hm 7 _ ?_
    refine p_need h (by kernel_rfl) (fun h29 h => ?_)
    refine adv_ok hm 1 _ ?_
    refine p_row (((List.map (eInt .i64) l_))[9]?) (eInt .i64) h (by kernel_rfl) List.getElem?_map (fun y30 h31 h => ?_)
    refine adv_ok hm 13 _ ?_
    refine p_split h (by kernel_rfl) (fun h32 h => ?_) (fun h32 h => ?_)
    · -- true
      refine adv_ok hm 8 _ ?_
      have ok33 := fun (y : (List Int) × reader) (hy : msg_reader_text r_ = some y) => msg_reader_text_ok hy
      refine p_callR [] h (by kernel_rfl) ok33 (fun y33 h33 h => ?_)
      refine adv_ok hm 1 _ ?_
      have ok34 := fun (y : Plan × Int) (hy : plan_Get y33.1 = some y) => plan_Get_ok hy
      refine p_callR [] h (by kernel_rfl) ok34 (fun y34 h34 h => ?_)
      refine adv_ok hm 15 _ ?_
      refine p_split h (by kernel_rfl) (fun h35 h => ?_) (fun h35 h => ?_)
      · -- true
        refine adv_ok hm 10 _ ?_
        obtain rfl := Option.some.inj h
        exact r_retF [.slot 0 [some 1, some 1, some 1, some 1, some 1]] (d := D.tup [D.agg [D.int .i64 0, D.int .i64 0, D.int .i64 0, D.int .i64 0, D.int .i64 0, D.int .i64 0, D.int .i64 0, D.int .i64 0, D.int .u64 0, D.int .i64 0, D.bool false, D.int .i64 0, D.int .i64 0, D.int .i64 0, D.int .i64 0, D.int .i64 0, D.int .i64 0, D.int .i64 0, D.int .i64 0, D.int .u64 0, D.int .u64 0, D.sl false 1 [], D.sl false 1 [], D.sl false 1 [], D.sl false 1 [], D.sl false 1 []], D.int .i64 51]) (s := []) (by kernel_rfl) Cx.fin_of ⟨rfl, rfl⟩
      · -- false
        refine adv_ok hm 1 _ ?_
        exact r_cut 338 [.blk 2 [some 1, some 1, some 1]] (m' := (msg_Of_3M body b0 y33.2 (⟨(IntKind.i64.wrap (kind)), y3, y6, y9, y12, y15, y18, y21, (IntKind.u64.wrap (y24)), y27, ((y30 : Int) == 1), y34.1, [], [], []⟩ : Msg))) (by kernel_rfl) (msg_Of_3_ok h)
    · -- false
      refine adv_ok hm 1 _ ?_
      exact r_cut 338 [.blk 2 [some 1, some 1, some 1, some 1, some 1]] (m' := (msg_Of_3M body b0 r_ (⟨(IntKind.i64.wrap (kind)), y3, y6, y9, y12, y15, y18, y21, (IntKind.u64.wrap (y24)), y27, ((y30 : Int) == 1), (⟨0, 0, 0, 0, 0, 0, 0, 0, 0, 0, [], []⟩ : Plan), [], [], []⟩ : Msg))) (by kernel_rfl) (msg_Of_3_ok h)
noncomputable def msg_Of (kind : Int) (body : List Int) : Option (Msg × Int) := ((msg_reader_ints (⟨(⟨0, 0⟩ : place), body⟩ : reader)).bind fun y1 => (bif ((y1.2.place.e : Int) != 0) then (msg_Of_1 kind body y1.1 true (⟨0, 0, 0, 0, 0, 0, 0, 0, 0, 0, false, (⟨0, 0, 0, 0, 0, 0, 0, 0, 0, 0, [], []⟩ : Plan), [], [], []⟩ : Msg) y1.2) else (bif (((((List.map (eInt .i64) y1.1).length : Nat) : Int) : Int) != 10) then (msg_Of_1 kind body y1.1 true (⟨0, 0, 0, 0, 0, 0, 0, 0, 0, 0, false, (⟨0, 0, 0, 0, 0, 0, 0, 0, 0, 0, [], []⟩ : Plan), [], [], []⟩ : Msg) y1.2) else (bif (decide ((0 : Int) < (((List.map (eInt .i64) y1.1).length : Nat) : Int))) then (((y1.1)[0]?).bind fun y5 => (bif (decide ((1 : Int) < (((List.map (eInt .i64) y1.1).length : Nat) : Int))) then (((y1.1)[1]?).bind fun y8 => (bif (decide ((7 : Int) < (((List.map (eInt .i64) y1.1).length : Nat) : Int))) then (((y1.1)[7]?).bind fun y11 => (bif (decide ((8 : Int) < (((List.map (eInt .i64) y1.1).length : Nat) : Int))) then (((y1.1)[8]?).bind fun y14 => (bif (decide ((9 : Int) < (((List.map (eInt .i64) y1.1).length : Nat) : Int))) then (((y1.1)[9]?).bind fun y17 => (bif (decide (((mnI (mnI (mnI (mnI y5 y8) y11) y14) y17) : Int) < 0)) then (msg_Of_1 kind body y1.1 true (⟨0, 0, 0, 0, 0, 0, 0, 0, 0, 0, false, (⟨0, 0, 0, 0, 0, 0, 0, 0, 0, 0, [], []⟩ : Plan), [], [], []⟩ : Msg) y1.2) else (bif (decide ((0 : Int) < (((List.map (eInt .i64) y1.1).length : Nat) : Int))) then (((y1.1)[0]?).bind fun y21 => (bif (decide ((1 : Int) < (((List.map (eInt .i64) y1.1).length : Nat) : Int))) then (((y1.1)[1]?).bind fun y24 => (bif (decide (((mxI y21 y24) : Int) > 255)) then (msg_Of_1 kind body y1.1 true (⟨0, 0, 0, 0, 0, 0, 0, 0, 0, 0, false, (⟨0, 0, 0, 0, 0, 0, 0, 0, 0, 0, [], []⟩ : Plan), [], [], []⟩ : Msg) y1.2) else (bif (decide ((7 : Int) < (((List.map (eInt .i64) y1.1).length : Nat) : Int))) then (((y1.1)[7]?).bind fun y28 => (bif (decide ((8 : Int) < (((List.map (eInt .i64) y1.1).length : Nat) : Int))) then (((y1.1)[8]?).bind fun y31 => (bif (decide (((mxI y28 y31) : Int) ≥ 65536)) then (msg_Of_1 kind body y1.1 true (⟨0, 0, 0, 0, 0, 0, 0, 0, 0, 0, false, (⟨0, 0, 0, 0, 0, 0, 0, 0, 0, 0, [], []⟩ : Plan), [], [], []⟩ : Msg) y1.2) else (bif (decide ((9 : Int) < (((List.map (eInt .i64) y1.1).length : Nat) : Int))) then (((y1.1)[9]?).bind fun y35 => (msg_Of_1 kind body y1.1 (decide ((y35 : Int) > 1)) (⟨0, 0, 0, 0, 0, 0, 0, 0, 0, 0, false, (⟨0, 0, 0, 0, 0, 0, 0, 0, 0, 0, [], []⟩ : Plan), [], [], []⟩ : Msg) y1.2)) else none))) else none)) else none))) else none)) else none))) else none)) else none)) else none)) else none)) else none))))
theorem msg_Of_ok {kind : Int} {body : List Int} {r : Msg × Int} (h : msg_Of kind body = some r) : Sound E 18 [D.int .u8 kind, D.sl false 1 (List.map (eInt .u8) body)] [] (msg_Of_Q r) := by
  refine sound_ofW (m := ⟨[.code (bodyOf Tryd.f18)], [(0, D.int .u8 kind), (1, D.sl false 1 (List.map (eInt .u8) body))], []⟩) (fn := Tryd.f18) (by kernel_rfl) (by kernel_rfl) ?_
  show FinQ E (Cx.of Tryd.f18 false 0) (QW (msg_Of_Q r)) _
  unfold msg_Of at h
  refine adv_ok hm 16 _ ?_
  have ok1 := fun (y : (List Int) × reader) (hy : msg_reader_ints (⟨(⟨0, 0⟩ : place), body⟩ : reader) = some y) => msg_reader_ints_ok hy
  refine p_callR [] h (by kernel_rfl) ok1 (fun y1 h1 h => ?_)
  refine adv_ok hm 6 _ ?_
  refine p_split h (by kernel_rfl) (fun h2 h => ?_) (fun h2 h => ?_)
  · -- true
    refine adv_ok hm 44 _ ?_
    exact r_cut 1180591620717411303635 [.blk 0 [some 1, some 1, some 1, some 1, some 1]] (m' := (msg_Of_1M kind body y1.1 true (⟨0, 0, 0, 0, 0, 0, 0, 0, 0, 0, false, (⟨0, 0, 0, 0, 0, 0, 0, 0, 0, 0, [], []⟩ : Plan), [], [], []⟩ : Msg) y1.2)) (by kernel_rfl) (msg_Of_1_ok h)
  · -- false
    refine adv_ok hm 3 _ ?_
    refine p_split h (by kernel_rfl) (fun h3 h => ?_) (fun h3 h => ?_)
    · -- true
      refine adv_ok hm 40 _ ?_
      exact r_cut 1180591620717411303635 [.blk 0 [some 1, some 1, some 1, some 1, some 1]] (m' := (msg_Of_1M kind body y1.1 true (⟨0, 0, 0, 0, 0, 0, 0, 0, 0, 0, false, (⟨0, 0, 0, 0, 0, 0, 0, 0, 0, 0, [], []⟩ : Plan), [], [], []⟩ : Msg) y1.2)) (by kernel_rfl) (msg_Of_1_ok h)
    · -- false
      refine adv_ok hm 1 _ ?_
      refine p_need h (by kernel_rfl) (fun h4 h => ?_)
      refine adv_ok hm 1 _ ?_
      refine p_row (((List.map (eInt .i64) y1.1))[0]?) (eInt .i64) h (by kernel_rfl) List.getElem?_map (fun y5 h6 h => ?_)
      refine adv_ok hm 2 _ ?_
      refine p_need h (by kernel_rfl) (fun h7 h => ?_)
      refine adv_ok hm 1 _ ?_
      refine p_row (((List.map (eInt .i64) y1.1))[1]?) (eInt .i64) h (by kernel_rfl) List.getElem?_map (fun y8 h9 h => ?_)
      refine adv_ok hm 2 _ ?_
      refine p_need h (by kernel_rfl) (fun h10 h => ?_)
      refine adv_ok hm 1 _ ?_
      refine p_row (((List.map (eInt .i64) y1.1))[7]?) (eInt .i64) h (by kernel_rfl) List.getElem?_map (fun y11 h12 h => ?_)
      refine adv_ok hm 2 _ ?_
      refine p_need h (by kernel_rfl) (fun h13 h => ?_)
      refine adv_ok hm 1 _ ?_
      refine p_row (((List.map (eInt .i64) y1.1))[8]?) (eInt .i64) h (by kernel_rfl) List.getElem?_map (fun y14 h15 h => ?_)
      refine adv_ok hm 2 _ ?_
      refine p_need h (by kernel_rfl) (fun h16 h => ?_)
      refine adv_ok hm 1 _ ?_
      refine p_row (((List.map (eInt .i64) y1.1))[9]?) (eInt .i64) h (by kernel_rfl) List.getElem?_map (fun y17 h18 h => ?_)
      refine adv_ok hm 3 _ ?_
      refine p_split h (by kernel_rfl) (fun h19 h => ?_) (fun h19 h => ?_)
      · -- true
        refine adv_ok hm 22 _ ?_
        exact r_cut 1180591620717411303635 [.blk 0 [some 1, some 1, some 1, some 1, some 1]] (m' := (msg_Of_1M kind body y1.1 true (⟨0, 0, 0, 0, 0, 0, 0, 0, 0, 0, false, (⟨0, 0, 0, 0, 0, 0, 0, 0, 0, 0, [], []⟩ : Plan), [], [], []⟩ : Msg) y1.2)) (by kernel_rfl) (msg_Of_1_ok h)
      · -- false
        refine adv_ok hm 1 _ ?_
        refine p_need h (by kernel_rfl) (fun h20 h => ?_)
        refine adv_ok hm 1 _ ?_
        refine p_row (((List.map (eInt .i64) y1.1))[0]?) (eInt .i64) h (by kernel_rfl) List.getElem?_map (fun y21 h22 h => ?_)
        refine adv_ok hm 2 _ ?_
        refine p_need h (by kernel_rfl) (fun h23 h => ?_)
        refine adv_ok hm 1 _ ?_
        refine p_row (((List.map (eInt .i64) y1.1))[1]?) (eInt .i64) h (by kernel_rfl) List.getElem?_map (fun y24 h25 h => ?_)
        refine adv_ok hm 3 _ ?_
        refine p_split h (by kernel_rfl) (fun h26 h => ?_) (fun h26 h => ?_)
        · -- true
          refine adv_ok hm 13 _ ?_
          exact r_cut 1180591620717411303635 [.blk 0 [some 1, some 1, some 1, some 1, some 1]] (m' := (msg_Of_1M kind body y1.1 true (⟨0, 0, 0, 0, 0, 0, 0, 0, 0, 0, false, (⟨0, 0, 0, 0, 0, 0, 0, 0, 0, 0, [], []⟩ : Plan), [], [], []⟩ : Msg) y1.2)) (by kernel_rfl) (msg_Of_1_ok h)
        · -- false
          refine adv_ok hm 1 _ ?_
          refine p_need h (by kernel_rfl) (fun h27 h => ?_)
          refine adv_ok hm 1 _ ?_
          refine p_row (((List.map (eInt .i64) y1.1))[7]?) (eInt .i64) h (by kernel_rfl) List.getElem?_map (fun y28 h29 h => ?_)
          refine adv_ok hm 2 _ ?_
          refine p_need h (by kernel_rfl) (fun h30 h => ?_)
          refine adv_ok hm 1 _ ?_
          refine p_row (((List.map (eInt .i64) y1.1))[8]?) (eInt .i64) h (by kernel_rfl) List.getElem?_map (fun y31 h32 h => ?_)
          refine adv_ok hm 3 _ ?_
          refine p_split h (by kernel_rfl) (fun h33 h => ?_) (fun h33 h => ?_)
          · -- true
            refine adv_ok hm 4 _ ?_
            exact r_cut 1180591620717411303635 [.blk 0 [some 1, some 1, some 1, some 1, some 1]] (m' := (msg_Of_1M kind body y1.1 true (⟨0, 0, 0, 0, 0, 0, 0, 0, 0, 0, false, (⟨0, 0, 0, 0, 0, 0, 0, 0, 0, 0, [], []⟩ : Plan), [], [], []⟩ : Msg) y1.2)) (by kernel_rfl) (msg_Of_1_ok h)
          · -- false
            refine adv_ok hm 1 _ ?_
            refine p_need h (by kernel_rfl) (fun h34 h => ?_)
            refine adv_ok hm 1 _ ?_
            refine p_row (((List.map (eInt .i64) y1.1))[9]?) (eInt .i64) h (by kernel_rfl) List.getElem?_map (fun y35 h36 h => ?_)
            refine adv_ok hm 2 _ ?_
            exact r_cut 1180591620717411303635 [.blk 0 [some 1, some 1, some 1, some 1, some 1]] (m' := (msg_Of_1M kind body y1.1 (decide ((y35 : Int) > 1)) (⟨0, 0, 0, 0, 0, 0, 0, 0, 0, 0, false, (⟨0, 0, 0, 0, 0, 0, 0, 0, 0, 0, [], []⟩ : Plan), [], [], []⟩ : Msg) y1.2)) (by kernel_rfl) (msg_Of_1_ok h)
end Go.RX.L

set_option linter.unusedSimpArgs false
set_option linter.unusedVariables false
set_option maxRecDepth 100000
set_option maxHeartbeats 4000000
namespace Go.RX.L
open Go Go.RX Go.Proofs
attribute [local irreducible] FinQ
def msg_Get_Q (y : Msg × Int) (d : D) (s : Sto) : Prop := d = D.tup [D.agg (Msg.enc y.1), D.int .i64 y.2] ∧ s = []
noncomputable def msg_Get (b : List Int) : Option (Msg × Int) := ((frame_Get b 0).bind fun y1 => (bif ((y1.2.2.2 : Int) != 0) then (some ((⟨0, 0, 0, 0, 0, 0, 0, 0, 0, 0, false, (⟨0, 0, 0, 0, 0, 0, 0, 0, 0, 0, [], []⟩ : Plan), [], [], []⟩ : Msg), y1.2.2.2)) else (bif ((y1.2.2.1 : Int) != (((List.map (eInt .u8) b).length : Nat) : Int)) then (some ((⟨0, 0, 0, 0, 0, 0, 0, 0, 0, 0, false, (⟨0, 0, 0, 0, 0, 0, 0, 0, 0, 0, [], []⟩ : Plan), [], [], []⟩ : Msg), 51)) else ((msg_Of y1.1 y1.2.1).bind fun y4 => (some (y4.1, y4.2))))))
theorem msg_Get_ok {b : List Int} {r : Msg × Int} (h : msg_Get b = some r) : Sound E 16 [D.sl false 1 (List.map (eInt .u8) b)] [] (msg_Get_Q r) := by
  refine sound_ofW (m := ⟨[.code (bodyOf Tryd.f16)], [(0, D.sl false 1 (List.map (eInt .u8) b))], []⟩) (fn := Tryd.f16) (by kernel_rfl) (by kernel_rfl) ?_
  show FinQ E (Cx.of Tryd.f16 false 0) (QW (msg_Get_Q r)) _
  unfold msg_Get at h
  refine adv_ok hm 9 _ ?_
  have ok1 := fun (y : Int × (List Int) × Int × Int) (hy : frame_Get b 0 = some y) => frame_Get_ok hy
  refine p_callR [] h (by kernel_rfl) ok1 (fun y1 h1 h => ?_)
  refine adv_ok hm 19 _ ?_
  refine p_split h (by kernel_rfl) (fun h2 h => ?_) (fun h2 h => ?_)
  · -- true
    refine adv_ok hm 11 _ ?_
    obtain rfl := Option.some.inj h
    exact r_retF [.slot 0 [some 1, some 1, some 1, some 1, some 1]] (d := D.tup [D.agg [D.int .i64 0, D.int .i64 0, D.int .i64 0, D.int .i64 0, D.int .i64 0, D.int .i64 0, D.int .i64 0, D.int .i64 0, D.int .u64 0, D.int .i64 0, D.bool false, D.int .i64 0, D.int .i64 0, D.int .i64 0, D.int .i64 0, D.int .i64 0, D.int .i64 0, D.int .i64 0, D.int .i64 0, D.int .u64 0, D.int .u64 0, D.sl false 1 [], D.sl false 1 [], D.sl false 1 [], D.sl false 1 [], D.sl false 1 []], D.int .i64 y1.2.2.2]) (s := []) (by kernel_rfl) Cx.fin_of ⟨rfl, rfl⟩
  · -- false
    refine adv_ok hm 9 _ ?_
    refine p_split h (by kernel_rfl) (fun h3 h => ?_) (fun h3 h => ?_)
    · -- true
      refine adv_ok hm 10 _ ?_
      obtain rfl := Option.some.inj h
      exact r_retF [.slot 0 [some 1, some 1, some 1, some 1, some 1]] (d := D.tup [D.agg [D.int .i64 0, D.int .i64 0, D.int .i64 0, D.int .i64 0, D.int .i64 0, D.int .i64 0, D.int .i64 0, D.int .i64 0, D.int .u64 0, D.int .i64 0, D.bool false, D.int .i64 0, D.int .i64 0, D.int .i64 0, D.int .i64 0, D.int .i64 0, D.int .i64 0, D.int .i64 0, D.int .i64 0, D.int .u64 0, D.int .u64 0, D.sl false 1 [], D.sl false 1 [], D.sl false 1 [], D.sl false 1 [], D.sl false 1 []], D.int .i64 51]) (s := []) (by kernel_rfl) Cx.fin_of ⟨rfl, rfl⟩
    · -- false
      refine adv_ok hm 7 _ ?_
      have ok4 := fun (y : Msg × Int) (hy : msg_Of y1.1 y1.2.1 = some y) => msg_Of_ok hy
      refine p_callR [] h (by kernel_rfl) ok4 (fun y4 h4 h => ?_)
      refine adv_ok hm 9 _ ?_
      obtain rfl := Option.some.inj h
      exact r_retF [] (d := D.tup [D.agg (Msg.enc y4.1), D.int .i64 y4.2]) (s := []) (by kernel_rfl) Cx.fin_of ⟨rfl, rfl⟩
end Go.RX.L

set_option linter.unusedSimpArgs false
set_option linter.unusedVariables false
set_option maxRecDepth 100000
set_option maxHeartbeats 4000000
namespace Go.RX.L
open Go Go.RX Go.Proofs
attribute [local irreducible] FinQ
def ref05_plain_Q (y : Bool) (d : D) (s : Sto) : Prop := d = D.bool y ∧ s = []
inductive ref05_plain_S where
  | s0 (l_ : List Int)
  | s1 (l_ : List Int) (i : Int)
noncomputable def ref05_plain_M : ref05_plain_S → M
  | .s0 l_ => ⟨[.code (bodyOf Tryd.f40)], [(0, D.sl false 1 (List.map (eInt .i64) l_))], []⟩
  | .s1 l_ i => { td := [It.lpc (codeAt (bodyOf Tryd.f40) [1, 1, 0, 1, 0, 0]) 9, It.blk 0, It.code (codeAt (bodyOf Tryd.f40) [1, 1, 1])], fr := [(0, D.sl false 1 (List.map (eInt .i64) l_)), (3, D.int .i64 i)], st := [] }
noncomputable def ref05_plain_0 (l_ : List Int) : Option (ref05_plain_S ⊕ Bool) := (bif (((((List.map (eInt .i64) l_).length : Nat) : Int) : Int) != 10) then (some (.inr false)) else (some (.inl (.s1 l_ 0))))
noncomputable def ref05_plain_1 (l_ : List Int) (i : Int) : Option (ref05_plain_S ⊕ Bool) := (bif (decide ((i : Int) < 2)) then (bif ((decide ((0 : Int) ≤ i)) && (decide ((i : Int) < (((List.map (eInt .i64) l_).length : Nat) : Int)))) then (((l_)[i.toNat]?).bind fun y3 => (bif (decide ((y3 : Int) < 0)) then (some (.inr false)) else (bif ((decide ((0 : Int) ≤ i)) && (decide ((i : Int) < (((List.map (eInt .i64) l_).length : Nat) : Int)))) then (((l_)[i.toNat]?).bind fun y7 => (bif (decide ((y7 : Int) > 255)) then (some (.inr false)) else (some (.inl (.s1 l_ (IntKind.i64.wrap (i + 1))))))) else none))) else none) else (bif (decide ((7 : Int) < (((List.map (eInt .i64) l_).length : Nat) : Int))) then (((l_)[7]?).bind fun y11 => (bif (decide ((y11 : Int) ≥ 0)) then (bif (decide ((7 : Int) < (((List.map (eInt .i64) l_).length : Nat) : Int))) then (((l_)[7]?).bind fun y15 => (bif (decide ((y15 : Int) ≤ 65535)) then (bif (decide ((8 : Int) < (((List.map (eInt .i64) l_).length : Nat) : Int))) then (((l_)[8]?).bind fun y19 => (bif (decide ((y19 : Int) ≥ 0)) then (bif (decide ((8 : Int) < (((List.map (eInt .i64) l_).length : Nat) : Int))) then (((l_)[8]?).bind fun y23 => (bif (decide ((y23 : Int) ≤ 1000)) then (bif (decide ((9 : Int) < (((List.map (eInt .i64) l_).length : Nat) : Int))) then (((l_)[9]?).bind fun y27 => (bif ((y27 : Int) == 0) then (some (.inr true)) else (bif (decide ((9 : Int) < (((List.map (eInt .i64) l_).length : Nat) : Int))) then (((l_)[9]?).bind fun y31 => (some (.inr ((y31 : Int) == 1)))) else none))) else none) else (some (.inr false)))) else none) else (some (.inr false)))) else none) else (some (.inr false)))) else none) else (some (.inr false)))) else none))
noncomputable def ref05_plain_step : ref05_plain_S → Option (ref05_plain_S ⊕ Bool)
  | .s0 l_ => ref05_plain_0 l_
  | .s1 l_ i => ref05_plain_1 l_ i
theorem ref05_plain_0_ok {l_ : List Int} {r : Bool} {x : ref05_plain_S ⊕ Bool} (h : ref05_plain_0 l_ = some x) (ha : After E (Cx.of Tryd.f40 false 0) ref05_plain_Q ref05_plain_M r x) : FinQ E (Cx.of Tryd.f40 false 0) (QW (ref05_plain_Q r)) (.go (ref05_plain_M (.s0 l_))) := by
  unfold ref05_plain_0 at h
  refine adv_ok hm 12 _ ?_
  refine p_split h (by kernel_rfl) (fun h1 h => ?_) (fun h1 h => ?_)
  · -- true
    refine adv_ok hm 5 _ ?_
    obtain rfl := Option.some.inj h
    have hv := ha
    simp only [After] at hv
    subst hv
    exact r_retF [] (d := D.bool false) (s := []) (by kernel_rfl) Cx.fin_of ⟨rfl, rfl⟩
  · -- false
    refine adv_ok hm 9 _ ?_
    obtain rfl := Option.some.inj h
    exact r_to (q' := .go (ref05_plain_M (.s1 l_ 0))) (by kernel_rfl) ha
theorem ref05_plain_1_ok {l_ : List Int} {i : Int} {r : Bool} {x : ref05_plain_S ⊕ Bool} (h : ref05_plain_1 l_ i = some x) (ha : After E (Cx.of Tryd.f40 false 0) ref05_plain_Q ref05_plain_M r x) : FinQ E (Cx.of Tryd.f40 false 0) (QW (ref05_plain_Q r)) (.go (ref05_plain_M (.s1 l_ i))) := by
  unfold ref05_plain_1 at h
  refine adv_ok hm 8 _ ?_
  refine p_split h (by kernel_rfl) (fun h1 h => ?_) (fun h1 h => ?_)
  · -- true
    refine adv_ok hm 8 _ ?_
    refine p_need h (by kernel_rfl) (fun h2 h => ?_)
    refine adv_ok hm 1 _ ?_
    refine p_row (((List.map (eInt .i64) l_))[i.toNat]?) (eInt .i64) h (by kernel_rfl) List.getElem?_map (fun y3 h4 h => ?_)
    refine adv_ok hm 3 _ ?_
    refine p_split h (by kernel_rfl) (fun h5 h => ?_) (fun h5 h => ?_)
    · -- true
      refine adv_ok hm 18 _ ?_
      obtain rfl := Option.some.inj h
      have hv := ha
      simp only [After] at hv
      subst hv
      exact r_retF [] (d := D.bool false) (s := []) (by kernel_rfl) Cx.fin_of ⟨rfl, rfl⟩
    · -- false
      refine adv_ok hm 4 _ ?_
      refine p_need h (by kernel_rfl) (fun h6 h => ?_)
      refine adv_ok hm 2 _ ?_
      refine p_row (((List.map (eInt .i64) l_))[i.toNat]?) (eInt .i64) h (by kernel_rfl) List.getElem?_map (fun y7 h8 h => ?_)
      refine adv_ok hm 6 _ ?_
      refine p_split h (by kernel_rfl) (fun h9 h => ?_) (fun h9 h => ?_)
      · -- true
        refine adv_ok hm 5 _ ?_
        obtain rfl := Option.some.inj h
        have hv := ha
        simp only [After] at hv
        subst hv
        exact r_retF [] (d := D.bool false) (s := []) (by kernel_rfl) Cx.fin_of ⟨rfl, rfl⟩
      · -- false
        refine adv_ok hm 8 _ ?_
        obtain rfl := Option.some.inj h
        exact r_to (q' := .go (ref05_plain_M (.s1 l_ (IntKind.i64.wrap (i + 1))))) (by kernel_rfl) ha
  · -- false
    refine adv_ok hm 5 _ ?_
    refine p_need h (by kernel_rfl) (fun h10 h => ?_)
    refine adv_ok hm 1 _ ?_
    refine p_row (((List.map (eInt .i64) l_))[7]?) (eInt .i64) h (by kernel_rfl) List.getElem?_map (fun y11 h12 h => ?_)
    refine adv_ok hm 3 _ ?_
    refine p_split h (by kernel_rfl) (fun h13 h => ?_) (fun h13 h => ?_)
    · -- true
      refine adv_ok hm 2 _ ?_
      refine p_need h (by kernel_rfl) (fun h14 h => ?_)
      refine adv_ok hm 2 _ ?_
      refine p_row (((List.map (eInt .i64) l_))[7]?) (eInt .i64) h (by kernel_rfl) List.getElem?_map (fun y15 h16 h => ?_)
      refine adv_ok hm 6 _ ?_
      refine p_split h (by kernel_rfl) (fun h17 h => ?_) (fun h17 h => ?_)
      · -- true
        refine adv_ok hm 2 _ ?_
        refine p_need h (by kernel_rfl) (fun h18 h => ?_)
        refine adv_ok hm 2 _ ?_
        refine p_row (((List.map (eInt .i64) l_))[8]?) (eInt .i64) h (by kernel_rfl) List.getElem?_map (fun y19 h20 h => ?_)
        refine adv_ok hm 6 _ ?_
        refine p_split h (by kernel_rfl) (fun h21 h => ?_) (fun h21 h => ?_)
        · -- true
          refine adv_ok hm 2 _ ?_
          refine p_need h (by kernel_rfl) (fun h22 h => ?_)
          refine adv_ok hm 2 _ ?_
          refine p_row (((List.map (eInt .i64) l_))[8]?) (eInt .i64) h (by kernel_rfl) List.getElem?_map (fun y23 h24 h => ?_)
          refine adv_ok hm 6 _ ?_
          refine p_split h (by kernel_rfl) (fun h25 h => ?_) (fun h25 h => ?_)
          · -- true
            refine adv_ok hm 2 _ ?_
            refine p_need h (by kernel_rfl) (fun h26 h => ?_)
            refine adv_ok hm 2 _ ?_
            refine p_row (((List.map (eInt .i64) l_))[9]?) (eInt .i64) h (by kernel_rfl) List.getElem?_map (fun y27 h28 h => ?_)
            refine adv_ok hm 5 _ ?_
            refine p_split h (by kernel_rfl) (fun h29 h => ?_) (fun h29 h => ?_)
            · -- true
              refine adv_ok hm 14 _ ?_
              obtain rfl := Option.some.inj h
              have hv := ha
              simp only [After] at hv
              subst hv
              exact r_retF [] (d := D.bool true) (s := []) (by kernel_rfl) Cx.fin_of ⟨rfl, rfl⟩
            · -- false
              refine adv_ok hm 2 _ ?_
              refine p_need h (by kernel_rfl) (fun h30 h => ?_)
              refine adv_ok hm 2 _ ?_
              refine p_row (((List.map (eInt .i64) l_))[9]?) (eInt .i64) h (by kernel_rfl) List.getElem?_map (fun y31 h32 h => ?_)
              refine adv_ok hm 10 _ ?_
              obtain rfl := Option.some.inj h
              have hv := ha
              simp only [After] at hv
              subst hv
              exact r_retF [] (d := D.bool ((y31 : Int) == 1)) (s := []) (by kernel_rfl) Cx.fin_of ⟨rfl, rfl⟩
          · -- false
            refine adv_ok hm 19 _ ?_
            obtain rfl := Option.some.inj h
            have hv := ha
            simp only [After] at hv
            subst hv
            exact r_retF [] (d := D.bool false) (s := []) (by kernel_rfl) Cx.fin_of ⟨rfl, rfl⟩
        · -- false
          refine adv_ok hm 30 _ ?_
          obtain rfl := Option.some.inj h
          have hv := ha
          simp only [After] at hv
          subst hv
          exact r_retF [] (d := D.bool false) (s := []) (by kernel_rfl) Cx.fin_of ⟨rfl, rfl⟩
      · -- false
        refine adv_ok hm 41 _ ?_
        obtain rfl := Option.some.inj h
        have hv := ha
        simp only [After] at hv
        subst hv
        exact r_retF [] (d := D.bool false) (s := []) (by kernel_rfl) Cx.fin_of ⟨rfl, rfl⟩
    · -- false
      refine adv_ok hm 52 _ ?_
      obtain rfl := Option.some.inj h
      have hv := ha
      simp only [After] at hv
      subst hv
      exact r_retF [] (d := D.bool false) (s := []) (by kernel_rfl) Cx.fin_of ⟨rfl, rfl⟩
theorem ref05_plain_ev {l_ : List Int} {r : Bool} (h : Ev ref05_plain_step (.s0 l_) r) : Sound E 40 [D.sl false 1 (List.map (eInt .i64) l_)] [] (ref05_plain_Q r) :=
  sound_ofW (m := ref05_plain_M (.s0 l_)) (fn := Tryd.f40) (by kernel_rfl) (by kernel_rfl) (ev_run (C := (Cx.of Tryd.f40 false 0)) (fun s x r hs ha => by
    cases s with
    | s0 => exact ref05_plain_0_ok hs ha
    | s1 => exact ref05_plain_1_ok hs ha) h)
noncomputable def ref05_plain (l_ : List Int) : Option Bool := evf ref05_plain_step (.s0 l_)
theorem ref05_plain_ok {l_ : List Int} {r : Bool} (h : ref05_plain l_ = some r) : Sound E 40 [D.sl false 1 (List.map (eInt .i64) l_)] [] (ref05_plain_Q r) := ref05_plain_ev (evf_ev h)
end Go.RX.L

set_option linter.unusedSimpArgs false
set_option linter.unusedVariables false
set_option maxRecDepth 100000
set_option maxHeartbeats 4000000
namespace Go.RX.L
open Go Go.RX Go.Proofs
attribute [local irreducible] FinQ
def ref05_Of_Q (y : Msg × Int) (d : D) (s : Sto) : Prop := d = D.tup [D.agg (Msg.enc y.1), D.int .i64 y.2] ∧ s = []
noncomputable def ref05_Of_3M (id_ : List Int) (s_ : List Int) (p_ : List Int) (t126 : Bool) (b0 : Msg) (m : Msg) : M := { td := [It.code (codeAt (bodyOf Tryd.f19) [1, 1, 1, 1, 1, 1, 1, 1, 1, 1, 0, 1]), It.code (codeAt (bodyOf Tryd.f19) [1, 1, 1, 1, 1, 1, 1, 1, 1, 1, 1])], fr := [(4, D.ptr 0 0 0), (9, D.ptr 1 0 0), (15, D.sl false 1 (List.map (eInt .i64) id_)), (16, D.sl false 1 (List.map (eInt .u8) s_)), (17, D.sl false 1 (List.map (eInt .u8) p_)), (126, D.bool t126)], st := [some { sz := 26, deep := false, rows := [(Msg.enc b0)] }, some { sz := 26, deep := false, rows := [(Msg.enc m)] }] }
noncomputable def ref05_Of_3 (id_ : List Int) (s_ : List Int) (p_ : List Int) (t126 : Bool) (b0 : Msg) (m : Msg) : Option (Msg × Int) := (bif t126 then (some ((⟨0, 0, 0, 0, 0, 0, 0, 0, 0, 0, false, (⟨0, 0, 0, 0, 0, 0, 0, 0, 0, 0, [], []⟩ : Plan), [], [], []⟩ : Msg), 51)) else ((ref05_Right (⟨m.Kind, m.From, m.To, m.Epoch, m.Ballot, m.Accepted, m.Nonce, m.Time, m.Up, m.Code, m.HasPlan, m.Plan, id_, s_, p_⟩ : Msg)).bind fun y2 => (bif (!y2) then (some ((⟨0, 0, 0, 0, 0, 0, 0, 0, 0, 0, false, (⟨0, 0, 0, 0, 0, 0, 0, 0, 0, 0, [], []⟩ : Plan), [], [], []⟩ : Msg), 51)) else (some ((⟨m.Kind, m.From, m.To, m.Epoch, m.Ballot, m.Accepted, m.Nonce, m.Time, m.Up, m.Code, m.HasPlan, m.Plan, id_, s_, p_⟩ : Msg), 0)))))
theorem ref05_Of_3_ok {id_ : List Int} {s_ : List Int} {p_ : List Int} {t126 : Bool} {b0 : Msg} {m : Msg} {r : Msg × Int} (h : ref05_Of_3 id_ s_ p_ t126 b0 m = some r) : FinQ E (Cx.of Tryd.f19 false 0) (QW (ref05_Of_Q r)) (.go (ref05_Of_3M id_ s_ p_ t126 b0 m)) := by
  unfold ref05_Of_3 at h
  refine adv_ok hm 1 _ ?_
  refine p_split h (by kernel_rfl) (fun h1 h => ?_) (fun h1 h => ?_)
  · -- true
    refine adv_ok hm 10 _ ?_
    obtain rfl := Option.some.inj h
    exact r_retF [.slot 0 [some 1, some 1, some 1, some 1, some 1]] (d := D.tup [D.agg [D.int .i64 0, D.int .i64 0, D.int .i64 0, D.int .i64 0, D.int .i64 0, D.int .i64 0, D.int .i64 0, D.int .i64 0, D.int .u64 0, D.int .i64 0, D.bool false, D.int .i64 0, D.int .i64 0, D.int .i64 0, D.int .i64 0, D.int .i64 0, D.int .i64 0, D.int .i64 0, D.int .i64 0, D.int .u64 0, D.int .u64 0, D.sl false 1 [], D.sl false 1 [], D.sl false 1 [], D.sl false 1 [], D.sl false 1 []], D.int .i64 51]) (s := []) (by kernel_rfl) Cx.fin_of ⟨rfl, rfl⟩
  · -- false
    refine adv_ok hm 30 _ ?_
    have ok2 := fun (y : Bool) (hy : ref05_Right (⟨m.Kind, m.From, m.To, m.Epoch, m.Ballot, m.Accepted, m.Nonce, m.Time, m.Up, m.Code, m.HasPlan, m.Plan, id_, s_, p_⟩ : Msg) = some y) => ref05_Right_ok hy
    refine p_callR [] h (by kernel_rfl) ok2 (fun y2 h2 h => ?_)
    refine adv_ok hm 9 _ ?_
    refine p_split h (by kernel_rfl) (fun h3 h => ?_) (fun h3 h => ?_)
    · -- true
      refine adv_ok hm 10 _ ?_
      obtain rfl := Option.some.inj h
      exact r_retF [.slot 0 [some 1, some 1, some 1, some 1, some 1]] (d := D.tup [D.agg [D.int .i64 0, D.int .i64 0, D.int .i64 0, D.int .i64 0, D.int .i64 0, D.int .i64 0, D.int .i64 0, D.int .i64 0, D.int .u64 0, D.int .i64 0, D.bool false, D.int .i64 0, D.int .i64 0, D.int .i64 0, D.int .i64 0, D.int .i64 0, D.int .i64 0, D.int .i64 0, D.int .i64 0, D.int .u64 0, D.int .u64 0, D.sl false 1 [], D.sl false 1 [], D.sl false 1 [], D.sl false 1 [], D.sl false 1 []], D.int .i64 51]) (s := []) (by kernel_rfl) Cx.fin_of ⟨rfl, rfl⟩
    · -- false
      refine adv_ok hm 12 _ ?_
      obtain rfl := Option.some.inj h
      exact r_retF [] (d := D.tup [D.agg [D.int .i64 m.Kind, D.int .i64 m.From, D.int .i64 m.To, D.int .i64 m.Epoch, D.int .i64 m.Ballot, D.int .i64 m.Accepted, D.int .i64 m.Nonce, D.int .i64 m.Time, D.int .u64 m.Up, D.int .i64 m.Code, D.bool m.HasPlan, D.int .i64 m.Plan.Epoch, D.int .i64 m.Plan.Target, D.int .i64 m.Plan.Prev, D.int .i64 m.Plan.Spill, D.int .i64 m.Plan.Percent, D.int .i64 m.Plan.Stamp, D.int .i64 m.Plan.Since, D.int .i64 m.Plan.Ramped, D.int .u64 m.Plan.Up, D.int .u64 m.Plan.Sup, D.sl false 1 (List.map (eInt .i64) m.Plan.Pen), D.sl false 1 (List.map (eInt .i64) m.Plan.Changes), D.sl false 1 (List.map (eInt .i64) id_), D.sl false 1 (List.map (eInt .u8) s_), D.sl false 1 (List.map (eInt .u8) p_)], D.int .i64 0]) (s := []) (by kernel_rfl) Cx.fin_of ⟨rfl, rfl⟩
noncomputable def ref05_Of_2M (b : List Int) (next : Int) (t87 : Bool) (b0 : Msg) (m : Msg) (p_ : Plan) : M := { td := [It.code (codeAt (bodyOf Tryd.f19) [1, 1, 1, 1, 0, 1, 0, 1, 1, 0, 1]), It.code (codeAt (bodyOf Tryd.f19) [1, 1, 1, 1, 0, 1, 0, 1, 1, 1]), It.code (codeAt (bodyOf Tryd.f19) [1, 1, 1, 1, 1])], fr := [(1, D.sl false 1 (List.map (eInt .u8) b)), (4, D.ptr 0 0 0), (9, D.ptr 1 0 0), (11, D.int .i64 next), (13, D.ptr 2 0 0), (87, D.bool t87)], st := [some { sz := 26, deep := false, rows := [(Msg.enc b0)] }, some { sz := 26, deep := false, rows := [(Msg.enc m)] }, some { sz := 12, deep := false, rows := [(Plan.enc p_)] }] }
noncomputable def ref05_Of_2 (b : List Int) (next : Int) (t87 : Bool) (b0 : Msg) (m : Msg) (p_ : Plan) : Option (Msg × Int) := (bif t87 then (some ((⟨0, 0, 0, 0, 0, 0, 0, 0, 0, 0, false, (⟨0, 0, 0, 0, 0, 0, 0, 0, 0, 0, [], []⟩ : Plan), [], [], []⟩ : Msg), 51)) else ((ref01_Ints b next).bind fun y2 => (bif ((y2.2.2 : Int) != 0) then (some ((⟨0, 0, 0, 0, 0, 0, 0, 0, 0, 0, false, (⟨0, 0, 0, 0, 0, 0, 0, 0, 0, 0, [], []⟩ : Plan), [], [], []⟩ : Msg), 51)) else ((ref01_Text b y2.2.1).bind fun y4 => (bif ((y4.2.2 : Int) != 0) then (some ((⟨0, 0, 0, 0, 0, 0, 0, 0, 0, 0, false, (⟨0, 0, 0, 0, 0, 0, 0, 0, 0, 0, [], []⟩ : Plan), [], [], []⟩ : Msg), 51)) else ((ref01_Text b y4.2.1).bind fun y6 => (bif ((y6.2.2 : Int) != 0) then (ref05_Of_3 y2.1 y4.1 y6.1 true b0 (⟨m.Kind, m.From, m.To, m.Epoch, m.Ballot, m.Accepted, m.Nonce, m.Time, m.Up, m.Code, m.HasPlan, p_, m.ID, m.Session, m.Payload⟩ : Msg)) else (ref05_Of_3 y2.1 y4.1 y6.1 ((y6.2.1 : Int) != (((List.map (eInt .u8) b).length : Nat) : Int)) b0 (⟨m.Kind, m.From, m.To, m.Epoch, m.Ballot, m.Accepted, m.Nonce, m.Time, m.Up, m.Code, m.HasPlan, p_, m.ID, m.Session, m.Payload⟩ : Msg)))))))))
theorem ref05_Of_2_ok {b : List Int} {next : Int} {t87 : Bool} {b0 : Msg} {m : Msg} {p_ : Plan} {r : Msg × Int} (h : ref05_Of_2 b next t87 b0 m p_ = some r) : FinQ E (Cx.of Tryd.f19 false 0) (QW (ref05_Of_Q r)) (.go (ref05_Of_2M b next t87 b0 m p_)) := by
  unfold ref05_Of_2 at h
  refine adv_ok hm 1 _ ?_
  refine p_split h (by kernel_rfl) (fun h1 h => ?_) (fun h1 h => ?_)
  · -- true
    refine adv_ok hm 10 _ ?_
    obtain rfl := Option.some.inj h
    exact r_retF [.slot 0 [some 1, some 1, some 1, some 1, some 1]] (d := D.tup [D.agg [D.int .i64 0, D.int .i64 0, D.int .i64 0, D.int .i64 0, D.int .i64 0, D.int .i64 0, D.int .i64 0, D.int .i64 0, D.int .u64 0, D.int .i64 0, D.bool false, D.int .i64 0, D.int .i64 0, D.int .i64 0, D.int .i64 0, D.int .i64 0, D.int .i64 0, D.int .i64 0, D.int .i64 0, D.int .u64 0, D.int .u64 0, D.sl false 1 [], D.sl false 1 [], D.sl false 1 [], D.sl false 1 [], D.sl false 1 []], D.int .i64 51]) (s := []) (by kernel_rfl) Cx.fin_of ⟨rfl, rfl⟩
  · -- false
    refine adv_ok hm 19 _ ?_
    have ok2 := fun (y : (List Int) × Int × Int) (hy : ref01_Ints b next = some y) => ref01_Ints_ok hy
    refine p_callR [] h (by kernel_rfl) ok2 (fun y2 h2 h => ?_)
    refine adv_ok hm 15 _ ?_
    refine p_split h (by kernel_rfl) (fun h3 h => ?_) (fun h3 h => ?_)
    · -- true
      refine adv_ok hm 10 _ ?_
      obtain rfl := Option.some.inj h
      exact r_retF [.slot 0 [some 1, some 1, some 1, some 1, some 1]] (d := D.tup [D.agg [D.int .i64 0, D.int .i64 0, D.int .i64 0, D.int .i64 0, D.int .i64 0, D.int .i64 0, D.int .i64 0, D.int .i64 0, D.int .u64 0, D.int .i64 0, D.bool false, D.int .i64 0, D.int .i64 0, D.int .i64 0, D.int .i64 0, D.int .i64 0, D.int .i64 0, D.int .i64 0, D.int .i64 0, D.int .u64 0, D.int .u64 0, D.sl false 1 [], D.sl false 1 [], D.sl false 1 [], D.sl false 1 [], D.sl false 1 []], D.int .i64 51]) (s := []) (by kernel_rfl) Cx.fin_of ⟨rfl, rfl⟩
    · -- false
      refine adv_ok hm 6 _ ?_
      have ok4 := fun (y : (List Int) × Int × Int) (hy : ref01_Text b y2.2.1 = some y) => ref01_Text_ok hy
      refine p_callR [] h (by kernel_rfl) ok4 (fun y4 h4 h => ?_)
      refine adv_ok hm 15 _ ?_
      refine p_split h (by kernel_rfl) (fun h5 h => ?_) (fun h5 h => ?_)
      · -- true
        refine adv_ok hm 10 _ ?_
        obtain rfl := Option.some.inj h
        exact r_retF [.slot 0 [some 1, some 1, some 1, some 1, some 1]] (d := D.tup [D.agg [D.int .i64 0, D.int .i64 0, D.int .i64 0, D.int .i64 0, D.int .i64 0, D.int .i64 0, D.int .i64 0, D.int .i64 0, D.int .u64 0, D.int .i64 0, D.bool false, D.int .i64 0, D.int .i64 0, D.int .i64 0, D.int .i64 0, D.int .i64 0, D.int .i64 0, D.int .i64 0, D.int .i64 0, D.int .u64 0, D.int .u64 0, D.sl false 1 [], D.sl false 1 [], D.sl false 1 [], D.sl false 1 [], D.sl false 1 []], D.int .i64 51]) (s := []) (by kernel_rfl) Cx.fin_of ⟨rfl, rfl⟩
      · -- false
        refine adv_ok hm 6 _ ?_
        have ok6 := fun (y : (List Int) × Int × Int) (hy : ref01_Text b y4.2.1 = some y) => ref01_Text_ok hy
        refine p_callR [] h (by kernel_rfl) ok6 (fun y6 h6 h => ?_)
        refine adv_ok hm 15 _ ?_
        refine p_split h (by kernel_rfl) (fun h7 h => ?_) (fun h7 h => ?_)
        · -- true
          refine adv_ok hm 9 _ ?_
          exact r_cut 85070591730234615865843651857942282768 [] (m' := (ref05_Of_3M y2.1 y4.1 y6.1 true b0 (⟨m.Kind, m.From, m.To, m.Epoch, m.Ballot, m.Accepted, m.Nonce, m.Time, m.Up, m.Code, m.HasPlan, p_, m.ID, m.Session, m.Payload⟩ : Msg))) (by kernel_rfl) (ref05_Of_3_ok h)
        · -- false
          refine adv_ok hm 9 _ ?_
          exact r_cut 85070591730234615865843651857942282768 [] (m' := (ref05_Of_3M y2.1 y4.1 y6.1 ((y6.2.1 : Int) != (((List.map (eInt .u8) b).length : Nat) : Int)) b0 (⟨m.Kind, m.From, m.To, m.Epoch, m.Ballot, m.Accepted, m.Nonce, m.Time, m.Up, m.Code, m.HasPlan, p_, m.ID, m.Session, m.Payload⟩ : Msg))) (by kernel_rfl) (ref05_Of_3_ok h)
noncomputable def ref05_Of_1M (kind : Int) (b : List Int) (l_ : List Int) (at_ : Int) (t31 : Bool) (b0 : Msg) : M := { td := [It.code (codeAt (bodyOf Tryd.f19) [1, 1, 0, 1]), It.code (codeAt (bodyOf Tryd.f19) [1, 1, 1])], fr := [(0, D.int .u8 kind), (1, D.sl false 1 (List.map (eInt .u8) b)), (4, D.ptr 0 0 0), (6, D.sl false 1 (List.map (eInt .i64) l_)), (7, D.int .i64 at_), (31, D.bool t31)], st := [some { sz := 26, deep := false, rows := [(Msg.enc b0)] }] }
noncomputable def ref05_Of_1 (kind : Int) (b : List Int) (l_ : List Int) (at_ : Int) (t31 : Bool) (b0 : Msg) : Option (Msg × Int) := (bif t31 then (some ((⟨0, 0, 0, 0, 0, 0, 0, 0, 0, 0, false, (⟨0, 0, 0, 0, 0, 0, 0, 0, 0, 0, [], []⟩ : Plan), [], [], []⟩ : Msg), 51)) else (bif (decide ((0 : Int) < (((List.map (eInt .i64) l_).length : Nat) : Int))) then (((l_)[0]?).bind fun y3 => (bif (decide ((1 : Int) < (((List.map (eInt .i64) l_).length : Nat) : Int))) then (((l_)[1]?).bind fun y6 => (bif (decide ((2 : Int) < (((List.map (eInt .i64) l_).length : Nat) : Int))) then (((l_)[2]?).bind fun y9 => (bif (decide ((3 : Int) < (((List.map (eInt .i64) l_).length : Nat) : Int))) then (((l_)[3]?).bind fun y12 => (bif (decide ((4 : Int) < (((List.map (eInt .i64) l_).length : Nat) : Int))) then (((l_)[4]?).bind fun y15 => (bif (decide ((5 : Int) < (((List.map (eInt .i64) l_).length : Nat) : Int))) then (((l_)[5]?).bind fun y18 => (bif (decide ((6 : Int) < (((List.map (eInt .i64) l_).length : Nat) : Int))) then (((l_)[6]?).bind fun y21 => (bif (decide ((7 : Int) < (((List.map (eInt .i64) l_).length : Nat) : Int))) then (((l_)[7]?).bind fun y24 => (bif (decide ((8 : Int) < (((List.map (eInt .i64) l_).length : Nat) : Int))) then (((l_)[8]?).bind fun y27 => (bif (decide ((9 : Int) < (((List.map (eInt .i64) l_).length : Nat) : Int))) then (((l_)[9]?).bind fun y30 => (bif ((y30 : Int) == 1) then ((ref01_Text b at_).bind fun y33 => ((ref04_Get y33.1).bind fun y34 => (bif ((y33.2.2 : Int) != 0) then (ref05_Of_2 b y33.2.1 true b0 (⟨(IntKind.i64.wrap (kind)), y3, y6, y9, y12, y15, y18, y21, (IntKind.u64.wrap (y24)), y27, ((y30 : Int) == 1), (⟨0, 0, 0, 0, 0, 0, 0, 0, 0, 0, [], []⟩ : Plan), [], [], []⟩ : Msg) y34.1) else (ref05_Of_2 b y33.2.1 ((y34.2 : Int) != 0) b0 (⟨(IntKind.i64.wrap (kind)), y3, y6, y9, y12, y15, y18, y21, (IntKind.u64.wrap (y24)), y27, ((y30 : Int) == 1), (⟨0, 0, 0, 0, 0, 0, 0, 0, 0, 0, [], []⟩ : Plan), [], [], []⟩ : Msg) y34.1)))) else ((ref01_Ints b at_).bind fun y36 => (bif ((y36.2.2 : Int) != 0) then (some ((⟨0, 0, 0, 0, 0, 0, 0, 0, 0, 0, false, (⟨0, 0, 0, 0, 0, 0, 0, 0, 0, 0, [], []⟩ : Plan), [], [], []⟩ : Msg), 51)) else ((ref01_Text b y36.2.1).bind fun y38 => (bif ((y38.2.2 : Int) != 0) then (some ((⟨0, 0, 0, 0, 0, 0, 0, 0, 0, 0, false, (⟨0, 0, 0, 0, 0, 0, 0, 0, 0, 0, [], []⟩ : Plan), [], [], []⟩ : Msg), 51)) else ((ref01_Text b y38.2.1).bind fun y40 => (bif ((y40.2.2 : Int) != 0) then (ref05_Of_3 y36.1 y38.1 y40.1 true b0 (⟨(IntKind.i64.wrap (kind)), y3, y6, y9, y12, y15, y18, y21, (IntKind.u64.wrap (y24)), y27, ((y30 : Int) == 1), (⟨0, 0, 0, 0, 0, 0, 0, 0, 0, 0, [], []⟩ : Plan), [], [], []⟩ : Msg)) else (ref05_Of_3 y36.1 y38.1 y40.1 ((y40.2.1 : Int) != (((List.map (eInt .u8) b).length : Nat) : Int)) b0 (⟨(IntKind.i64.wrap (kind)), y3, y6, y9, y12, y15, y18, y21, (IntKind.u64.wrap (y24)), y27, ((y30 : Int) == 1), (⟨0, 0, 0, 0, 0, 0, 0, 0, 0, 0, [], []⟩ : Plan), [], [], []⟩ : Msg)))))))))) else none)) else none)) else none)) else none)) else none)) else none)) else none)) else none)) else none)) else none))
theorem ref05_Of_1_ok {kind : Int} {b : List Int} {l_ : List Int} {at_ : Int} {t31 : Bool} {b0 : Msg} {r : Msg × Int} (h : ref05_Of_1 kind b l_ at_ t31 b0 = some r) : FinQ E (Cx.of Tryd.f19 false 0) (QW (ref05_Of_Q r)) (.go (ref05_Of_1M kind b l_ at_ t31 b0)) := by
  unfold ref05_Of_1 at h
  refine adv_ok hm 1 _ ?_
  refine p_split h (by kernel_rfl) (fun h1 h => ?_) (fun h1 h => ?_)
  · -- true
    refine adv_ok hm 10 _ ?_
    obtain rfl := Option.some.inj h
    exact r_retF [.slot 0 [some 1, some 1, some 1, some 1, some 1]] (d := D.tup [D.agg [D.int .i64 0, D.int .i64 0, D.int .i64 0, D.int .i64 0, D.int .i64 0, D.int .i64 0, D.int .i64 0, D.int .i64 0, D.int .u64 0, D.int .i64 0, D.bool false, D.int .i64 0, D.int .i64 0, D.int .i64 0, D.int .i64 0, D.int .i64 0, D.int .i64 0, D.int .i64 0, D.int .i64 0, D.int .u64 0, D.int .u64 0, D.sl false 1 [], D.sl false 1 [], D.sl false 1 [], D.sl false 1 [], D.sl false 1 []], D.int .i64 51]) (s := []) (by kernel_rfl) Cx.fin_of ⟨rfl, rfl⟩
  · -- false
    refine adv_ok hm 3 _ ?_
    refine p_need h (by kernel_rfl) (fun h2 h => ?_)
    refine p_row (((List.map (eInt .i64) l_))[0]?) (eInt .i64) h (by kernel_rfl) List.getElem?_map (fun y3 h4 h => ?_)
    refine p_need h (by kernel_rfl) (fun h5 h => ?_)
    refine p_row (((List.map (eInt .i64) l_))[1]?) (eInt .i64) h (by kernel_rfl) List.getElem?_map (fun y6 h7 h => ?_)
    refine p_need h (by kernel_rfl) (fun h8 h => ?_)
    refine p_row (((List.map (eInt .i64) l_))[2]?) (eInt .i64) h (by kernel_rfl) List.getElem?_map (fun y9 h10 h => ?_)
    refine p_need h (by kernel_rfl) (fun h11 h => ?_)
    refine p_row (((List.map (eInt .i64) l_))[3]?) (eInt .i64) h (by kernel_rfl) List.getElem?_map (fun y12 h13 h => ?_)
    refine p_need h (by kernel_rfl) (fun h14 h => ?_)
    refine p_row (((List.map (eInt .i64) l_))[4]?) (eInt .i64) h (by kernel_rfl) List.getElem?_map (fun y15 h16 h => ?_)
    refine p_need h (by kernel_rfl) (fun h17 h => ?_)
    refine p_row (((List.map (eInt .i64) l_))[5]?) (eInt .i64) h (by kernel_rfl) List.getElem?_map (fun y18 h19 h => ?_)
    refine p_need h (by kernel_rfl) (fun h20 h => ?_)
    refine p_row (((List.map (eInt .i64) l_))[6]?) (eInt .i64) h (by kernel_rfl) List.getElem?_map (fun y21 h22 h => ?_)
    refine p_need h (by kernel_rfl) (fun h23 h => ?_)
    refine p_row (((List.map (eInt .i64) l_))[7]?) (eInt .i64) h (by kernel_rfl) List.getElem?_map (fun y24 h25 h => ?_)
    refine p_need h (by kernel_rfl) (fun h26 h => ?_)
    refine p_row (((List.map (eInt .i64) l_))[8]?) (eInt .i64) h (by kernel_rfl) List.getElem?_map (fun y27 h28 h => ?_)
    refine p_need h (by kernel_rfl) (fun h29 h => ?_)
    refine p_row (((List.map (eInt .i64) l_))[9]?) (eInt .i64) h (by kernel_rfl) List.getElem?_map (fun y30 h31 h => ?_)
    refine adv_ok hm 10 _ ?_
    refine p_split h (by kernel_rfl) (fun h32 h => ?_) (fun h32 h => ?_)
    · -- true
      refine adv_ok hm 5 _ ?_
      have ok33 := fun (y : (List Int) × Int × Int) (hy : ref01_Text b at_ = some y) => ref01_Text_ok hy
      refine p_callR [] h (by kernel_rfl) ok33 (fun y33 h33 h => ?_)
      refine adv_ok hm 12 _ ?_
      have ok34 := fun (y : Plan × Int) (hy : ref04_Get y33.1 = some y) => ref04_Get_ok hy
      refine p_callR [] h (by kernel_rfl) ok34 (fun y34 h34 h => ?_)
      refine adv_ok hm 16 _ ?_
      refine p_split h (by kernel_rfl) (fun h35 h => ?_) (fun h35 h => ?_)
      · -- true
        refine adv_ok hm 5 _ ?_
        exact r_cut 154742504910672534362401298 [.blk 1 [some 1, some 1, some 1, some 1, some 1]] (m' := (ref05_Of_2M b y33.2.1 true b0 (⟨(IntKind.i64.wrap (kind)), y3, y6, y9, y12, y15, y18, y21, (IntKind.u64.wrap (y24)), y27, ((y30 : Int) == 1), (⟨0, 0, 0, 0, 0, 0, 0, 0, 0, 0, [], []⟩ : Plan), [], [], []⟩ : Msg) y34.1)) (by kernel_rfl) (ref05_Of_2_ok h)
      · -- false
        refine adv_ok hm 5 _ ?_
        exact r_cut 154742504910672534362401298 [.blk 1 [some 1, some 1, some 1, some 1, some 1]] (m' := (ref05_Of_2M b y33.2.1 ((y34.2 : Int) != 0) b0 (⟨(IntKind.i64.wrap (kind)), y3, y6, y9, y12, y15, y18, y21, (IntKind.u64.wrap (y24)), y27, ((y30 : Int) == 1), (⟨0, 0, 0, 0, 0, 0, 0, 0, 0, 0, [], []⟩ : Plan), [], [], []⟩ : Msg) y34.1)) (by kernel_rfl) (ref05_Of_2_ok h)
    · -- false
      refine adv_ok hm 6 _ ?_
      have ok36 := fun (y : (List Int) × Int × Int) (hy : ref01_Ints b at_ = some y) => ref01_Ints_ok hy
      refine p_callR [] h (by kernel_rfl) ok36 (fun y36 h36 h => ?_)
      refine adv_ok hm 15 _ ?_
      refine p_split h (by kernel_rfl) (fun h37 h => ?_) (fun h37 h => ?_)
      · -- true
        refine adv_ok hm 10 _ ?_
        obtain rfl := Option.some.inj h
        exact r_retF [.slot 0 [some 1, some 1, some 1, some 1, some 1]] (d := D.tup [D.agg [D.int .i64 0, D.int .i64 0, D.int .i64 0, D.int .i64 0, D.int .i64 0, D.int .i64 0, D.int .i64 0, D.int .i64 0, D.int .u64 0, D.int .i64 0, D.bool false, D.int .i64 0, D.int .i64 0, D.int .i64 0, D.int .i64 0, D.int .i64 0, D.int .i64 0, D.int .i64 0, D.int .i64 0, D.int .u64 0, D.int .u64 0, D.sl false 1 [], D.sl false 1 [], D.sl false 1 [], D.sl false 1 [], D.sl false 1 []], D.int .i64 51]) (s := []) (by kernel_rfl) Cx.fin_of ⟨rfl, rfl⟩
      · -- false
        refine adv_ok hm 6 _ ?_
        have ok38 := fun (y : (List Int) × Int × Int) (hy : ref01_Text b y36.2.1 = some y) => ref01_Text_ok hy
        refine p_callR [] h (by kernel_rfl) ok38 (fun y38 h38 h => ?_)
        refine adv_ok hm 15 _ ?_
        refine p_split h (by kernel_rfl) (fun h39 h => ?_) (fun h39 h => ?_)
        · -- true
          refine adv_ok hm 10 _ ?_
          obtain rfl := Option.some.inj h
          exact r_retF [.slot 0 [some 1, some 1, some 1, some 1, some 1]] (d := D.tup [D.agg [D.int .i64 0, D.int .i64 0, D.int .i64 0, D.int .i64 0, D.int .i64 0, D.int .i64 0, D.int .i64 0, D.int .i64 0, D.int .u64 0, D.int .i64 0, D.bool false, D.int .i64 0, D.int .i64 0, D.int .i64 0, D.int .i64 0, D.int .i64 0, D.int .i64 0, D.int .i64 0, D.int .i64 0, D.int .u64 0, D.int .u64 0, D.sl false 1 [], D.sl false 1 [], D.sl false 1 [], D.sl false 1 [], D.sl false 1 []], D.int .i64 51]) (s := []) (by kernel_rfl) Cx.fin_of ⟨rfl, rfl⟩
        · -- false
          refine adv_ok hm 6 _ ?_
          have ok40 := fun (y : (List Int) × Int × Int) (hy : ref01_Text b y38.2.1 = some y) => ref01_Text_ok hy
          refine p_callR [] h (by kernel_rfl) ok40 (fun y40 h40 h => ?_)
          refine adv_ok hm 15 _ ?_
          refine p_split h (by kernel_rfl) (fun h41 h => ?_) (fun h41 h => ?_)
          · -- true
            refine adv_ok hm 9 _ ?_
            exact r_cut 85070591730234615865843651857942282768 [.blk 1 [some 1, some 1, some 1, some 1, some 1]] (m' := (ref05_Of_3M y36.1 y38.1 y40.1 true b0 (⟨(IntKind.i64.wrap (kind)), y3, y6, y9, y12, y15, y18, y21, (IntKind.u64.wrap (y24)), y27, ((y30 : Int) == 1), (⟨0, 0, 0, 0, 0, 0, 0, 0, 0, 0, [], []⟩ : Plan), [], [], []⟩ : Msg))) (by kernel_rfl) (ref05_Of_3_ok h)
          · -- false
            refine adv_ok hm 9 _ ?_
            exact r_cut 85070591730234615865843651857942282768 [.blk 1 [some 1, some 1, some 1, some 1, some 1]] (m' := (ref05_Of_3M y36.1 y38.1 y40.1 ((y40.2.1 : Int) != (((List.map (eInt .u8) b).length : Nat) : Int)) b0 (⟨(IntKind.i64.wrap (kind)), y3, y6, y9, y12, y15, y18, y21, (IntKind.u64.wrap (y24)), y27, ((y30 : Int) == 1), (⟨0, 0, 0, 0, 0, 0, 0, 0, 0, 0, [], []⟩ : Plan), [], [], []⟩ : Msg))) (by kernel_rfl) (ref05_Of_3_ok h)
noncomputable def ref05_Of (kind : Int) (b : List Int) : Option (Msg × Int) := ((ref01_Ints b 0).bind fun y1 => (bif ((y1.2.2 : Int) != 0) then (ref05_Of_1 kind b y1.1 y1.2.1 true (⟨0, 0, 0, 0, 0, 0, 0, 0, 0, 0, false, (⟨0, 0, 0, 0, 0, 0, 0, 0, 0, 0, [], []⟩ : Plan), [], [], []⟩ : Msg)) else ((ref05_plain y1.1).bind fun y3 => (ref05_Of_1 kind b y1.1 y1.2.1 (!y3) (⟨0, 0, 0, 0, 0, 0, 0, 0, 0, 0, false, (⟨0, 0, 0, 0, 0, 0, 0, 0, 0, 0, [], []⟩ : Plan), [], [], []⟩ : Msg)))))
theorem ref05_Of_ok {kind : Int} {b : List Int} {r : Msg × Int} (h : ref05_Of kind b = some r) : Sound E 19 [D.int .u8 kind, D.sl false 1 (List.map (eInt .u8) b)] [] (ref05_Of_Q r) := by
  refine sound_ofW (m := ⟨[.code (bodyOf Tryd.f19)], [(0, D.int .u8 kind), (1, D.sl false 1 (List.map (eInt .u8) b))], []⟩) (fn := Tryd.f19) (by kernel_rfl) (by kernel_rfl) ?_
  show FinQ E (Cx.of Tryd.f19 false 0) (QW (ref05_Of_Q r)) _
  unfold ref05_Of at h
  refine adv_ok hm 9 _ ?_
  have ok1 := fun (y : (List Int) × Int × Int) (hy : ref01_Ints b 0 = some y) => ref01_Ints_ok hy
  refine p_callR [] h (by kernel_rfl) ok1 (fun y1 h1 h => ?_)
  refine adv_ok hm 15 _ ?_
  refine p_split h (by kernel_rfl) (fun h2 h => ?_) (fun h2 h => ?_)
  · -- true
    refine adv_ok hm 7 _ ?_
    exact r_cut 2147483859 [.blk 0 [some 1, some 1, some 1, some 1, some 1]] (m' := (ref05_Of_1M kind b y1.1 y1.2.1 true (⟨0, 0, 0, 0, 0, 0, 0, 0, 0, 0, false, (⟨0, 0, 0, 0, 0, 0, 0, 0, 0, 0, [], []⟩ : Plan), [], [], []⟩ : Msg))) (by kernel_rfl) (ref05_Of_1_ok h)
  · -- false
    refine adv_ok hm 2 _ ?_
    have ok3 := fun (y : Bool) (hy : ref05_plain y1.1 = some y) => ref05_plain_ok hy
    refine p_callR [] h (by kernel_rfl) ok3 (fun y3 h3 h => ?_)
    refine adv_ok hm 5 _ ?_
    exact r_cut 2147483859 [.blk 0 [some 1, some 1, some 1, some 1, some 1]] (m' := (ref05_Of_1M kind b y1.1 y1.2.1 (!y3) (⟨0, 0, 0, 0, 0, 0, 0, 0, 0, 0, false, (⟨0, 0, 0, 0, 0, 0, 0, 0, 0, 0, [], []⟩ : Plan), [], [], []⟩ : Msg))) (by kernel_rfl) (ref05_Of_1_ok h)
end Go.RX.L

set_option linter.unusedSimpArgs false
set_option linter.unusedVariables false
set_option maxRecDepth 100000
set_option maxHeartbeats 4000000
namespace Go.RX.L
open Go Go.RX Go.Proofs
attribute [local irreducible] FinQ
def ref05_Get_Q (y : Msg × Int) (d : D) (s : Sto) : Prop := d = D.tup [D.agg (Msg.enc y.1), D.int .i64 y.2] ∧ s = []
noncomputable def ref05_Get (b : List Int) : Option (Msg × Int) := ((ref03_Get b 0).bind fun y1 => (bif ((y1.2.2.2 : Int) != 0) then (some ((⟨0, 0, 0, 0, 0, 0, 0, 0, 0, 0, false, (⟨0, 0, 0, 0, 0, 0, 0, 0, 0, 0, [], []⟩ : Plan), [], [], []⟩ : Msg), y1.2.2.2)) else (bif ((y1.2.2.1 : Int) != (((List.map (eInt .u8) b).length : Nat) : Int)) then (some ((⟨0, 0, 0, 0, 0, 0, 0, 0, 0, 0, false, (⟨0, 0, 0, 0, 0, 0, 0, 0, 0, 0, [], []⟩ : Plan), [], [], []⟩ : Msg), 51)) else ((ref05_Of y1.1 y1.2.1).bind fun y4 => (some (y4.1, y4.2))))))
theorem ref05_Get_ok {b : List Int} {r : Msg × Int} (h : ref05_Get b = some r) : Sound E 17 [D.sl false 1 (List.map (eInt .u8) b)] [] (ref05_Get_Q r) := by
  refine sound_ofW (m := ⟨[.code (bodyOf Tryd.f17)], [(0, D.sl false 1 (List.map (eInt .u8) b))], []⟩) (fn := Tryd.f17) (by kernel_rfl) (by kernel_rfl) ?_
  show FinQ E (Cx.of Tryd.f17 false 0) (QW (ref05_Get_Q r)) _
  unfold ref05_Get at h
  refine adv_ok hm 9 _ ?_
  have ok1 := fun (y : Int × (List Int) × Int × Int) (hy : ref03_Get b 0 = some y) => ref03_Get_ok hy
  refine p_callR [] h (by kernel_rfl) ok1 (fun y1 h1 h => ?_)
  refine adv_ok hm 17 _ ?_
  refine p_split h (by kernel_rfl) (fun h2 h => ?_) (fun h2 h => ?_)
  · -- true
    refine adv_ok hm 11 _ ?_
    obtain rfl := Option.some.inj h
    exact r_retF [.slot 0 [some 1, some 1, some 1, some 1, some 1]] (d := D.tup [D.agg [D.int .i64 0, D.int .i64 0, D.int .i64 0, D.int .i64 0, D.int .i64 0, D.int .i64 0, D.int .i64 0, D.int .i64 0, D.int .u64 0, D.int .i64 0, D.bool false, D.int .i64 0, D.int .i64 0, D.int .i64 0, D.int .i64 0, D.int .i64 0, D.int .i64 0, D.int .i64 0, D.int .i64 0, D.int .u64 0, D.int .u64 0, D.sl false 1 [], D.sl false 1 [], D.sl false 1 [], D.sl false 1 [], D.sl false 1 []], D.int .i64 y1.2.2.2]) (s := []) (by kernel_rfl) Cx.fin_of ⟨rfl, rfl⟩
  · -- false
    refine adv_ok hm 10 _ ?_
    refine p_split h (by kernel_rfl) (fun h3 h => ?_) (fun h3 h => ?_)
    · -- true
      refine adv_ok hm 10 _ ?_
      obtain rfl := Option.some.inj h
      exact r_retF [.slot 0 [some 1, some 1, some 1, some 1, some 1]] (d := D.tup [D.agg [D.int .i64 0, D.int .i64 0, D.int .i64 0, D.int .i64 0, D.int .i64 0, D.int .i64 0, D.int .i64 0, D.int .i64 0, D.int .u64 0, D.int .i64 0, D.bool false, D.int .i64 0, D.int .i64 0, D.int .i64 0, D.int .i64 0, D.int .i64 0, D.int .i64 0, D.int .i64 0, D.int .i64 0, D.int .u64 0, D.int .u64 0, D.sl false 1 [], D.sl false 1 [], D.sl false 1 [], D.sl false 1 [], D.sl false 1 []], D.int .i64 51]) (s := []) (by kernel_rfl) Cx.fin_of ⟨rfl, rfl⟩
    · -- false
      refine adv_ok hm 6 _ ?_
      have ok4 := fun (y : Msg × Int) (hy : ref05_Of y1.1 y1.2.1 = some y) => ref05_Of_ok hy
      refine p_callR [] h (by kernel_rfl) ok4 (fun y4 h4 h => ?_)
      refine adv_ok hm 9 _ ?_
      obtain rfl := Option.some.inj h
      exact r_retF [] (d := D.tup [D.agg (Msg.enc y4.1), D.int .i64 y4.2]) (s := []) (by kernel_rfl) Cx.fin_of ⟨rfl, rfl⟩
end Go.RX.L

set_option linter.unusedSimpArgs false
set_option linter.unusedVariables false
set_option maxRecDepth 100000
namespace Go.RX.L
open Go Go.RX

def zeroM : Msg := ⟨0, 0, 0, 0, 0, 0, 0, 0, 0, 0, false, zeroPl, [], [], []⟩
def withT (m : Msg) (id s py : List Int) : Msg := ⟨m.Kind, m.From, m.To, m.Epoch, m.Ballot, m.Accepted, m.Nonce, m.Time, m.Up, m.Code, m.HasPlan, m.Plan, id, s, py⟩
def withP (m : Msg) (p : Plan) : Msg := ⟨m.Kind, m.From, m.To, m.Epoch, m.Ballot, m.Accepted, m.Nonce, m.Time, m.Up, m.Code, m.HasPlan, p, m.ID, m.Session, m.Payload⟩
def tailP (l : List Int) : Option (List Int × List Int × List Int) := match pL l with
  | .inl _ => none
  | .inr (id, k1) => (match pT (l.drop k1) with
    | .inl _ => none
    | .inr (s, k2) => (match pT (l.drop (k1 + k2)) with
      | .inl _ => none
      | .inr (py, k3) => if k1 + k2 + k3 = l.length then some (id, s, py) else none))
def ofTail (m : Msg) (l : List Int) : Msg × Int := match tailP l with
  | none => (zeroM, 51)
  | some (id, s, py) => if rightM (withT m id s py) = true then (withT m id s py, 0) else (zeroM, 51)

theorem tailP_1 {l : List Int} {e : Int} (h : pL l = .inl e) : tailP l = none := by simp only [tailP, h]
theorem tailP_2 {l id : List Int} {k1 : Nat} {e : Int} (h : pL l = .inr (id, k1)) (h2 : pT (l.drop k1) = .inl e) : tailP l = none := by simp only [tailP, h, h2]
theorem tailP_3 {l id s : List Int} {k1 k2 : Nat} {e : Int} (h : pL l = .inr (id, k1)) (h2 : pT (l.drop k1) = .inr (s, k2)) (h3 : pT (l.drop (k1 + k2)) = .inl e) : tailP l = none := by simp only [tailP, h, h2, h3]
theorem tailP_4 {l id s py : List Int} {k1 k2 k3 : Nat} (h : pL l = .inr (id, k1)) (h2 : pT (l.drop k1) = .inr (s, k2)) (h3 : pT (l.drop (k1 + k2)) = .inr (py, k3)) : tailP l = if k1 + k2 + k3 = l.length then some (id, s, py) else none := by simp only [tailP, h, h2, h3]

theorem rints_err (x e : Int) (b : List Int) (h : (e != 0) = true) : msg_reader_ints ⟨⟨x, e⟩, b⟩ = some ([], ⟨⟨x, e⟩, b⟩) := by simp only [msg_reader_ints, h, cond_true]
theorem rtext_err (x e : Int) (b : List Int) (h : (e != 0) = true) : msg_reader_text ⟨⟨x, e⟩, b⟩ = some ([], ⟨⟨x, e⟩, b⟩) := by simp only [msg_reader_text, h, cond_true]
theorem rd_ints {b : List Int} (hb : Bytes b) (hm : b.length ≤ memB) {at_ : Nat} (h : at_ ≤ b.length) : msg_reader_ints ⟨⟨at_, 0⟩, b⟩ = some ((rL at_ (pL (b.drop at_))).1, ⟨⟨(rL at_ (pL (b.drop at_))).2.1, (rL at_ (pL (b.drop at_))).2.2⟩, b⟩) := by
  simp only [msg_reader_ints, bne_self_eq_false, cond_false, ints_ok hb hm h, Option.bind_some]
theorem rd_text {b : List Int} (hb : Bytes b) (hm : b.length ≤ memB) {at_ : Nat} (h : at_ ≤ b.length) : msg_reader_text ⟨⟨at_, 0⟩, b⟩ = some ((rL at_ (pT (b.drop at_))).1, ⟨⟨(rL at_ (pT (b.drop at_))).2.1, (rL at_ (pT (b.drop at_))).2.2⟩, b⟩) := by
  simp only [msg_reader_text, bne_self_eq_false, cond_false, text_ok hb hm h, Option.bind_some]

theorem Shm.withT {m : Msg} (h : Shm m) (id s py : List Int) : Shm (withT m id s py) := ⟨h.s, h.up, h.sup⟩
theorem pTe {l : List Int} {e : Int} (h : pT l = .inl e) : (e != 0) = true := bne_iff_ne.2 (pT_err h)

theorem of3_ok {b : List Int} (hb : Bytes b) (hm : b.length ≤ memB) {at_ : Nat} (h : at_ ≤ b.length) (b0 : Msg) {m : Msg} (hs : Shm m) : msg_Of_3 b b0 ⟨⟨at_, 0⟩, b⟩ m = some (ofTail m (b.drop at_)) := by
  have bad : ∀ (z : Msg), msg_Of_2 true b0 z = some (zeroM, 51) := fun z => rfl
  simp only [msg_Of_3, rd_ints hb hm h, Option.bind_some]
  unfold ofTail
  cases h1 : pL (b.drop at_) with
  | inl e =>
    have he := pL_err h1
    rw [tailP_1 h1]
    simp only [rL, rtext_err _ _ _ he, Option.bind_some, he, cond_true, bad]
  | inr x =>
    obtain ⟨id, k1⟩ := x
    have l1 := rL_le hb h1
    have a1 : at_ + k1 ≤ b.length := by omega
    simp only [rL, rd_text hb hm a1, Option.bind_some]
    cases h2 : pT (b.drop (at_ + k1)) with
    | inl e =>
      have he := pTe h2
      rw [tailP_2 h1 (by rw [List.drop_drop]; exact h2)]
      simp only [rL, rtext_err _ _ _ he, Option.bind_some, he, cond_true, bad]
    | inr x =>
      obtain ⟨s, k2⟩ := x
      have l2 := (pT_dec (drop_in hb _) h2).2.1
      rw [List.length_drop] at l2
      have a2 : at_ + k1 + k2 ≤ b.length := by omega
      simp only [rL, rd_text hb hm a2, Option.bind_some]
      cases h3 : pT (b.drop (at_ + k1 + k2)) with
      | inl e =>
        have he := pTe h3
        rw [tailP_3 h1 (by rw [List.drop_drop]; exact h2) (by rw [List.drop_drop, ← Nat.add_assoc]; exact h3)]
        simp only [rL, he, cond_true, bad]
      | inr x =>
        obtain ⟨py, k3⟩ := x
        have l3 := (pT_dec (drop_in hb _) h3).2.1
        rw [List.length_drop] at l3
        rw [tailP_4 h1 (by rw [List.drop_drop]; exact h2) (by rw [List.drop_drop, ← Nat.add_assoc]; exact h3)]
        simp only [rL, bne_self_eq_false, cond_false, List.length_map, List.length_drop]
        by_cases hq : k1 + k2 + k3 = b.length - at_
        · have c1 : (((at_ + k1 + k2 + k3 : Nat) : Int) != ((b.length : Nat) : Int)) = false := by rw [show at_ + k1 + k2 + k3 = b.length by omega]; simp
          have hr := mright_ok (hs.withT id s py)
          rw [c1, if_pos hq]
          show (Option.bind (msg_Right (withT m id s py)) fun y6 => msg_Of_2 (!y6) b0 (withT m id s py)) = _
          rw [hr]
          simp only [Option.bind_some]
          cases hh : rightM (withT m id s py) <;> rfl
        · have c1 : (((at_ + k1 + k2 + k3 : Nat) : Int) != ((b.length : Nat) : Int)) = true := bne_iff_ne.2 (by omega)
          rw [c1, if_neg hq]
          exact bad (withT m id s py)

/-- What a message is, of numbers. -/
def baseM (k : Int) (l : List Int) (p : Plan) : Msg := ⟨k, l.getD 0 0, l.getD 1 0, l.getD 2 0, l.getD 3 0, l.getD 4 0, l.getD 5 0, l.getD 6 0, l.getD 7 0, l.getD 8 0, l.getD 9 0 == 1, p, [], [], []⟩
def wideM (l : List Int) : Prop := l.length = 10 ∧ 0 ≤ l.getD 0 0 ∧ l.getD 0 0 ≤ 255 ∧ 0 ≤ l.getD 1 0 ∧ l.getD 1 0 ≤ 255 ∧ 0 ≤ l.getD 7 0 ∧ l.getD 7 0 ≤ 65535 ∧ 0 ≤ l.getD 8 0 ∧ l.getD 8 0 ≤ 65535 ∧ 0 ≤ l.getD 9 0 ∧ l.getD 9 0 ≤ 1
instance (l : List Int) : Decidable (wideM l) := by unfold wideM; infer_instance
def ofRest (k : Int) (l b : List Int) : Msg × Int := if l.getD 9 0 = 1 then (match pT b with
    | .inl _ => (zeroM, 51)
    | .inr (t, j) => if (getP t).2 = 0 then ofTail (baseM k l (getP t).1) (b.drop j) else (zeroM, 51))
  else ofTail (baseM k l zeroPl) b
def ofM (k : Int) (b : List Int) : Msg × Int := match pL b with
  | .inl _ => (zeroM, 51)
  | .inr (l, n) => if wideM l then ofRest k l (b.drop n) else (zeroM, 51)

theorem shm_zero (k : Int) (l : List Int) : Shm (baseM k l zeroPl) := ⟨⟨by simp [baseM, zeroPl], by simp [baseM, zeroPl]⟩, inU64.2 (by simp [baseM, zeroPl]), inU64.2 (by simp [baseM, zeroPl])⟩
theorem shm_get {t : List Int} (ht : Bytes t) (h : (getP t).2 = 0) (k : Int) (l : List Int) : Shm (baseM k l (getP t).1) := by
  obtain ⟨h1, h2, h3⟩ := getP_dec ht (p := (getP t).1) (by rw [← h])
  have hr := rightP_iff.1 h1
  have a1 := h2.up
  have a2 := h2.sup
  have a3 := hr.up
  have a4 := hr.sup
  exact ⟨h2.s, (inU64.2 (by omega) : inK .u64 (getP t).1.Up), (inU64.2 (by omega) : inK .u64 (getP t).1.Sup)⟩
theorem pT_len {t l : List Int} {j : Nat} (hb : Bytes l) (h : pT l = .inr (t, j)) : t.length ≤ memB := by
  have := (pT_dec hb h).2.2.2.1
  simp only [memB]; omega

theorem of1_ok {k : Int} (hk : 0 ≤ k ∧ k ≤ 255) {b : List Int} (hb : Bytes b) (hm : b.length ≤ memB) {at_ : Nat} (h : at_ ≤ b.length) {l : List Int} (hl : wideM l) (b0 : Msg) : msg_Of_1 k b l false b0 ⟨⟨at_, 0⟩, b⟩ = some (ofRest k l (b.drop at_)) := by
  obtain ⟨hlen, hw⟩ := hl
  match l, hlen, hw with
  | [a0, a1, a2, a3, a4, a5, a6, a7, a8, a9], _, hw =>
    simp only [List.getD_cons_zero, List.getD_cons_succ] at hw
    have wk : IntKind.i64.wrap k = k := wI64 (by omega) (by omega)
    have wu : IntKind.u64.wrap a7 = a7 := wU64 (by omega) (by omega)
    have e : msg_Of_1 k b [a0, a1, a2, a3, a4, a5, a6, a7, a8, a9] false b0 ⟨⟨at_, 0⟩, b⟩ = (bif (a9 == 1) then ((msg_reader_text ⟨⟨at_, 0⟩, b⟩).bind fun y33 => ((plan_Get y33.1).bind fun y34 => (bif ((y34.2 : Int) != 0) then some (zeroM, 51) else
        msg_Of_3 b b0 y33.2 ⟨IntKind.i64.wrap k, a0, a1, a2, a3, a4, a5, a6, IntKind.u64.wrap a7, a8, a9 == 1, y34.1, [], [], []⟩))) else msg_Of_3 b b0 ⟨⟨at_, 0⟩, b⟩ ⟨IntKind.i64.wrap k, a0, a1, a2, a3, a4, a5, a6, IntKind.u64.wrap a7, a8, a9 == 1, zeroPl, [], [], []⟩) := rfl
    rw [e, wk, wu]
    unfold ofRest
    simp only [List.getD_cons_zero, List.getD_cons_succ]
    by_cases h9 : a9 = 1
    · have c9 : (a9 == 1) = true := beq_iff_eq.2 h9
      rw [if_pos h9]
      have hd : ∀ p, (⟨k, a0, a1, a2, a3, a4, a5, a6, a7, a8, a9 == 1, p, [], [], []⟩ : Msg) = baseM k [a0, a1, a2, a3, a4, a5, a6, a7, a8, a9] p := fun p => rfl
      simp only [hd]
      rw [c9, cond_true, rd_text hb hm h]
      simp only [Option.bind_some]
      cases h2 : pT (b.drop at_) with
      | inl e =>
        have he := pTe h2
        have g := get_ok (b := []) (fun c hc => by cases hc) (by simp)
        have g0 : getP [] = (zeroPl, 41) := by
          have : parse3 [] = none := by decide
          simp only [getP, this]
        simp only [rL, g, g0, Option.bind_some]
        rfl
      | inr x =>
        obtain ⟨s, j⟩ := x
        obtain ⟨d1, d2, d3, d4, d5⟩ := pT_dec (drop_in hb at_) h2
        rw [List.length_drop] at d2
        have g := get_ok d5 (pT_len (drop_in hb at_) h2)
        simp only [rL, g, Option.bind_some]
        by_cases hq : (getP s).2 = 0
        · rw [if_pos hq, show ((getP s).2 != 0) = false by rw [hq]; rfl, cond_false, of3_ok hb hm (by omega) b0 (shm_get d5 hq k _), List.drop_drop]
        · rw [if_neg hq, show ((getP s).2 != 0) = true from bne_iff_ne.2 hq, cond_true]
    · have c9 : (a9 == 1) = false := beq_eq_false_iff_ne.2 h9
      rw [if_neg h9]
      have hd : ∀ p, (⟨k, a0, a1, a2, a3, a4, a5, a6, a7, a8, a9 == 1, p, [], [], []⟩ : Msg) = baseM k [a0, a1, a2, a3, a4, a5, a6, a7, a8, a9] p := fun p => rfl
      simp only [hd]
      rw [c9, cond_false, of3_ok hb hm h b0 (shm_zero k _)]

theorem of_ok {k : Int} (hk : 0 ≤ k ∧ k ≤ 255) {b : List Int} (hb : Bytes b) (hm : b.length ≤ memB) : msg_Of k b = some (ofM k b) := by
  have bad : ∀ l b0 r, msg_Of_1 k b l true b0 r = some (zeroM, 51) := fun _ _ _ => rfl
  have hr := rd_ints hb hm (Nat.zero_le b.length)
  simp only [Int.natCast_zero, List.drop_zero] at hr
  unfold ofM
  cases h1 : pL b with
  | inl e =>
    have he := pL_err h1
    rw [h1] at hr
    simp only [msg_Of]
    rw [show (⟨⟨0, 0⟩, b⟩ : reader) = ⟨⟨((0 : Nat) : Int), 0⟩, b⟩ from rfl]
    rw [rd_ints hb hm (Nat.zero_le b.length), List.drop_zero, h1]
    simp only [rL, Option.bind_some, he, cond_true, bad]
  | inr x =>
    obtain ⟨l, n⟩ := x
    have hl := rL_le hb (at_ := 0) (b := b) h1
    simp only [msg_Of]
    rw [show (⟨⟨0, 0⟩, b⟩ : reader) = ⟨⟨((0 : Nat) : Int), 0⟩, b⟩ from rfl]
    rw [rd_ints hb hm (Nat.zero_le b.length), List.drop_zero, h1]
    simp only [rL, Option.bind_some, bne_self_eq_false, cond_false, List.length_map, Nat.zero_add]
    by_cases h10 : l.length = 10
    · rw [show (((l.length : Nat) : Int) != 10) = false by rw [h10]; rfl]
      have o1 : ∀ b0, wideM l → msg_Of_1 k b l false b0 ⟨⟨((n : Nat) : Int), 0⟩, b⟩ = some (ofRest k l (b.drop n)) := fun b0 hw => of1_ok hk hb hm (by omega) hw b0
      match l, h10, o1 with
      | [a0, a1, a2, a3, a4, a5, a6, a7, a8, a9], _, o1 =>
        have ew : wideM [a0, a1, a2, a3, a4, a5, a6, a7, a8, a9] ↔ 0 ≤ a0 ∧ a0 ≤ 255 ∧ 0 ≤ a1 ∧ a1 ≤ 255 ∧ 0 ≤ a7 ∧ a7 ≤ 65535 ∧ 0 ≤ a8 ∧ a8 ≤ 65535 ∧ 0 ≤ a9 ∧ a9 ≤ 1 := ⟨fun h => h.2, fun h => ⟨rfl, h⟩⟩
        show (bif decide (mnI (mnI (mnI (mnI a0 a1) a7) a8) a9 < 0) then msg_Of_1 k b [a0, a1, a2, a3, a4, a5, a6, a7, a8, a9] true _ _ else bif decide (mxI a0 a1 > 255) then msg_Of_1 k b [a0, a1, a2, a3, a4, a5, a6, a7, a8, a9] true _ _ else
          bif decide (mxI a7 a8 ≥ 65536) then msg_Of_1 k b [a0, a1, a2, a3, a4, a5, a6, a7, a8, a9] true _ _ else msg_Of_1 k b [a0, a1, a2, a3, a4, a5, a6, a7, a8, a9] (decide (a9 > 1)) _ _) = _
        have mn : mnI (mnI (mnI (mnI a0 a1) a7) a8) a9 < 0 ↔ a0 < 0 ∨ a1 < 0 ∨ a7 < 0 ∨ a8 < 0 ∨ a9 < 0 := by
          rw [show mnI (mnI (mnI (mnI a0 a1) a7) a8) a9 = mnI (mnI (mnI (mnI a0 a1) a7) a8) a9 from rfl, mn3_lt]
          constructor
          · rintro (h | h | h)
            · rw [mn3_lt] at h; omega
            · omega
            · omega
          · intro h
            rw [mn3_lt]; omega
        by_cases q1 : mnI (mnI (mnI (mnI a0 a1) a7) a8) a9 < 0
        · rw [decide_eq_true q1, cond_true, bad, if_neg (by rw [ew]; rw [mn] at q1; omega)]
        · rw [decide_eq_false q1, cond_false]
          by_cases q2 : mxI a0 a1 > 255
          · rw [decide_eq_true q2, cond_true, bad, if_neg (by rw [ew]; rw [mx_gt] at q2; omega)]
          · rw [decide_eq_false q2, cond_false]
            by_cases q3 : mxI a7 a8 ≥ 65536
            · rw [decide_eq_true q3, cond_true, bad, if_neg (by rw [ew]; rw [mx_ge] at q3; omega)]
            · rw [decide_eq_false q3, cond_false]
              by_cases q4 : a9 > 1
              · rw [decide_eq_true q4, bad, if_neg (by rw [ew]; omega)]
              · have hw : wideM [a0, a1, a2, a3, a4, a5, a6, a7, a8, a9] := by
                  rw [ew]; rw [mn] at q1; rw [mx_gt] at q2; rw [mx_ge] at q3; omega
                rw [decide_eq_false q4, o1 _ hw, if_pos hw]
    · rw [show (((l.length : Nat) : Int) != 10) = true from bne_iff_ne.2 (by omega), cond_true, bad, if_neg (fun h => h10 h.1)]
end Go.RX.L

set_option linter.unusedSimpArgs false
set_option linter.unusedVariables false
set_option maxRecDepth 100000
namespace Go.RX.L
open Go Go.RX

/-! ### the document's reader -/
theorem rof2_ok {b : List Int} (hb : Bytes b) (hm : b.length ≤ memB) {at_ : Nat} (h : at_ ≤ b.length) (b0 : Msg) {m : Msg} {p : Plan} (hs : Shm (withP m p)) : ref05_Of_2 b at_ false b0 m p = some (ofTail (withP m p) (b.drop at_)) := by
  have bad : ∀ (x y z : List Int) (m : Msg), ref05_Of_3 x y z true b0 m = some (zeroM, 51) := fun _ _ _ _ => rfl
  simp only [ref05_Of_2, cond_false, rints_ok hb hm h, Option.bind_some]
  unfold ofTail
  cases h1 : pL (b.drop at_) with
  | inl e =>
    have he := pL_err h1
    rw [tailP_1 h1]
    simp only [rL, he, cond_true]
    rfl
  | inr x =>
    obtain ⟨id, k1⟩ := x
    have l1 := rL_le hb h1
    have a1 : at_ + k1 ≤ b.length := by omega
    simp only [rL, bne_self_eq_false, cond_false, rtext_ok hb hm a1, Option.bind_some]
    cases h2 : pT (b.drop (at_ + k1)) with
    | inl e =>
      have he := pTe h2
      rw [tailP_2 h1 (by rw [List.drop_drop]; exact h2)]
      simp only [rL, he, cond_true]
      rfl
    | inr x =>
      obtain ⟨s, k2⟩ := x
      have l2 := (pT_dec (drop_in hb _) h2).2.1
      rw [List.length_drop] at l2
      have a2 : at_ + k1 + k2 ≤ b.length := by omega
      simp only [rL, bne_self_eq_false, cond_false, rtext_ok hb hm a2, Option.bind_some]
      cases h3 : pT (b.drop (at_ + k1 + k2)) with
      | inl e =>
        have he := pTe h3
        rw [tailP_3 h1 (by rw [List.drop_drop]; exact h2) (by rw [List.drop_drop, ← Nat.add_assoc]; exact h3)]
        simp only [rL, he, cond_true, bad]
      | inr x =>
        obtain ⟨py, k3⟩ := x
        have l3 := (pT_dec (drop_in hb _) h3).2.1
        rw [List.length_drop] at l3
        rw [tailP_4 h1 (by rw [List.drop_drop]; exact h2) (by rw [List.drop_drop, ← Nat.add_assoc]; exact h3)]
        simp only [rL, bne_self_eq_false, cond_false, List.length_map, List.length_drop]
        by_cases hq : k1 + k2 + k3 = b.length - at_
        · have c1 : (((at_ + k1 + k2 + k3 : Nat) : Int) != ((b.length : Nat) : Int)) = false := by rw [show at_ + k1 + k2 + k3 = b.length by omega]; simp
          have hr := rmright_ok (hs.withT id s py)
          rw [c1, if_pos hq]
          show (Option.bind (ref05_Right (withT (withP m p) id s py)) fun y2 => bif (!y2) then some (zeroM, 51) else some (withT (withP m p) id s py, 0)) = _
          rw [hr]
          simp only [Option.bind_some]
          cases hh : rightM (withT (withP m p) id s py) <;> rfl
        · have c1 : (((at_ + k1 + k2 + k3 : Nat) : Int) != ((b.length : Nat) : Int)) = true := bne_iff_ne.2 (by omega)
          rw [c1, if_neg hq]
          rfl

def plainM (l : List Int) : Bool := decide (wideM l) && decide (l.getD 8 0 ≤ 1000)
theorem plain_ok (l : List Int) : ref05_plain l = some (plainM l) := by
  by_cases h10 : l.length = 10
  · match l, h10 with
    | [a0, a1, a2, a3, a4, a5, a6, a7, a8, a9], _ =>
      have ew : wideM [a0, a1, a2, a3, a4, a5, a6, a7, a8, a9] ↔ 0 ≤ a0 ∧ a0 ≤ 255 ∧ 0 ≤ a1 ∧ a1 ≤ 255 ∧ 0 ≤ a7 ∧ a7 ≤ 65535 ∧ 0 ≤ a8 ∧ a8 ≤ 65535 ∧ 0 ≤ a9 ∧ a9 ≤ 1 := ⟨fun h => h.2, fun h => ⟨rfl, h⟩⟩
      have ep : plainM [a0, a1, a2, a3, a4, a5, a6, a7, a8, a9] = decide (0 ≤ a0 ∧ a0 ≤ 255 ∧ 0 ≤ a1 ∧ a1 ≤ 255 ∧ 0 ≤ a7 ∧ a7 ≤ 65535 ∧ 0 ≤ a8 ∧ a8 ≤ 1000 ∧ 0 ≤ a9 ∧ a9 ≤ 1) := by
        rw [plainM, ← Bool.decide_and]
        refine decide_eq_decide.2 ?_
        rw [ew]
        show _ ∧ a8 ≤ 1000 ↔ _
        omega
      rw [ep]
      have fF : ¬ (0 ≤ a7 ∧ a7 ≤ 65535 ∧ 0 ≤ a8 ∧ a8 ≤ 1000 ∧ 0 ≤ a9 ∧ a9 ≤ 1) → decide (0 ≤ a7 ∧ a7 ≤ 65535 ∧ 0 ≤ a8 ∧ a8 ≤ 1000 ∧ 0 ≤ a9 ∧ a9 ≤ 1) = false := fun h => decide_eq_false h
      have fT : (0 ≤ a7 ∧ a7 ≤ 65535 ∧ 0 ≤ a8 ∧ a8 ≤ 1000 ∧ 0 ≤ a9 ∧ a9 ≤ 1) → decide (0 ≤ a7 ∧ a7 ≤ 65535 ∧ 0 ≤ a8 ∧ a8 ≤ 1000 ∧ 0 ≤ a9 ∧ a9 ≤ 1) = true := fun h => decide_eq_true h
      have last : Ev ref05_plain_step (.s1 [a0, a1, a2, a3, a4, a5, a6, a7, a8, a9] 2) (decide (0 ≤ a7 ∧ a7 ≤ 65535 ∧ 0 ≤ a8 ∧ a8 ≤ 1000 ∧ 0 ≤ a9 ∧ a9 ≤ 1)) := by
        refine .done ?_
        show (bif decide (a7 ≥ 0) then bif decide (a7 ≤ 65535) then bif decide (a8 ≥ 0) then bif decide (a8 ≤ 1000) then bif (a9 == 0) then some (Sum.inr true) else some (Sum.inr (a9 == 1)) else some (Sum.inr false) else some (Sum.inr false) else some (Sum.inr false) else some (Sum.inr false)) = _
        by_cases q1 : a7 ≥ 0
        · by_cases q2 : a7 ≤ 65535
          · by_cases q3 : a8 ≥ 0
            · by_cases q4 : a8 ≤ 1000
              · rw [decide_eq_true q1, decide_eq_true q2, decide_eq_true q3, decide_eq_true q4]
                simp only [cond_true]
                by_cases q5 : a9 = 0
                · rw [beq_iff_eq.2 q5, fT (by omega)]; rfl
                · rw [beq_eq_false_iff_ne.2 q5]
                  by_cases q6 : a9 = 1
                  · rw [beq_iff_eq.2 q6, fT (by omega)]; rfl
                  · rw [beq_eq_false_iff_ne.2 q6, fF (by omega)]; rfl
              · rw [decide_eq_true q1, decide_eq_true q2, decide_eq_true q3, decide_eq_false q4, fF (by omega)]; rfl
            · rw [decide_eq_true q1, decide_eq_true q2, decide_eq_false q3, fF (by omega)]; rfl
          · rw [decide_eq_true q1, decide_eq_false q2, fF (by omega)]; rfl
        · rw [decide_eq_false q1, fF (by omega)]; rfl
      have st : ∀ i : Nat, ∀ x : Int, [a0, a1, a2, a3, a4, a5, a6, a7, a8, a9][i]? = some x → i < 2 → ref05_plain_step (.s1 [a0, a1, a2, a3, a4, a5, a6, a7, a8, a9] i) = if 0 ≤ x ∧ x ≤ 255 then some (.inl (.s1 [a0, a1, a2, a3, a4, a5, a6, a7, a8, a9] ((i + 1 : Nat) : Int))) else some (.inr false) := by
        intro i x hx hi
        have c0 : decide ((i : Int) < 2) = true := decide_eq_true (by omega)
        have c1 : (decide ((0 : Int) ≤ (i : Int)) && decide ((i : Int) < (((List.map (eInt .i64) [a0, a1, a2, a3, a4, a5, a6, a7, a8, a9]).length : Nat) : Int))) = true := by simp; omega
        simp only [ref05_plain_step, ref05_plain_1, c0, c1, cond_true, Int.toNat_natCast, hx, Option.bind_some, wS (show i < 9223372036854775807 by omega)]
        by_cases q1 : x < 0
        · rw [decide_eq_true q1, cond_true, if_neg (by omega)]
        · by_cases q2 : x > 255
          · rw [decide_eq_false q1, decide_eq_true q2, if_neg (by omega)]; rfl
          · rw [decide_eq_false q1, decide_eq_false q2, if_pos (by omega)]; rfl
      have s0 := st 0 a0 rfl (by decide)
      have s1 := st 1 a1 rfl (by decide)
      refine evf_of (.next (s' := .s1 [a0, a1, a2, a3, a4, a5, a6, a7, a8, a9] ((0 : Nat) : Int)) rfl ?_)
      by_cases q0 : 0 ≤ a0 ∧ a0 ≤ 255
      · rw [if_pos q0] at s0
        refine .next s0 ?_
        by_cases q1 : 0 ≤ a1 ∧ a1 ≤ 255
        · rw [if_pos q1] at s1
          refine .next s1 ?_
          rw [show decide (0 ≤ a0 ∧ a0 ≤ 255 ∧ 0 ≤ a1 ∧ a1 ≤ 255 ∧ 0 ≤ a7 ∧ a7 ≤ 65535 ∧ 0 ≤ a8 ∧ a8 ≤ 1000 ∧ 0 ≤ a9 ∧ a9 ≤ 1) = decide (0 ≤ a7 ∧ a7 ≤ 65535 ∧ 0 ≤ a8 ∧ a8 ≤ 1000 ∧ 0 ≤ a9 ∧ a9 ≤ 1) from decide_eq_decide.2 (by omega)]
          exact last
        · rw [if_neg q1] at s1
          rw [show decide (0 ≤ a0 ∧ a0 ≤ 255 ∧ 0 ≤ a1 ∧ a1 ≤ 255 ∧ 0 ≤ a7 ∧ a7 ≤ 65535 ∧ 0 ≤ a8 ∧ a8 ≤ 1000 ∧ 0 ≤ a9 ∧ a9 ≤ 1) = false from decide_eq_false (by omega)]
          exact .done s1
      · rw [if_neg q0] at s0
        rw [show decide (0 ≤ a0 ∧ a0 ≤ 255 ∧ 0 ≤ a1 ∧ a1 ≤ 255 ∧ 0 ≤ a7 ∧ a7 ≤ 65535 ∧ 0 ≤ a8 ∧ a8 ≤ 1000 ∧ 0 ≤ a9 ∧ a9 ≤ 1) = false from decide_eq_false (by omega)]
        exact .done s0
  · have : plainM l = false := by rw [plainM, decide_eq_false (fun h => h10 h.1)]; rfl
    rw [this]
    refine evf_of (.done ?_)
    simp only [ref05_plain_step, ref05_plain_0, List.length_map, show (((l.length : Nat) : Int) != 10) = true from bne_iff_ne.2 (by omega), cond_true]

theorem tail_code {m : Msg} (h : 1000 < m.Code) (l : List Int) : ofTail m l = (zeroM, 51) := by
  unfold ofTail
  split
  · rfl
  · rename_i id s py _
    rw [if_neg]
    intro hr
    have := (right_and hr).1
    unfold hdM at this
    have e : (withT m id s py).Code = m.Code := rfl
    omega
theorem rest_code {k : Int} {l : List Int} (h : 1000 < l.getD 8 0) (b : List Int) : ofRest k l b = (zeroM, 51) := by
  unfold ofRest
  split
  · split
    · rfl
    · split
      · exact tail_code (by exact h) _
      · rfl
  · exact tail_code (by exact h) _

theorem rof1_ok {k : Int} (hk : 0 ≤ k ∧ k ≤ 255) {b : List Int} (hb : Bytes b) (hm : b.length ≤ memB) {at_ : Nat} (h : at_ ≤ b.length) {l : List Int} (hl : wideM l) (b0 : Msg) : ref05_Of_1 k b l at_ false b0 = some (ofRest k l (b.drop at_)) := by
  obtain ⟨hlen, hw⟩ := hl
  match l, hlen, hw with
  | [a0, a1, a2, a3, a4, a5, a6, a7, a8, a9], _, hw =>
    simp only [List.getD_cons_zero, List.getD_cons_succ] at hw
    have wk : IntKind.i64.wrap k = k := wI64 (by omega) (by omega)
    have wu : IntKind.u64.wrap a7 = a7 := wU64 (by omega) (by omega)
    have e : ref05_Of_1 k b [a0, a1, a2, a3, a4, a5, a6, a7, a8, a9] at_ false b0 = (bif (a9 == 1) then ((ref01_Text b at_).bind fun y33 => ((ref04_Get y33.1).bind fun y34 => (bif ((y33.2.2 : Int) != 0) then
        ref05_Of_2 b y33.2.1 true b0 ⟨IntKind.i64.wrap k, a0, a1, a2, a3, a4, a5, a6, IntKind.u64.wrap a7, a8, a9 == 1, zeroPl, [], [], []⟩ y34.1 else
        ref05_Of_2 b y33.2.1 ((y34.2 : Int) != 0) b0 ⟨IntKind.i64.wrap k, a0, a1, a2, a3, a4, a5, a6, IntKind.u64.wrap a7, a8, a9 == 1, zeroPl, [], [], []⟩ y34.1))) else
        ref05_Of_2 b at_ false b0 ⟨IntKind.i64.wrap k, a0, a1, a2, a3, a4, a5, a6, IntKind.u64.wrap a7, a8, a9 == 1, zeroPl, [], [], []⟩ zeroPl) := rfl
    rw [e, wk, wu]
    unfold ofRest
    simp only [List.getD_cons_zero, List.getD_cons_succ]
    have hd : ∀ p, (withP ⟨k, a0, a1, a2, a3, a4, a5, a6, a7, a8, a9 == 1, zeroPl, [], [], []⟩ p : Msg) = baseM k [a0, a1, a2, a3, a4, a5, a6, a7, a8, a9] p := fun p => rfl
    by_cases h9 : a9 = 1
    · have c9 : (a9 == 1) = true := beq_iff_eq.2 h9
      rw [if_pos h9, rtext_ok hb hm h]
      simp only [Option.bind_some]
      cases h2 : pT (b.drop at_) with
      | inl e =>
        have he := pTe h2
        have g := rget_ok (b := []) (fun c hc => by cases hc) (by simp)
        simp only [rL, g, Option.bind_some, he, c9, cond_true]
        rfl
      | inr x =>
        obtain ⟨s, j⟩ := x
        obtain ⟨d1, d2, d3, d4, d5⟩ := pT_dec (drop_in hb at_) h2
        rw [List.length_drop] at d2
        have g := rget_ok d5 (pT_len (drop_in hb at_) h2)
        simp only [rL, g, Option.bind_some, bne_self_eq_false, cond_false]
        rw [show (bif a9 == 1 then ref05_Of_2 b ((at_ + j : Nat) : Int) ((getP s).2 != 0) b0 ⟨k, a0, a1, a2, a3, a4, a5, a6, a7, a8, a9 == 1, zeroPl, [], [], []⟩ (getP s).1 else ref05_Of_2 b at_ false b0 ⟨k, a0, a1, a2, a3, a4, a5, a6, a7, a8, a9 == 1, zeroPl, [], [], []⟩ zeroPl) = ref05_Of_2 b ((at_ + j : Nat) : Int) ((getP s).2 != 0) b0 ⟨k, a0, a1, a2, a3, a4, a5, a6, a7, a8, a9 == 1, zeroPl, [], [], []⟩ (getP s).1 from by
          generalize ref05_Of_2 b ((at_ + j : Nat) : Int) ((getP s).2 != 0) b0 ⟨k, a0, a1, a2, a3, a4, a5, a6, a7, a8, a9 == 1, zeroPl, [], [], []⟩ (getP s).1 = A
          generalize ref05_Of_2 b at_ false b0 ⟨k, a0, a1, a2, a3, a4, a5, a6, a7, a8, a9 == 1, zeroPl, [], [], []⟩ zeroPl = B
          rw [c9]; rfl]
        by_cases hq : (getP s).2 = 0
        · rw [if_pos hq, show ((getP s).2 != 0) = false by rw [hq]; rfl, rof2_ok hb hm (by omega) b0 (by rw [hd]; exact shm_get d5 hq k _), List.drop_drop, hd]
        · rw [if_neg hq, show ((getP s).2 != 0) = true from bne_iff_ne.2 hq]; rfl
    · have c9 : (a9 == 1) = false := beq_eq_false_iff_ne.2 h9
      rw [if_neg h9, rof2_ok hb hm h b0 (by rw [hd]; exact shm_zero k _), hd]
      rw [show (a9 == 1) = false from c9]
      rfl

theorem rof_ok {k : Int} (hk : 0 ≤ k ∧ k ≤ 255) {b : List Int} (hb : Bytes b) (hm : b.length ≤ memB) : ref05_Of k b = some (ofM k b) := by
  have bad : ∀ l (x : Int) b0, ref05_Of_1 k b l x true b0 = some (zeroM, 51) := fun _ _ _ => rfl
  unfold ofM
  simp only [ref05_Of]
  rw [show (0 : Int) = ((0 : Nat) : Int) from rfl, rints_ok hb hm (Nat.zero_le b.length), List.drop_zero]
  cases h1 : pL b with
  | inl e =>
    have he := pL_err h1
    simp only [rL, Option.bind_some]
    rw [show ((0 : Nat) : Int) = 0 from rfl, he]
    rfl
  | inr x =>
    obtain ⟨l, n⟩ := x
    have hl := rL_le hb (at_ := 0) (b := b) h1
    simp only [rL, Option.bind_some, Nat.zero_add, plain_ok]
    rw [show ((0 : Int) != ((0 : Nat) : Int)) = false from rfl, cond_false]
    unfold plainM
    by_cases hw : wideM l
    · rw [decide_eq_true hw, if_pos hw, Bool.true_and]
      by_cases h8 : l.getD 8 0 ≤ 1000
      · rw [decide_eq_true h8]
        exact rof1_ok hk hb hm (by omega) hw _
      · rw [decide_eq_false h8, rest_code (by omega)]
        exact bad _ _ _
    · rw [decide_eq_false hw, if_neg hw]
      exact bad _ _ _
end Go.RX.L

set_option linter.unusedSimpArgs false
set_option linter.unusedVariables false
set_option maxRecDepth 100000
set_option maxHeartbeats 4000000
namespace Go.RX.L
open Go Go.RX Go.Proofs
attribute [local irreducible] FinQ
def law05_head_Q (y : Bool) (d : D) (s : Sto) : Prop := d = D.bool y ∧ s = []
noncomputable def law05_head  : Option Bool := ((msg_Put (⟨1, 1, 2, 0, 0, 0, 7, 0, 0, 0, false, (⟨0, 0, 0, 0, 0, 0, 0, 0, 0, 0, [], []⟩ : Plan), [], [], []⟩ : Msg)).bind fun y1 => ((msg_Get y1.1).bind fun y2 => ((msg_Put (⟨0, 0, 0, 0, 0, 0, 0, 0, 0, 0, false, (⟨0, 0, 0, 0, 0, 0, 0, 0, 0, 0, [], []⟩ : Plan), [], [], []⟩ : Msg)).bind fun y3 => (bif ((y1.2 : Int) == 0) then (bif ((y2.2 : Int) == 0) then (bif ((y3.2 : Int) == 51) then (bif ((y2.1.Nonce : Int) == 7) then ((msg_Same (⟨1, 1, 2, 0, 0, 0, 7, 0, 0, 0, false, (⟨0, 0, 0, 0, 0, 0, 0, 0, 0, 0, [], []⟩ : Plan), [], [], []⟩ : Msg) y2.1).bind fun y8 => (bif y8 then ((msg_Right (⟨1, 1, 2, 0, 0, 0, 7, 0, 0, 0, false, (⟨0, 0, 0, 0, 0, 0, 0, 0, 0, 0, [], []⟩ : Plan), [], [], []⟩ : Msg)).bind fun y10 => (some y10)) else (some false))) else (some false)) else (some false)) else (some false)) else (some false)))))
theorem law05_head_ok  {r : Bool} (h : law05_head = some r) : Sound E 9 [] [] (law05_head_Q r) := by
  refine sound_ofW (m := ⟨[.code (bodyOf Tryd.f9)], [], []⟩) (fn := Tryd.f9) (by kernel_rfl) (by kernel_rfl) ?_
  show FinQ E (Cx.of Tryd.f9 false 0) (QW (law05_head_Q r)) _
  unfold law05_head at h
  refine adv_ok hm 17 _ ?_
  have ok1 := fun (y : (List Int) × Int) (hy : msg_Put (⟨1, 1, 2, 0, 0, 0, 7, 0, 0, 0, false, (⟨0, 0, 0, 0, 0, 0, 0, 0, 0, 0, [], []⟩ : Plan), [], [], []⟩ : Msg) = some y) => msg_Put_ok hy
  refine p_callR [some 1, some 1, some 1, some 1, some 1] h (by kernel_rfl) ok1 (fun y1 h1 h => ?_)
  refine adv_ok hm 10 _ ?_
  have ok2 := fun (y : Msg × Int) (hy : msg_Get y1.1 = some y) => msg_Get_ok hy
  refine p_callR [] h (by kernel_rfl) ok2 (fun y2 h2 h => ?_)
  refine adv_ok hm 13 _ ?_
  have ok3 := fun (y : (List Int) × Int) (hy : msg_Put (⟨0, 0, 0, 0, 0, 0, 0, 0, 0, 0, false, (⟨0, 0, 0, 0, 0, 0, 0, 0, 0, 0, [], []⟩ : Plan), [], [], []⟩ : Msg) = some y) => msg_Put_ok hy
  refine p_callR [some 1, some 1, some 1, some 1, some 1] h (by kernel_rfl) ok3 (fun y3 h3 h => ?_)
  refine adv_ok hm 12 _ ?_
  refine p_split h (by kernel_rfl) (fun h4 h => ?_) (fun h4 h => ?_)
  · -- true
    refine adv_ok hm 6 _ ?_
    refine p_split h (by kernel_rfl) (fun h5 h => ?_) (fun h5 h => ?_)
    · -- true
      refine adv_ok hm 6 _ ?_
      refine p_split h (by kernel_rfl) (fun h6 h => ?_) (fun h6 h => ?_)
      · -- true
        refine adv_ok hm 9 _ ?_
        refine p_split h (by kernel_rfl) (fun h7 h => ?_) (fun h7 h => ?_)
        · -- true
          refine adv_ok hm 6 _ ?_
          have ok8 := fun (y : Bool) (hy : msg_Same (⟨1, 1, 2, 0, 0, 0, 7, 0, 0, 0, false, (⟨0, 0, 0, 0, 0, 0, 0, 0, 0, 0, [], []⟩ : Plan), [], [], []⟩ : Msg) y2.1 = some y) => msg_Same_ok hy
          refine p_callR [some 1, some 1, some 1, some 1, some 1] h (by kernel_rfl) ok8 (fun y8 h8 h => ?_)
          refine adv_ok hm 4 _ ?_
          refine p_split h (by kernel_rfl) (fun h9 h => ?_) (fun h9 h => ?_)
          · -- true
            refine adv_ok hm 3 _ ?_
            have ok10 := fun (y : Bool) (hy : msg_Right (⟨1, 1, 2, 0, 0, 0, 7, 0, 0, 0, false, (⟨0, 0, 0, 0, 0, 0, 0, 0, 0, 0, [], []⟩ : Plan), [], [], []⟩ : Msg) = some y) => msg_Right_ok hy
            refine p_callR [some 1, some 1, some 1, some 1, some 1] h (by kernel_rfl) ok10 (fun y10 h10 h => ?_)
            refine adv_ok hm 5 _ ?_
            obtain rfl := Option.some.inj h
            exact r_retF [] (d := D.bool y10) (s := []) (by kernel_rfl) Cx.fin_of ⟨rfl, rfl⟩
          · -- false
            refine adv_ok hm 7 _ ?_
            obtain rfl := Option.some.inj h
            exact r_retF [] (d := D.bool false) (s := []) (by kernel_rfl) Cx.fin_of ⟨rfl, rfl⟩
        · -- false
          refine adv_ok hm 16 _ ?_
          obtain rfl := Option.some.inj h
          exact r_retF [] (d := D.bool false) (s := []) (by kernel_rfl) Cx.fin_of ⟨rfl, rfl⟩
      · -- false
        refine adv_ok hm 25 _ ?_
        obtain rfl := Option.some.inj h
        exact r_retF [] (d := D.bool false) (s := []) (by kernel_rfl) Cx.fin_of ⟨rfl, rfl⟩
    · -- false
      refine adv_ok hm 32 _ ?_
      obtain rfl := Option.some.inj h
      exact r_retF [] (d := D.bool false) (s := []) (by kernel_rfl) Cx.fin_of ⟨rfl, rfl⟩
  · -- false
    refine adv_ok hm 39 _ ?_
    obtain rfl := Option.some.inj h
    exact r_retF [] (d := D.bool false) (s := []) (by kernel_rfl) Cx.fin_of ⟨rfl, rfl⟩
end Go.RX.L

set_option linter.unusedSimpArgs false
set_option linter.unusedVariables false
set_option maxRecDepth 100000
namespace Go.RX.L
open Go Go.RX

/-! ### frames -/
def getM (b : List Int) : Msg × Int := match pF b with
  | .inl e => (zeroM, e)
  | .inr (k, body, n) => if n = b.length then ofM k body else (zeroM, 51)

theorem get_body {b : List Int} (hb : Bytes b) {k : Int} {body : List Int} {n : Nat} (h : pF b = .inr (k, body, n)) : (0 ≤ k ∧ k ≤ 255) ∧ Bytes body ∧ body.length ≤ memB := by
  obtain ⟨a1, a2, a3, a4, a5, a6⟩ := pF_dec hb h
  exact ⟨a5, a6, by simp only [memB]; omega⟩
theorem mget_ok {b : List Int} (hb : Bytes b) (hm : b.length ≤ memB) : msg_Get b = some (getM b) := by
  unfold getM
  simp only [msg_Get]
  have g := frameGet_ok hb hm (Nat.zero_le b.length)
  rw [List.drop_zero] at g
  rw [show (0 : Int) = ((0 : Nat) : Int) from rfl, g]
  cases h : pF b with
  | inl e =>
    have he : (e != ((0 : Nat) : Int)) = true := bne_iff_ne.2 (by rcases pF_err h with rfl | rfl | rfl | rfl <;> decide)
    simp only [rF, Option.bind_some, he, cond_true]
    rfl
  | inr x =>
    obtain ⟨k, body, n⟩ := x
    obtain ⟨c1, c2, c3⟩ := get_body hb h
    simp only [rF, Option.bind_some, List.length_map, Nat.zero_add]
    rw [show ((0 : Int) != ((0 : Nat) : Int)) = false from rfl, cond_false]
    by_cases hq : n = b.length
    · rw [if_pos hq, show (((n : Nat) : Int) != ((b.length : Nat) : Int)) = false by rw [hq]; simp, cond_false, of_ok c1 c2 c3]; rfl
    · rw [if_neg hq, show (((n : Nat) : Int) != ((b.length : Nat) : Int)) = true from bne_iff_ne.2 (by omega)]; rfl
theorem rmget_ok {b : List Int} (hb : Bytes b) (hm : b.length ≤ memB) : ref05_Get b = some (getM b) := by
  unfold getM
  simp only [ref05_Get]
  have g := rframeGet_ok hb hm (Nat.zero_le b.length)
  rw [List.drop_zero] at g
  rw [show (0 : Int) = ((0 : Nat) : Int) from rfl, g]
  cases h : pF b with
  | inl e =>
    have he : (e != ((0 : Nat) : Int)) = true := bne_iff_ne.2 (by rcases pF_err h with rfl | rfl | rfl | rfl <;> decide)
    simp only [rF, Option.bind_some, he, cond_true]
    rfl
  | inr x =>
    obtain ⟨k, body, n⟩ := x
    obtain ⟨c1, c2, c3⟩ := get_body hb h
    simp only [rF, Option.bind_some, List.length_map, Nat.zero_add]
    rw [show ((0 : Int) != ((0 : Nat) : Int)) = false from rfl, cond_false]
    by_cases hq : n = b.length
    · rw [if_pos hq, show (((n : Nat) : Int) != ((b.length : Nat) : Int)) = false by rw [hq]; simp, cond_false, rof_ok c1 c2 c3]; rfl
    · rw [if_neg hq, show (((n : Nat) : Int) != ((b.length : Nat) : Int)) = true from bne_iff_ne.2 (by omega)]; rfl

/-! ### what is written is read -/
theorem tailP_enc {m : Msg} (hf : FineM m) (h : rightM m = true) (rest : List Int) : tailP (encL m.ID ++ (encT m.Session ++ (encT m.Payload ++ rest))) = if rest = [] then some (m.ID, m.Session, m.Payload) else none := by
  have hi := id_len h
  have h1 := pL_enc hf.id (by omega) (encT m.Session ++ (encT m.Payload ++ rest))
  have h2 := pT_enc (s := m.Session) (by omega) (encT m.Payload ++ rest)
  have h3 := pT_enc (s := m.Payload) (by omega) rest
  rw [tailP_4 h1 (by rw [List.drop_left]; exact h2) (by rw [← List.drop_drop, List.drop_left, List.drop_left]; exact h3)]
  simp only [List.length_append]
  cases rest with
  | nil => rw [if_pos (by simp; omega), if_pos rfl]
  | cons x r => rw [if_neg (by simp; omega), if_neg (by simp)]

theorem wide_nums {m : Msg} (hf : FineM m) (h : rightM m = true) : wideM (numsM m) := by
  have hh := (right_and h).1
  unfold hdM at hh
  have hu := hf.up
  refine ⟨rfl, ?_⟩
  show 0 ≤ m.From ∧ m.From ≤ 255 ∧ 0 ≤ m.To ∧ m.To ≤ 255 ∧ 0 ≤ m.Up ∧ m.Up ≤ 65535 ∧ 0 ≤ m.Code ∧ m.Code ≤ 65535 ∧ 0 ≤ (bif m.HasPlan then (1 : Int) else 0) ∧ (bif m.HasPlan then (1 : Int) else 0) ≤ 1
  cases m.HasPlan <;> simp only [cond_true, cond_false] <;> omega

theorem ofM_enc' {m : Msg} (hf : FineM m) (h : rightM m = true) (k : Int) (rest : List Int) : ofM k (encB m ++ rest) = if rest = [] ∧ rightM ⟨k, m.From, m.To, m.Epoch, m.Ballot, m.Accepted, m.Nonce, m.Time, m.Up, m.Code, m.HasPlan, m.Plan, m.ID, m.Session, m.Payload⟩ = true then (⟨k, m.From, m.To, m.Epoch, m.Ballot, m.Accepted, m.Nonce, m.Time, m.Up, m.Code, m.HasPlan, m.Plan, m.ID, m.Session, m.Payload⟩, 0) else (zeroM, 51) := by
  have e0 : encB m ++ rest = encL (numsM m) ++ (encQ m ++ (encL m.ID ++ (encT m.Session ++ (encT m.Payload ++ rest)))) := by simp [encB]
  rw [e0]
  unfold ofM
  rw [pL_enc (numsM_in hf h) (by simp [numsM])]
  simp only [if_pos (wide_nums hf h), List.drop_left]
  unfold ofRest
  have fin : ∀ p, p = m.Plan → (numsM m).getD 9 0 = (bif m.HasPlan then (1 : Int) else 0) → ofTail (baseM k (numsM m) p) (encL m.ID ++ (encT m.Session ++ (encT m.Payload ++ rest))) = if rest = [] ∧ rightM ⟨k, m.From, m.To, m.Epoch, m.Ballot, m.Accepted, m.Nonce, m.Time, m.Up, m.Code, m.HasPlan, m.Plan, m.ID, m.Session, m.Payload⟩ = true then (⟨k, m.From, m.To, m.Epoch, m.Ballot, m.Accepted, m.Nonce, m.Time, m.Up, m.Code, m.HasPlan, m.Plan, m.ID, m.Session, m.Payload⟩, 0) else (zeroM, 51) := by
    intro p hp h9
    have hb : withT (baseM k (numsM m) p) m.ID m.Session m.Payload = ⟨k, m.From, m.To, m.Epoch, m.Ballot, m.Accepted, m.Nonce, m.Time, m.Up, m.Code, m.HasPlan, m.Plan, m.ID, m.Session, m.Payload⟩ := by
      subst hp
      have : ((numsM m).getD 9 0 == 1) = m.HasPlan := by rw [h9]; cases m.HasPlan <;> rfl
      simp only [withT, baseM, this]
      rfl
    unfold ofTail
    rw [tailP_enc hf h]
    by_cases hr : rest = []
    · rw [if_pos hr]
      simp only [hb, hr, true_and]
    · rw [if_neg hr]
      simp only [hr, false_and, if_false]
  unfold encQ
  cases hp : m.HasPlan with
  | false =>
    have h9 : (numsM m).getD 9 0 = 0 := by show (bif m.HasPlan then (1 : Int) else 0) = 0; rw [hp]; rfl
    rw [if_neg (by rw [h9]; decide)]
    have := fin zeroPl (right_zero h hp).symm rfl
    rw [hp] at this
    exact this
  | true =>
    have h9 : (numsM m).getD 9 0 = 1 := by show (bif m.HasPlan then (1 : Int) else 0) = 1; rw [hp]; rfl
    have rp := right_plan h hp
    have pl := encP_len hf.pl rp
    rw [if_pos h9, cond_true, pT_enc (by omega)]
    have g := getP_enc hf.pl (rightP_iff.2 rp)
    simp only [g, if_true, List.drop_left]
    have := fin m.Plan rfl rfl
    rw [hp] at this
    exact this
theorem ofM_enc {m : Msg} (hf : FineM m) (h : rightM m = true) : ofM m.Kind (encB m) = (m, 0) := by
  have := ofM_enc' hf h m.Kind []
  rw [List.append_nil] at this
  rw [this, if_pos ⟨rfl, h⟩]

theorem ofM_snd (k : Int) (b : List Int) : (ofM k b).2 = 0 ∨ ofM k b = (zeroM, 51) := by
  have t : ∀ m l, (ofTail m l).2 = 0 ∨ ofTail m l = (zeroM, 51) := by
    intro m l
    unfold ofTail
    split
    · exact .inr rfl
    · split
      · exact .inl rfl
      · exact .inr rfl
  unfold ofM
  split
  · exact .inr rfl
  · split
    · unfold ofRest
      split
      · split
        · exact .inr rfl
        · split
          · exact t _ _
          · exact .inr rfl
      · exact t _ _
    · exact .inr rfl

theorem ofTail_dec {m0 m : Msg} {l : List Int} (hb : Bytes l) (h : ofTail m0 l = (m, 0)) : ∃ id s py, m = withT m0 id s py ∧ rightM m = true ∧ encL id ++ (encT s ++ encT py) = l ∧ I64s id ∧ Bytes s ∧ Bytes py := by
  unfold ofTail at h
  split at h
  · cases h
  · rename_i id s py ht
    split at h
    · rename_i hr
      obtain rfl := (Prod.mk.inj h).1
      refine ⟨id, s, py, rfl, hr, ?_⟩
      cases h1 : pL l with
      | inl e => rw [tailP_1 h1] at ht; cases ht
      | inr x =>
        obtain ⟨id', k1⟩ := x
        cases h2 : pT (l.drop k1) with
        | inl e => rw [tailP_2 h1 h2] at ht; cases ht
        | inr x =>
          obtain ⟨s', k2⟩ := x
          cases h3 : pT (l.drop (k1 + k2)) with
          | inl e => rw [tailP_3 h1 h2 h3] at ht; cases ht
          | inr x =>
            obtain ⟨py', k3⟩ := x
            rw [tailP_4 h1 h2 h3] at ht
            split at ht
            · rename_i hk
              simp only [Option.some.injEq, Prod.mk.injEq] at ht
              obtain ⟨rfl, rfl, rfl⟩ := ht
              obtain ⟨a1, a2, a3, a4, a5⟩ := pL_dec hb h1
              obtain ⟨b1, b2, b3, b4, b5⟩ := pT_dec (drop_in hb _) h2
              obtain ⟨c1, c2, c3, c4, c5⟩ := pT_dec (drop_in hb _) h3
              refine ⟨?_, a5, b5, c5⟩
              rw [← a1, ← b1, ← c1]
              have e1 : List.take k3 (List.drop (k1 + k2) l) = List.drop (k1 + k2) l := List.take_of_length_le (by rw [List.length_drop]; omega)
              rw [e1, ← List.drop_drop, List.take_append_drop, List.take_append_drop]
            · cases ht
    · cases h

theorem ofM_dec {k : Int} {b : List Int} (hb : Bytes b) {m : Msg} (h : ofM k b = (m, 0)) : rightM m = true ∧ FineM m ∧ encB m = b ∧ m.Kind = k := by
  unfold ofM at h
  split at h
  · cases h
  · rename_i l n h1
    obtain ⟨a1, a2, a3, a4, a5⟩ := pL_dec hb h1
    split at h
    · rename_i hw
      have hbd := drop_in hb n
      have hcut : encL l ++ b.drop n = b := by rw [← a1, List.take_append_drop]
      -- the numbers
      have key : ∀ p id s py, Fine p → inK .u64 p.Up → inK .u64 p.Sup → m = withT (baseM k l p) id s py → rightM m = true → I64s id → Bytes s → Bytes py → FineM m ∧ m.Kind = k ∧ numsM m = l := by
        intro p id s py fp up sup hm hr c1 c2 c3
        subst hm
        obtain ⟨hlen, w⟩ := hw
        match l, hlen, w, a5 with
        | [x0, x1, x2, x3, x4, x5, x6, x7, x8, x9], _, w, a5 =>
          simp only [List.getD_cons_zero, List.getD_cons_succ] at w
          refine ⟨⟨⟨fp.s, up, sup⟩, fp, ?_, ?_, c1, c2, c3⟩, rfl, ?_⟩
          · intro x hx
            exact a5 x (by
              have hx' : x ∈ [x2, x3, x4, x5, x6] := hx
              simp only [List.mem_cons, List.not_mem_nil, or_false] at hx' ⊢
              omega)
          · show 0 ≤ x7
            omega
          · show [x0, x1, x2, x3, x4, x5, x6, x7, x8, bif (x9 == 1) then 1 else 0] = _
            by_cases q : x9 = 1
            · rw [q]; rfl
            · rw [show x9 = 0 by omega]; rfl
      unfold ofRest at h
      split at h
      · rename_i h9
        split at h
        · cases h
        · rename_i t j h2
          obtain ⟨d1, d2, d3, d4, d5⟩ := pT_dec hbd h2
          split at h
          · rename_i hz
            obtain ⟨g1, g2, g3⟩ := getP_dec d5 (p := (getP t).1) (by rw [← hz])
            have hsh := shm_get d5 hz k l
            obtain ⟨id, s, py, hm, hr, hl, c1, c2, c3⟩ := ofTail_dec (drop_in hbd j) h
            obtain ⟨f1, f2, f3⟩ := key _ id s py g2 hsh.up hsh.sup hm hr c1 c2 c3
            refine ⟨hr, f1, ?_, f2⟩
            have hq : encQ m = encT t := by
              subst hm
              show (bif (l.getD 9 0 == 1) then encT (encP (getP t).1) else []) = _
              rw [h9, g3]; rfl
            rw [← hcut, encB, f3, hq, ← d1]
            subst hm
            rw [show encL (withT (baseM k l (getP t).1) id s py).ID ++ (encT (withT (baseM k l (getP t).1) id s py).Session ++ encT (withT (baseM k l (getP t).1) id s py).Payload) = List.drop j (List.drop n b) from hl, List.take_append_drop]
          · cases h
      · rename_i h9
        have hsh := shm_zero k l
        obtain ⟨id, s, py, hm, hr, hl, c1, c2, c3⟩ := ofTail_dec hbd h
        obtain ⟨f1, f2, f3⟩ := key zeroPl id s py ⟨inI64.2 (by decide), by decide, by decide, hsh.s⟩ hsh.up hsh.sup hm hr c1 c2 c3
        refine ⟨hr, f1, ?_, f2⟩
        have hq : encQ m = [] := by
          subst hm
          show (bif (l.getD 9 0 == 1) then encT (encP zeroPl) else []) = _
          rw [show (l.getD 9 0 == 1) = false from beq_eq_false_iff_ne.2 h9]; rfl
        rw [← hcut, encB, f3, hq, ← hl]
        subst hm
        rfl
    · cases h

/-! ### alike? -/
open Classical in
noncomputable def sameM (a b : Msg) : Bool := decide (a = b)
open Classical in
theorem sameM_iff {a b : Msg} : sameM a b = true ↔ a = b := by unfold sameM; exact decide_eq_true_iff
theorem bif_some (c x : Bool) : (bif c then some x else some false) = some (c && x) := by cases c <;> rfl

theorem all_same {a b : Msg} : (a.Kind = b.Kind ∧ a.From = b.From ∧ a.To = b.To ∧ a.Epoch = b.Epoch ∧ a.Ballot = b.Ballot ∧ a.Accepted = b.Accepted ∧ a.Nonce = b.Nonce ∧ a.Time = b.Time ∧ a.Up = b.Up ∧ a.Code = b.Code ∧ a.HasPlan = b.HasPlan ∧ a.Plan = b.Plan ∧ a.ID = b.ID ∧ a.Session = b.Session ∧ a.Payload = b.Payload) ↔ a = b := by
  cases a; cases b; simp only [Msg.mk.injEq]

theorem msame_ok {a b : Msg} (ha : FineM a) (hb : FineM b) (hi : a.ID.length < 9223372036854775807) : msg_Same a b = some (sameM a b) := by
  simp only [msg_Same, msg_Same_1, Option.bind_some, same_ok ha.sh.s ha.sh.up hb.sh.up ha.sh.sup hb.sh.sup, equal_v2_ok hi, bytes_Equal, b8_inj ha.ses hb.ses, b8_inj ha.pay hb.pay, bif_some]
  congr 1
  rw [Bool.eq_iff_iff, sameM_iff, ← all_same]
  simp only [Bool.and_eq_true, beq_iff_eq, decide_eq_true_eq, sameP_iff, and_true]
  constructor
  · rintro ⟨⟨h1, h2, h3, h4, h5, h6, h7, h8, h9⟩, h10, h11, h12, h13, h14, h15⟩
    exact ⟨h1, h2, h3, h4, h5, h6, h7, h8, h10, h9, h11, h12, h13, h14, h15⟩
  · rintro ⟨h1, h2, h3, h4, h5, h6, h7, h8, h10, h9, h11, h12, h13, h14, h15⟩
    exact ⟨⟨h1, h2, h3, h4, h5, h6, h7, h8, h9⟩, h10, h11, h12, h13, h14, h15⟩

theorem rmsame_ok {a b : Msg} (ha : FineM a) (hb : FineM b) (hi : a.ID.length < 9223372036854775807) : ref05_Same a b = some (sameM a b) := by
  have one : ∀ c, ref05_Same_1 c a b = some (c && (decide (a.Kind = b.Kind ∧ a.From = b.From ∧ a.To = b.To ∧ a.Epoch = b.Epoch ∧ a.Ballot = b.Ballot ∧ a.Accepted = b.Accepted ∧ a.Nonce = b.Nonce ∧ a.Time = b.Time ∧ a.Up = b.Up ∧ a.Code = b.Code ∧ a.HasPlan = b.HasPlan ∧ a.Session = b.Session ∧ a.Payload = b.Payload))) := by
    intro c
    simp only [ref05_Same_1, b8_inj ha.ses hb.ses, b8_inj ha.pay hb.pay, bif_some]
    congr 2
    rw [Bool.eq_iff_iff]
    simp only [Bool.and_eq_true, beq_iff_eq, decide_eq_true_eq]
  simp only [ref05_Same, rsame_ok ha.sh.s, rsame1_ok hi, Option.bind_some, one, Bool.false_and, bif_some]
  congr 1
  rw [Bool.eq_iff_iff, sameM_iff, ← all_same]
  simp only [Bool.and_eq_true, decide_eq_true_eq, sameP_iff]
  constructor
  · rintro ⟨h12, h13, h1, h2, h3, h4, h5, h6, h7, h8, h9, h10, h11, h14, h15⟩
    exact ⟨h1, h2, h3, h4, h5, h6, h7, h8, h9, h10, h11, h12, h13, h14, h15⟩
  · rintro ⟨h1, h2, h3, h4, h5, h6, h7, h8, h9, h10, h11, h12, h13, h14, h15⟩
    exact ⟨h12, h13, h1, h2, h3, h4, h5, h6, h7, h8, h9, h10, h11, h14, h15⟩
end Go.RX.L

set_option linter.unusedSimpArgs false
set_option linter.unusedVariables false
set_option maxRecDepth 100000
namespace Go.RX.L
open Go Go.RX

theorem kind_in {m : Msg} (h : rightM m = true) : 0 ≤ m.Kind ∧ m.Kind ≤ 255 := by
  have hh := (right_and h).1
  unfold hdM at hh
  omega
theorem getM_enc {m : Msg} (hf : FineM m) (h : rightM m = true) : getM (encF m.Kind (encB m)) = (m, 0) := by
  have hl := encB_len hf h
  have e := pF_enc (kind_in h) (encB_bytes hf) (by omega) []
  rw [List.append_nil] at e
  simp only [getM, e, encF_len, if_true, ofM_enc hf h]
theorem getM_cut {m : Msg} (hf : FineM m) (h : rightM m = true) {j : Nat} (hj : j < (encF m.Kind (encB m)).length) : (getM ((encF m.Kind (encB m)).take j)).2 ≠ 0 := by
  have hl := encB_len hf h
  rw [encF_len] at hj
  obtain ⟨e, he⟩ := pF_cut (kind_in h) (encB_bytes hf) (by omega) hj
  simp only [getM, he]
  rcases pF_err he with rfl | rfl | rfl | rfl <;> decide
theorem getM_more {m : Msg} (hf : FineM m) (h : rightM m = true) (x : Int) : getM (encF m.Kind (encB m) ++ [x]) = (zeroM, 51) := by
  have hl := encB_len hf h
  have e := pF_enc (kind_in h) (encB_bytes hf) (by omega) [x]
  have : ¬ (encB m).length + 8 = (encF m.Kind (encB m) ++ [x]).length := by rw [List.length_append, encF_len]; simp
  simp only [getM, e, if_neg this]
theorem getM_snd (b : List Int) : (getM b).2 = 0 ∨ (getM b).2 ≠ 0 ∧ (getM b).1 = zeroM := by
  unfold getM
  cases h : pF b with
  | inl e => exact .inr ⟨by rcases pF_err h with rfl | rfl | rfl | rfl <;> simp, rfl⟩
  | inr x =>
    obtain ⟨k, body, n⟩ := x
    simp only
    split
    · rcases ofM_snd k body with h | h
      · exact .inl h
      · exact .inr ⟨by rw [h]; simp, by rw [h]⟩
    · exact .inr ⟨by simp, rfl⟩
theorem getM_dec {b : List Int} (hb : Bytes b) {m : Msg} (h : getM b = (m, 0)) : rightM m = true ∧ FineM m ∧ encF m.Kind (encB m) = b := by
  unfold getM at h
  cases hp : pF b with
  | inl e =>
    rw [hp] at h
    have := (Prod.mk.inj h).2
    subst this
    rcases pF_err hp with h | h | h | h <;> exact absurd h (by decide)
  | inr x =>
    obtain ⟨k, body, n⟩ := x
    rw [hp] at h
    obtain ⟨a1, a2, a3, a4, a5, a6⟩ := pF_dec hb hp
    simp only at h
    split at h
    · rename_i hn
      obtain ⟨h1, h2, h3, h4⟩ := ofM_dec a6 h
      refine ⟨h1, h2, ?_⟩
      rw [h3, h4, ← a1, hn, List.take_length]
    · cases h
theorem zeroM_fine : FineM zeroM := ⟨⟨⟨by decide, by decide⟩, inU64.2 (by decide), inU64.2 (by decide)⟩, ⟨inI64.2 (by decide), by decide, by decide, ⟨by decide, by decide⟩⟩, fun x hx => by
    have hx' : x ∈ [(0 : Int), 0, 0, 0, 0] := hx
    simp only [List.mem_cons, List.not_mem_nil, or_false, or_self] at hx'
    subst hx'
    exact inI64.2 (by decide), by decide, fun x hx => (by cases hx), fun x hx => (by cases hx), fun x hx => (by cases hx)⟩
theorem getM_fine {b : List Int} (hb : Bytes b) : FineM (getM b).1 := by
  rcases getM_snd b with h | ⟨_, h⟩
  · exact (getM_dec hb (m := (getM b).1) (by rw [← h])).2.1
  · rw [h]; exact zeroM_fine
theorem ofM_fine {k : Int} {b : List Int} (hb : Bytes b) : FineM (ofM k b).1 := by
  rcases ofM_snd k b with h | h
  · exact (ofM_dec hb (m := (ofM k b).1) (by rw [← h])).2.1
  · rw [h]; exact zeroM_fine
theorem id_short {m : Msg} (h : rightM m = true) : m.ID.length < 9223372036854775807 := by have := id_len h; omega
theorem getM_id {b : List Int} (hb : Bytes b) : (getM b).1.ID.length < 9223372036854775807 := by
  rcases getM_snd b with h | ⟨_, h⟩
  · exact id_short (getM_dec hb (m := (getM b).1) (by rw [← h])).1
  · rw [h]; decide
theorem ofM_id {k : Int} {b : List Int} (hb : Bytes b) : (ofM k b).1.ID.length < 9223372036854775807 := by
  rcases ofM_snd k b with h | h
  · exact id_short (ofM_dec hb (m := (ofM k b).1) (by rw [← h])).1
  · rw [h]; decide
theorem sameM_self (m : Msg) : sameM m m = true := sameM_iff.2 rfl
theorem Msg.Ok.idl {m : Msg} (h : m.Ok) : m.ID.length < 9223372036854775807 := by
  obtain ⟨-, -, -, -, -, -, -, -, -, -, -, -, hid, -, -⟩ := h
  exact short hid.1

/-- A frame with one byte turned is none. -/
theorem be4_inj {a b : Nat} (ha : a < 4294967296) (hb : b < 4294967296) (h : be4 a = be4 b) : a = b := by rw [← numB_be4 ha, h, numB_be4 hb]
theorem encF_turn {k k' : Int} {body body' : List Int} (hk : 0 ≤ k ∧ k ≤ 255) (hb : Bytes body) (hl : body.length ≤ 8192) {i : Nat} {x : Int} (hx : 0 ≤ x ∧ x ≤ 255) (hi : i < (encF k body).length)
    (h : encF k' body' = (encF k body).set i x) : (encF k body)[i] = x := by
  have hlen : body'.length = body.length := by
    have := congrArg List.length h
    rw [List.length_set, encF_len, encF_len] at this
    omega
  have hil := inner_len k body
  have hil' := inner_len k' body'
  have hin := inner_bytes hk hb (by omega)
  cases i with
  | zero =>
    have := (List.cons.inj h).1
    exact this
  | succ i =>
    have h1 : inner k' body' ++ be4 (crc (inner k' body')) = (inner k body ++ be4 (crc (inner k body))).set i x := (List.cons.inj h).2
    have hi' : i < (inner k body ++ be4 (crc (inner k body))).length := by
      have : (encF k body).length = (inner k body ++ be4 (crc (inner k body))).length + 1 := rfl
      omega
    show (inner k body ++ be4 (crc (inner k body)))[i] = x
    rw [List.set_append] at h1
    split at h1
    · rename_i hlt
      obtain ⟨e1, e2⟩ := List.append_inj h1 (by rw [List.length_set]; omega)
      have e3 := be4_inj (crc_lt _) (crc_lt _) e2
      rw [e1] at e3
      rw [List.getElem_append_left hlt]
      exact crc_turn hlt hin hx e3
    · rename_i hge
      obtain ⟨e1, e2⟩ := List.append_inj h1 (by omega)
      rw [e1] at e2
      rw [List.getElem_append_right (by omega)]
      have hj : i - (inner k body).length < (be4 (crc (inner k body))).length := by rw [List.length_append] at hi'; omega
      have e4 : (be4 (crc (inner k body)))[i - (inner k body).length]? = some x := by
        rw [e2, List.getElem?_set_self hj]
      rw [List.getE hj] at e4
      exact Option.some.inj e4
theorem xorU8 {a b : Nat} (ha : a < 256) (hb : b < 256) : xorI .u8 a b = ((a ^^^ b : Nat) : Int) := by
  unfold xorI
  rw [BitVec.toNat_xor, ofInt8 ha, ofInt8 hb, wrapU8 (Nat.xor_lt_two_pow (n := 8) ha hb)]

/-! ### the head -/
def headM : Msg := ⟨1, 1, 2, 0, 0, 0, 7, 0, 0, 0, false, zeroPl, [], [], []⟩
theorem headM_fine : FineM headM := ⟨⟨⟨by decide, by decide⟩, inU64.2 (by decide), inU64.2 (by decide)⟩, ⟨inI64.2 (by decide), by decide, by decide, ⟨by decide, by decide⟩⟩, fun x hx => by
    have hx' : x ∈ [(0 : Int), 0, 0, 7, 0] := hx
    simp only [List.mem_cons, List.not_mem_nil, or_false] at hx'
    rcases hx' with rfl | rfl | rfl | rfl | rfl <;> exact inI64.2 (by decide), by decide, fun x hx => (by cases hx), fun x hx => (by cases hx), fun x hx => (by cases hx)⟩
theorem headM_right : rightM headM = true := by decide
theorem zeroM_right : rightM zeroM = false := by decide
theorem frame_bytes {m : Msg} (hf : FineM m) (h : rightM m = true) : Bytes (encF m.Kind (encB m)) := by
  have hl := encB_len hf h
  exact encF_bytes (kind_in h) (encB_bytes hf) (by omega)
theorem frame_len {m : Msg} (hf : FineM m) (h : rightM m = true) : (encF m.Kind (encB m)).length ≤ 4408 := by
  have hl := encB_len hf h
  rw [encF_len]; omega
theorem head_ok : law05_head = some true := by
  have p1 := mput_ok headM_fine
  have p2 := mput_ok zeroM_fine
  rw [putM, if_pos headM_right] at p1
  rw [putM, if_neg (by rw [zeroM_right]; decide)] at p2
  have hl := frame_len headM_fine headM_right
  have g := mget_ok (frame_bytes headM_fine headM_right) (by simp only [memB]; omega)
  rw [getM_enc headM_fine headM_right] at g
  have s := msame_ok headM_fine headM_fine (by decide)
  rw [sameM_self] at s
  have r := mright_ok headM_fine.sh
  rw [headM_right] at r
  unfold law05_head
  show ((msg_Put headM).bind fun y1 => ((msg_Get y1.1).bind fun y2 => ((msg_Put zeroM).bind fun y3 => (bif ((y1.2 : Int) == 0) then (bif ((y2.2 : Int) == 0) then (bif ((y3.2 : Int) == 51) then (bif ((y2.1.Nonce : Int) == 7) then ((msg_Same headM y2.1).bind fun y8 => (bif y8 then ((msg_Right headM).bind fun y10 => (some y10)) else (some false))) else (some false)) else (some false)) else (some false)) else (some false))))) = some true
  simp only [p1, g, p2, Option.bind_some, s, r]
  rfl
end Go.RX.L

set_option linter.unusedSimpArgs false
set_option linter.unusedVariables false
set_option maxRecDepth 100000
set_option maxHeartbeats 4000000
namespace Go.RX.L
open Go Go.RX Go.Proofs
attribute [local irreducible] FinQ
def law05_MsgLimits_Q (y : Bool) (d : D) (s : Sto) : Prop := d = D.bool y ∧ s = []
noncomputable def law05_MsgLimits (m : Msg) : Option Bool := ((law05_head ).bind fun y1 => ((msg_Right m).bind fun y2 => (bif (!y2) then (some y1) else (bif y1 then ((msg_Right (⟨m.Kind, 256, m.To, m.Epoch, m.Ballot, m.Accepted, m.Nonce, m.Time, m.Up, m.Code, m.HasPlan, m.Plan, m.ID, m.Session, m.Payload⟩ : Msg)).bind fun y5 => (bif (!y5) then ((msg_Right (⟨m.Kind, m.From, (-1), m.Epoch, m.Ballot, m.Accepted, m.Nonce, m.Time, m.Up, m.Code, m.HasPlan, m.Plan, m.ID, m.Session, m.Payload⟩ : Msg)).bind fun y7 => (bif (!y7) then ((msg_Right (⟨m.Kind, m.From, m.To, m.Epoch, m.Ballot, m.Accepted, m.Nonce, m.Time, m.Up, 1001, m.HasPlan, m.Plan, m.ID, m.Session, m.Payload⟩ : Msg)).bind fun y9 => (bif (!y9) then ((msg_Right (⟨m.Kind, m.From, m.To, m.Epoch, m.Ballot, m.Accepted, m.Nonce, m.Time, 65536, m.Code, m.HasPlan, m.Plan, m.ID, m.Session, m.Payload⟩ : Msg)).bind fun y11 => (bif (!y11) then ((msg_Right (⟨20, m.From, m.To, m.Epoch, m.Ballot, m.Accepted, m.Nonce, m.Time, m.Up, m.Code, m.HasPlan, m.Plan, m.ID, m.Session, m.Payload⟩ : Msg)).bind fun y13 => (bif (!y13) then ((msg_Right (⟨m.Kind, m.From, m.To, m.Epoch, m.Ballot, m.Accepted, m.Nonce, m.Time, m.Up, m.Code, m.HasPlan, m.Plan, [1, 2], m.Session, m.Payload⟩ : Msg)).bind fun y15 => (bif (!y15) then ((msg_Right (⟨m.Kind, m.From, m.To, m.Epoch, m.Ballot, m.Accepted, m.Nonce, m.Time, m.Up, m.Code, m.HasPlan, m.Plan, m.ID, m.Session, [0, 0, 0, 0, 0, 0, 0, 0, 0, 0, 0, 0, 0, 0, 0, 0, 0, 0, 0, 0, 0, 0, 0, 0, 0, 0, 0, 0, 0, 0, 0, 0, 0, 0, 0, 0, 0, 0, 0, 0, 0, 0, 0, 0, 0, 0, 0, 0, 0, 0, 0, 0, 0, 0, 0, 0, 0, 0, 0, 0, 0, 0, 0, 0, 0, 0, 0, 0, 0, 0, 0, 0, 0, 0, 0, 0, 0, 0, 0, 0, 0, 0, 0, 0, 0, 0, 0, 0, 0, 0, 0, 0, 0, 0, 0, 0, 0, 0, 0, 0, 0, 0, 0, 0, 0, 0, 0, 0, 0, 0, 0, 0, 0, 0, 0, 0, 0, 0, 0, 0, 0, 0, 0, 0, 0, 0, 0, 0, 0, 0, 0, 0, 0, 0, 0, 0, 0, 0, 0, 0, 0, 0, 0, 0, 0, 0, 0, 0, 0, 0, 0, 0, 0, 0, 0, 0, 0, 0, 0, 0, 0, 0, 0, 0, 0, 0, 0, 0, 0, 0, 0, 0, 0, 0, 0, 0, 0, 0, 0, 0, 0, 0, 0, 0, 0, 0, 0, 0, 0, 0, 0, 0, 0, 0, 0, 0, 0, 0, 0, 0, 0, 0, 0, 0, 0, 0, 0, 0, 0, 0, 0, 0, 0, 0, 0, 0, 0, 0, 0, 0, 0, 0, 0, 0, 0, 0, 0, 0, 0, 0, 0, 0, 0, 0, 0, 0, 0, 0, 0, 0, 0, 0, 0, 0, 0, 0, 0, 0, 0, 0, 0, 0, 0, 0, 0, 0, 0, 0, 0, 0, 0, 0, 0, 0, 0, 0, 0, 0, 0, 0, 0, 0, 0, 0, 0, 0, 0, 0, 0, 0, 0, 0, 0, 0, 0, 0, 0, 0, 0, 0, 0, 0, 0, 0, 0, 0, 0, 0, 0, 0, 0, 0, 0, 0, 0, 0, 0, 0, 0, 0, 0, 0, 0, 0, 0, 0, 0, 0, 0, 0, 0, 0, 0, 0, 0, 0, 0, 0, 0, 0, 0, 0, 0, 0, 0, 0, 0, 0, 0, 0, 0, 0, 0, 0, 0, 0, 0, 0, 0, 0, 0, 0, 0, 0, 0, 0, 0, 0, 0, 0, 0, 0, 0, 0, 0, 0, 0, 0, 0, 0, 0, 0, 0, 0, 0, 0, 0, 0, 0, 0, 0, 0, 0, 0, 0, 0, 0, 0, 0, 0, 0, 0, 0, 0, 0, 0, 0, 0, 0, 0, 0, 0, 0, 0, 0, 0, 0, 0, 0, 0, 0, 0, 0, 0, 0, 0, 0, 0, 0, 0, 0, 0, 0, 0, 0, 0, 0, 0, 0, 0, 0, 0, 0, 0, 0, 0, 0, 0, 0, 0, 0, 0, 0, 0, 0, 0, 0, 0, 0, 0, 0, 0, 0, 0, 0, 0, 0, 0, 0, 0, 0, 0, 0, 0, 0, 0, 0, 0, 0, 0, 0, 0, 0, 0, 0, 0, 0, 0, 0, 0, 0, 0, 0, 0, 0, 0, 0, 0, 0, 0, 0, 0, 0, 0, 0, 0, 0, 0, 0, 0, 0, 0, 0, 0, 0, 0, 0, 0, 0, 0, 0, 0, 0, 0, 0, 0, 0, 0, 0, 0, 0, 0, 0, 0, 0, 0, 0, 0, 0, 0, 0, 0, 0, 0, 0, 0, 0, 0, 0, 0, 0, 0, 0, 0, 0, 0, 0, 0, 0, 0, 0, 0, 0, 0, 0, 0, 0, 0, 0, 0, 0, 0, 0, 0, 0, 0, 0, 0, 0, 0, 0, 0, 0, 0, 0, 0, 0, 0, 0, 0, 0, 0, 0, 0, 0, 0, 0, 0, 0, 0, 0, 0, 0, 0, 0, 0, 0, 0, 0, 0, 0, 0, 0, 0, 0, 0, 0, 0, 0, 0, 0, 0, 0, 0, 0, 0, 0, 0, 0, 0, 0, 0, 0, 0, 0, 0, 0, 0, 0, 0, 0, 0, 0, 0, 0, 0, 0, 0, 0, 0, 0, 0, 0, 0, 0, 0, 0, 0, 0, 0, 0, 0, 0, 0, 0, 0, 0, 0, 0, 0, 0, 0, 0, 0, 0, 0, 0, 0, 0, 0, 0, 0, 0, 0, 0, 0, 0, 0, 0, 0, 0, 0, 0, 0, 0, 0, 0, 0, 0, 0, 0, 0, 0, 0, 0, 0, 0, 0, 0, 0, 0, 0, 0, 0, 0, 0, 0, 0, 0, 0, 0, 0, 0, 0, 0, 0, 0, 0, 0, 0, 0, 0, 0, 0, 0, 0, 0, 0, 0, 0, 0, 0, 0, 0, 0, 0, 0, 0, 0, 0, 0, 0, 0, 0, 0, 0, 0, 0, 0, 0, 0, 0, 0, 0, 0, 0, 0, 0, 0, 0, 0, 0, 0, 0, 0, 0, 0, 0, 0, 0, 0, 0, 0, 0, 0, 0, 0, 0, 0, 0, 0, 0, 0, 0, 0, 0, 0, 0, 0, 0, 0, 0, 0, 0, 0, 0, 0, 0, 0, 0, 0, 0, 0, 0, 0, 0, 0, 0, 0, 0, 0, 0, 0, 0, 0, 0, 0, 0, 0, 0, 0, 0, 0, 0, 0, 0, 0, 0, 0, 0, 0, 0, 0, 0, 0, 0, 0, 0, 0, 0, 0, 0, 0, 0, 0, 0, 0, 0, 0, 0, 0, 0, 0, 0, 0, 0, 0, 0, 0, 0, 0, 0, 0, 0, 0, 0, 0, 0, 0, 0, 0, 0, 0, 0, 0, 0, 0, 0, 0, 0, 0, 0, 0, 0, 0, 0, 0, 0, 0, 0, 0, 0, 0, 0, 0, 0, 0, 0, 0, 0, 0, 0, 0, 0, 0, 0, 0, 0, 0, 0, 0, 0, 0, 0, 0, 0, 0, 0, 0, 0, 0, 0, 0, 0, 0, 0, 0, 0, 0, 0, 0, 0, 0, 0, 0, 0, 0, 0, 0, 0, 0, 0, 0, 0, 0, 0, 0, 0, 0, 0, 0, 0, 0, 0, 0, 0, 0, 0, 0, 0, 0, 0, 0, 0, 0, 0, 0, 0, 0, 0, 0, 0, 0, 0, 0, 0, 0, 0, 0, 0, 0, 0, 0, 0, 0, 0, 0, 0, 0, 0, 0, 0, 0, 0, 0, 0, 0, 0, 0, 0, 0, 0, 0, 0, 0, 0, 0, 0, 0, 0, 0, 0, 0, 0, 0, 0, 0, 0, 0, 0, 0, 0, 0, 0, 0]⟩ : Msg)).bind fun y17 => (some (!y17))) else (some false))) else (some false))) else (some false))) else (some false))) else (some false))) else (some false))) else (some false)))))
theorem law05_MsgLimits_ok {m : Msg} {r : Bool} (h : law05_MsgLimits m = some r) : Sound E 8 [D.agg (Msg.enc m)] [] (law05_MsgLimits_Q r) := by
  refine sound_ofW (m := ⟨[.code (bodyOf Tryd.f8)], [(0, D.agg (Msg.enc m))], []⟩) (fn := Tryd.f8) (by kernel_rfl) (by kernel_rfl) ?_
  show FinQ E (Cx.of Tryd.f8 false 0) (QW (law05_MsgLimits_Q r)) _
  unfold law05_MsgLimits at h
  refine adv_ok hm 8 _ ?_
  have ok1 := fun (y : Bool) (hy : law05_head  = some y) => law05_head_ok hy
  refine p_callR [] h (by kernel_rfl) ok1 (fun y1 h1 h => ?_)
  refine adv_ok hm 8 _ ?_
  have ok2 := fun (y : Bool) (hy : msg_Right m = some y) => msg_Right_ok hy
  refine p_callR [] h (by kernel_rfl) ok2 (fun y2 h2 h => ?_)
  refine adv_ok hm 3 _ ?_
  refine p_split h (by kernel_rfl) (fun h3 h => ?_) (fun h3 h => ?_)
  · -- true
    refine adv_ok hm 6 _ ?_
    obtain rfl := Option.some.inj h
    exact r_retF [] (d := D.bool y1) (s := []) (by kernel_rfl) Cx.fin_of ⟨rfl, rfl⟩
  · -- false
    refine adv_ok hm 122 _ ?_
    refine p_split h (by kernel_rfl) (fun h4 h => ?_) (fun h4 h => ?_)
    · -- true
      refine adv_ok hm 3 _ ?_
      have ok5 := fun (y : Bool) (hy : msg_Right (⟨m.Kind, 256, m.To, m.Epoch, m.Ballot, m.Accepted, m.Nonce, m.Time, m.Up, m.Code, m.HasPlan, m.Plan, m.ID, m.Session, m.Payload⟩ : Msg) = some y) => msg_Right_ok hy
      refine p_callR [] h (by kernel_rfl) ok5 (fun y5 h5 h => ?_)
      refine adv_ok hm 6 _ ?_
      refine p_split h (by kernel_rfl) (fun h6 h => ?_) (fun h6 h => ?_)
      · -- true
        refine adv_ok hm 3 _ ?_
        have ok7 := fun (y : Bool) (hy : msg_Right (⟨m.Kind, m.From, (-1), m.Epoch, m.Ballot, m.Accepted, m.Nonce, m.Time, m.Up, m.Code, m.HasPlan, m.Plan, m.ID, m.Session, m.Payload⟩ : Msg) = some y) => msg_Right_ok hy
        refine p_callR [] h (by kernel_rfl) ok7 (fun y7 h7 h => ?_)
        refine adv_ok hm 6 _ ?_
        refine p_split h (by kernel_rfl) (fun h8 h => ?_) (fun h8 h => ?_)
        · -- true
          refine adv_ok hm 3 _ ?_
          have ok9 := fun (y : Bool) (hy : msg_Right (⟨m.Kind, m.From, m.To, m.Epoch, m.Ballot, m.Accepted, m.Nonce, m.Time, m.Up, 1001, m.HasPlan, m.Plan, m.ID, m.Session, m.Payload⟩ : Msg) = some y) => msg_Right_ok hy
          refine p_callR [] h (by kernel_rfl) ok9 (fun y9 h9 h => ?_)
          refine adv_ok hm 6 _ ?_
          refine p_split h (by kernel_rfl) (fun h10 h => ?_) (fun h10 h => ?_)
          · -- true
            refine adv_ok hm 3 _ ?_
            have ok11 := fun (y : Bool) (hy : msg_Right (⟨m.Kind, m.From, m.To, m.Epoch, m.Ballot, m.Accepted, m.Nonce, m.Time, 65536, m.Code, m.HasPlan, m.Plan, m.ID, m.Session, m.Payload⟩ : Msg) = some y) => msg_Right_ok hy
            refine p_callR [] h (by kernel_rfl) ok11 (fun y11 h11 h => ?_)
            refine adv_ok hm 6 _ ?_
            refine p_split h (by kernel_rfl) (fun h12 h => ?_) (fun h12 h => ?_)
            · -- true
              refine adv_ok hm 3 _ ?_
              have ok13 := fun (y : Bool) (hy : msg_Right (⟨20, m.From, m.To, m.Epoch, m.Ballot, m.Accepted, m.Nonce, m.Time, m.Up, m.Code, m.HasPlan, m.Plan, m.ID, m.Session, m.Payload⟩ : Msg) = some y) => msg_Right_ok hy
              refine p_callR [] h (by kernel_rfl) ok13 (fun y13 h13 h => ?_)
              refine adv_ok hm 6 _ ?_
              refine p_split h (by kernel_rfl) (fun h14 h => ?_) (fun h14 h => ?_)
              · -- true
                refine adv_ok hm 4 _ ?_
                have ok15 := fun (y : Bool) (hy : msg_Right (⟨m.Kind, m.From, m.To, m.Epoch, m.Ballot, m.Accepted, m.Nonce, m.Time, m.Up, m.Code, m.HasPlan, m.Plan, [1, 2], m.Session, m.Payload⟩ : Msg) = some y) => msg_Right_ok hy
                refine p_callR [] h (by kernel_rfl) ok15 (fun y15 h15 h => ?_)
                refine adv_ok hm 6 _ ?_
                refine p_split h (by kernel_rfl) (fun h16 h => ?_) (fun h16 h => ?_)
                · -- true
                  refine adv_ok hm 4 _ ?_
                  have ok17 := fun (y : Bool) (hy : msg_Right (⟨m.Kind, m.From, m.To, m.Epoch, m.Ballot, m.Accepted, m.Nonce, m.Time, m.Up, m.Code, m.HasPlan, m.Plan, m.ID, m.Session, [0, 0, 0, 0, 0, 0, 0, 0, 0, 0, 0, 0, 0, 0, 0, 0, 0, 0, 0, 0, 0, 0, 0, 0, 0, 0, 0, 0, 0, 0, 0, 0, 0, 0, 0, 0, 0, 0, 0, 0, 0, 0, 0, 0, 0, 0, 0, 0, 0, 0, 0, 0, 0, 0, 0, 0, 0, 0, 0, 0, 0, 0, 0, 0, 0, 0, 0, 0, 0, 0, 0, 0, 0, 0, 0, 0, 0, 0, 0, 0, 0, 0, 0, 0, 0, 0, 0, 0, 0, 0, 0, 0, 0, 0, 0, 0, 0, 0, 0, 0, 0, 0, 0, 0, 0, 0, 0, 0, 0, 0, 0, 0, 0, 0, 0, 0, 0, 0, 0, 0, 0, 0, 0, 0, 0, 0, 0, 0, 0, 0, 0, 0, 0, 0, 0, 0, 0, 0, 0, 0, 0, 0, 0, 0, 0, 0, 0, 0, 0, 0, 0, 0, 0, 0, 0, 0, 0, 0, 0, 0, 0, 0, 0, 0, 0, 0, 0, 0, 0, 0, 0, 0, 0, 0, 0, 0, 0, 0, 0, 0, 0, 0, 0, 0, 0, 0, 0, 0, 0, 0, 0, 0, 0, 0, 0, 0, 0, 0, 0, 0, 0, 0, 0, 0, 0, 0, 0, 0, 0, 0, 0, 0, 0, 0, 0, 0, 0, 0, 0, 0, 0, 0, 0, 0, 0, 0, 0, 0, 0, 0, 0, 0, 0, 0, 0, 0, 0, 0, 0, 0, 0, 0, 0, 0, 0, 0, 0, 0, 0, 0, 0, 0, 0, 0, 0, 0, 0, 0, 0, 0, 0, 0, 0, 0, 0, 0, 0, 0, 0, 0, 0, 0, 0, 0, 0, 0, 0, 0, 0, 0, 0, 0, 0, 0, 0, 0, 0, 0, 0, 0, 0, 0, 0, 0, 0, 0, 0, 0, 0, 0, 0, 0, 0, 0, 0, 0, 0, 0, 0, 0, 0, 0, 0, 0, 0, 0, 0, 0, 0, 0, 0, 0, 0, 0, 0, 0, 0, 0, 0, 0, 0, 0, 0, 0, 0, 0, 0, 0, 0, 0, 0, 0, 0, 0, 0, 0, 0, 0, 0, 0, 0, 0, 0, 0, 0, 0, 0, 0, 0, 0, 0, 0, 0, 0, 0, 0, 0, 0, 0, 0, 0, 0, 0, 0, 0, 0, 0, 0, 0, 0, 0, 0, 0, 0, 0, 0, 0, 0, 0, 0, 0, 0, 0, 0, 0, 0, 0, 0, 0, 0, 0, 0, 0, 0, 0, 0, 0, 0, 0, 0, 0, 0, 0, 0, 0, 0, 0, 0, 0, 0, 0, 0, 0, 0, 0, 0, 0, 0, 0, 0, 0, 0, 0, 0, 0, 0, 0, 0, 0, 0, 0, 0, 0, 0, 0, 0, 0, 0, 0, 0, 0, 0, 0, 0, 0, 0, 0, 0, 0, 0, 0, 0, 0, 0, 0, 0, 0, 0, 0, 0, 0, 0, 0, 0, 0, 0, 0, 0, 0, 0, 0, 0, 0, 0, 0, 0, 0, 0, 0, 0, 0, 0, 0, 0, 0, 0, 0, 0, 0, 0, 0, 0, 0, 0, 0, 0, 0, 0, 0, 0, 0, 0, 0, 0, 0, 0, 0, 0, 0, 0, 0, 0, 0, 0, 0, 0, 0, 0, 0, 0, 0, 0, 0, 0, 0, 0, 0, 0, 0, 0, 0, 0, 0, 0, 0, 0, 0, 0, 0, 0, 0, 0, 0, 0, 0, 0, 0, 0, 0, 0, 0, 0, 0, 0, 0, 0, 0, 0, 0, 0, 0, 0, 0, 0, 0, 0, 0, 0, 0, 0, 0, 0, 0, 0, 0, 0, 0, 0, 0, 0, 0, 0, 0, 0, 0, 0, 0, 0, 0, 0, 0, 0, 0, 0, 0, 0, 0, 0, 0, 0, 0, 0, 0, 0, 0, 0, 0, 0, 0, 0, 0, 0, 0, 0, 0, 0, 0, 0, 0, 0, 0, 0, 0, 0, 0, 0, 0, 0, 0, 0, 0, 0, 0, 0, 0, 0, 0, 0, 0, 0, 0, 0, 0, 0, 0, 0, 0, 0, 0, 0, 0, 0, 0, 0, 0, 0, 0, 0, 0, 0, 0, 0, 0, 0, 0, 0, 0, 0, 0, 0, 0, 0, 0, 0, 0, 0, 0, 0, 0, 0, 0, 0, 0, 0, 0, 0, 0, 0, 0, 0, 0, 0, 0, 0, 0, 0, 0, 0, 0, 0, 0, 0, 0, 0, 0, 0, 0, 0, 0, 0, 0, 0, 0, 0, 0, 0, 0, 0, 0, 0, 0, 0, 0, 0, 0, 0, 0, 0, 0, 0, 0, 0, 0, 0, 0, 0, 0, 0, 0, 0, 0, 0, 0, 0, 0, 0, 0, 0, 0, 0, 0, 0, 0, 0, 0, 0, 0, 0, 0, 0, 0, 0, 0, 0, 0, 0, 0, 0, 0, 0, 0, 0, 0, 0, 0, 0, 0, 0, 0, 0, 0, 0, 0, 0, 0, 0, 0, 0, 0, 0, 0, 0, 0, 0, 0, 0, 0, 0, 0, 0, 0, 0, 0, 0, 0, 0, 0, 0, 0, 0, 0, 0, 0, 0, 0, 0, 0, 0, 0, 0, 0, 0, 0, 0, 0, 0, 0, 0, 0, 0, 0, 0, 0, 0, 0, 0, 0, 0, 0, 0, 0, 0, 0, 0, 0, 0, 0, 0, 0, 0, 0, 0, 0, 0, 0, 0, 0, 0, 0, 0, 0, 0, 0, 0, 0, 0, 0, 0, 0, 0, 0, 0, 0, 0, 0, 0, 0, 0, 0, 0, 0, 0, 0, 0, 0, 0, 0, 0, 0, 0, 0, 0, 0, 0, 0, 0, 0, 0, 0, 0, 0, 0, 0, 0, 0, 0, 0, 0, 0, 0, 0, 0, 0, 0, 0, 0, 0, 0, 0, 0, 0, 0, 0, 0, 0, 0, 0, 0, 0, 0, 0, 0, 0, 0, 0, 0, 0, 0, 0, 0, 0, 0, 0, 0, 0, 0, 0, 0, 0, 0, 0, 0, 0, 0, 0, 0, 0, 0, 0, 0, 0, 0, 0, 0, 0, 0, 0, 0, 0, 0, 0, 0, 0, 0, 0, 0, 0, 0, 0, 0, 0, 0, 0, 0, 0, 0, 0, 0, 0, 0, 0, 0, 0, 0, 0, 0, 0, 0, 0, 0, 0, 0, 0, 0, 0, 0, 0, 0, 0, 0, 0, 0, 0, 0, 0]⟩ : Msg) = some y) => msg_Right_ok hy
                  refine p_callR [] h (by kernel_rfl) ok17 (fun y17 h17 h => ?_)
                  refine adv_ok hm 7 _ ?_
                  obtain rfl := Option.some.inj h
                  exact r_retF [] (d := D.bool (!y17)) (s := []) (by kernel_rfl) Cx.fin_of ⟨rfl, rfl⟩
                · -- false
                  refine adv_ok hm 9 _ ?_
                  obtain rfl := Option.some.inj h
                  exact r_retF [] (d := D.bool false) (s := []) (by kernel_rfl) Cx.fin_of ⟨rfl, rfl⟩
              · -- false
                refine adv_ok hm 18 _ ?_
                obtain rfl := Option.some.inj h
                exact r_retF [] (d := D.bool false) (s := []) (by kernel_rfl) Cx.fin_of ⟨rfl, rfl⟩
            · -- false
              refine adv_ok hm 27 _ ?_
              obtain rfl := Option.some.inj h
              exact r_retF [] (d := D.bool false) (s := []) (by kernel_rfl) Cx.fin_of ⟨rfl, rfl⟩
          · -- false
            refine adv_ok hm 36 _ ?_
            obtain rfl := Option.some.inj h
            exact r_retF [] (d := D.bool false) (s := []) (by kernel_rfl) Cx.fin_of ⟨rfl, rfl⟩
        · -- false
          refine adv_ok hm 45 _ ?_
          obtain rfl := Option.some.inj h
          exact r_retF [] (d := D.bool false) (s := []) (by kernel_rfl) Cx.fin_of ⟨rfl, rfl⟩
      · -- false
        refine adv_ok hm 54 _ ?_
        obtain rfl := Option.some.inj h
        exact r_retF [] (d := D.bool false) (s := []) (by kernel_rfl) Cx.fin_of ⟨rfl, rfl⟩
    · -- false
      refine adv_ok hm 63 _ ?_
      obtain rfl := Option.some.inj h
      exact r_retF [] (d := D.bool false) (s := []) (by kernel_rfl) Cx.fin_of ⟨rfl, rfl⟩
end Go.RX.L
