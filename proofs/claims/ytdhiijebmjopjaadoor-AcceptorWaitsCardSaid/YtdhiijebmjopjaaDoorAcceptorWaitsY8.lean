/-
  Words and walks for AcceptorWaits. No condition.
-/
import Derived.Test.YtdhiijebmjopjaaDoorAcceptorWaitsY7
set_option linter.unusedSectionVars false
set_option linter.unnecessarySimpa false
set_option linter.unusedSimpArgs false
set_option linter.unusedVariables false
set_option maxRecDepth 100000
namespace Go.RX.L
open Go Go.RX

/-! ### frames -/
/-! ### what is written is read -/
theorem tailP_enc {m : Msg} (hf : FineM m) (h : rightM m = true) (rest : List Int) : tailP (encL m.ID ++ (encT m.Session ++ (encT m.Payload ++ rest))) = if rest = [] then some (m.ID, m.Session, m.Payload) else none := by
  have hi := id_len h
  have h1 := pL_enc hf.id (by omega) (encT m.Session ++ (encT m.Payload ++ rest))
  have h2 := pT_enc (s := m.Session) (by omega) (encT m.Payload ++ rest)
  have h3 := pT_enc (s := m.Payload) (by omega) rest
  rw [tailP_4 h1 (by rw [List.drop_left]; exact h2) (by rw [← List.drop_drop, List.drop_left, List.drop_left]; exact h3)]
  simp only [List.length_append]
  cases rest with
  | nil => rw [if_pos (by simp; omega), if_pos rfl]
  | cons x r => rw [if_neg (by simp; omega), if_neg (by simp)]

theorem wide_nums {m : Msg} (hf : FineM m) (h : rightM m = true) : wideM (numsM m) := by
  have hh := (right_and h).1
  unfold hdM at hh
  have hu := hf.up
  refine ⟨rfl, ?_⟩
  show 0 ≤ m.From ∧ m.From ≤ 255 ∧ 0 ≤ m.To ∧ m.To ≤ 255 ∧ 0 ≤ m.Up ∧ m.Up ≤ 65535 ∧ 0 ≤ m.Code ∧ m.Code ≤ 65535 ∧ 0 ≤ (bif m.HasPlan then (1 : Int) else 0) ∧ (bif m.HasPlan then (1 : Int) else 0) ≤ 1
  cases m.HasPlan <;> simp only [cond_true, cond_false] <;> omega

theorem ofM_enc' {m : Msg} (hf : FineM m) (h : rightM m = true) (k : Int) (rest : List Int) : ofM k (encB m ++ rest) = if rest = [] ∧ rightM ⟨k, m.From, m.To, m.Epoch, m.Ballot, m.Accepted, m.Nonce, m.Time, m.Up, m.Code, m.HasPlan, m.Plan, m.ID, m.Session, m.Payload⟩ = true then (⟨k, m.From, m.To, m.Epoch, m.Ballot, m.Accepted, m.Nonce, m.Time, m.Up, m.Code, m.HasPlan, m.Plan, m.ID, m.Session, m.Payload⟩, 0) else (zeroM, 51) := by
  have e0 : encB m ++ rest = encL (numsM m) ++ (encQ m ++ (encL m.ID ++ (encT m.Session ++ (encT m.Payload ++ rest)))) := by simp [encB]
  rw [e0]
  unfold ofM
  rw [pL_enc (numsM_in hf h) (by simp [numsM])]
  simp only [if_pos (wide_nums hf h), List.drop_left]
  unfold ofRest
  have fin : ∀ p, p = m.Plan → (numsM m).getD 9 0 = (bif m.HasPlan then (1 : Int) else 0) → ofTail (baseM k (numsM m) p) (encL m.ID ++ (encT m.Session ++ (encT m.Payload ++ rest))) = if rest = [] ∧ rightM ⟨k, m.From, m.To, m.Epoch, m.Ballot, m.Accepted, m.Nonce, m.Time, m.Up, m.Code, m.HasPlan, m.Plan, m.ID, m.Session, m.Payload⟩ = true then (⟨k, m.From, m.To, m.Epoch, m.Ballot, m.Accepted, m.Nonce, m.Time, m.Up, m.Code, m.HasPlan, m.Plan, m.ID, m.Session, m.Payload⟩, 0) else (zeroM, 51) := by
    intro p hp h9
    have hb : withT (baseM k (numsM m) p) m.ID m.Session m.Payload = ⟨k, m.From, m.To, m.Epoch, m.Ballot, m.Accepted, m.Nonce, m.Time, m.Up, m.Code, m.HasPlan, m.Plan, m.ID, m.Session, m.Payload⟩ := by
      subst hp
      have : ((numsM m).getD 9 0 == 1) = m.HasPlan := by rw [h9]; cases m.HasPlan <;> rfl
      simp only [withT, baseM, this]
      rfl
    unfold ofTail
    rw [tailP_enc hf h]
    by_cases hr : rest = []
    · rw [if_pos hr]
      simp only [hb, hr, true_and]
    · rw [if_neg hr]
      simp only [hr, false_and, if_false]
  unfold encQ
  cases hp : m.HasPlan with
  | false =>
    have h9 : (numsM m).getD 9 0 = 0 := by show (bif m.HasPlan then (1 : Int) else 0) = 0; rw [hp]; rfl
    rw [if_neg (by rw [h9]; decide)]
    have := fin zeroPl (right_zero h hp).symm rfl
    rw [hp] at this
    exact this
  | true =>
    have h9 : (numsM m).getD 9 0 = 1 := by show (bif m.HasPlan then (1 : Int) else 0) = 1; rw [hp]; rfl
    have rp := right_plan h hp
    have pl := encP_len hf.pl rp
    rw [if_pos h9, cond_true, pT_enc (by omega)]
    have g := getP_enc hf.pl (rightP_iff.2 rp)
    simp only [g, if_true, List.drop_left]
    have := fin m.Plan rfl rfl
    rw [hp] at this
    exact this
theorem ofM_enc {m : Msg} (hf : FineM m) (h : rightM m = true) : ofM m.Kind (encB m) = (m, 0) := by
  have := ofM_enc' hf h m.Kind []
  rw [List.append_nil] at this
  rw [this, if_pos ⟨rfl, h⟩]

/-! ### alike? -/
end Go.RX.L

set_option linter.unusedSimpArgs false
set_option linter.unusedVariables false
set_option maxRecDepth 100000
namespace Go.RX.L
open Go Go.RX

theorem kind_in {m : Msg} (h : rightM m = true) : 0 ≤ m.Kind ∧ m.Kind ≤ 255 := by
  have hh := (right_and h).1
  unfold hdM at hh
  omega
/-! ### the head -/
theorem frame_bytes {m : Msg} (hf : FineM m) (h : rightM m = true) : Bytes (encF m.Kind (encB m)) := by
  have hl := encB_len hf h
  exact encF_bytes (kind_in h) (encB_bytes hf) (by omega)
end Go.RX.L

set_option linter.unusedSimpArgs false
set_option linter.unusedVariables false
set_option maxRecDepth 100000
set_option maxHeartbeats 4000000
namespace Go.RX.L
open Go Go.RX Go.Proofs
attribute [local irreducible] FinQ
noncomputable def Journal_Append_1_e (b1 : List Int) (fuse : Int) (down : Bool) (b3 : List Int) (y : List Int) : D × Sto := (.tup [], [some ⟨1, true, [[.ptr 2 0 0]]⟩, some ⟨1, false, [[.sl false 1 (List.map (eInt .u8) b1)]]⟩, some ⟨4, true, [[.msl 3 0 ((List.map (eInt .u8) b3).length) ((List.map (eInt .u8) b3).length) false, .msl 5 0 ((List.map (eInt .u8) y).length) ((List.map (eInt .u8) y).length) false, .int .i64 fuse, .bool down]]⟩, some ⟨1, false, (List.map (eInt .u8) b3)⟩, none, some ⟨1, false, (List.map (eInt .u8) y)⟩])
noncomputable def Journal_Append_1 (b1 : List Int) (fuse : Int) (down : Bool) (b3 : List Int) (b4 : List Int) : Option (List Int) := (bif (decide (((List.map (eInt .u8) b4).length + (List.map (eInt .u8) b1).length) * 1 ≤ bytesLim)) then (some (b4 ++ b1)) else none)
theorem Journal_Append_1_ok {b1 : List Int} {fuse : Int} {down : Bool} {b3 : List Int} {b4 : List Int} {r : List Int} (h : Journal_Append_1 b1 fuse down b3 b4 = some r) : Sound E 84 [.ptr 0 0 0, .ptr 1 0 0] [some ⟨1, true, [[.ptr 2 0 0]]⟩, some ⟨1, false, [[.sl false 1 (List.map (eInt .u8) b1)]]⟩, some ⟨4, true, [[.msl 3 0 ((List.map (eInt .u8) b3).length) ((List.map (eInt .u8) b3).length) false, .msl 4 0 ((List.map (eInt .u8) b4).length) ((List.map (eInt .u8) b4).length) false, .int .i64 fuse, .bool down]]⟩, some ⟨1, false, (List.map (eInt .u8) b3)⟩, some ⟨1, false, (List.map (eInt .u8) b4)⟩] (Rs (Journal_Append_1_e b1 fuse down b3) r) := so (fn := Tryd.f84) (k := true) (m := 5) h <| by
 intro r h; unfold Journal_Append_1 at h
 refine zn 5 h fun h => ?_
 refine za 0 (eInt .u8) b4 b1 ?_
 exact zu 3 h
end Go.RX.L

set_option linter.unusedSimpArgs false
set_option linter.unusedVariables false
set_option maxRecDepth 100000
set_option maxHeartbeats 4000000
namespace Go.RX.L
open Go Go.RX Go.Proofs
attribute [local irreducible] FinQ
noncomputable def Journal_effect__Append_1_c := codeAt (bodyOf Tryd.f52)
noncomputable def Journal_effect__Append_1_e (b2 : List Int) (b3 : List Int) (y : Int × Int × Bool × (List Int)) : D × Sto := (.int .i64 y.1, [some ⟨4, true, [[.msl 5 0 ((List.map (eInt .u8) b3).length) ((List.map (eInt .u8) b3).length) false, .msl 6 0 ((List.map (eInt .u8) y.2.2.2).length) ((List.map (eInt .u8) y.2.2.2).length) false, .int .i64 y.2.1, .bool y.2.2.1]]⟩, some ⟨1, true, [[.ptr 0 0 0]]⟩, some ⟨1, false, [[.sl false 1 (List.map (eInt .u8) b2)]]⟩, none, none, some ⟨1, false, (List.map (eInt .u8) b3)⟩, some ⟨1, false, (List.map (eInt .u8) y.2.2.2)⟩])
abbrev Journal_effect__Append_1_W (fuse : Int) (down : Bool) (b2 : List Int) (b3 : List Int) (b4 : List Int) := AOk E (Cx.of Tryd.f52 true 5) (Journal_effect__Append_1_e b2 b3)
noncomputable def Journal_effect__Append_1_1M (fuse : Int) (down : Bool) (b2 : List Int) (b3 : List Int) (b4 : List Int) (fuse2 : Int) (down2 : Bool) : M := ⟨[.code (Journal_effect__Append_1_c [1, 1])], [(0, .ptr 0 0 0), (1, .fn 84 [] [.ptr 1 0 0, .ptr 2 0 0])], [some ⟨4, true, [[.msl 3 0 ((List.map (eInt .u8) b3).length) ((List.map (eInt .u8) b3).length) false, .msl 4 0 ((List.map (eInt .u8) b4).length) ((List.map (eInt .u8) b4).length) false, .int .i64 fuse2, .bool down2]]⟩, some ⟨1, true, [[.ptr 0 0 0]]⟩, some ⟨1, false, [[.sl false 1 (List.map (eInt .u8) b2)]]⟩, some ⟨1, false, (List.map (eInt .u8) b3)⟩, some ⟨1, false, (List.map (eInt .u8) b4)⟩]⟩
noncomputable def Journal_effect__Append_1_1 (fuse : Int) (down : Bool) (b2 : List Int) (b3 : List Int) (b4 : List Int) (fuse2 : Int) (down2 : Bool) : Option (Int × Int × Bool × (List Int)) := (bif down2 then (some (61, fuse2, down2, b4)) else (bif (decide ((fuse2 : Int) > 0)) then ((Journal_Append_1 b2 (IntKind.i64.wrap (fuse2 - 1)) down2 b3 b4).bind fun y3 => (some (0, (IntKind.i64.wrap (fuse2 - 1)), down2, y3))) else ((Journal_Append_1 b2 fuse2 down2 b3 b4).bind fun y4 => (some (0, fuse2, down2, y4)))))
theorem Journal_effect__Append_1_1_ok {fuse down b2 b3 b4 fuse2 down2} : Journal_effect__Append_1_W fuse down b2 b3 b4 (Journal_effect__Append_1_1M fuse down b2 b3 b4 fuse2 down2) (Journal_effect__Append_1_1 fuse down b2 b3 b4 fuse2 down2) := by
 intro r h; unfold Journal_effect__Append_1_1 at h
 refine zs 10 h (fun h => ?_) fun h => ?_
 ·
  refine zf 4 [.mv 3, .mv 4] ?_
  exact zu 1 h
 refine zs 12 h (fun h => ?_) fun h => ?_
 ·
  refine zc 17 [] h (fun _ => Journal_Append_1_ok) fun y3 h => ?_
  refine zf 5 [.mv 3] ?_
  exact zu 1 h
 refine zc 5 [] h (fun _ => Journal_Append_1_ok) fun y4 h => ?_
 refine zf 5 [.mv 3] ?_
 exact zu 1 h
noncomputable def Journal_effect__Append_1_2M (fuse : Int) (down : Bool) (b2 : List Int) (b3 : List Int) (b4 : List Int) (t16 : Bool) : M := ⟨[.code (Journal_effect__Append_1_c [1, 0, 1]), .code (Journal_effect__Append_1_c [1, 1])], [(0, .ptr 0 0 0), (1, .fn 84 [] [.ptr 1 0 0, .ptr 2 0 0]), (16, .bool t16)], [some ⟨4, true, [[.msl 3 0 ((List.map (eInt .u8) b3).length) ((List.map (eInt .u8) b3).length) false, .msl 4 0 ((List.map (eInt .u8) b4).length) ((List.map (eInt .u8) b4).length) false, .int .i64 fuse, .bool down]]⟩, some ⟨1, true, [[.ptr 0 0 0]]⟩, some ⟨1, false, [[.sl false 1 (List.map (eInt .u8) b2)]]⟩, some ⟨1, false, (List.map (eInt .u8) b3)⟩, some ⟨1, false, (List.map (eInt .u8) b4)⟩]⟩
noncomputable def Journal_effect__Append_1_2 (fuse : Int) (down : Bool) (b2 : List Int) (b3 : List Int) (b4 : List Int) (t16 : Bool) : Option (Int × Int × Bool × (List Int)) := (bif t16 then (Journal_effect__Append_1_1 fuse down b2 b3 b4 (-1) true) else (Journal_effect__Append_1_1 fuse down b2 b3 b4 fuse down))
theorem Journal_effect__Append_1_2_ok {fuse down b2 b3 b4 t16} : Journal_effect__Append_1_W fuse down b2 b3 b4 (Journal_effect__Append_1_2M fuse down b2 b3 b4 t16) (Journal_effect__Append_1_2 fuse down b2 b3 b4 t16) := by
 intro r h; unfold Journal_effect__Append_1_2 at h
 refine zs 1 h (fun h => ?_) fun h => ?_
 ·
  exact zg 14 (Journal_effect__Append_1_1_ok h)
 exact zg 1 (Journal_effect__Append_1_1_ok h)
noncomputable def Journal_effect__Append_1 (fuse : Int) (down : Bool) (b2 : List Int) (b3 : List Int) (b4 : List Int) : Option (Int × Int × Bool × (List Int)) := (bif (!down) then (Journal_effect__Append_1_2 fuse down b2 b3 b4 ((fuse : Int) == 0)) else (Journal_effect__Append_1_2 fuse down b2 b3 b4 false))
theorem Journal_effect__Append_1_ok {fuse : Int} {down : Bool} {b2 : List Int} {b3 : List Int} {b4 : List Int} {r : Int × Int × Bool × (List Int)} (h : Journal_effect__Append_1 fuse down b2 b3 b4 = some r) : Sound E 52 [.ptr 0 0 0, .fn 84 [] [.ptr 1 0 0, .ptr 2 0 0]] [some ⟨4, true, [[.msl 3 0 ((List.map (eInt .u8) b3).length) ((List.map (eInt .u8) b3).length) false, .msl 4 0 ((List.map (eInt .u8) b4).length) ((List.map (eInt .u8) b4).length) false, .int .i64 fuse, .bool down]]⟩, some ⟨1, true, [[.ptr 0 0 0]]⟩, some ⟨1, false, [[.sl false 1 (List.map (eInt .u8) b2)]]⟩, some ⟨1, false, (List.map (eInt .u8) b3)⟩, some ⟨1, false, (List.map (eInt .u8) b4)⟩] (Rs (Journal_effect__Append_1_e b2 b3) r) := so (fn := Tryd.f52) (k := true) (m := 5) h <| by
 intro r h; unfold Journal_effect__Append_1 at h
 refine zs 15 h (fun h => ?_) fun h => ?_
 ·
  exact zg 12 (Journal_effect__Append_1_2_ok h)
 exact zg 11 (Journal_effect__Append_1_2_ok h)
end Go.RX.L

set_option linter.unusedSimpArgs false
set_option linter.unusedVariables false
set_option maxRecDepth 100000
set_option maxHeartbeats 4000000
namespace Go.RX.L
open Go Go.RX Go.Proofs
attribute [local irreducible] FinQ
noncomputable def Journal_Append_e (b1 : List Int) (y : Int × Int × Bool × (List Int)) : D × Sto := (.int .i64 y.1, [some ⟨4, true, [[.msl 3 0 ((List.map (eInt .u8) b1).length) ((List.map (eInt .u8) b1).length) false, .msl 4 0 ((List.map (eInt .u8) y.2.2.2).length) ((List.map (eInt .u8) y.2.2.2).length) false, .int .i64 y.2.1, .bool y.2.2.1]]⟩, none, none, some ⟨1, false, (List.map (eInt .u8) b1)⟩, some ⟨1, false, (List.map (eInt .u8) y.2.2.2)⟩])
noncomputable def Journal_Append (kind : Int) (body : List Int) (fuse : Int) (down : Bool) (b1 : List Int) (b2 : List Int) : Option (Int × Int × Bool × (List Int)) := ((frame_Put kind body).bind fun y1 => (bif ((y1.2 : Int) != 0) then (some (y1.2, fuse, down, b2)) else ((Journal_effect__Append_1 fuse down y1.1 b1 b2).bind fun y3 => (some (y3.1, y3.2.1, y3.2.2.1, y3.2.2.2)))))
theorem Journal_Append_ok {kind : Int} {body : List Int} {fuse : Int} {down : Bool} {b1 : List Int} {b2 : List Int} {r : Int × Int × Bool × (List Int)} (h : Journal_Append kind body fuse down b1 b2 = some r) : Sound E 69 [.ptr 0 0 0, .int .u8 kind, .sl false 1 (List.map (eInt .u8) body)] [some ⟨4, true, [[.msl 1 0 ((List.map (eInt .u8) b1).length) ((List.map (eInt .u8) b1).length) false, .msl 2 0 ((List.map (eInt .u8) b2).length) ((List.map (eInt .u8) b2).length) false, .int .i64 fuse, .bool down]]⟩, some ⟨1, false, (List.map (eInt .u8) b1)⟩, some ⟨1, false, (List.map (eInt .u8) b2)⟩] (Rs (Journal_Append_e b1) r) := so (fn := Tryd.f69) (k := true) (m := 3) h <| by
 intro r h; unfold Journal_Append at h
 refine zc 10 [] h (fun _ => frame_Put_ok) fun y1 h => ?_
 refine zs 16 h (fun h => ?_) fun h => ?_
 ·
  refine zf 5 [.mv 1, .mv 2] ?_
  exact zu 1 h
 refine zc 7 [] h (fun _ => Journal_effect__Append_1_ok) fun y3 h => ?_
 exact zu 3 h
end Go.RX.L

set_option linter.unusedSimpArgs false
set_option linter.unusedVariables false
set_option maxRecDepth 100000
set_option maxHeartbeats 4000000
namespace Go.RX.L
open Go Go.RX Go.Proofs
attribute [local irreducible] FinQ
noncomputable def Journal_Sync_1_e (fuse : Int) (down : Bool) (b3 : List Int) (y : (List Int) × (List Int)) : D × Sto := (.tup [], [some ⟨1, true, [[.ptr 1 0 0]]⟩, some ⟨4, true, [[.msl 4 0 ((List.map (eInt .u8) y.1).length) ((List.map (eInt .u8) y.1).length) false, .msl 5 0 ((List.map (eInt .u8) y.2).length) ((List.map (eInt .u8) y.2).length) false, .int .i64 fuse, .bool down]]⟩, none, some ⟨1, false, (List.map (eInt .u8) b3)⟩, some ⟨1, false, (List.map (eInt .u8) y.1)⟩, some ⟨1, false, (List.map (eInt .u8) y.2)⟩])
noncomputable def Journal_Sync_1 (fuse : Int) (down : Bool) (b2 : List Int) (b3 : List Int) : Option ((List Int) × (List Int)) := (bif (decide (((List.map (eInt .u8) b2).length + (List.take ((List.map (eInt .u8) b3).length) (List.drop 0 (List.map (eInt .u8) b3))).length) * 1 ≤ bytesLim)) then (some ((b2 ++ b3), [])) else none)
theorem Journal_Sync_1_ok {fuse : Int} {down : Bool} {b2 : List Int} {b3 : List Int} {r : (List Int) × (List Int)} (h : Journal_Sync_1 fuse down b2 b3 = some r) : Sound E 85 [.ptr 0 0 0] [some ⟨1, true, [[.ptr 1 0 0]]⟩, some ⟨4, true, [[.msl 2 0 ((List.map (eInt .u8) b2).length) ((List.map (eInt .u8) b2).length) false, .msl 3 0 ((List.map (eInt .u8) b3).length) ((List.map (eInt .u8) b3).length) false, .int .i64 fuse, .bool down]]⟩, some ⟨1, false, (List.map (eInt .u8) b2)⟩, some ⟨1, false, (List.map (eInt .u8) b3)⟩] (Rs (Journal_Sync_1_e fuse down b3) r) := so (fn := Tryd.f85) (k := true) (m := 4) h <| by
 intro r h; unfold Journal_Sync_1 at h
 refine zm 7 (b := (Nat.beq ((List.take ((List.map (eInt .u8) b3).length) (List.drop 0 (List.map (eInt .u8) b3))).length) ((List.map (eInt .u8) b3).length))) (by simp) ?_
 refine zn 0 h fun h => ?_
 refine zm 0 (b := (Nat.ble (0 + (List.map (eInt .u8) b2).length) ((List.map (eInt .u8) b2).length))) (ble_full _) ?_
 refine zw 0 (a := (List.take ((List.map (eInt .u8) b2).length) (List.drop 0 (List.map (eInt .u8) b2)) ++ (List.take ((List.map (eInt .u8) b3).length) (List.drop 0 (List.map (eInt .u8) b3))))) (b := (List.map (eInt .u8) (b2 ++ b3))) (by simp only [take_full, take_full', List.map_append, List.map_take, List.map_drop]) ?_
 refine zf 4 [.matc 1 0 1 1] ?_
 exact zu 1 h
end Go.RX.L

set_option linter.unusedSimpArgs false
set_option linter.unusedVariables false
set_option maxRecDepth 100000
set_option maxHeartbeats 4000000
namespace Go.RX.L
open Go Go.RX Go.Proofs
attribute [local irreducible] FinQ
noncomputable def Journal_effect__Sync_1_c := codeAt (bodyOf Tryd.f52)
noncomputable def Journal_effect__Sync_1_e (y : Int × Int × Bool × (List Int) × (List Int)) : D × Sto := (.int .i64 y.1, [some ⟨4, true, [[.msl 4 0 ((List.map (eInt .u8) y.2.2.2.1).length) ((List.map (eInt .u8) y.2.2.2.1).length) false, .msl 5 0 ((List.map (eInt .u8) y.2.2.2.2).length) ((List.map (eInt .u8) y.2.2.2.2).length) false, .int .i64 y.2.1, .bool y.2.2.1]]⟩, some ⟨1, true, [[.ptr 0 0 0]]⟩, none, none, some ⟨1, false, (List.map (eInt .u8) y.2.2.2.1)⟩, some ⟨1, false, (List.map (eInt .u8) y.2.2.2.2)⟩])
abbrev Journal_effect__Sync_1_W (fuse : Int) (down : Bool) (b2 : List Int) (b3 : List Int) := AOk E (Cx.of Tryd.f52 true 4) Journal_effect__Sync_1_e
noncomputable def Journal_effect__Sync_1_1M (fuse : Int) (down : Bool) (b2 : List Int) (b3 : List Int) (fuse2 : Int) (down2 : Bool) : M := ⟨[.code (Journal_effect__Sync_1_c [1, 1])], [(0, .ptr 0 0 0), (1, .fn 85 [] [.ptr 1 0 0])], [some ⟨4, true, [[.msl 2 0 ((List.map (eInt .u8) b2).length) ((List.map (eInt .u8) b2).length) false, .msl 3 0 ((List.map (eInt .u8) b3).length) ((List.map (eInt .u8) b3).length) false, .int .i64 fuse2, .bool down2]]⟩, some ⟨1, true, [[.ptr 0 0 0]]⟩, some ⟨1, false, (List.map (eInt .u8) b2)⟩, some ⟨1, false, (List.map (eInt .u8) b3)⟩]⟩
noncomputable def Journal_effect__Sync_1_1 (fuse : Int) (down : Bool) (b2 : List Int) (b3 : List Int) (fuse2 : Int) (down2 : Bool) : Option (Int × Int × Bool × (List Int) × (List Int)) := (bif down2 then (some (61, fuse2, down2, b2, b3)) else (bif (decide ((fuse2 : Int) > 0)) then ((Journal_Sync_1 (IntKind.i64.wrap (fuse2 - 1)) down2 b2 b3).bind fun y3 => (some (0, (IntKind.i64.wrap (fuse2 - 1)), down2, y3.1, y3.2))) else ((Journal_Sync_1 fuse2 down2 b2 b3).bind fun y4 => (some (0, fuse2, down2, y4.1, y4.2)))))
theorem Journal_effect__Sync_1_1_ok {fuse down b2 b3 fuse2 down2} : Journal_effect__Sync_1_W fuse down b2 b3 (Journal_effect__Sync_1_1M fuse down b2 b3 fuse2 down2) (Journal_effect__Sync_1_1 fuse down b2 b3 fuse2 down2) := by
 intro r h; unfold Journal_effect__Sync_1_1 at h
 refine zs 10 h (fun h => ?_) fun h => ?_
 ·
  refine zf 4 [.mv 2, .mv 3] ?_
  exact zu 1 h
 refine zs 12 h (fun h => ?_) fun h => ?_
 ·
  refine zc 17 [] h (fun _ => Journal_Sync_1_ok) fun y3 h => ?_
  refine zf 5 [.mv 3] ?_
  exact zu 1 h
 refine zc 5 [] h (fun _ => Journal_Sync_1_ok) fun y4 h => ?_
 refine zf 5 [.mv 3] ?_
 exact zu 1 h
noncomputable def Journal_effect__Sync_1_2M (fuse : Int) (down : Bool) (b2 : List Int) (b3 : List Int) (t16 : Bool) : M := ⟨[.code (Journal_effect__Sync_1_c [1, 0, 1]), .code (Journal_effect__Sync_1_c [1, 1])], [(0, .ptr 0 0 0), (1, .fn 85 [] [.ptr 1 0 0]), (16, .bool t16)], [some ⟨4, true, [[.msl 2 0 ((List.map (eInt .u8) b2).length) ((List.map (eInt .u8) b2).length) false, .msl 3 0 ((List.map (eInt .u8) b3).length) ((List.map (eInt .u8) b3).length) false, .int .i64 fuse, .bool down]]⟩, some ⟨1, true, [[.ptr 0 0 0]]⟩, some ⟨1, false, (List.map (eInt .u8) b2)⟩, some ⟨1, false, (List.map (eInt .u8) b3)⟩]⟩
noncomputable def Journal_effect__Sync_1_2 (fuse : Int) (down : Bool) (b2 : List Int) (b3 : List Int) (t16 : Bool) : Option (Int × Int × Bool × (List Int) × (List Int)) := (bif t16 then (Journal_effect__Sync_1_1 fuse down b2 b3 (-1) true) else (Journal_effect__Sync_1_1 fuse down b2 b3 fuse down))
theorem Journal_effect__Sync_1_2_ok {fuse down b2 b3 t16} : Journal_effect__Sync_1_W fuse down b2 b3 (Journal_effect__Sync_1_2M fuse down b2 b3 t16) (Journal_effect__Sync_1_2 fuse down b2 b3 t16) := by
 intro r h; unfold Journal_effect__Sync_1_2 at h
 refine zs 1 h (fun h => ?_) fun h => ?_
 ·
  exact zg 14 (Journal_effect__Sync_1_1_ok h)
 exact zg 1 (Journal_effect__Sync_1_1_ok h)
noncomputable def Journal_effect__Sync_1 (fuse : Int) (down : Bool) (b2 : List Int) (b3 : List Int) : Option (Int × Int × Bool × (List Int) × (List Int)) := (bif (!down) then (Journal_effect__Sync_1_2 fuse down b2 b3 ((fuse : Int) == 0)) else (Journal_effect__Sync_1_2 fuse down b2 b3 false))
theorem Journal_effect__Sync_1_ok {fuse : Int} {down : Bool} {b2 : List Int} {b3 : List Int} {r : Int × Int × Bool × (List Int) × (List Int)} (h : Journal_effect__Sync_1 fuse down b2 b3 = some r) : Sound E 52 [.ptr 0 0 0, .fn 85 [] [.ptr 1 0 0]] [some ⟨4, true, [[.msl 2 0 ((List.map (eInt .u8) b2).length) ((List.map (eInt .u8) b2).length) false, .msl 3 0 ((List.map (eInt .u8) b3).length) ((List.map (eInt .u8) b3).length) false, .int .i64 fuse, .bool down]]⟩, some ⟨1, true, [[.ptr 0 0 0]]⟩, some ⟨1, false, (List.map (eInt .u8) b2)⟩, some ⟨1, false, (List.map (eInt .u8) b3)⟩] (Rs Journal_effect__Sync_1_e r) := so (fn := Tryd.f52) (k := true) (m := 4) h <| by
 intro r h; unfold Journal_effect__Sync_1 at h
 refine zs 15 h (fun h => ?_) fun h => ?_
 ·
  exact zg 12 (Journal_effect__Sync_1_2_ok h)
 exact zg 11 (Journal_effect__Sync_1_2_ok h)
end Go.RX.L

set_option linter.unusedSimpArgs false
set_option linter.unusedVariables false
set_option maxRecDepth 100000
set_option maxHeartbeats 4000000
namespace Go.RX.L
open Go Go.RX Go.Proofs
attribute [local irreducible] FinQ
noncomputable def Journal_Sync_e (y : Int × Int × Bool × (List Int) × (List Int)) : D × Sto := (.int .i64 y.1, [some ⟨4, true, [[.msl 3 0 ((List.map (eInt .u8) y.2.2.2.1).length) ((List.map (eInt .u8) y.2.2.2.1).length) false, .msl 4 0 ((List.map (eInt .u8) y.2.2.2.2).length) ((List.map (eInt .u8) y.2.2.2.2).length) false, .int .i64 y.2.1, .bool y.2.2.1]]⟩, none, none, some ⟨1, false, (List.map (eInt .u8) y.2.2.2.1)⟩, some ⟨1, false, (List.map (eInt .u8) y.2.2.2.2)⟩])
noncomputable def Journal_Sync (fuse : Int) (down : Bool) (b1 : List Int) (b2 : List Int) : Option (Int × Int × Bool × (List Int) × (List Int)) := ((Journal_effect__Sync_1 fuse down b1 b2).bind fun y1 => (some (y1.1, y1.2.1, y1.2.2.1, y1.2.2.2.1, y1.2.2.2.2)))
theorem Journal_Sync_ok {fuse : Int} {down : Bool} {b1 : List Int} {b2 : List Int} {r : Int × Int × Bool × (List Int) × (List Int)} (h : Journal_Sync fuse down b1 b2 = some r) : Sound E 70 [.ptr 0 0 0] [some ⟨4, true, [[.msl 1 0 ((List.map (eInt .u8) b1).length) ((List.map (eInt .u8) b1).length) false, .msl 2 0 ((List.map (eInt .u8) b2).length) ((List.map (eInt .u8) b2).length) false, .int .i64 fuse, .bool down]]⟩, some ⟨1, false, (List.map (eInt .u8) b1)⟩, some ⟨1, false, (List.map (eInt .u8) b2)⟩] (Rs Journal_Sync_e r) := so (fn := Tryd.f70) (k := true) (m := 3) h <| by
 intro r h; unfold Journal_Sync at h
 refine zc 11 [] h (fun _ => Journal_effect__Sync_1_ok) fun y1 h => ?_
 exact zu 3 h
end Go.RX.L

set_option linter.unusedSimpArgs false
set_option linter.unusedVariables false
set_option maxRecDepth 100000
set_option maxHeartbeats 4000000
namespace Go.RX.L
open Go Go.RX Go.Proofs
attribute [local irreducible] FinQ
noncomputable def Journal_Crash_e (b2 : List Int) (y : Int × Bool × (List Int) × (List Int)) : D × Sto := (.tup [], [some ⟨4, true, [[.msl 3 0 ((List.map (eInt .u8) y.2.2.1).length) ((List.map (eInt .u8) y.2.2.1).length) false, .msl 4 0 ((List.map (eInt .u8) y.2.2.2).length) ((List.map (eInt .u8) y.2.2.2).length) false, .int .i64 y.1, .bool y.2.1]]⟩, none, some ⟨1, false, (List.map (eInt .u8) b2)⟩, some ⟨1, false, (List.map (eInt .u8) y.2.2.1)⟩, some ⟨1, false, (List.map (eInt .u8) y.2.2.2)⟩])
noncomputable def Journal_Crash (keep : Int) (fuse : Int) (down : Bool) (b1 : List Int) (b2 : List Int) : Option (Int × Bool × (List Int) × (List Int)) := (bif ((decide (((0 : Nat) : Int) ≤ (mnI (mxI keep 0) (((List.map (eInt .u8) b2).length : Nat) : Int)))) && (decide (((mnI (mxI keep 0) (((List.map (eInt .u8) b2).length : Nat) : Int)) : Int) ≤ (((List.map (eInt .u8) b2).length : Nat) : Int)))) then (bif (Nat.beq ((List.take ((mnI (mxI keep 0) (((List.map (eInt .u8) b2).length : Nat) : Int)).toNat) (List.drop 0 (List.map (eInt .u8) b2))).length) ((mnI (mxI keep 0) (((List.map (eInt .u8) b2).length : Nat) : Int)).toNat)) then (bif (decide (((List.map (eInt .u8) b1).length + (List.take ((mnI (mxI keep 0) (((List.map (eInt .u8) b2).length : Nat) : Int)).toNat) (List.drop 0 (List.map (eInt .u8) b2))).length) * 1 ≤ bytesLim)) then (some ((-1), true, (b1 ++ (List.take ((mnI (mxI keep 0) (((List.map (eInt .u8) b2).length : Nat) : Int)).toNat) (List.drop 0 b2))), [])) else none) else none) else none)
theorem Journal_Crash_ok {keep : Int} {fuse : Int} {down : Bool} {b1 : List Int} {b2 : List Int} {r : Int × Bool × (List Int) × (List Int)} (h : Journal_Crash keep fuse down b1 b2 = some r) : Sound E 17 [.ptr 0 0 0, .int .i64 keep] [some ⟨4, true, [[.msl 1 0 ((List.map (eInt .u8) b1).length) ((List.map (eInt .u8) b1).length) false, .msl 2 0 ((List.map (eInt .u8) b2).length) ((List.map (eInt .u8) b2).length) false, .int .i64 fuse, .bool down]]⟩, some ⟨1, false, (List.map (eInt .u8) b1)⟩, some ⟨1, false, (List.map (eInt .u8) b2)⟩] (Rs (Journal_Crash_e b2) r) := so (fn := Tryd.f17) (k := true) (m := 3) h <| by
 intro r h; unfold Journal_Crash at h
 refine zn 17 h fun h => ?_
 refine zn 0 h fun h => ?_
 refine zn 0 h fun h => ?_
 refine zm 0 (b := (Nat.ble (0 + (List.map (eInt .u8) b1).length) ((List.map (eInt .u8) b1).length))) (ble_full _) ?_
 refine zw 0 (a := (List.take ((List.map (eInt .u8) b1).length) (List.drop 0 (List.map (eInt .u8) b1)) ++ (List.take ((mnI (mxI keep 0) (((List.map (eInt .u8) b2).length : Nat) : Int)).toNat) (List.drop 0 (List.map (eInt .u8) b2))))) (b := (List.map (eInt .u8) (b1 ++ (List.take ((mnI (mxI keep 0) (((List.map (eInt .u8) b2).length : Nat) : Int)).toNat) (List.drop 0 b2))))) (by simp only [take_full, take_full', List.map_append, List.map_take, List.map_drop]) ?_
 refine zf 22 [.matc 0 0 1 1] ?_
 exact zu 1 h
end Go.RX.L

set_option linter.unusedSimpArgs false
set_option linter.unusedVariables false
set_option maxRecDepth 100000
set_option maxHeartbeats 4000000
namespace Go.RX.L
open Go Go.RX Go.Proofs
attribute [local irreducible] FinQ
noncomputable def Journal_Fuse_e (down : Bool) (b1 : List Int) (b2 : List Int) (y : Int) : D × Sto := (.tup [], [some ⟨4, true, [[.msl 1 0 ((List.map (eInt .u8) b1).length) ((List.map (eInt .u8) b1).length) false, .msl 2 0 ((List.map (eInt .u8) b2).length) ((List.map (eInt .u8) b2).length) false, .int .i64 y, .bool down]]⟩, some ⟨1, false, (List.map (eInt .u8) b1)⟩, some ⟨1, false, (List.map (eInt .u8) b2)⟩])
noncomputable def Journal_Fuse (n : Int) (fuse : Int) (down : Bool) (b1 : List Int) (b2 : List Int) : Option Int := (some (mxI n (-1)))
theorem Journal_Fuse_ok {n : Int} {fuse : Int} {down : Bool} {b1 : List Int} {b2 : List Int} {r : Int} (h : Journal_Fuse n fuse down b1 b2 = some r) : Sound E 16 [.ptr 0 0 0, .int .i64 n] [some ⟨4, true, [[.msl 1 0 ((List.map (eInt .u8) b1).length) ((List.map (eInt .u8) b1).length) false, .msl 2 0 ((List.map (eInt .u8) b2).length) ((List.map (eInt .u8) b2).length) false, .int .i64 fuse, .bool down]]⟩, some ⟨1, false, (List.map (eInt .u8) b1)⟩, some ⟨1, false, (List.map (eInt .u8) b2)⟩] (Rs (Journal_Fuse_e down b1 b2) r) := so (fn := Tryd.f16) (k := false) (m := 3) h <| by
 intro r h; unfold Journal_Fuse at h
 exact zu 11 h
end Go.RX.L

set_option linter.unusedSimpArgs false
set_option linter.unusedVariables false
set_option maxRecDepth 100000
set_option maxHeartbeats 4000000
namespace Go.RX.L
open Go Go.RX Go.Proofs
attribute [local irreducible] FinQ
noncomputable def Journal_Down_e (y : Bool) : D × Sto := (.bool y, [])
noncomputable def Journal_Down (j : Journal) : Option Bool := (some j.down)
theorem Journal_Down_ok {j : Journal} {r : Bool} (h : Journal_Down j = some r) : Sound E 21 [.iptr 4 [[.sl false 1 (List.map (eInt .u8) j.synced), .sl false 1 (List.map (eInt .u8) j.tail), .int .i64 j.fuse, .bool j.down]] 0 0] [] (Rs Journal_Down_e r) := so (fn := Tryd.f21) (k := false) (m := 0) h <| by
 intro r h; unfold Journal_Down at h
 exact zu 14 h
end Go.RX.L

set_option linter.unusedSimpArgs false
set_option linter.unusedVariables false
set_option maxRecDepth 100000
namespace Go.RX.L
open Go Go.RX

def eff (fuse : Int) (down : Bool) : Option Int := if down = true ∨ fuse = 0 then none else some (if 0 < fuse then fuse - 1 else fuse)
def fd (fuse : Int) (down : Bool) : Int := bif down then fuse else -1
def okFuse (f : Int) : Prop := -1 ≤ f ∧ f ≤ 9223372036854775807
theorem eff_up {f g : Int} {d : Bool} (h : eff f d = some g) : d = false ∧ f ≠ 0 ∧ g = if 0 < f then f - 1 else f := by
  unfold eff at h
  split at h
  · cases h
  · rename_i hn
    simp only [not_or, Bool.not_eq_true] at hn
    exact ⟨hn.1, hn.2, (Option.some.inj h).symm⟩
theorem eff_fuse {f g : Int} {d : Bool} (hf : okFuse f) (h : eff f d = some g) : okFuse g := by
  obtain ⟨-, h1, rfl⟩ := eff_up h
  unfold okFuse at *
  split <;> omega
theorem fd_fuse {f : Int} {d : Bool} (hf : okFuse f) : okFuse (fd f d) := by
  cases d <;> simp [fd, okFuse] at * <;> omega
theorem lim7 {n : Nat} (h : n ≤ 20000000) : decide (n * 1 ≤ bytesLim) = true := limOk (by omega)

theorem jappend {k : Int} {body : List Int} (hk : 0 ≤ k ∧ k ≤ 255) (hb : Bytes body) (hl : body.length ≤ 8192) {fuse : Int} (hf : okFuse fuse) {down : Bool} {s t : List Int} (ht : t.length ≤ 10000000) :
    Journal_Append k body fuse down s t = some (match eff fuse down with | some f => (0, f, false, t ++ encF k body) | none => (61, fd fuse down, true, t)) := by
  have hp : frame_Put k body = some (encF k body, 0) := by rw [framePut_ok hk hb (by simp only [memB]; omega), putF, if_pos hl]
  have hlen := encF_len k body
  have app : ∀ f d, Journal_Append_1 (encF k body) f d s t = some (t ++ encF k body) := fun f d => by
    simp only [Journal_Append_1, List.length_map, lim7 (show t.length + (encF k body).length ≤ 20000000 by omega), cond_true]
  unfold okFuse at hf
  simp only [Journal_Append, hp, Option.bind_some, bne_self_eq_false, cond_false, Journal_effect__Append_1]
  cases down with
  | true => simp only [Bool.not_true, cond_false, Journal_effect__Append_1_2, Journal_effect__Append_1_1, cond_true, Option.bind_some, eff, fd, true_or, if_true]
  | false =>
    simp only [Bool.not_false, cond_true]
    by_cases h0 : fuse = 0
    · subst h0
      simp only [beq_self_eq_true, Journal_effect__Append_1_2, cond_true, Journal_effect__Append_1_1, Option.bind_some, eff, fd, or_true, if_true, cond_false]
    · have e0 : ((fuse : Int) == 0) = false := by simpa using h0
      simp only [e0, Journal_effect__Append_1_2, cond_false, Journal_effect__Append_1_1, app, Option.bind_some, eff, fd, h0, Bool.false_eq_true, or_self, if_false]
      by_cases hp : 0 < fuse
      · have : decide (fuse > 0) = true := decide_eq_true hp
        rw [wI64 (n := fuse - 1) (by omega) (by omega)]
        simp only [this, cond_true, Option.bind_some, if_pos hp]
      · have : decide (fuse > 0) = false := decide_eq_false (by omega)
        simp only [this, cond_false, Option.bind_some, if_neg hp]

theorem jsync {fuse : Int} (hf : okFuse fuse) {down : Bool} {s t : List Int} (ht : s.length + t.length ≤ 20000000) :
    Journal_Sync fuse down s t = some (match eff fuse down with | some f => (0, f, false, s ++ t, []) | none => (61, fd fuse down, true, s, t)) := by
  have app : ∀ f d, Journal_Sync_1 f d s t = some (s ++ t, []) := fun f d => by
    have e : (List.take t.length (List.drop 0 (List.map (eInt .u8) t))).length = t.length := by simp
    simp only [Journal_Sync_1, List.length_map]
    rw [e, lim7 ht]; rfl
  unfold okFuse at hf
  simp only [Journal_Sync, Journal_effect__Sync_1]
  cases down with
  | true => simp only [Bool.not_true, cond_false, Journal_effect__Sync_1_2, Journal_effect__Sync_1_1, cond_true, Option.bind_some, eff, fd, true_or, if_true]
  | false =>
    simp only [Bool.not_false, cond_true]
    by_cases h0 : fuse = 0
    · subst h0
      simp only [beq_self_eq_true, Journal_effect__Sync_1_2, cond_true, Journal_effect__Sync_1_1, Option.bind_some, eff, fd, or_true, if_true, cond_false]
    · have e0 : ((fuse : Int) == 0) = false := by simpa using h0
      simp only [e0, Journal_effect__Sync_1_2, cond_false, Journal_effect__Sync_1_1, app, Option.bind_some, eff, fd, h0, Bool.false_eq_true, or_self, if_false]
      by_cases hp : 0 < fuse
      · have : decide (fuse > 0) = true := decide_eq_true hp
        rw [wI64 (n := fuse - 1) (by omega) (by omega)]
        simp only [this, cond_true, Option.bind_some, if_pos hp]
      · have : decide (fuse > 0) = false := decide_eq_false (by omega)
        simp only [this, cond_false, Option.bind_some, if_neg hp]

def kept_ (keep : Int) (t : List Int) : List Int := t.take (min (max keep 0) (t.length : Int)).toNat
theorem jcrash {keep fuse : Int} {down : Bool} {s t : List Int} (ht : s.length + t.length ≤ 20000000) : Journal_Crash keep fuse down s t = some (-1, true, s ++ kept_ keep t, []) := by
  have e : mnI (mxI keep 0) ((t.length : Nat) : Int) = ((min (max keep 0) (t.length : Int)).toNat : Int) := by
    unfold mnI mxI
    split <;> split <;> omega
  generalize hk : (min (max keep 0) (t.length : Int)).toNat = n at e
  have hn : n ≤ t.length := by omega
  have c1 : (decide (((0 : Nat) : Int) ≤ (n : Int)) && decide ((n : Int) ≤ ((t.length : Nat) : Int))) = true := by simp; omega
  have c2 : (List.take n (List.drop 0 (List.map (eInt .u8) t))).length = n := by simp; omega
  simp only [Journal_Crash, List.length_map, e, c1, cond_true, Int.toNat_natCast]
  rw [c2]
  simp only [show Nat.beq n n = true from Nat.beq_refl n, lim7 (show s.length + n ≤ 20000000 by omega), List.drop_zero, kept_, hk, cond_true]

theorem jopen {l : List Fr1} {J : List Int} {e : Int} (hl : ∀ x ∈ l, okFr x) (hJ : pF J = .inl e) (hJb : Bytes J) (hm : (frs l ++ J).length ≤ 10000000) {fuse : Int} (hf : okFuse fuse) {down : Bool} {t : List Int} :
    Journal_Open fuse down (frs l ++ J) t = some (if J = [] then (l.map (·.1), l.map (·.2), (0 : Int), fuse, false, frs l, ([] : List Int)) else (match eff fuse false with | some f => (l.map (·.1), l.map (·.2), 0, f, false, frs l, []) | none => ([], [], 61, fd fuse false, true, frs l ++ J, []))) := by
  have ha := jall hl hJ hJb hm
  have cut : ∀ f d (u : List Int), Journal_Open_1 ((frs l).length : Int) f d (frs l ++ J) u = some (frs l) := fun f d u => by
    have c1 : (decide (((0 : Nat) : Int) ≤ ((frs l).length : Int)) && decide (((frs l).length : Int) ≤ (((frs l ++ J).length : Nat) : Int))) = true := by simp; omega
    have := jclone2 (b := frs l ++ J) (ln := (frs l).length) (cp := (frs l ++ J).length) (by simp) (by simp only [memB]; omega)
    simp only [Journal_Open_1, List.length_map, c1, cond_true, Int.toNat_natCast, this, Option.bind_some, List.take_left]
  simp only [Journal_Open, ha, Option.bind_some, List.length_map]
  by_cases hJ0 : J = []
  · subst hJ0
    simp only [List.append_nil, Int.lt_irrefl, decide_false, cond_false, if_true]
  · have hpos : 0 < J.length := List.length_pos_iff.2 hJ0
    have : decide (((frs l).length : Int) < (((frs l ++ J).length : Nat) : Int)) = true := by simp; omega
    unfold okFuse at hf
    simp only [this, cond_true, if_neg hJ0, Journal_effect__Open_1, Bool.not_false]
    by_cases h0 : fuse = 0
    · subst h0
      simp [Journal_effect__Open_1_2, Journal_effect__Open_1_1, eff, fd]
    · have e0 : ((fuse : Int) == 0) = false := by simpa using h0
      simp only [e0, Journal_effect__Open_1_2, cond_false, Journal_effect__Open_1_1, cut, Option.bind_some, eff, fd, h0, Bool.false_eq_true, or_self, if_false]
      by_cases hp : 0 < fuse
      · have : decide (fuse > 0) = true := decide_eq_true hp
        rw [wI64 (n := fuse - 1) (by omega) (by omega)]
        simp only [this, cond_true, Option.bind_some, if_pos hp, bne_self_eq_false, cond_false]
      · have : decide (fuse > 0) = false := decide_eq_false (by omega)
        simp only [this, cond_false, Option.bind_some, if_neg hp, bne_self_eq_false]

/-! ### records -/
def okRec (m : Msg) : Prop := FineM m ∧ rightM m = true
def rec1 (m : Msg) : Fr1 := (m.Kind, encB m)
theorem okRec.fr {m : Msg} (h : okRec m) : okFr (rec1 m) := by
  refine ⟨kind_in h.2, fun c hc => ?_, by have := encB_len h.1 h.2; simp only [rec1]; omega⟩
  have := frame_bytes h.1 h.2
  have hc' : c ∈ encB m := hc
  exact this c (by simp only [encF, inner]; simp [hc'])
def log (rs : List Msg) : List Int := frs (rs.map rec1)
theorem log_app (a b : List Msg) : log (a ++ b) = log a ++ log b := by simp [log, frs_app]
theorem log_one (m : Msg) : log [m] = encF m.Kind (encB m) := by simp [log, frs, rec1]
theorem okFrs {rs : List Msg} (h : ∀ m ∈ rs, okRec m) : ∀ x ∈ rs.map rec1, okFr x := fun x hx => by
  obtain ⟨m, hm, rfl⟩ := List.mem_map.1 hx
  exact (h m hm).fr
theorem log_bytes {rs : List Msg} (h : ∀ m ∈ rs, okRec m) : Bytes (log rs) := frs_bytes (okFrs h)

/-- A disk: its records; what is cut; what is not synced. -/
structure Disk (rs : List Msg) (J : List Int) (s : List Int) : Prop where
  ok : ∀ m ∈ rs, okRec m
  eq : s = log rs ++ J
  cut : ∃ e, pF J = .inl e
  jb : Bytes J
theorem Disk.nil : Disk [] [] [] := ⟨fun m h => by simp at h, rfl, ⟨_, rfl⟩, fun c hc => by simp at hc⟩

theorem Disk.crash {rs : List Msg} {s : List Int} (h : Disk rs [] s) {m : Msg} (hm : okRec m) (keep : Int) : (Disk (rs ++ [m]) [] (s ++ kept_ keep (log [m]))) ∨ (∃ J, Disk rs J (s ++ kept_ keep (log [m]))) := by
  have hl : (log [m]).length = (encB m).length + 8 := by rw [log_one, encF_len]
  obtain ⟨h1, h2, h3⟩ := hm.fr
  unfold kept_
  generalize hn : (min (max keep 0) ((log [m]).length : Int)).toNat = n
  by_cases hf : n = (log [m]).length
  · left
    refine ⟨fun x hx => ?_, ?_, ⟨_, rfl⟩, fun c hc => by simp at hc⟩
    · rcases List.mem_append.1 hx with hx | hx
      · exact h.ok x hx
      · rw [List.mem_singleton.1 hx]; exact hm
    · rw [hf, List.take_length, h.eq, log_app]; simp
  · right
    refine ⟨(log [m]).take n, h.ok, by rw [h.eq]; simp, ?_, fun c hc => log_bytes (rs := [m]) (fun x hx => by rw [List.mem_singleton.1 hx]; exact hm) c (List.mem_of_mem_take hc)⟩
    have := pF_cut h1 h2 h3 (j := n) (by simp only [rec1]; omega)
    rw [log_one]
    simpa only [rec1] using this
theorem Disk.crash0 {rs : List Msg} {J s : List Int} (h : Disk rs J s) (keep : Int) : Disk rs J (s ++ kept_ keep []) := by
  simpa [kept_] using h
end Go.RX.L

set_option linter.unusedSimpArgs false
set_option linter.unusedVariables false
set_option maxRecDepth 100000
set_option maxHeartbeats 4000000
namespace Go.RX.L
open Go Go.RX Go.Proofs
attribute [local irreducible] FinQ
noncomputable def Acceptor_reply_e (kept : keptT) (c : Config) (node : Int) (fuse : Int) (down : Bool) (b2 : List Int) (b3 : List Int) (y : Msg) : D × Sto := (.agg [.int .i64 y.Kind, .int .i64 y.From, .int .i64 y.To, .int .i64 y.Epoch, .int .i64 y.Ballot, .int .i64 y.Accepted, .int .i64 y.Nonce, .int .i64 y.Time, .int .u64 y.Up, .int .i64 y.Code, .bool y.HasPlan, .int .i64 y.Plan.Epoch, .int .i64 y.Plan.Target, .int .i64 y.Plan.Prev, .int .i64 y.Plan.Spill, .int .i64 y.Plan.Percent, .int .i64 y.Plan.Stamp, .int .i64 y.Plan.Since, .int .i64 y.Plan.Ramped, .int .u64 y.Plan.Up, .int .u64 y.Plan.Sup, .sl false 1 (List.map (eInt .i64) y.Plan.Pen), .sl false 1 (List.map (eInt .i64) y.Plan.Changes), .sl false 1 (List.map (eInt .i64) y.ID), .sl false 1 (List.map (eInt .u8) y.Session), .sl false 1 (List.map (eInt .u8) y.Payload)], [some ⟨67, true, [[.int .i64 kept.epoch, .int .i64 kept.known.Epoch, .int .i64 kept.known.Target, .int .i64 kept.known.Prev, .int .i64 kept.known.Spill, .int .i64 kept.known.Percent, .int .i64 kept.known.Stamp, .int .i64 kept.known.Since, .int .i64 kept.known.Ramped, .int .u64 kept.known.Up, .int .u64 kept.known.Sup, .sl false 1 (List.map (eInt .i64) kept.known.Pen), .sl false 1 (List.map (eInt .i64) kept.known.Changes), .int .i64 kept.promised, .int .i64 kept.accepted, .int .i64 kept.plan.Epoch, .int .i64 kept.plan.Target, .int .i64 kept.plan.Prev, .int .i64 kept.plan.Spill, .int .i64 kept.plan.Percent, .int .i64 kept.plan.Stamp, .int .i64 kept.plan.Since, .int .i64 kept.plan.Ramped, .int .u64 kept.plan.Up, .int .u64 kept.plan.Sup, .sl false 1 (List.map (eInt .i64) kept.plan.Pen), .sl false 1 (List.map (eInt .i64) kept.plan.Changes), .int .i64 kept.writes.low, .int .i64 kept.writes.high, .int .i64 kept.writes.at_, .int .i64 kept.wish, .int .i64 kept.wishAt, .bool kept.lead.is_, .int .i64 kept.lead.who, .int .i64 kept.lead.at_, .int .i64 c.F_, .int .i64 c.Deciders, .int .i64 c.Targets, .int .i64 c.Routers, .int .i64 c.Observers, .sl false 1 (List.map (eInt .i64) c.Tiers), .int .i64 c.Every, .int .i64 c.Wait, .int .i64 c.Rise, .int .i64 c.Fall, .int .i64 c.Fresh, .int .i64 c.L_, .int .i64 c.M_, .int .i64 c.Dwell, .int .i64 c.D_, .int .i64 c.W_, .int .i64 c.B_, .int .i64 c.Hit, .int .i64 c.Suppress, .int .i64 c.Reuse, .int .i64 c.Half, .int .i64 c.First, .int .i64 c.Step, .int .i64 c.StepTime, .int .i64 c.S_, .int .i64 c.Cap, .int .i64 c.Span, .int .i64 c.Room, .int .i64 c.Tries, .int .i64 c.Retry, .int .i64 node, .ptr 1 0 0]]⟩, some ⟨4, true, [[.msl 2 0 ((List.map (eInt .u8) b2).length) ((List.map (eInt .u8) b2).length) false, .msl 3 0 ((List.map (eInt .u8) b3).length) ((List.map (eInt .u8) b3).length) false, .int .i64 fuse, .bool down]]⟩, some ⟨1, false, (List.map (eInt .u8) b2)⟩, some ⟨1, false, (List.map (eInt .u8) b3)⟩])
noncomputable def Acceptor_reply (m : Msg) (kind : Int) (kept : keptT) (c : Config) (node : Int) (fuse : Int) (down : Bool) (b2 : List Int) (b3 : List Int) : Option Msg := (some (⟨kind, node, m.From, m.Epoch, 0, 0, 0, 0, 0, 0, false, (⟨0, 0, 0, 0, 0, 0, 0, 0, 0, 0, [], []⟩ : Plan), [], [], []⟩ : Msg))
theorem Acceptor_reply_ok {m : Msg} {kind : Int} {kept : keptT} {c : Config} {node : Int} {fuse : Int} {down : Bool} {b2 : List Int} {b3 : List Int} {r : Msg} (h : Acceptor_reply m kind kept c node fuse down b2 b3 = some r) : Sound E 46 [.ptr 0 0 0, .agg [.int .i64 m.Kind, .int .i64 m.From, .int .i64 m.To, .int .i64 m.Epoch, .int .i64 m.Ballot, .int .i64 m.Accepted, .int .i64 m.Nonce, .int .i64 m.Time, .int .u64 m.Up, .int .i64 m.Code, .bool m.HasPlan, .int .i64 m.Plan.Epoch, .int .i64 m.Plan.Target, .int .i64 m.Plan.Prev, .int .i64 m.Plan.Spill, .int .i64 m.Plan.Percent, .int .i64 m.Plan.Stamp, .int .i64 m.Plan.Since, .int .i64 m.Plan.Ramped, .int .u64 m.Plan.Up, .int .u64 m.Plan.Sup, .sl false 1 (List.map (eInt .i64) m.Plan.Pen), .sl false 1 (List.map (eInt .i64) m.Plan.Changes), .sl false 1 (List.map (eInt .i64) m.ID), .sl false 1 (List.map (eInt .u8) m.Session), .sl false 1 (List.map (eInt .u8) m.Payload)], .int .i64 kind] [some ⟨67, true, [[.int .i64 kept.epoch, .int .i64 kept.known.Epoch, .int .i64 kept.known.Target, .int .i64 kept.known.Prev, .int .i64 kept.known.Spill, .int .i64 kept.known.Percent, .int .i64 kept.known.Stamp, .int .i64 kept.known.Since, .int .i64 kept.known.Ramped, .int .u64 kept.known.Up, .int .u64 kept.known.Sup, .sl false 1 (List.map (eInt .i64) kept.known.Pen), .sl false 1 (List.map (eInt .i64) kept.known.Changes), .int .i64 kept.promised, .int .i64 kept.accepted, .int .i64 kept.plan.Epoch, .int .i64 kept.plan.Target, .int .i64 kept.plan.Prev, .int .i64 kept.plan.Spill, .int .i64 kept.plan.Percent, .int .i64 kept.plan.Stamp, .int .i64 kept.plan.Since, .int .i64 kept.plan.Ramped, .int .u64 kept.plan.Up, .int .u64 kept.plan.Sup, .sl false 1 (List.map (eInt .i64) kept.plan.Pen), .sl false 1 (List.map (eInt .i64) kept.plan.Changes), .int .i64 kept.writes.low, .int .i64 kept.writes.high, .int .i64 kept.writes.at_, .int .i64 kept.wish, .int .i64 kept.wishAt, .bool kept.lead.is_, .int .i64 kept.lead.who, .int .i64 kept.lead.at_, .int .i64 c.F_, .int .i64 c.Deciders, .int .i64 c.Targets, .int .i64 c.Routers, .int .i64 c.Observers, .sl false 1 (List.map (eInt .i64) c.Tiers), .int .i64 c.Every, .int .i64 c.Wait, .int .i64 c.Rise, .int .i64 c.Fall, .int .i64 c.Fresh, .int .i64 c.L_, .int .i64 c.M_, .int .i64 c.Dwell, .int .i64 c.D_, .int .i64 c.W_, .int .i64 c.B_, .int .i64 c.Hit, .int .i64 c.Suppress, .int .i64 c.Reuse, .int .i64 c.Half, .int .i64 c.First, .int .i64 c.Step, .int .i64 c.StepTime, .int .i64 c.S_, .int .i64 c.Cap, .int .i64 c.Span, .int .i64 c.Room, .int .i64 c.Tries, .int .i64 c.Retry, .int .i64 node, .ptr 1 0 0]]⟩, some ⟨4, true, [[.msl 2 0 ((List.map (eInt .u8) b2).length) ((List.map (eInt .u8) b2).length) false, .msl 3 0 ((List.map (eInt .u8) b3).length) ((List.map (eInt .u8) b3).length) false, .int .i64 fuse, .bool down]]⟩, some ⟨1, false, (List.map (eInt .u8) b2)⟩, some ⟨1, false, (List.map (eInt .u8) b3)⟩] (Rs (Acceptor_reply_e kept c node fuse down b2 b3) r) := so (fn := Tryd.f46) (k := false) (m := 4) h <| by
 intro r h; unfold Acceptor_reply at h
 refine zf 12 [.blk 5 [some 1, some 1, some 1, some 1, some 1]] ?_
 exact zu 2 h
end Go.RX.L

set_option linter.unusedSimpArgs false
set_option linter.unusedVariables false
set_option maxRecDepth 100000
set_option maxHeartbeats 4000000
namespace Go.RX.L
open Go Go.RX Go.Proofs
attribute [local irreducible] FinQ
noncomputable def Acceptor_decided_e (kept : keptT) (c : Config) (node : Int) (fuse : Int) (down : Bool) (b2 : List Int) (b3 : List Int) (y : List Msg) : D × Sto := (.sl false 26 (List.map Msg.enc y), [some ⟨67, true, [[.int .i64 kept.epoch, .int .i64 kept.known.Epoch, .int .i64 kept.known.Target, .int .i64 kept.known.Prev, .int .i64 kept.known.Spill, .int .i64 kept.known.Percent, .int .i64 kept.known.Stamp, .int .i64 kept.known.Since, .int .i64 kept.known.Ramped, .int .u64 kept.known.Up, .int .u64 kept.known.Sup, .sl false 1 (List.map (eInt .i64) kept.known.Pen), .sl false 1 (List.map (eInt .i64) kept.known.Changes), .int .i64 kept.promised, .int .i64 kept.accepted, .int .i64 kept.plan.Epoch, .int .i64 kept.plan.Target, .int .i64 kept.plan.Prev, .int .i64 kept.plan.Spill, .int .i64 kept.plan.Percent, .int .i64 kept.plan.Stamp, .int .i64 kept.plan.Since, .int .i64 kept.plan.Ramped, .int .u64 kept.plan.Up, .int .u64 kept.plan.Sup, .sl false 1 (List.map (eInt .i64) kept.plan.Pen), .sl false 1 (List.map (eInt .i64) kept.plan.Changes), .int .i64 kept.writes.low, .int .i64 kept.writes.high, .int .i64 kept.writes.at_, .int .i64 kept.wish, .int .i64 kept.wishAt, .bool kept.lead.is_, .int .i64 kept.lead.who, .int .i64 kept.lead.at_, .int .i64 c.F_, .int .i64 c.Deciders, .int .i64 c.Targets, .int .i64 c.Routers, .int .i64 c.Observers, .sl false 1 (List.map (eInt .i64) c.Tiers), .int .i64 c.Every, .int .i64 c.Wait, .int .i64 c.Rise, .int .i64 c.Fall, .int .i64 c.Fresh, .int .i64 c.L_, .int .i64 c.M_, .int .i64 c.Dwell, .int .i64 c.D_, .int .i64 c.W_, .int .i64 c.B_, .int .i64 c.Hit, .int .i64 c.Suppress, .int .i64 c.Reuse, .int .i64 c.Half, .int .i64 c.First, .int .i64 c.Step, .int .i64 c.StepTime, .int .i64 c.S_, .int .i64 c.Cap, .int .i64 c.Span, .int .i64 c.Room, .int .i64 c.Tries, .int .i64 c.Retry, .int .i64 node, .ptr 1 0 0]]⟩, some ⟨4, true, [[.msl 2 0 ((List.map (eInt .u8) b2).length) ((List.map (eInt .u8) b2).length) false, .msl 3 0 ((List.map (eInt .u8) b3).length) ((List.map (eInt .u8) b3).length) false, .int .i64 fuse, .bool down]]⟩, some ⟨1, false, (List.map (eInt .u8) b2)⟩, some ⟨1, false, (List.map (eInt .u8) b3)⟩])
noncomputable def Acceptor_decided (m : Msg) (kept : keptT) (c : Config) (node : Int) (fuse : Int) (down : Bool) (b2 : List Int) (b3 : List Int) : Option (List Msg) := ((Acceptor_reply m 9 kept c node fuse down b2 b3).bind fun y1 => (some ([(⟨y1.Kind, y1.From, y1.To, kept.known.Epoch, y1.Ballot, y1.Accepted, y1.Nonce, y1.Time, y1.Up, y1.Code, true, kept.known, y1.ID, y1.Session, y1.Payload⟩ : Msg)])))
theorem Acceptor_decided_ok {m : Msg} {kept : keptT} {c : Config} {node : Int} {fuse : Int} {down : Bool} {b2 : List Int} {b3 : List Int} {r : List Msg} (h : Acceptor_decided m kept c node fuse down b2 b3 = some r) : Sound E 42 [.ptr 0 0 0, .agg [.int .i64 m.Kind, .int .i64 m.From, .int .i64 m.To, .int .i64 m.Epoch, .int .i64 m.Ballot, .int .i64 m.Accepted, .int .i64 m.Nonce, .int .i64 m.Time, .int .u64 m.Up, .int .i64 m.Code, .bool m.HasPlan, .int .i64 m.Plan.Epoch, .int .i64 m.Plan.Target, .int .i64 m.Plan.Prev, .int .i64 m.Plan.Spill, .int .i64 m.Plan.Percent, .int .i64 m.Plan.Stamp, .int .i64 m.Plan.Since, .int .i64 m.Plan.Ramped, .int .u64 m.Plan.Up, .int .u64 m.Plan.Sup, .sl false 1 (List.map (eInt .i64) m.Plan.Pen), .sl false 1 (List.map (eInt .i64) m.Plan.Changes), .sl false 1 (List.map (eInt .i64) m.ID), .sl false 1 (List.map (eInt .u8) m.Session), .sl false 1 (List.map (eInt .u8) m.Payload)]] [some ⟨67, true, [[.int .i64 kept.epoch, .int .i64 kept.known.Epoch, .int .i64 kept.known.Target, .int .i64 kept.known.Prev, .int .i64 kept.known.Spill, .int .i64 kept.known.Percent, .int .i64 kept.known.Stamp, .int .i64 kept.known.Since, .int .i64 kept.known.Ramped, .int .u64 kept.known.Up, .int .u64 kept.known.Sup, .sl false 1 (List.map (eInt .i64) kept.known.Pen), .sl false 1 (List.map (eInt .i64) kept.known.Changes), .int .i64 kept.promised, .int .i64 kept.accepted, .int .i64 kept.plan.Epoch, .int .i64 kept.plan.Target, .int .i64 kept.plan.Prev, .int .i64 kept.plan.Spill, .int .i64 kept.plan.Percent, .int .i64 kept.plan.Stamp, .int .i64 kept.plan.Since, .int .i64 kept.plan.Ramped, .int .u64 kept.plan.Up, .int .u64 kept.plan.Sup, .sl false 1 (List.map (eInt .i64) kept.plan.Pen), .sl false 1 (List.map (eInt .i64) kept.plan.Changes), .int .i64 kept.writes.low, .int .i64 kept.writes.high, .int .i64 kept.writes.at_, .int .i64 kept.wish, .int .i64 kept.wishAt, .bool kept.lead.is_, .int .i64 kept.lead.who, .int .i64 kept.lead.at_, .int .i64 c.F_, .int .i64 c.Deciders, .int .i64 c.Targets, .int .i64 c.Routers, .int .i64 c.Observers, .sl false 1 (List.map (eInt .i64) c.Tiers), .int .i64 c.Every, .int .i64 c.Wait, .int .i64 c.Rise, .int .i64 c.Fall, .int .i64 c.Fresh, .int .i64 c.L_, .int .i64 c.M_, .int .i64 c.Dwell, .int .i64 c.D_, .int .i64 c.W_, .int .i64 c.B_, .int .i64 c.Hit, .int .i64 c.Suppress, .int .i64 c.Reuse, .int .i64 c.Half, .int .i64 c.First, .int .i64 c.Step, .int .i64 c.StepTime, .int .i64 c.S_, .int .i64 c.Cap, .int .i64 c.Span, .int .i64 c.Room, .int .i64 c.Tries, .int .i64 c.Retry, .int .i64 node, .ptr 1 0 0]]⟩, some ⟨4, true, [[.msl 2 0 ((List.map (eInt .u8) b2).length) ((List.map (eInt .u8) b2).length) false, .msl 3 0 ((List.map (eInt .u8) b3).length) ((List.map (eInt .u8) b3).length) false, .int .i64 fuse, .bool down]]⟩, some ⟨1, false, (List.map (eInt .u8) b2)⟩, some ⟨1, false, (List.map (eInt .u8) b3)⟩] (Rs (Acceptor_decided_e kept c node fuse down b2 b3) r) := so (fn := Tryd.f42) (k := false) (m := 4) h <| by
 intro r h; unfold Acceptor_decided at h
 refine zc 11 [] h (fun _ => Acceptor_reply_ok) fun y1 h => ?_
 exact zu 24 h
end Go.RX.L

set_option linter.unusedSimpArgs false
set_option linter.unusedVariables false
set_option maxRecDepth 100000
set_option maxHeartbeats 4000000
namespace Go.RX.L
open Go Go.RX Go.Proofs
attribute [local irreducible] FinQ
noncomputable def Acceptor_nack_e (kept : keptT) (c : Config) (node : Int) (fuse : Int) (down : Bool) (b2 : List Int) (b3 : List Int) (y : List Msg) : D × Sto := (.sl false 26 (List.map Msg.enc y), [some ⟨67, true, [[.int .i64 kept.epoch, .int .i64 kept.known.Epoch, .int .i64 kept.known.Target, .int .i64 kept.known.Prev, .int .i64 kept.known.Spill, .int .i64 kept.known.Percent, .int .i64 kept.known.Stamp, .int .i64 kept.known.Since, .int .i64 kept.known.Ramped, .int .u64 kept.known.Up, .int .u64 kept.known.Sup, .sl false 1 (List.map (eInt .i64) kept.known.Pen), .sl false 1 (List.map (eInt .i64) kept.known.Changes), .int .i64 kept.promised, .int .i64 kept.accepted, .int .i64 kept.plan.Epoch, .int .i64 kept.plan.Target, .int .i64 kept.plan.Prev, .int .i64 kept.plan.Spill, .int .i64 kept.plan.Percent, .int .i64 kept.plan.Stamp, .int .i64 kept.plan.Since, .int .i64 kept.plan.Ramped, .int .u64 kept.plan.Up, .int .u64 kept.plan.Sup, .sl false 1 (List.map (eInt .i64) kept.plan.Pen), .sl false 1 (List.map (eInt .i64) kept.plan.Changes), .int .i64 kept.writes.low, .int .i64 kept.writes.high, .int .i64 kept.writes.at_, .int .i64 kept.wish, .int .i64 kept.wishAt, .bool kept.lead.is_, .int .i64 kept.lead.who, .int .i64 kept.lead.at_, .int .i64 c.F_, .int .i64 c.Deciders, .int .i64 c.Targets, .int .i64 c.Routers, .int .i64 c.Observers, .sl false 1 (List.map (eInt .i64) c.Tiers), .int .i64 c.Every, .int .i64 c.Wait, .int .i64 c.Rise, .int .i64 c.Fall, .int .i64 c.Fresh, .int .i64 c.L_, .int .i64 c.M_, .int .i64 c.Dwell, .int .i64 c.D_, .int .i64 c.W_, .int .i64 c.B_, .int .i64 c.Hit, .int .i64 c.Suppress, .int .i64 c.Reuse, .int .i64 c.Half, .int .i64 c.First, .int .i64 c.Step, .int .i64 c.StepTime, .int .i64 c.S_, .int .i64 c.Cap, .int .i64 c.Span, .int .i64 c.Room, .int .i64 c.Tries, .int .i64 c.Retry, .int .i64 node, .ptr 1 0 0]]⟩, some ⟨4, true, [[.msl 2 0 ((List.map (eInt .u8) b2).length) ((List.map (eInt .u8) b2).length) false, .msl 3 0 ((List.map (eInt .u8) b3).length) ((List.map (eInt .u8) b3).length) false, .int .i64 fuse, .bool down]]⟩, some ⟨1, false, (List.map (eInt .u8) b2)⟩, some ⟨1, false, (List.map (eInt .u8) b3)⟩])
noncomputable def Acceptor_nack (m : Msg) (kept : keptT) (c : Config) (node : Int) (fuse : Int) (down : Bool) (b2 : List Int) (b3 : List Int) : Option (List Msg) := ((Acceptor_reply m 6 kept c node fuse down b2 b3).bind fun y1 => (some ([(⟨y1.Kind, y1.From, y1.To, y1.Epoch, kept.promised, y1.Accepted, y1.Nonce, y1.Time, y1.Up, y1.Code, y1.HasPlan, y1.Plan, y1.ID, y1.Session, y1.Payload⟩ : Msg)])))
theorem Acceptor_nack_ok {m : Msg} {kept : keptT} {c : Config} {node : Int} {fuse : Int} {down : Bool} {b2 : List Int} {b3 : List Int} {r : List Msg} (h : Acceptor_nack m kept c node fuse down b2 b3 = some r) : Sound E 44 [.ptr 0 0 0, .agg [.int .i64 m.Kind, .int .i64 m.From, .int .i64 m.To, .int .i64 m.Epoch, .int .i64 m.Ballot, .int .i64 m.Accepted, .int .i64 m.Nonce, .int .i64 m.Time, .int .u64 m.Up, .int .i64 m.Code, .bool m.HasPlan, .int .i64 m.Plan.Epoch, .int .i64 m.Plan.Target, .int .i64 m.Plan.Prev, .int .i64 m.Plan.Spill, .int .i64 m.Plan.Percent, .int .i64 m.Plan.Stamp, .int .i64 m.Plan.Since, .int .i64 m.Plan.Ramped, .int .u64 m.Plan.Up, .int .u64 m.Plan.Sup, .sl false 1 (List.map (eInt .i64) m.Plan.Pen), .sl false 1 (List.map (eInt .i64) m.Plan.Changes), .sl false 1 (List.map (eInt .i64) m.ID), .sl false 1 (List.map (eInt .u8) m.Session), .sl false 1 (List.map (eInt .u8) m.Payload)]] [some ⟨67, true, [[.int .i64 kept.epoch, .int .i64 kept.known.Epoch, .int .i64 kept.known.Target, .int .i64 kept.known.Prev, .int .i64 kept.known.Spill, .int .i64 kept.known.Percent, .int .i64 kept.known.Stamp, .int .i64 kept.known.Since, .int .i64 kept.known.Ramped, .int .u64 kept.known.Up, .int .u64 kept.known.Sup, .sl false 1 (List.map (eInt .i64) kept.known.Pen), .sl false 1 (List.map (eInt .i64) kept.known.Changes), .int .i64 kept.promised, .int .i64 kept.accepted, .int .i64 kept.plan.Epoch, .int .i64 kept.plan.Target, .int .i64 kept.plan.Prev, .int .i64 kept.plan.Spill, .int .i64 kept.plan.Percent, .int .i64 kept.plan.Stamp, .int .i64 kept.plan.Since, .int .i64 kept.plan.Ramped, .int .u64 kept.plan.Up, .int .u64 kept.plan.Sup, .sl false 1 (List.map (eInt .i64) kept.plan.Pen), .sl false 1 (List.map (eInt .i64) kept.plan.Changes), .int .i64 kept.writes.low, .int .i64 kept.writes.high, .int .i64 kept.writes.at_, .int .i64 kept.wish, .int .i64 kept.wishAt, .bool kept.lead.is_, .int .i64 kept.lead.who, .int .i64 kept.lead.at_, .int .i64 c.F_, .int .i64 c.Deciders, .int .i64 c.Targets, .int .i64 c.Routers, .int .i64 c.Observers, .sl false 1 (List.map (eInt .i64) c.Tiers), .int .i64 c.Every, .int .i64 c.Wait, .int .i64 c.Rise, .int .i64 c.Fall, .int .i64 c.Fresh, .int .i64 c.L_, .int .i64 c.M_, .int .i64 c.Dwell, .int .i64 c.D_, .int .i64 c.W_, .int .i64 c.B_, .int .i64 c.Hit, .int .i64 c.Suppress, .int .i64 c.Reuse, .int .i64 c.Half, .int .i64 c.First, .int .i64 c.Step, .int .i64 c.StepTime, .int .i64 c.S_, .int .i64 c.Cap, .int .i64 c.Span, .int .i64 c.Room, .int .i64 c.Tries, .int .i64 c.Retry, .int .i64 node, .ptr 1 0 0]]⟩, some ⟨4, true, [[.msl 2 0 ((List.map (eInt .u8) b2).length) ((List.map (eInt .u8) b2).length) false, .msl 3 0 ((List.map (eInt .u8) b3).length) ((List.map (eInt .u8) b3).length) false, .int .i64 fuse, .bool down]]⟩, some ⟨1, false, (List.map (eInt .u8) b2)⟩, some ⟨1, false, (List.map (eInt .u8) b3)⟩] (Rs (Acceptor_nack_e kept c node fuse down b2 b3) r) := so (fn := Tryd.f44) (k := false) (m := 4) h <| by
 intro r h; unfold Acceptor_nack at h
 refine zc 11 [] h (fun _ => Acceptor_reply_ok) fun y1 h => ?_
 exact zu 27 h
end Go.RX.L

set_option linter.unusedSimpArgs false
set_option linter.unusedVariables false
set_option maxRecDepth 100000
set_option maxHeartbeats 4000000
namespace Go.RX.L
open Go Go.RX Go.Proofs
attribute [local irreducible] FinQ
noncomputable def acceptor_span_from_e (y : spanT) : D × Sto := (.agg [.int .i64 y.low, .int .i64 y.high, .int .i64 y.at_], [])
noncomputable def acceptor_span_from (s_ : spanT) (epoch : Int) : Option spanT := (bif (decide ((s_.high : Int) < epoch)) then (some (⟨0, 0, s_.at_⟩ : spanT)) else (some (⟨(mxI s_.low epoch), s_.high, s_.at_⟩ : spanT)))
theorem acceptor_span_from_ok {s_ : spanT} {epoch : Int} {r : spanT} (h : acceptor_span_from s_ epoch = some r) : Sound E 56 [.agg [.int .i64 s_.low, .int .i64 s_.high, .int .i64 s_.at_], .int .i64 epoch] [] (Rs acceptor_span_from_e r) := so (fn := Tryd.f56) (k := false) (m := 0) h <| by
 intro r h; unfold acceptor_span_from at h
 refine zs 15 h (fun h => ?_) fun h => ?_
 ·
  exact zu 12 h
 exact zu 21 h
end Go.RX.L

set_option linter.unusedSimpArgs false
set_option linter.unusedVariables false
set_option maxRecDepth 100000
set_option maxHeartbeats 4000000
namespace Go.RX.L
open Go Go.RX Go.Proofs
attribute [local irreducible] FinQ
noncomputable def acceptor_span_with_e (y : spanT) : D × Sto := (.agg [.int .i64 y.low, .int .i64 y.high, .int .i64 y.at_], [])
noncomputable def acceptor_span_with (s_ : spanT) (epoch : Int) : Option spanT := (bif ((s_.low : Int) == 0) then (some (⟨epoch, epoch, s_.at_⟩ : spanT)) else (some (⟨(mnI s_.low epoch), (mxI s_.high epoch), s_.at_⟩ : spanT)))
theorem acceptor_span_with_ok {s_ : spanT} {epoch : Int} {r : spanT} (h : acceptor_span_with s_ epoch = some r) : Sound E 57 [.agg [.int .i64 s_.low, .int .i64 s_.high, .int .i64 s_.at_], .int .i64 epoch] [] (Rs acceptor_span_with_e r) := so (fn := Tryd.f57) (k := false) (m := 0) h <| by
 intro r h; unfold acceptor_span_with at h
 refine zs 14 h (fun h => ?_) fun h => ?_
 ·
  exact zu 14 h
 exact zu 23 h
end Go.RX.L

set_option linter.unusedSimpArgs false
set_option linter.unusedVariables false
set_option maxRecDepth 100000
set_option maxHeartbeats 4000000
namespace Go.RX.L
open Go Go.RX Go.Proofs
attribute [local irreducible] FinQ
noncomputable def Acceptor_take_c := codeAt (bodyOf Tryd.f35)
noncomputable def Acceptor_take_e (c : Config) (node : Int) (fuse : Int) (down : Bool) (b2 : List Int) (b3 : List Int) (y : keptT) : D × Sto := (.tup [], [some ⟨67, true, [[.int .i64 y.epoch, .int .i64 y.known.Epoch, .int .i64 y.known.Target, .int .i64 y.known.Prev, .int .i64 y.known.Spill, .int .i64 y.known.Percent, .int .i64 y.known.Stamp, .int .i64 y.known.Since, .int .i64 y.known.Ramped, .int .u64 y.known.Up, .int .u64 y.known.Sup, .sl false 1 (List.map (eInt .i64) y.known.Pen), .sl false 1 (List.map (eInt .i64) y.known.Changes), .int .i64 y.promised, .int .i64 y.accepted, .int .i64 y.plan.Epoch, .int .i64 y.plan.Target, .int .i64 y.plan.Prev, .int .i64 y.plan.Spill, .int .i64 y.plan.Percent, .int .i64 y.plan.Stamp, .int .i64 y.plan.Since, .int .i64 y.plan.Ramped, .int .u64 y.plan.Up, .int .u64 y.plan.Sup, .sl false 1 (List.map (eInt .i64) y.plan.Pen), .sl false 1 (List.map (eInt .i64) y.plan.Changes), .int .i64 y.writes.low, .int .i64 y.writes.high, .int .i64 y.writes.at_, .int .i64 y.wish, .int .i64 y.wishAt, .bool y.lead.is_, .int .i64 y.lead.who, .int .i64 y.lead.at_, .int .i64 c.F_, .int .i64 c.Deciders, .int .i64 c.Targets, .int .i64 c.Routers, .int .i64 c.Observers, .sl false 1 (List.map (eInt .i64) c.Tiers), .int .i64 c.Every, .int .i64 c.Wait, .int .i64 c.Rise, .int .i64 c.Fall, .int .i64 c.Fresh, .int .i64 c.L_, .int .i64 c.M_, .int .i64 c.Dwell, .int .i64 c.D_, .int .i64 c.W_, .int .i64 c.B_, .int .i64 c.Hit, .int .i64 c.Suppress, .int .i64 c.Reuse, .int .i64 c.Half, .int .i64 c.First, .int .i64 c.Step, .int .i64 c.StepTime, .int .i64 c.S_, .int .i64 c.Cap, .int .i64 c.Span, .int .i64 c.Room, .int .i64 c.Tries, .int .i64 c.Retry, .int .i64 node, .ptr 1 0 0]]⟩, some ⟨4, true, [[.msl 2 0 ((List.map (eInt .u8) b2).length) ((List.map (eInt .u8) b2).length) false, .msl 3 0 ((List.map (eInt .u8) b3).length) ((List.map (eInt .u8) b3).length) false, .int .i64 fuse, .bool down]]⟩, some ⟨1, false, (List.map (eInt .u8) b2)⟩, some ⟨1, false, (List.map (eInt .u8) b3)⟩])
abbrev Acceptor_take_W (m : Msg) (c : Config) (node : Int) (fuse : Int) (down : Bool) (b2 : List Int) (b3 : List Int) := AOk E (Cx.of Tryd.f35 false 4) (Acceptor_take_e c node fuse down b2 b3)
noncomputable def Acceptor_take_1M (m : Msg) (c : Config) (node : Int) (fuse : Int) (down : Bool) (b2 : List Int) (b3 : List Int) (kept2 : keptT) : M := ⟨[.code (Acceptor_take_c [1, 1, 0, 1, 0, 1]), .blk 0], [(0, .ptr 0 0 0), (3, .ptr 4 0 0)], [some ⟨67, true, [[.int .i64 kept2.epoch, .int .i64 kept2.known.Epoch, .int .i64 kept2.known.Target, .int .i64 kept2.known.Prev, .int .i64 kept2.known.Spill, .int .i64 kept2.known.Percent, .int .i64 kept2.known.Stamp, .int .i64 kept2.known.Since, .int .i64 kept2.known.Ramped, .int .u64 kept2.known.Up, .int .u64 kept2.known.Sup, .sl false 1 (List.map (eInt .i64) kept2.known.Pen), .sl false 1 (List.map (eInt .i64) kept2.known.Changes), .int .i64 kept2.promised, .int .i64 kept2.accepted, .int .i64 kept2.plan.Epoch, .int .i64 kept2.plan.Target, .int .i64 kept2.plan.Prev, .int .i64 kept2.plan.Spill, .int .i64 kept2.plan.Percent, .int .i64 kept2.plan.Stamp, .int .i64 kept2.plan.Since, .int .i64 kept2.plan.Ramped, .int .u64 kept2.plan.Up, .int .u64 kept2.plan.Sup, .sl false 1 (List.map (eInt .i64) kept2.plan.Pen), .sl false 1 (List.map (eInt .i64) kept2.plan.Changes), .int .i64 kept2.writes.low, .int .i64 kept2.writes.high, .int .i64 kept2.writes.at_, .int .i64 kept2.wish, .int .i64 kept2.wishAt, .bool kept2.lead.is_, .int .i64 kept2.lead.who, .int .i64 kept2.lead.at_, .int .i64 c.F_, .int .i64 c.Deciders, .int .i64 c.Targets, .int .i64 c.Routers, .int .i64 c.Observers, .sl false 1 (List.map (eInt .i64) c.Tiers), .int .i64 c.Every, .int .i64 c.Wait, .int .i64 c.Rise, .int .i64 c.Fall, .int .i64 c.Fresh, .int .i64 c.L_, .int .i64 c.M_, .int .i64 c.Dwell, .int .i64 c.D_, .int .i64 c.W_, .int .i64 c.B_, .int .i64 c.Hit, .int .i64 c.Suppress, .int .i64 c.Reuse, .int .i64 c.Half, .int .i64 c.First, .int .i64 c.Step, .int .i64 c.StepTime, .int .i64 c.S_, .int .i64 c.Cap, .int .i64 c.Span, .int .i64 c.Room, .int .i64 c.Tries, .int .i64 c.Retry, .int .i64 node, .ptr 1 0 0]]⟩, some ⟨4, true, [[.msl 2 0 ((List.map (eInt .u8) b2).length) ((List.map (eInt .u8) b2).length) false, .msl 3 0 ((List.map (eInt .u8) b3).length) ((List.map (eInt .u8) b3).length) false, .int .i64 fuse, .bool down]]⟩, some ⟨1, false, (List.map (eInt .u8) b2)⟩, some ⟨1, false, (List.map (eInt .u8) b3)⟩, some ⟨26, false, [[.int .i64 m.Kind, .int .i64 m.From, .int .i64 m.To, .int .i64 m.Epoch, .int .i64 m.Ballot, .int .i64 m.Accepted, .int .i64 m.Nonce, .int .i64 m.Time, .int .u64 m.Up, .int .i64 m.Code, .bool m.HasPlan, .int .i64 m.Plan.Epoch, .int .i64 m.Plan.Target, .int .i64 m.Plan.Prev, .int .i64 m.Plan.Spill, .int .i64 m.Plan.Percent, .int .i64 m.Plan.Stamp, .int .i64 m.Plan.Since, .int .i64 m.Plan.Ramped, .int .u64 m.Plan.Up, .int .u64 m.Plan.Sup, .sl false 1 (List.map (eInt .i64) m.Plan.Pen), .sl false 1 (List.map (eInt .i64) m.Plan.Changes), .sl false 1 (List.map (eInt .i64) m.ID), .sl false 1 (List.map (eInt .u8) m.Session), .sl false 1 (List.map (eInt .u8) m.Payload)]]⟩]⟩
noncomputable def Acceptor_take_1 (m : Msg) (c : Config) (node : Int) (fuse : Int) (down : Bool) (b2 : List Int) (b3 : List Int) (kept2 : keptT) : Option keptT := (some (⟨m.Epoch, m.Plan, m.Ballot, kept2.accepted, kept2.plan, kept2.writes, kept2.wish, kept2.wishAt, kept2.lead⟩ : keptT))
theorem Acceptor_take_1_ok {m c node fuse down b2 b3 kept2} : Acceptor_take_W m c node fuse down b2 b3 (Acceptor_take_1M m c node fuse down b2 b3 kept2) (Acceptor_take_1 m c node fuse down b2 b3 kept2) := by
 intro r h; unfold Acceptor_take_1 at h
 exact zu 12 h
noncomputable def Acceptor_take (m : Msg) (kept : keptT) (c : Config) (node : Int) (fuse : Int) (down : Bool) (b2 : List Int) (b3 : List Int) : Option keptT := (bif ((m.Kind : Int) == 5) then (bif ((m.Epoch : Int) != kept.epoch) then ((acceptor_span_from kept.writes m.Epoch).bind fun y3 => (Acceptor_take_1 m c node fuse down b2 b3 (⟨kept.epoch, kept.known, kept.promised, 0, (⟨0, 0, 0, 0, 0, 0, 0, 0, 0, 0, [], []⟩ : Plan), y3, kept.wish, kept.wishAt, kept.lead⟩ : keptT))) else (Acceptor_take_1 m c node fuse down b2 b3 kept)) else (bif ((m.Kind : Int) == 8) then (some (⟨kept.epoch, kept.known, m.Ballot, m.Ballot, m.Plan, kept.writes, kept.wish, kept.wishAt, kept.lead⟩ : keptT)) else (bif ((m.Kind : Int) == 11) then (bif ((m.Code : Int) == 2) then (some (⟨kept.epoch, kept.known, kept.promised, kept.accepted, kept.plan, kept.writes, kept.wish, kept.wishAt, (⟨true, (-1), kept.lead.at_⟩ : leaderT)⟩ : keptT)) else ((acceptor_span_with kept.writes m.Epoch).bind fun y7 => (some (⟨kept.epoch, kept.known, kept.promised, kept.accepted, kept.plan, y7, kept.wish, kept.wishAt, kept.lead⟩ : keptT)))) else (some kept))))
theorem Acceptor_take_ok {m : Msg} {kept : keptT} {c : Config} {node : Int} {fuse : Int} {down : Bool} {b2 : List Int} {b3 : List Int} {r : keptT} (h : Acceptor_take m kept c node fuse down b2 b3 = some r) : Sound E 35 [.ptr 0 0 0, .agg [.int .i64 m.Kind, .int .i64 m.From, .int .i64 m.To, .int .i64 m.Epoch, .int .i64 m.Ballot, .int .i64 m.Accepted, .int .i64 m.Nonce, .int .i64 m.Time, .int .u64 m.Up, .int .i64 m.Code, .bool m.HasPlan, .int .i64 m.Plan.Epoch, .int .i64 m.Plan.Target, .int .i64 m.Plan.Prev, .int .i64 m.Plan.Spill, .int .i64 m.Plan.Percent, .int .i64 m.Plan.Stamp, .int .i64 m.Plan.Since, .int .i64 m.Plan.Ramped, .int .u64 m.Plan.Up, .int .u64 m.Plan.Sup, .sl false 1 (List.map (eInt .i64) m.Plan.Pen), .sl false 1 (List.map (eInt .i64) m.Plan.Changes), .sl false 1 (List.map (eInt .i64) m.ID), .sl false 1 (List.map (eInt .u8) m.Session), .sl false 1 (List.map (eInt .u8) m.Payload)]] [some ⟨67, true, [[.int .i64 kept.epoch, .int .i64 kept.known.Epoch, .int .i64 kept.known.Target, .int .i64 kept.known.Prev, .int .i64 kept.known.Spill, .int .i64 kept.known.Percent, .int .i64 kept.known.Stamp, .int .i64 kept.known.Since, .int .i64 kept.known.Ramped, .int .u64 kept.known.Up, .int .u64 kept.known.Sup, .sl false 1 (List.map (eInt .i64) kept.known.Pen), .sl false 1 (List.map (eInt .i64) kept.known.Changes), .int .i64 kept.promised, .int .i64 kept.accepted, .int .i64 kept.plan.Epoch, .int .i64 kept.plan.Target, .int .i64 kept.plan.Prev, .int .i64 kept.plan.Spill, .int .i64 kept.plan.Percent, .int .i64 kept.plan.Stamp, .int .i64 kept.plan.Since, .int .i64 kept.plan.Ramped, .int .u64 kept.plan.Up, .int .u64 kept.plan.Sup, .sl false 1 (List.map (eInt .i64) kept.plan.Pen), .sl false 1 (List.map (eInt .i64) kept.plan.Changes), .int .i64 kept.writes.low, .int .i64 kept.writes.high, .int .i64 kept.writes.at_, .int .i64 kept.wish, .int .i64 kept.wishAt, .bool kept.lead.is_, .int .i64 kept.lead.who, .int .i64 kept.lead.at_, .int .i64 c.F_, .int .i64 c.Deciders, .int .i64 c.Targets, .int .i64 c.Routers, .int .i64 c.Observers, .sl false 1 (List.map (eInt .i64) c.Tiers), .int .i64 c.Every, .int .i64 c.Wait, .int .i64 c.Rise, .int .i64 c.Fall, .int .i64 c.Fresh, .int .i64 c.L_, .int .i64 c.M_, .int .i64 c.Dwell, .int .i64 c.D_, .int .i64 c.W_, .int .i64 c.B_, .int .i64 c.Hit, .int .i64 c.Suppress, .int .i64 c.Reuse, .int .i64 c.Half, .int .i64 c.First, .int .i64 c.Step, .int .i64 c.StepTime, .int .i64 c.S_, .int .i64 c.Cap, .int .i64 c.Span, .int .i64 c.Room, .int .i64 c.Tries, .int .i64 c.Retry, .int .i64 node, .ptr 1 0 0]]⟩, some ⟨4, true, [[.msl 2 0 ((List.map (eInt .u8) b2).length) ((List.map (eInt .u8) b2).length) false, .msl 3 0 ((List.map (eInt .u8) b3).length) ((List.map (eInt .u8) b3).length) false, .int .i64 fuse, .bool down]]⟩, some ⟨1, false, (List.map (eInt .u8) b2)⟩, some ⟨1, false, (List.map (eInt .u8) b3)⟩] (Rs (Acceptor_take_e c node fuse down b2 b3) r) := so (fn := Tryd.f35) (k := false) (m := 4) h <| by
 intro r h; unfold Acceptor_take at h
 refine zs 17 h (fun h => ?_) fun h => ?_
 ·
  refine zs 6 h (fun h => ?_) fun h => ?_
  ·
   refine zd 3 [] h (fun _ => acceptor_span_from_ok) fun y3 h => ?_
   exact zg 6 (Acceptor_take_1_ok h) [.blk 0 [some 1, some 1]]
  exact zg 1 (Acceptor_take_1_ok h)
 refine zs 6 h (fun h => ?_) fun h => ?_
 ·
  exact zu 12 h
 refine zs 6 h (fun h => ?_) fun h => ?_
 ·
  refine zs 8 h (fun h => ?_) fun h => ?_
  ·
   exact zu 19 h
  refine zd 3 [] h (fun _ => acceptor_span_with_ok) fun y7 h => ?_
  exact zu 4 h
 exact zu 3 h
end Go.RX.L

set_option linter.unusedSimpArgs false
set_option linter.unusedVariables false
set_option maxRecDepth 100000
set_option maxHeartbeats 4000000
namespace Go.RX.L
open Go Go.RX Go.Proofs
attribute [local irreducible] FinQ
noncomputable def Acceptor_remember__take_c := codeAt (bodyOf Tryd.f45)
noncomputable def Acceptor_remember__take_e (c : Config) (node : Int) (y : Bool × keptT × Int × Bool × (List Int) × (List Int)) : D × Sto := (.bool y.1, [some ⟨67, true, [[.int .i64 y.2.1.epoch, .int .i64 y.2.1.known.Epoch, .int .i64 y.2.1.known.Target, .int .i64 y.2.1.known.Prev, .int .i64 y.2.1.known.Spill, .int .i64 y.2.1.known.Percent, .int .i64 y.2.1.known.Stamp, .int .i64 y.2.1.known.Since, .int .i64 y.2.1.known.Ramped, .int .u64 y.2.1.known.Up, .int .u64 y.2.1.known.Sup, .sl false 1 (List.map (eInt .i64) y.2.1.known.Pen), .sl false 1 (List.map (eInt .i64) y.2.1.known.Changes), .int .i64 y.2.1.promised, .int .i64 y.2.1.accepted, .int .i64 y.2.1.plan.Epoch, .int .i64 y.2.1.plan.Target, .int .i64 y.2.1.plan.Prev, .int .i64 y.2.1.plan.Spill, .int .i64 y.2.1.plan.Percent, .int .i64 y.2.1.plan.Stamp, .int .i64 y.2.1.plan.Since, .int .i64 y.2.1.plan.Ramped, .int .u64 y.2.1.plan.Up, .int .u64 y.2.1.plan.Sup, .sl false 1 (List.map (eInt .i64) y.2.1.plan.Pen), .sl false 1 (List.map (eInt .i64) y.2.1.plan.Changes), .int .i64 y.2.1.writes.low, .int .i64 y.2.1.writes.high, .int .i64 y.2.1.writes.at_, .int .i64 y.2.1.wish, .int .i64 y.2.1.wishAt, .bool y.2.1.lead.is_, .int .i64 y.2.1.lead.who, .int .i64 y.2.1.lead.at_, .int .i64 c.F_, .int .i64 c.Deciders, .int .i64 c.Targets, .int .i64 c.Routers, .int .i64 c.Observers, .sl false 1 (List.map (eInt .i64) c.Tiers), .int .i64 c.Every, .int .i64 c.Wait, .int .i64 c.Rise, .int .i64 c.Fall, .int .i64 c.Fresh, .int .i64 c.L_, .int .i64 c.M_, .int .i64 c.Dwell, .int .i64 c.D_, .int .i64 c.W_, .int .i64 c.B_, .int .i64 c.Hit, .int .i64 c.Suppress, .int .i64 c.Reuse, .int .i64 c.Half, .int .i64 c.First, .int .i64 c.Step, .int .i64 c.StepTime, .int .i64 c.S_, .int .i64 c.Cap, .int .i64 c.Span, .int .i64 c.Room, .int .i64 c.Tries, .int .i64 c.Retry, .int .i64 node, .ptr 1 0 0]]⟩, some ⟨4, true, [[.msl 4 0 ((List.map (eInt .u8) y.2.2.2.2.1).length) ((List.map (eInt .u8) y.2.2.2.2.1).length) false, .msl 5 0 ((List.map (eInt .u8) y.2.2.2.2.2).length) ((List.map (eInt .u8) y.2.2.2.2.2).length) false, .int .i64 y.2.2.1, .bool y.2.2.2.1]]⟩, none, none, some ⟨1, false, (List.map (eInt .u8) y.2.2.2.2.1)⟩, some ⟨1, false, (List.map (eInt .u8) y.2.2.2.2.2)⟩])
abbrev Acceptor_remember__take_W (m : Msg) (kept : keptT) (c : Config) (node : Int) := AOk E (Cx.of Tryd.f45 true 4) (Acceptor_remember__take_e c node)
noncomputable def Acceptor_remember__take_1M (m : Msg) (kept : keptT) (c : Config) (node : Int) (t35 : Bool) (fuse2 : Int) (down2 : Bool) (b5 : List Int) (b6 : List Int) : M := ⟨[.code (Acceptor_remember__take_c [1, 1, 0, 1]), .code (Acceptor_remember__take_c [1, 1, 1])], [(2, .fn 35 [.ptr 0 0 0] []), (4, .ptr 4 0 0), (35, .bool t35)], [some ⟨67, true, [[.int .i64 kept.epoch, .int .i64 kept.known.Epoch, .int .i64 kept.known.Target, .int .i64 kept.known.Prev, .int .i64 kept.known.Spill, .int .i64 kept.known.Percent, .int .i64 kept.known.Stamp, .int .i64 kept.known.Since, .int .i64 kept.known.Ramped, .int .u64 kept.known.Up, .int .u64 kept.known.Sup, .sl false 1 (List.map (eInt .i64) kept.known.Pen), .sl false 1 (List.map (eInt .i64) kept.known.Changes), .int .i64 kept.promised, .int .i64 kept.accepted, .int .i64 kept.plan.Epoch, .int .i64 kept.plan.Target, .int .i64 kept.plan.Prev, .int .i64 kept.plan.Spill, .int .i64 kept.plan.Percent, .int .i64 kept.plan.Stamp, .int .i64 kept.plan.Since, .int .i64 kept.plan.Ramped, .int .u64 kept.plan.Up, .int .u64 kept.plan.Sup, .sl false 1 (List.map (eInt .i64) kept.plan.Pen), .sl false 1 (List.map (eInt .i64) kept.plan.Changes), .int .i64 kept.writes.low, .int .i64 kept.writes.high, .int .i64 kept.writes.at_, .int .i64 kept.wish, .int .i64 kept.wishAt, .bool kept.lead.is_, .int .i64 kept.lead.who, .int .i64 kept.lead.at_, .int .i64 c.F_, .int .i64 c.Deciders, .int .i64 c.Targets, .int .i64 c.Routers, .int .i64 c.Observers, .sl false 1 (List.map (eInt .i64) c.Tiers), .int .i64 c.Every, .int .i64 c.Wait, .int .i64 c.Rise, .int .i64 c.Fall, .int .i64 c.Fresh, .int .i64 c.L_, .int .i64 c.M_, .int .i64 c.Dwell, .int .i64 c.D_, .int .i64 c.W_, .int .i64 c.B_, .int .i64 c.Hit, .int .i64 c.Suppress, .int .i64 c.Reuse, .int .i64 c.Half, .int .i64 c.First, .int .i64 c.Step, .int .i64 c.StepTime, .int .i64 c.S_, .int .i64 c.Cap, .int .i64 c.Span, .int .i64 c.Room, .int .i64 c.Tries, .int .i64 c.Retry, .int .i64 node, .ptr 1 0 0]]⟩, some ⟨4, true, [[.msl 5 0 ((List.map (eInt .u8) b5).length) ((List.map (eInt .u8) b5).length) false, .msl 6 0 ((List.map (eInt .u8) b6).length) ((List.map (eInt .u8) b6).length) false, .int .i64 fuse2, .bool down2]]⟩, none, none, some ⟨26, false, [[.int .i64 m.Kind, .int .i64 m.From, .int .i64 m.To, .int .i64 m.Epoch, .int .i64 m.Ballot, .int .i64 m.Accepted, .int .i64 m.Nonce, .int .i64 m.Time, .int .u64 m.Up, .int .i64 m.Code, .bool m.HasPlan, .int .i64 m.Plan.Epoch, .int .i64 m.Plan.Target, .int .i64 m.Plan.Prev, .int .i64 m.Plan.Spill, .int .i64 m.Plan.Percent, .int .i64 m.Plan.Stamp, .int .i64 m.Plan.Since, .int .i64 m.Plan.Ramped, .int .u64 m.Plan.Up, .int .u64 m.Plan.Sup, .sl false 1 (List.map (eInt .i64) m.Plan.Pen), .sl false 1 (List.map (eInt .i64) m.Plan.Changes), .sl false 1 (List.map (eInt .i64) m.ID), .sl false 1 (List.map (eInt .u8) m.Session), .sl false 1 (List.map (eInt .u8) m.Payload)]]⟩, some ⟨1, false, (List.map (eInt .u8) b5)⟩, some ⟨1, false, (List.map (eInt .u8) b6)⟩]⟩
noncomputable def Acceptor_remember__take_1 (m : Msg) (kept : keptT) (c : Config) (node : Int) (t35 : Bool) (fuse2 : Int) (down2 : Bool) (b5 : List Int) (b6 : List Int) : Option (Bool × keptT × Int × Bool × (List Int) × (List Int)) := (bif t35 then (some (false, kept, fuse2, down2, b5, b6)) else ((Acceptor_take m kept c node fuse2 down2 b5 b6).bind fun y2 => (some (true, y2, fuse2, down2, b5, b6))))
theorem Acceptor_remember__take_1_ok {m kept c node t35 fuse2 down2 b5 b6} : Acceptor_remember__take_W m kept c node (Acceptor_remember__take_1M m kept c node t35 fuse2 down2 b5 b6) (Acceptor_remember__take_1 m kept c node t35 fuse2 down2 b5 b6) := by
 intro r h; unfold Acceptor_remember__take_1 at h
 refine zs 1 h (fun h => ?_) fun h => ?_
 ·
  exact zu 5 h
 refine zc 7 [] h (fun _ => Acceptor_take_ok) fun y2 h => ?_
 exact zu 6 h
noncomputable def Acceptor_remember__take (m : Msg) (kept : keptT) (c : Config) (node : Int) (fuse : Int) (down : Bool) (b2 : List Int) (b3 : List Int) : Option (Bool × keptT × Int × Bool × (List Int) × (List Int)) := ((msg_Body m).bind fun y1 => (bif ((y1.2.2 : Int) != 0) then (Acceptor_remember__take_1 m kept c node true fuse down b2 b3) else ((Journal_Append y1.1 y1.2.1 fuse down b2 b3).bind fun y3 => (bif ((y3.1 : Int) != 0) then (Acceptor_remember__take_1 m kept c node true y3.2.1 y3.2.2.1 b2 y3.2.2.2) else ((Journal_Sync y3.2.1 y3.2.2.1 b2 y3.2.2.2).bind fun y5 => (Acceptor_remember__take_1 m kept c node ((y5.1 : Int) != 0) y5.2.1 y5.2.2.1 y5.2.2.2.1 y5.2.2.2.2))))))
theorem Acceptor_remember__take_ok {m : Msg} {kept : keptT} {c : Config} {node : Int} {fuse : Int} {down : Bool} {b2 : List Int} {b3 : List Int} {r : Bool × keptT × Int × Bool × (List Int) × (List Int)} (h : Acceptor_remember__take m kept c node fuse down b2 b3 = some r) : Sound E 45 [.ptr 0 0 0, .agg [.int .i64 m.Kind, .int .i64 m.From, .int .i64 m.To, .int .i64 m.Epoch, .int .i64 m.Ballot, .int .i64 m.Accepted, .int .i64 m.Nonce, .int .i64 m.Time, .int .u64 m.Up, .int .i64 m.Code, .bool m.HasPlan, .int .i64 m.Plan.Epoch, .int .i64 m.Plan.Target, .int .i64 m.Plan.Prev, .int .i64 m.Plan.Spill, .int .i64 m.Plan.Percent, .int .i64 m.Plan.Stamp, .int .i64 m.Plan.Since, .int .i64 m.Plan.Ramped, .int .u64 m.Plan.Up, .int .u64 m.Plan.Sup, .sl false 1 (List.map (eInt .i64) m.Plan.Pen), .sl false 1 (List.map (eInt .i64) m.Plan.Changes), .sl false 1 (List.map (eInt .i64) m.ID), .sl false 1 (List.map (eInt .u8) m.Session), .sl false 1 (List.map (eInt .u8) m.Payload)], .fn 35 [.ptr 0 0 0] []] [some ⟨67, true, [[.int .i64 kept.epoch, .int .i64 kept.known.Epoch, .int .i64 kept.known.Target, .int .i64 kept.known.Prev, .int .i64 kept.known.Spill, .int .i64 kept.known.Percent, .int .i64 kept.known.Stamp, .int .i64 kept.known.Since, .int .i64 kept.known.Ramped, .int .u64 kept.known.Up, .int .u64 kept.known.Sup, .sl false 1 (List.map (eInt .i64) kept.known.Pen), .sl false 1 (List.map (eInt .i64) kept.known.Changes), .int .i64 kept.promised, .int .i64 kept.accepted, .int .i64 kept.plan.Epoch, .int .i64 kept.plan.Target, .int .i64 kept.plan.Prev, .int .i64 kept.plan.Spill, .int .i64 kept.plan.Percent, .int .i64 kept.plan.Stamp, .int .i64 kept.plan.Since, .int .i64 kept.plan.Ramped, .int .u64 kept.plan.Up, .int .u64 kept.plan.Sup, .sl false 1 (List.map (eInt .i64) kept.plan.Pen), .sl false 1 (List.map (eInt .i64) kept.plan.Changes), .int .i64 kept.writes.low, .int .i64 kept.writes.high, .int .i64 kept.writes.at_, .int .i64 kept.wish, .int .i64 kept.wishAt, .bool kept.lead.is_, .int .i64 kept.lead.who, .int .i64 kept.lead.at_, .int .i64 c.F_, .int .i64 c.Deciders, .int .i64 c.Targets, .int .i64 c.Routers, .int .i64 c.Observers, .sl false 1 (List.map (eInt .i64) c.Tiers), .int .i64 c.Every, .int .i64 c.Wait, .int .i64 c.Rise, .int .i64 c.Fall, .int .i64 c.Fresh, .int .i64 c.L_, .int .i64 c.M_, .int .i64 c.Dwell, .int .i64 c.D_, .int .i64 c.W_, .int .i64 c.B_, .int .i64 c.Hit, .int .i64 c.Suppress, .int .i64 c.Reuse, .int .i64 c.Half, .int .i64 c.First, .int .i64 c.Step, .int .i64 c.StepTime, .int .i64 c.S_, .int .i64 c.Cap, .int .i64 c.Span, .int .i64 c.Room, .int .i64 c.Tries, .int .i64 c.Retry, .int .i64 node, .ptr 1 0 0]]⟩, some ⟨4, true, [[.msl 2 0 ((List.map (eInt .u8) b2).length) ((List.map (eInt .u8) b2).length) false, .msl 3 0 ((List.map (eInt .u8) b3).length) ((List.map (eInt .u8) b3).length) false, .int .i64 fuse, .bool down]]⟩, some ⟨1, false, (List.map (eInt .u8) b2)⟩, some ⟨1, false, (List.map (eInt .u8) b3)⟩] (Rs (Acceptor_remember__take_e c node) r) := so (fn := Tryd.f45) (k := true) (m := 4) h <| by
 intro r h; unfold Acceptor_remember__take at h
 refine zc 10 [] h (fun _ => msg_Body_ok) fun y1 h => ?_
 refine zs 15 h (fun h => ?_) fun h => ?_
 ·
  exact zg 32 (Acceptor_remember__take_1_ok h) [.mv 2, .mv 3]
 refine zc 13 [] h (fun _ => Journal_Append_ok) fun y3 h => ?_
 refine zs 6 h (fun h => ?_) fun h => ?_
 ·
  exact zg 13 (Acceptor_remember__take_1_ok h)
 refine zc 9 [] h (fun _ => Journal_Sync_ok) fun y5 h => ?_
 exact zg 5 (Acceptor_remember__take_1_ok h)
end Go.RX.L

set_option linter.unusedSimpArgs false
set_option linter.unusedVariables false
set_option maxRecDepth 100000
set_option maxHeartbeats 4000000
namespace Go.RX.L
open Go Go.RX Go.Proofs
attribute [local irreducible] FinQ
noncomputable def Acceptor_accept_c := codeAt (bodyOf Tryd.f29)
noncomputable def Acceptor_accept_e (c : Config) (node : Int) (y : (List Msg) × keptT × Int × Bool × (List Int) × (List Int)) : D × Sto := (.sl false 26 (List.map Msg.enc y.1), [some ⟨67, true, [[.int .i64 y.2.1.epoch, .int .i64 y.2.1.known.Epoch, .int .i64 y.2.1.known.Target, .int .i64 y.2.1.known.Prev, .int .i64 y.2.1.known.Spill, .int .i64 y.2.1.known.Percent, .int .i64 y.2.1.known.Stamp, .int .i64 y.2.1.known.Since, .int .i64 y.2.1.known.Ramped, .int .u64 y.2.1.known.Up, .int .u64 y.2.1.known.Sup, .sl false 1 (List.map (eInt .i64) y.2.1.known.Pen), .sl false 1 (List.map (eInt .i64) y.2.1.known.Changes), .int .i64 y.2.1.promised, .int .i64 y.2.1.accepted, .int .i64 y.2.1.plan.Epoch, .int .i64 y.2.1.plan.Target, .int .i64 y.2.1.plan.Prev, .int .i64 y.2.1.plan.Spill, .int .i64 y.2.1.plan.Percent, .int .i64 y.2.1.plan.Stamp, .int .i64 y.2.1.plan.Since, .int .i64 y.2.1.plan.Ramped, .int .u64 y.2.1.plan.Up, .int .u64 y.2.1.plan.Sup, .sl false 1 (List.map (eInt .i64) y.2.1.plan.Pen), .sl false 1 (List.map (eInt .i64) y.2.1.plan.Changes), .int .i64 y.2.1.writes.low, .int .i64 y.2.1.writes.high, .int .i64 y.2.1.writes.at_, .int .i64 y.2.1.wish, .int .i64 y.2.1.wishAt, .bool y.2.1.lead.is_, .int .i64 y.2.1.lead.who, .int .i64 y.2.1.lead.at_, .int .i64 c.F_, .int .i64 c.Deciders, .int .i64 c.Targets, .int .i64 c.Routers, .int .i64 c.Observers, .sl false 1 (List.map (eInt .i64) c.Tiers), .int .i64 c.Every, .int .i64 c.Wait, .int .i64 c.Rise, .int .i64 c.Fall, .int .i64 c.Fresh, .int .i64 c.L_, .int .i64 c.M_, .int .i64 c.Dwell, .int .i64 c.D_, .int .i64 c.W_, .int .i64 c.B_, .int .i64 c.Hit, .int .i64 c.Suppress, .int .i64 c.Reuse, .int .i64 c.Half, .int .i64 c.First, .int .i64 c.Step, .int .i64 c.StepTime, .int .i64 c.S_, .int .i64 c.Cap, .int .i64 c.Span, .int .i64 c.Room, .int .i64 c.Tries, .int .i64 c.Retry, .int .i64 node, .ptr 1 0 0]]⟩, some ⟨4, true, [[.msl 4 0 ((List.map (eInt .u8) y.2.2.2.2.1).length) ((List.map (eInt .u8) y.2.2.2.2.1).length) false, .msl 5 0 ((List.map (eInt .u8) y.2.2.2.2.2).length) ((List.map (eInt .u8) y.2.2.2.2.2).length) false, .int .i64 y.2.2.1, .bool y.2.2.2.1]]⟩, none, none, some ⟨1, false, (List.map (eInt .u8) y.2.2.2.2.1)⟩, some ⟨1, false, (List.map (eInt .u8) y.2.2.2.2.2)⟩])
abbrev Acceptor_accept_W (m : Msg) (now : Int) (kept : keptT) (c : Config) (node : Int) (fuse : Int) (down : Bool) (b2 : List Int) (b3 : List Int) := AOk E (Cx.of Tryd.f29 true 4) (Acceptor_accept_e c node)
noncomputable def Acceptor_accept_1M (m : Msg) (now : Int) (kept : keptT) (c : Config) (node : Int) (fuse : Int) (down : Bool) (b2 : List Int) (b3 : List Int) (t56 : Bool) : M := ⟨[.code (Acceptor_accept_c [1, 0, 0, 1, 1, 1, 1, 1, 1, 1]), .blk 0, .code (Acceptor_accept_c [1, 1])], [(0, .ptr 0 0 0), (4, .ptr 4 0 0), (56, .bool t56)], [some ⟨67, true, [[.int .i64 kept.epoch, .int .i64 kept.known.Epoch, .int .i64 kept.known.Target, .int .i64 kept.known.Prev, .int .i64 kept.known.Spill, .int .i64 kept.known.Percent, .int .i64 kept.known.Stamp, .int .i64 kept.known.Since, .int .i64 kept.known.Ramped, .int .u64 kept.known.Up, .int .u64 kept.known.Sup, .sl false 1 (List.map (eInt .i64) kept.known.Pen), .sl false 1 (List.map (eInt .i64) kept.known.Changes), .int .i64 kept.promised, .int .i64 kept.accepted, .int .i64 kept.plan.Epoch, .int .i64 kept.plan.Target, .int .i64 kept.plan.Prev, .int .i64 kept.plan.Spill, .int .i64 kept.plan.Percent, .int .i64 kept.plan.Stamp, .int .i64 kept.plan.Since, .int .i64 kept.plan.Ramped, .int .u64 kept.plan.Up, .int .u64 kept.plan.Sup, .sl false 1 (List.map (eInt .i64) kept.plan.Pen), .sl false 1 (List.map (eInt .i64) kept.plan.Changes), .int .i64 kept.writes.low, .int .i64 kept.writes.high, .int .i64 kept.writes.at_, .int .i64 kept.wish, .int .i64 kept.wishAt, .bool kept.lead.is_, .int .i64 kept.lead.who, .int .i64 kept.lead.at_, .int .i64 c.F_, .int .i64 c.Deciders, .int .i64 c.Targets, .int .i64 c.Routers, .int .i64 c.Observers, .sl false 1 (List.map (eInt .i64) c.Tiers), .int .i64 c.Every, .int .i64 c.Wait, .int .i64 c.Rise, .int .i64 c.Fall, .int .i64 c.Fresh, .int .i64 c.L_, .int .i64 c.M_, .int .i64 c.Dwell, .int .i64 c.D_, .int .i64 c.W_, .int .i64 c.B_, .int .i64 c.Hit, .int .i64 c.Suppress, .int .i64 c.Reuse, .int .i64 c.Half, .int .i64 c.First, .int .i64 c.Step, .int .i64 c.StepTime, .int .i64 c.S_, .int .i64 c.Cap, .int .i64 c.Span, .int .i64 c.Room, .int .i64 c.Tries, .int .i64 c.Retry, .int .i64 node, .ptr 1 0 0]]⟩, some ⟨4, true, [[.msl 2 0 ((List.map (eInt .u8) b2).length) ((List.map (eInt .u8) b2).length) false, .msl 3 0 ((List.map (eInt .u8) b3).length) ((List.map (eInt .u8) b3).length) false, .int .i64 fuse, .bool down]]⟩, some ⟨1, false, (List.map (eInt .u8) b2)⟩, some ⟨1, false, (List.map (eInt .u8) b3)⟩, some ⟨26, false, [[.int .i64 m.Kind, .int .i64 m.From, .int .i64 m.To, .int .i64 m.Epoch, .int .i64 m.Ballot, .int .i64 m.Accepted, .int .i64 m.Nonce, .int .i64 m.Time, .int .u64 m.Up, .int .i64 m.Code, .bool m.HasPlan, .int .i64 m.Plan.Epoch, .int .i64 m.Plan.Target, .int .i64 m.Plan.Prev, .int .i64 m.Plan.Spill, .int .i64 m.Plan.Percent, .int .i64 m.Plan.Stamp, .int .i64 m.Plan.Since, .int .i64 m.Plan.Ramped, .int .u64 m.Plan.Up, .int .u64 m.Plan.Sup, .sl false 1 (List.map (eInt .i64) m.Plan.Pen), .sl false 1 (List.map (eInt .i64) m.Plan.Changes), .sl false 1 (List.map (eInt .i64) m.ID), .sl false 1 (List.map (eInt .u8) m.Session), .sl false 1 (List.map (eInt .u8) m.Payload)]]⟩]⟩
noncomputable def Acceptor_accept_1 (m : Msg) (now : Int) (kept : keptT) (c : Config) (node : Int) (fuse : Int) (down : Bool) (b2 : List Int) (b3 : List Int) (t56 : Bool) : Option ((List Msg) × keptT × Int × Bool × (List Int) × (List Int)) := (bif t56 then (some ([], kept, fuse, down, b2, b3)) else ((Acceptor_remember__take (⟨8, 0, 0, m.Epoch, m.Ballot, 0, 0, 0, 0, 0, true, m.Plan, [], [], []⟩ : Msg) kept c node fuse down b2 b3).bind fun y2 => (bif (!y2.1) then (some ([], y2.2.1, y2.2.2.1, y2.2.2.2.1, y2.2.2.2.2.1, y2.2.2.2.2.2)) else ((Acceptor_reply m 8 y2.2.1 c node y2.2.2.1 y2.2.2.2.1 y2.2.2.2.2.1 y2.2.2.2.2.2).bind fun y4 => (some ([(⟨y4.Kind, y4.From, y4.To, y4.Epoch, m.Ballot, y4.Accepted, y4.Nonce, y4.Time, y4.Up, y4.Code, y4.HasPlan, y4.Plan, y4.ID, y4.Session, y4.Payload⟩ : Msg)], y2.2.1, y2.2.2.1, y2.2.2.2.1, y2.2.2.2.2.1, y2.2.2.2.2.2))))))
theorem Acceptor_accept_1_ok {m now kept c node fuse down b2 b3 t56} : Acceptor_accept_W m now kept c node fuse down b2 b3 (Acceptor_accept_1M m now kept c node fuse down b2 b3 t56) (Acceptor_accept_1 m now kept c node fuse down b2 b3 t56) := by
 intro r h; unfold Acceptor_accept_1 at h
 refine zs 1 h (fun h => ?_) fun h => ?_
 ·
  refine zf 4 [.mv 2, .mv 3] ?_
  exact zu 1 h [.slot 0 [some 26]]
 refine zc 19 [some 1, some 1, some 1] h (fun _ => Acceptor_remember__take_ok) fun y2 h => ?_
 refine zs 3 h (fun h => ?_) fun h => ?_
 ·
  exact zu 5 h [.slot 0 [some 26]]
 refine zc 7 [] h (fun _ => Acceptor_reply_ok) fun y4 h => ?_
 refine adv_ok hm 22 _ ?_
 refine r_fzT 6 (n1 := 1) (n2 := 1) (raw := ([[.int .i64 y4.Kind, .int .i64 y4.From, .int .i64 y4.To, .int .i64 y4.Epoch, .int .i64 m.Ballot, .int .i64 y4.Accepted, .int .i64 y4.Nonce, .int .i64 y4.Time, .int .u64 y4.Up, .int .i64 y4.Code, .bool y4.HasPlan, .int .i64 y4.Plan.Epoch, .int .i64 y4.Plan.Target, .int .i64 y4.Plan.Prev, .int .i64 y4.Plan.Spill, .int .i64 y4.Plan.Percent, .int .i64 y4.Plan.Stamp, .int .i64 y4.Plan.Since, .int .i64 y4.Plan.Ramped, .int .u64 y4.Plan.Up, .int .u64 y4.Plan.Sup, .sl false 1 (List.map (eInt .i64) y4.Plan.Pen), .sl false 1 (List.map (eInt .i64) y4.Plan.Changes), .sl false 1 (List.map (eInt .i64) y4.ID), .sl false 1 (List.map (eInt .u8) y4.Session), .sl false 1 (List.map (eInt .u8) y4.Payload)]])) (rs := ([[.int .i64 y4.Kind, .int .i64 y4.From, .int .i64 y4.To, .int .i64 y4.Epoch, .int .i64 m.Ballot, .int .i64 y4.Accepted, .int .i64 y4.Nonce, .int .i64 y4.Time, .int .u64 y4.Up, .int .i64 y4.Code, .bool y4.HasPlan, .int .i64 y4.Plan.Epoch, .int .i64 y4.Plan.Target, .int .i64 y4.Plan.Prev, .int .i64 y4.Plan.Spill, .int .i64 y4.Plan.Percent, .int .i64 y4.Plan.Stamp, .int .i64 y4.Plan.Since, .int .i64 y4.Plan.Ramped, .int .u64 y4.Plan.Up, .int .u64 y4.Plan.Sup, .sl false 1 (List.map (eInt .i64) y4.Plan.Pen), .sl false 1 (List.map (eInt .i64) y4.Plan.Changes), .sl false 1 (List.map (eInt .i64) y4.ID), .sl false 1 (List.map (eInt .u8) y4.Session), .sl false 1 (List.map (eInt .u8) y4.Payload)]])) (by kernel_rfl) rfl rfl ?_
 exact zu 1 h
noncomputable def Acceptor_accept_2M (m : Msg) (now : Int) (kept : keptT) (c : Config) (node : Int) (fuse : Int) (down : Bool) (b2 : List Int) (b3 : List Int) (t8 : Bool) : M := ⟨[.code (Acceptor_accept_c [1, 0, 0, 1]), .blk 0, .code (Acceptor_accept_c [1, 1])], [(0, .ptr 0 0 0), (2, .int .i64 now), (4, .ptr 4 0 0), (8, .bool t8)], [some ⟨67, true, [[.int .i64 kept.epoch, .int .i64 kept.known.Epoch, .int .i64 kept.known.Target, .int .i64 kept.known.Prev, .int .i64 kept.known.Spill, .int .i64 kept.known.Percent, .int .i64 kept.known.Stamp, .int .i64 kept.known.Since, .int .i64 kept.known.Ramped, .int .u64 kept.known.Up, .int .u64 kept.known.Sup, .sl false 1 (List.map (eInt .i64) kept.known.Pen), .sl false 1 (List.map (eInt .i64) kept.known.Changes), .int .i64 kept.promised, .int .i64 kept.accepted, .int .i64 kept.plan.Epoch, .int .i64 kept.plan.Target, .int .i64 kept.plan.Prev, .int .i64 kept.plan.Spill, .int .i64 kept.plan.Percent, .int .i64 kept.plan.Stamp, .int .i64 kept.plan.Since, .int .i64 kept.plan.Ramped, .int .u64 kept.plan.Up, .int .u64 kept.plan.Sup, .sl false 1 (List.map (eInt .i64) kept.plan.Pen), .sl false 1 (List.map (eInt .i64) kept.plan.Changes), .int .i64 kept.writes.low, .int .i64 kept.writes.high, .int .i64 kept.writes.at_, .int .i64 kept.wish, .int .i64 kept.wishAt, .bool kept.lead.is_, .int .i64 kept.lead.who, .int .i64 kept.lead.at_, .int .i64 c.F_, .int .i64 c.Deciders, .int .i64 c.Targets, .int .i64 c.Routers, .int .i64 c.Observers, .sl false 1 (List.map (eInt .i64) c.Tiers), .int .i64 c.Every, .int .i64 c.Wait, .int .i64 c.Rise, .int .i64 c.Fall, .int .i64 c.Fresh, .int .i64 c.L_, .int .i64 c.M_, .int .i64 c.Dwell, .int .i64 c.D_, .int .i64 c.W_, .int .i64 c.B_, .int .i64 c.Hit, .int .i64 c.Suppress, .int .i64 c.Reuse, .int .i64 c.Half, .int .i64 c.First, .int .i64 c.Step, .int .i64 c.StepTime, .int .i64 c.S_, .int .i64 c.Cap, .int .i64 c.Span, .int .i64 c.Room, .int .i64 c.Tries, .int .i64 c.Retry, .int .i64 node, .ptr 1 0 0]]⟩, some ⟨4, true, [[.msl 2 0 ((List.map (eInt .u8) b2).length) ((List.map (eInt .u8) b2).length) false, .msl 3 0 ((List.map (eInt .u8) b3).length) ((List.map (eInt .u8) b3).length) false, .int .i64 fuse, .bool down]]⟩, some ⟨1, false, (List.map (eInt .u8) b2)⟩, some ⟨1, false, (List.map (eInt .u8) b3)⟩, some ⟨26, false, [[.int .i64 m.Kind, .int .i64 m.From, .int .i64 m.To, .int .i64 m.Epoch, .int .i64 m.Ballot, .int .i64 m.Accepted, .int .i64 m.Nonce, .int .i64 m.Time, .int .u64 m.Up, .int .i64 m.Code, .bool m.HasPlan, .int .i64 m.Plan.Epoch, .int .i64 m.Plan.Target, .int .i64 m.Plan.Prev, .int .i64 m.Plan.Spill, .int .i64 m.Plan.Percent, .int .i64 m.Plan.Stamp, .int .i64 m.Plan.Since, .int .i64 m.Plan.Ramped, .int .u64 m.Plan.Up, .int .u64 m.Plan.Sup, .sl false 1 (List.map (eInt .i64) m.Plan.Pen), .sl false 1 (List.map (eInt .i64) m.Plan.Changes), .sl false 1 (List.map (eInt .i64) m.ID), .sl false 1 (List.map (eInt .u8) m.Session), .sl false 1 (List.map (eInt .u8) m.Payload)]]⟩]⟩
noncomputable def Acceptor_accept_2 (m : Msg) (now : Int) (kept : keptT) (c : Config) (node : Int) (fuse : Int) (down : Bool) (b2 : List Int) (b3 : List Int) (t8 : Bool) : Option ((List Msg) × keptT × Int × Bool × (List Int) × (List Int)) := (bif t8 then (some ([], kept, fuse, down, b2, b3)) else (bif (decide ((m.Epoch : Int) < kept.epoch)) then ((Acceptor_decided m kept c node fuse down b2 b3).bind fun y3 => (some (y3, kept, fuse, down, b2, b3))) else (bif (decide ((m.Ballot : Int) < kept.promised)) then ((Acceptor_nack m kept c node fuse down b2 b3).bind fun y5 => (some (y5, kept, fuse, down, b2, b3))) else (bif (decide ((m.Ballot : Int) > kept.promised)) then (Acceptor_accept_1 m now kept c node fuse down b2 b3 (decide ((m.Ballot : Int) > kept.promised))) else (Acceptor_accept_1 m now kept c node fuse down b2 b3 (decide (((IntKind.i64.wrap (m.Plan.Stamp - now)) : Int) > c.S_)))))))
theorem Acceptor_accept_2_ok {m now kept c node fuse down b2 b3 t8} : Acceptor_accept_W m now kept c node fuse down b2 b3 (Acceptor_accept_2M m now kept c node fuse down b2 b3 t8) (Acceptor_accept_2 m now kept c node fuse down b2 b3 t8) := by
 intro r h; unfold Acceptor_accept_2 at h
 refine zs 1 h (fun h => ?_) fun h => ?_
 ·
  refine zf 4 [.mv 2, .mv 3] ?_
  exact zu 1 h [.slot 0 [some 26]]
 refine zs 5 h (fun h => ?_) fun h => ?_
 ·
  refine zc 6 [] h (fun _ => Acceptor_decided_ok) fun y3 h => ?_
  refine zf 2 [.mv 2, .mv 3] ?_
  exact zu 1 h
 refine zs 5 h (fun h => ?_) fun h => ?_
 ·
  refine zc 6 [] h (fun _ => Acceptor_nack_ok) fun y5 h => ?_
  refine zf 2 [.mv 2, .mv 3] ?_
  exact zu 1 h
 refine zs 6 h (fun h => ?_) fun h => ?_
 ·
  exact zg 1 (Acceptor_accept_1_ok h)
 exact zg 3 (Acceptor_accept_1_ok h)
noncomputable def Acceptor_accept (m : Msg) (now : Int) (kept : keptT) (c : Config) (node : Int) (fuse : Int) (down : Bool) (b2 : List Int) (b3 : List Int) : Option ((List Msg) × keptT × Int × Bool × (List Int) × (List Int)) := (bif (decide (((mnI m.Epoch m.Ballot) : Int) < 1)) then (Acceptor_accept_2 m now kept c node fuse down b2 b3 (decide (((mnI m.Epoch m.Ballot) : Int) < 1))) else (bif (!m.HasPlan) then (Acceptor_accept_2 m now kept c node fuse down b2 b3 (!m.HasPlan)) else (bif ((m.Plan.Epoch : Int) != m.Epoch) then (Acceptor_accept_2 m now kept c node fuse down b2 b3 ((m.Plan.Epoch : Int) != m.Epoch)) else (Acceptor_accept_2 m now kept c node fuse down b2 b3 (decide ((m.Epoch : Int) > kept.epoch))))))
theorem Acceptor_accept_ok {m : Msg} {now : Int} {kept : keptT} {c : Config} {node : Int} {fuse : Int} {down : Bool} {b2 : List Int} {b3 : List Int} {r : (List Msg) × keptT × Int × Bool × (List Int) × (List Int)} (h : Acceptor_accept m now kept c node fuse down b2 b3 = some r) : Sound E 29 [.ptr 0 0 0, .agg [.int .i64 m.Kind, .int .i64 m.From, .int .i64 m.To, .int .i64 m.Epoch, .int .i64 m.Ballot, .int .i64 m.Accepted, .int .i64 m.Nonce, .int .i64 m.Time, .int .u64 m.Up, .int .i64 m.Code, .bool m.HasPlan, .int .i64 m.Plan.Epoch, .int .i64 m.Plan.Target, .int .i64 m.Plan.Prev, .int .i64 m.Plan.Spill, .int .i64 m.Plan.Percent, .int .i64 m.Plan.Stamp, .int .i64 m.Plan.Since, .int .i64 m.Plan.Ramped, .int .u64 m.Plan.Up, .int .u64 m.Plan.Sup, .sl false 1 (List.map (eInt .i64) m.Plan.Pen), .sl false 1 (List.map (eInt .i64) m.Plan.Changes), .sl false 1 (List.map (eInt .i64) m.ID), .sl false 1 (List.map (eInt .u8) m.Session), .sl false 1 (List.map (eInt .u8) m.Payload)], .int .i64 now] [some ⟨67, true, [[.int .i64 kept.epoch, .int .i64 kept.known.Epoch, .int .i64 kept.known.Target, .int .i64 kept.known.Prev, .int .i64 kept.known.Spill, .int .i64 kept.known.Percent, .int .i64 kept.known.Stamp, .int .i64 kept.known.Since, .int .i64 kept.known.Ramped, .int .u64 kept.known.Up, .int .u64 kept.known.Sup, .sl false 1 (List.map (eInt .i64) kept.known.Pen), .sl false 1 (List.map (eInt .i64) kept.known.Changes), .int .i64 kept.promised, .int .i64 kept.accepted, .int .i64 kept.plan.Epoch, .int .i64 kept.plan.Target, .int .i64 kept.plan.Prev, .int .i64 kept.plan.Spill, .int .i64 kept.plan.Percent, .int .i64 kept.plan.Stamp, .int .i64 kept.plan.Since, .int .i64 kept.plan.Ramped, .int .u64 kept.plan.Up, .int .u64 kept.plan.Sup, .sl false 1 (List.map (eInt .i64) kept.plan.Pen), .sl false 1 (List.map (eInt .i64) kept.plan.Changes), .int .i64 kept.writes.low, .int .i64 kept.writes.high, .int .i64 kept.writes.at_, .int .i64 kept.wish, .int .i64 kept.wishAt, .bool kept.lead.is_, .int .i64 kept.lead.who, .int .i64 kept.lead.at_, .int .i64 c.F_, .int .i64 c.Deciders, .int .i64 c.Targets, .int .i64 c.Routers, .int .i64 c.Observers, .sl false 1 (List.map (eInt .i64) c.Tiers), .int .i64 c.Every, .int .i64 c.Wait, .int .i64 c.Rise, .int .i64 c.Fall, .int .i64 c.Fresh, .int .i64 c.L_, .int .i64 c.M_, .int .i64 c.Dwell, .int .i64 c.D_, .int .i64 c.W_, .int .i64 c.B_, .int .i64 c.Hit, .int .i64 c.Suppress, .int .i64 c.Reuse, .int .i64 c.Half, .int .i64 c.First, .int .i64 c.Step, .int .i64 c.StepTime, .int .i64 c.S_, .int .i64 c.Cap, .int .i64 c.Span, .int .i64 c.Room, .int .i64 c.Tries, .int .i64 c.Retry, .int .i64 node, .ptr 1 0 0]]⟩, some ⟨4, true, [[.msl 2 0 ((List.map (eInt .u8) b2).length) ((List.map (eInt .u8) b2).length) false, .msl 3 0 ((List.map (eInt .u8) b3).length) ((List.map (eInt .u8) b3).length) false, .int .i64 fuse, .bool down]]⟩, some ⟨1, false, (List.map (eInt .u8) b2)⟩, some ⟨1, false, (List.map (eInt .u8) b3)⟩] (Rs (Acceptor_accept_e c node) r) := so (fn := Tryd.f29) (k := true) (m := 4) h <| by
 intro r h; unfold Acceptor_accept at h
 refine zs 21 h (fun h => ?_) fun h => ?_
 ·
  exact zg 1 (Acceptor_accept_2_ok h)
 refine zs 9 h (fun h => ?_) fun h => ?_
 ·
  exact zg 1 (Acceptor_accept_2_ok h)
 refine zs 13 h (fun h => ?_) fun h => ?_
 ·
  exact zg 1 (Acceptor_accept_2_ok h)
 exact zg 3 (Acceptor_accept_2_ok h)
end Go.RX.L

set_option linter.unusedSimpArgs false
set_option linter.unusedVariables false
set_option maxRecDepth 100000
set_option maxHeartbeats 4000000
namespace Go.RX.L
open Go Go.RX Go.Proofs
attribute [local irreducible] FinQ
noncomputable def Acceptor_early_e (kept : keptT) (c : Config) (node : Int) (fuse : Int) (down : Bool) (b2 : List Int) (b3 : List Int) (y : Bool) : D × Sto := (.bool y, [some ⟨67, true, [[.int .i64 kept.epoch, .int .i64 kept.known.Epoch, .int .i64 kept.known.Target, .int .i64 kept.known.Prev, .int .i64 kept.known.Spill, .int .i64 kept.known.Percent, .int .i64 kept.known.Stamp, .int .i64 kept.known.Since, .int .i64 kept.known.Ramped, .int .u64 kept.known.Up, .int .u64 kept.known.Sup, .sl false 1 (List.map (eInt .i64) kept.known.Pen), .sl false 1 (List.map (eInt .i64) kept.known.Changes), .int .i64 kept.promised, .int .i64 kept.accepted, .int .i64 kept.plan.Epoch, .int .i64 kept.plan.Target, .int .i64 kept.plan.Prev, .int .i64 kept.plan.Spill, .int .i64 kept.plan.Percent, .int .i64 kept.plan.Stamp, .int .i64 kept.plan.Since, .int .i64 kept.plan.Ramped, .int .u64 kept.plan.Up, .int .u64 kept.plan.Sup, .sl false 1 (List.map (eInt .i64) kept.plan.Pen), .sl false 1 (List.map (eInt .i64) kept.plan.Changes), .int .i64 kept.writes.low, .int .i64 kept.writes.high, .int .i64 kept.writes.at_, .int .i64 kept.wish, .int .i64 kept.wishAt, .bool kept.lead.is_, .int .i64 kept.lead.who, .int .i64 kept.lead.at_, .int .i64 c.F_, .int .i64 c.Deciders, .int .i64 c.Targets, .int .i64 c.Routers, .int .i64 c.Observers, .sl false 1 (List.map (eInt .i64) c.Tiers), .int .i64 c.Every, .int .i64 c.Wait, .int .i64 c.Rise, .int .i64 c.Fall, .int .i64 c.Fresh, .int .i64 c.L_, .int .i64 c.M_, .int .i64 c.Dwell, .int .i64 c.D_, .int .i64 c.W_, .int .i64 c.B_, .int .i64 c.Hit, .int .i64 c.Suppress, .int .i64 c.Reuse, .int .i64 c.Half, .int .i64 c.First, .int .i64 c.Step, .int .i64 c.StepTime, .int .i64 c.S_, .int .i64 c.Cap, .int .i64 c.Span, .int .i64 c.Room, .int .i64 c.Tries, .int .i64 c.Retry, .int .i64 node, .ptr 1 0 0]]⟩, some ⟨4, true, [[.msl 2 0 ((List.map (eInt .u8) b2).length) ((List.map (eInt .u8) b2).length) false, .msl 3 0 ((List.map (eInt .u8) b3).length) ((List.map (eInt .u8) b3).length) false, .int .i64 fuse, .bool down]]⟩, some ⟨1, false, (List.map (eInt .u8) b2)⟩, some ⟨1, false, (List.map (eInt .u8) b3)⟩])
noncomputable def Acceptor_early (at_ : Int) (now : Int) (kept : keptT) (c : Config) (node : Int) (fuse : Int) (down : Bool) (b2 : List Int) (b3 : List Int) : Option Bool := (some (decide (((IntKind.i64.wrap (now - at_)) : Int) < (IntKind.i64.wrap (c.L_ + c.M_)))))
theorem Acceptor_early_ok {at_ : Int} {now : Int} {kept : keptT} {c : Config} {node : Int} {fuse : Int} {down : Bool} {b2 : List Int} {b3 : List Int} {r : Bool} (h : Acceptor_early at_ now kept c node fuse down b2 b3 = some r) : Sound E 43 [.ptr 0 0 0, .int .i64 at_, .int .i64 now] [some ⟨67, true, [[.int .i64 kept.epoch, .int .i64 kept.known.Epoch, .int .i64 kept.known.Target, .int .i64 kept.known.Prev, .int .i64 kept.known.Spill, .int .i64 kept.known.Percent, .int .i64 kept.known.Stamp, .int .i64 kept.known.Since, .int .i64 kept.known.Ramped, .int .u64 kept.known.Up, .int .u64 kept.known.Sup, .sl false 1 (List.map (eInt .i64) kept.known.Pen), .sl false 1 (List.map (eInt .i64) kept.known.Changes), .int .i64 kept.promised, .int .i64 kept.accepted, .int .i64 kept.plan.Epoch, .int .i64 kept.plan.Target, .int .i64 kept.plan.Prev, .int .i64 kept.plan.Spill, .int .i64 kept.plan.Percent, .int .i64 kept.plan.Stamp, .int .i64 kept.plan.Since, .int .i64 kept.plan.Ramped, .int .u64 kept.plan.Up, .int .u64 kept.plan.Sup, .sl false 1 (List.map (eInt .i64) kept.plan.Pen), .sl false 1 (List.map (eInt .i64) kept.plan.Changes), .int .i64 kept.writes.low, .int .i64 kept.writes.high, .int .i64 kept.writes.at_, .int .i64 kept.wish, .int .i64 kept.wishAt, .bool kept.lead.is_, .int .i64 kept.lead.who, .int .i64 kept.lead.at_, .int .i64 c.F_, .int .i64 c.Deciders, .int .i64 c.Targets, .int .i64 c.Routers, .int .i64 c.Observers, .sl false 1 (List.map (eInt .i64) c.Tiers), .int .i64 c.Every, .int .i64 c.Wait, .int .i64 c.Rise, .int .i64 c.Fall, .int .i64 c.Fresh, .int .i64 c.L_, .int .i64 c.M_, .int .i64 c.Dwell, .int .i64 c.D_, .int .i64 c.W_, .int .i64 c.B_, .int .i64 c.Hit, .int .i64 c.Suppress, .int .i64 c.Reuse, .int .i64 c.Half, .int .i64 c.First, .int .i64 c.Step, .int .i64 c.StepTime, .int .i64 c.S_, .int .i64 c.Cap, .int .i64 c.Span, .int .i64 c.Room, .int .i64 c.Tries, .int .i64 c.Retry, .int .i64 node, .ptr 1 0 0]]⟩, some ⟨4, true, [[.msl 2 0 ((List.map (eInt .u8) b2).length) ((List.map (eInt .u8) b2).length) false, .msl 3 0 ((List.map (eInt .u8) b3).length) ((List.map (eInt .u8) b3).length) false, .int .i64 fuse, .bool down]]⟩, some ⟨1, false, (List.map (eInt .u8) b2)⟩, some ⟨1, false, (List.map (eInt .u8) b3)⟩] (Rs (Acceptor_early_e kept c node fuse down b2 b3) r) := so (fn := Tryd.f43) (k := false) (m := 4) h <| by
 intro r h; unfold Acceptor_early at h
 exact zu 9 h
end Go.RX.L

set_option linter.unusedSimpArgs false
set_option linter.unusedVariables false
set_option maxRecDepth 100000
set_option maxHeartbeats 4000000
namespace Go.RX.L
open Go Go.RX Go.Proofs
attribute [local irreducible] FinQ
noncomputable def acceptor_span_has_e (y : Bool) : D × Sto := (.bool y, [])
noncomputable def acceptor_span_has (s_ : spanT) (epoch : Int) : Option Bool := (bif ((s_.low : Int) != 0) then (bif (decide ((s_.low : Int) ≤ epoch)) then (some (decide ((epoch : Int) ≤ s_.high))) else (some false)) else (some false))
theorem acceptor_span_has_ok {s_ : spanT} {epoch : Int} {r : Bool} (h : acceptor_span_has s_ epoch = some r) : Sound E 47 [.agg [.int .i64 s_.low, .int .i64 s_.high, .int .i64 s_.at_], .int .i64 epoch] [] (Rs acceptor_span_has_e r) := so (fn := Tryd.f47) (k := false) (m := 0) h <| by
 intro r h; unfold acceptor_span_has at h
 refine zs 13 h (fun h => ?_) fun h => ?_
 ·
  refine zs 11 h (fun h => ?_) fun h => ?_
  ·
   exact zu 12 h
  exact zu 11 h
 exact zu 22 h
end Go.RX.L

set_option linter.unusedSimpArgs false
set_option linter.unusedVariables false
set_option maxRecDepth 100000
set_option maxHeartbeats 4000000
namespace Go.RX.L
open Go Go.RX Go.Proofs
attribute [local irreducible] FinQ
noncomputable def Acceptor_grant_c := codeAt (bodyOf Tryd.f30)
noncomputable def Acceptor_grant_e (c : Config) (node : Int) (y : (List Msg) × keptT × Int × Bool × (List Int) × (List Int)) : D × Sto := (.sl false 26 (List.map Msg.enc y.1), [some ⟨67, true, [[.int .i64 y.2.1.epoch, .int .i64 y.2.1.known.Epoch, .int .i64 y.2.1.known.Target, .int .i64 y.2.1.known.Prev, .int .i64 y.2.1.known.Spill, .int .i64 y.2.1.known.Percent, .int .i64 y.2.1.known.Stamp, .int .i64 y.2.1.known.Since, .int .i64 y.2.1.known.Ramped, .int .u64 y.2.1.known.Up, .int .u64 y.2.1.known.Sup, .sl false 1 (List.map (eInt .i64) y.2.1.known.Pen), .sl false 1 (List.map (eInt .i64) y.2.1.known.Changes), .int .i64 y.2.1.promised, .int .i64 y.2.1.accepted, .int .i64 y.2.1.plan.Epoch, .int .i64 y.2.1.plan.Target, .int .i64 y.2.1.plan.Prev, .int .i64 y.2.1.plan.Spill, .int .i64 y.2.1.plan.Percent, .int .i64 y.2.1.plan.Stamp, .int .i64 y.2.1.plan.Since, .int .i64 y.2.1.plan.Ramped, .int .u64 y.2.1.plan.Up, .int .u64 y.2.1.plan.Sup, .sl false 1 (List.map (eInt .i64) y.2.1.plan.Pen), .sl false 1 (List.map (eInt .i64) y.2.1.plan.Changes), .int .i64 y.2.1.writes.low, .int .i64 y.2.1.writes.high, .int .i64 y.2.1.writes.at_, .int .i64 y.2.1.wish, .int .i64 y.2.1.wishAt, .bool y.2.1.lead.is_, .int .i64 y.2.1.lead.who, .int .i64 y.2.1.lead.at_, .int .i64 c.F_, .int .i64 c.Deciders, .int .i64 c.Targets, .int .i64 c.Routers, .int .i64 c.Observers, .sl false 1 (List.map (eInt .i64) c.Tiers), .int .i64 c.Every, .int .i64 c.Wait, .int .i64 c.Rise, .int .i64 c.Fall, .int .i64 c.Fresh, .int .i64 c.L_, .int .i64 c.M_, .int .i64 c.Dwell, .int .i64 c.D_, .int .i64 c.W_, .int .i64 c.B_, .int .i64 c.Hit, .int .i64 c.Suppress, .int .i64 c.Reuse, .int .i64 c.Half, .int .i64 c.First, .int .i64 c.Step, .int .i64 c.StepTime, .int .i64 c.S_, .int .i64 c.Cap, .int .i64 c.Span, .int .i64 c.Room, .int .i64 c.Tries, .int .i64 c.Retry, .int .i64 node, .ptr 1 0 0]]⟩, some ⟨4, true, [[.msl 4 0 ((List.map (eInt .u8) y.2.2.2.2.1).length) ((List.map (eInt .u8) y.2.2.2.2.1).length) false, .msl 5 0 ((List.map (eInt .u8) y.2.2.2.2.2).length) ((List.map (eInt .u8) y.2.2.2.2.2).length) false, .int .i64 y.2.2.1, .bool y.2.2.2.1]]⟩, none, none, some ⟨1, false, (List.map (eInt .u8) y.2.2.2.2.1)⟩, some ⟨1, false, (List.map (eInt .u8) y.2.2.2.2.2)⟩])
abbrev Acceptor_grant_W (m : Msg) (now : Int) (kept : keptT) (c : Config) (node : Int) (fuse : Int) (down : Bool) (b2 : List Int) (b3 : List Int) := AOk E (Cx.of Tryd.f30 true 4) (Acceptor_grant_e c node)
noncomputable def Acceptor_grant_3M (m : Msg) (now : Int) (kept : keptT) (c : Config) (node : Int) (fuse : Int) (down : Bool) (b2 : List Int) (b3 : List Int) (t140 : Bool) (kept2 : keptT) (fuse2 : Int) (down2 : Bool) (b5 : List Int) (b6 : List Int) : M := ⟨[.code (Acceptor_grant_c [1, 1, 1, 0, 1, 0, 1, 1, 1, 0, 1, 0, 1]), .code (Acceptor_grant_c [1, 1, 1, 0, 1, 0, 1, 1, 1, 0, 1, 1]), .blk 0, .code (Acceptor_grant_c [1, 1, 1, 1])], [(0, .ptr 0 0 0), (2, .int .i64 now), (4, .ptr 4 0 0), (140, .bool t140)], [some ⟨67, true, [[.int .i64 kept2.epoch, .int .i64 kept2.known.Epoch, .int .i64 kept2.known.Target, .int .i64 kept2.known.Prev, .int .i64 kept2.known.Spill, .int .i64 kept2.known.Percent, .int .i64 kept2.known.Stamp, .int .i64 kept2.known.Since, .int .i64 kept2.known.Ramped, .int .u64 kept2.known.Up, .int .u64 kept2.known.Sup, .sl false 1 (List.map (eInt .i64) kept2.known.Pen), .sl false 1 (List.map (eInt .i64) kept2.known.Changes), .int .i64 kept2.promised, .int .i64 kept2.accepted, .int .i64 kept2.plan.Epoch, .int .i64 kept2.plan.Target, .int .i64 kept2.plan.Prev, .int .i64 kept2.plan.Spill, .int .i64 kept2.plan.Percent, .int .i64 kept2.plan.Stamp, .int .i64 kept2.plan.Since, .int .i64 kept2.plan.Ramped, .int .u64 kept2.plan.Up, .int .u64 kept2.plan.Sup, .sl false 1 (List.map (eInt .i64) kept2.plan.Pen), .sl false 1 (List.map (eInt .i64) kept2.plan.Changes), .int .i64 kept2.writes.low, .int .i64 kept2.writes.high, .int .i64 kept2.writes.at_, .int .i64 kept2.wish, .int .i64 kept2.wishAt, .bool kept2.lead.is_, .int .i64 kept2.lead.who, .int .i64 kept2.lead.at_, .int .i64 c.F_, .int .i64 c.Deciders, .int .i64 c.Targets, .int .i64 c.Routers, .int .i64 c.Observers, .sl false 1 (List.map (eInt .i64) c.Tiers), .int .i64 c.Every, .int .i64 c.Wait, .int .i64 c.Rise, .int .i64 c.Fall, .int .i64 c.Fresh, .int .i64 c.L_, .int .i64 c.M_, .int .i64 c.Dwell, .int .i64 c.D_, .int .i64 c.W_, .int .i64 c.B_, .int .i64 c.Hit, .int .i64 c.Suppress, .int .i64 c.Reuse, .int .i64 c.Half, .int .i64 c.First, .int .i64 c.Step, .int .i64 c.StepTime, .int .i64 c.S_, .int .i64 c.Cap, .int .i64 c.Span, .int .i64 c.Room, .int .i64 c.Tries, .int .i64 c.Retry, .int .i64 node, .ptr 1 0 0]]⟩, some ⟨4, true, [[.msl 5 0 ((List.map (eInt .u8) b5).length) ((List.map (eInt .u8) b5).length) false, .msl 6 0 ((List.map (eInt .u8) b6).length) ((List.map (eInt .u8) b6).length) false, .int .i64 fuse2, .bool down2]]⟩, none, none, some ⟨26, false, [[.int .i64 m.Kind, .int .i64 m.From, .int .i64 m.To, .int .i64 m.Epoch, .int .i64 m.Ballot, .int .i64 m.Accepted, .int .i64 m.Nonce, .int .i64 m.Time, .int .u64 m.Up, .int .i64 m.Code, .bool m.HasPlan, .int .i64 m.Plan.Epoch, .int .i64 m.Plan.Target, .int .i64 m.Plan.Prev, .int .i64 m.Plan.Spill, .int .i64 m.Plan.Percent, .int .i64 m.Plan.Stamp, .int .i64 m.Plan.Since, .int .i64 m.Plan.Ramped, .int .u64 m.Plan.Up, .int .u64 m.Plan.Sup, .sl false 1 (List.map (eInt .i64) m.Plan.Pen), .sl false 1 (List.map (eInt .i64) m.Plan.Changes), .sl false 1 (List.map (eInt .i64) m.ID), .sl false 1 (List.map (eInt .u8) m.Session), .sl false 1 (List.map (eInt .u8) m.Payload)]]⟩, some ⟨1, false, (List.map (eInt .u8) b5)⟩, some ⟨1, false, (List.map (eInt .u8) b6)⟩]⟩
noncomputable def Acceptor_grant_3 (m : Msg) (now : Int) (kept : keptT) (c : Config) (node : Int) (fuse : Int) (down : Bool) (b2 : List Int) (b3 : List Int) (t140 : Bool) (kept2 : keptT) (fuse2 : Int) (down2 : Bool) (b5 : List Int) (b6 : List Int) : Option ((List Msg) × keptT × Int × Bool × (List Int) × (List Int)) := (bif t140 then (some ([], kept2, fuse2, down2, b5, b6)) else ((Acceptor_reply m 11 (⟨kept2.epoch, kept2.known, kept2.promised, kept2.accepted, kept2.plan, kept2.writes, kept2.wish, kept2.wishAt, (⟨true, m.From, now⟩ : leaderT)⟩ : keptT) c node fuse2 down2 b5 b6).bind fun y2 => (some ([(⟨y2.Kind, y2.From, y2.To, y2.Epoch, y2.Ballot, y2.Accepted, m.Nonce, y2.Time, y2.Up, m.Code, y2.HasPlan, y2.Plan, y2.ID, y2.Session, y2.Payload⟩ : Msg)], (⟨kept2.epoch, kept2.known, kept2.promised, kept2.accepted, kept2.plan, kept2.writes, kept2.wish, kept2.wishAt, (⟨true, m.From, now⟩ : leaderT)⟩ : keptT), fuse2, down2, b5, b6))))
theorem Acceptor_grant_3_ok {m now kept c node fuse down b2 b3 t140 kept2 fuse2 down2 b5 b6} : Acceptor_grant_W m now kept c node fuse down b2 b3 (Acceptor_grant_3M m now kept c node fuse down b2 b3 t140 kept2 fuse2 down2 b5 b6) (Acceptor_grant_3 m now kept c node fuse down b2 b3 t140 kept2 fuse2 down2 b5 b6) := by
 intro r h; unfold Acceptor_grant_3 at h
 refine zs 1 h (fun h => ?_) fun h => ?_
 ·
  exact zu 5 h [.slot 0 [some 26]]
 refine zc 22 [] h (fun _ => Acceptor_reply_ok) fun y2 h => ?_
 refine adv_ok hm 20 _ ?_
 refine r_fzT 6 (n1 := 1) (n2 := 1) (raw := ([[.int .i64 y2.Kind, .int .i64 y2.From, .int .i64 y2.To, .int .i64 y2.Epoch, .int .i64 y2.Ballot, .int .i64 y2.Accepted, .int .i64 m.Nonce, .int .i64 y2.Time, .int .u64 y2.Up, .int .i64 m.Code, .bool y2.HasPlan, .int .i64 y2.Plan.Epoch, .int .i64 y2.Plan.Target, .int .i64 y2.Plan.Prev, .int .i64 y2.Plan.Spill, .int .i64 y2.Plan.Percent, .int .i64 y2.Plan.Stamp, .int .i64 y2.Plan.Since, .int .i64 y2.Plan.Ramped, .int .u64 y2.Plan.Up, .int .u64 y2.Plan.Sup, .sl false 1 (List.map (eInt .i64) y2.Plan.Pen), .sl false 1 (List.map (eInt .i64) y2.Plan.Changes), .sl false 1 (List.map (eInt .i64) y2.ID), .sl false 1 (List.map (eInt .u8) y2.Session), .sl false 1 (List.map (eInt .u8) y2.Payload)]])) (rs := ([[.int .i64 y2.Kind, .int .i64 y2.From, .int .i64 y2.To, .int .i64 y2.Epoch, .int .i64 y2.Ballot, .int .i64 y2.Accepted, .int .i64 m.Nonce, .int .i64 y2.Time, .int .u64 y2.Up, .int .i64 m.Code, .bool y2.HasPlan, .int .i64 y2.Plan.Epoch, .int .i64 y2.Plan.Target, .int .i64 y2.Plan.Prev, .int .i64 y2.Plan.Spill, .int .i64 y2.Plan.Percent, .int .i64 y2.Plan.Stamp, .int .i64 y2.Plan.Since, .int .i64 y2.Plan.Ramped, .int .u64 y2.Plan.Up, .int .u64 y2.Plan.Sup, .sl false 1 (List.map (eInt .i64) y2.Plan.Pen), .sl false 1 (List.map (eInt .i64) y2.Plan.Changes), .sl false 1 (List.map (eInt .i64) y2.ID), .sl false 1 (List.map (eInt .u8) y2.Session), .sl false 1 (List.map (eInt .u8) y2.Payload)]])) (by kernel_rfl) rfl rfl ?_
 exact zu 1 h
noncomputable def Acceptor_grant_4M (m : Msg) (now : Int) (kept : keptT) (c : Config) (node : Int) (fuse : Int) (down : Bool) (b2 : List Int) (b3 : List Int) (own : Bool) (record : Msg) : M := ⟨[.code (Acceptor_grant_c [1, 1, 1, 0, 1, 0, 1, 1, 1, 0, 1]), .blk 0, .code (Acceptor_grant_c [1, 1, 1, 1])], [(0, .ptr 0 0 0), (2, .int .i64 now), (4, .ptr 4 0 0), (7, .ptr 5 0 0), (9, .bool own)], [some ⟨67, true, [[.int .i64 kept.epoch, .int .i64 kept.known.Epoch, .int .i64 kept.known.Target, .int .i64 kept.known.Prev, .int .i64 kept.known.Spill, .int .i64 kept.known.Percent, .int .i64 kept.known.Stamp, .int .i64 kept.known.Since, .int .i64 kept.known.Ramped, .int .u64 kept.known.Up, .int .u64 kept.known.Sup, .sl false 1 (List.map (eInt .i64) kept.known.Pen), .sl false 1 (List.map (eInt .i64) kept.known.Changes), .int .i64 kept.promised, .int .i64 kept.accepted, .int .i64 kept.plan.Epoch, .int .i64 kept.plan.Target, .int .i64 kept.plan.Prev, .int .i64 kept.plan.Spill, .int .i64 kept.plan.Percent, .int .i64 kept.plan.Stamp, .int .i64 kept.plan.Since, .int .i64 kept.plan.Ramped, .int .u64 kept.plan.Up, .int .u64 kept.plan.Sup, .sl false 1 (List.map (eInt .i64) kept.plan.Pen), .sl false 1 (List.map (eInt .i64) kept.plan.Changes), .int .i64 kept.writes.low, .int .i64 kept.writes.high, .int .i64 kept.writes.at_, .int .i64 kept.wish, .int .i64 kept.wishAt, .bool kept.lead.is_, .int .i64 kept.lead.who, .int .i64 kept.lead.at_, .int .i64 c.F_, .int .i64 c.Deciders, .int .i64 c.Targets, .int .i64 c.Routers, .int .i64 c.Observers, .sl false 1 (List.map (eInt .i64) c.Tiers), .int .i64 c.Every, .int .i64 c.Wait, .int .i64 c.Rise, .int .i64 c.Fall, .int .i64 c.Fresh, .int .i64 c.L_, .int .i64 c.M_, .int .i64 c.Dwell, .int .i64 c.D_, .int .i64 c.W_, .int .i64 c.B_, .int .i64 c.Hit, .int .i64 c.Suppress, .int .i64 c.Reuse, .int .i64 c.Half, .int .i64 c.First, .int .i64 c.Step, .int .i64 c.StepTime, .int .i64 c.S_, .int .i64 c.Cap, .int .i64 c.Span, .int .i64 c.Room, .int .i64 c.Tries, .int .i64 c.Retry, .int .i64 node, .ptr 1 0 0]]⟩, some ⟨4, true, [[.msl 2 0 ((List.map (eInt .u8) b2).length) ((List.map (eInt .u8) b2).length) false, .msl 3 0 ((List.map (eInt .u8) b3).length) ((List.map (eInt .u8) b3).length) false, .int .i64 fuse, .bool down]]⟩, some ⟨1, false, (List.map (eInt .u8) b2)⟩, some ⟨1, false, (List.map (eInt .u8) b3)⟩, some ⟨26, false, [[.int .i64 m.Kind, .int .i64 m.From, .int .i64 m.To, .int .i64 m.Epoch, .int .i64 m.Ballot, .int .i64 m.Accepted, .int .i64 m.Nonce, .int .i64 m.Time, .int .u64 m.Up, .int .i64 m.Code, .bool m.HasPlan, .int .i64 m.Plan.Epoch, .int .i64 m.Plan.Target, .int .i64 m.Plan.Prev, .int .i64 m.Plan.Spill, .int .i64 m.Plan.Percent, .int .i64 m.Plan.Stamp, .int .i64 m.Plan.Since, .int .i64 m.Plan.Ramped, .int .u64 m.Plan.Up, .int .u64 m.Plan.Sup, .sl false 1 (List.map (eInt .i64) m.Plan.Pen), .sl false 1 (List.map (eInt .i64) m.Plan.Changes), .sl false 1 (List.map (eInt .i64) m.ID), .sl false 1 (List.map (eInt .u8) m.Session), .sl false 1 (List.map (eInt .u8) m.Payload)]]⟩, some ⟨26, false, [[.int .i64 record.Kind, .int .i64 record.From, .int .i64 record.To, .int .i64 record.Epoch, .int .i64 record.Ballot, .int .i64 record.Accepted, .int .i64 record.Nonce, .int .i64 record.Time, .int .u64 record.Up, .int .i64 record.Code, .bool record.HasPlan, .int .i64 record.Plan.Epoch, .int .i64 record.Plan.Target, .int .i64 record.Plan.Prev, .int .i64 record.Plan.Spill, .int .i64 record.Plan.Percent, .int .i64 record.Plan.Stamp, .int .i64 record.Plan.Since, .int .i64 record.Plan.Ramped, .int .u64 record.Plan.Up, .int .u64 record.Plan.Sup, .sl false 1 (List.map (eInt .i64) record.Plan.Pen), .sl false 1 (List.map (eInt .i64) record.Plan.Changes), .sl false 1 (List.map (eInt .i64) record.ID), .sl false 1 (List.map (eInt .u8) record.Session), .sl false 1 (List.map (eInt .u8) record.Payload)]]⟩]⟩
noncomputable def Acceptor_grant_4 (m : Msg) (now : Int) (kept : keptT) (c : Config) (node : Int) (fuse : Int) (down : Bool) (b2 : List Int) (b3 : List Int) (own : Bool) (record : Msg) : Option ((List Msg) × keptT × Int × Bool × (List Int) × (List Int)) := (bif (!own) then (bif kept.lead.is_ then ((Acceptor_early kept.lead.at_ now kept c node fuse down b2 b3).bind fun y3 => (bif y3 then (Acceptor_grant_3 m now kept c node fuse down b2 b3 true kept fuse down b2 b3) else ((Acceptor_remember__take record kept c node fuse down b2 b3).bind fun y5 => (Acceptor_grant_3 m now kept c node fuse down b2 b3 (!y5.1) y5.2.1 y5.2.2.1 y5.2.2.2.1 y5.2.2.2.2.1 y5.2.2.2.2.2)))) else ((Acceptor_remember__take record kept c node fuse down b2 b3).bind fun y6 => (Acceptor_grant_3 m now kept c node fuse down b2 b3 (!y6.1) y6.2.1 y6.2.2.1 y6.2.2.2.1 y6.2.2.2.2.1 y6.2.2.2.2.2))) else (Acceptor_grant_3 m now kept c node fuse down b2 b3 false kept fuse down b2 b3))
theorem Acceptor_grant_4_ok {m now kept c node fuse down b2 b3 own record} : Acceptor_grant_W m now kept c node fuse down b2 b3 (Acceptor_grant_4M m now kept c node fuse down b2 b3 own record) (Acceptor_grant_4 m now kept c node fuse down b2 b3 own record) := by
 intro r h; unfold Acceptor_grant_4 at h
 refine zs 7 h (fun h => ?_) fun h => ?_
 ·
  refine zs 14 h (fun h => ?_) fun h => ?_
  ·
   refine zc 17 [] h (fun _ => Acceptor_early_ok) fun y3 h => ?_
   refine zs 6 h (fun h => ?_) fun h => ?_
   ·
    exact zg 16 (Acceptor_grant_3_ok h) [.mv 2, .mv 3]
   refine zc 9 [] h (fun _ => Acceptor_remember__take_ok) fun y5 h => ?_
   exact zg 8 (Acceptor_grant_3_ok h)
  refine zc 32 [] h (fun _ => Acceptor_remember__take_ok) fun y6 h => ?_
  exact zg 8 (Acceptor_grant_3_ok h)
 exact zg 36 (Acceptor_grant_3_ok h) [.mv 2, .mv 3]
noncomputable def Acceptor_grant_1M (m : Msg) (now : Int) (kept : keptT) (c : Config) (node : Int) (fuse : Int) (down : Bool) (b2 : List Int) (b3 : List Int) (t86 : Bool) (kept2 : keptT) (fuse2 : Int) (down2 : Bool) (b5 : List Int) (b6 : List Int) : M := ⟨[.code (Acceptor_grant_c [1, 1, 1, 0, 1, 0, 1, 0, 1, 0, 1]), .code (Acceptor_grant_c [1, 1, 1, 0, 1, 0, 1, 0, 1, 1]), .blk 0, .code (Acceptor_grant_c [1, 1, 1, 1])], [(0, .ptr 0 0 0), (2, .int .i64 now), (4, .ptr 4 0 0), (86, .bool t86)], [some ⟨67, true, [[.int .i64 kept2.epoch, .int .i64 kept2.known.Epoch, .int .i64 kept2.known.Target, .int .i64 kept2.known.Prev, .int .i64 kept2.known.Spill, .int .i64 kept2.known.Percent, .int .i64 kept2.known.Stamp, .int .i64 kept2.known.Since, .int .i64 kept2.known.Ramped, .int .u64 kept2.known.Up, .int .u64 kept2.known.Sup, .sl false 1 (List.map (eInt .i64) kept2.known.Pen), .sl false 1 (List.map (eInt .i64) kept2.known.Changes), .int .i64 kept2.promised, .int .i64 kept2.accepted, .int .i64 kept2.plan.Epoch, .int .i64 kept2.plan.Target, .int .i64 kept2.plan.Prev, .int .i64 kept2.plan.Spill, .int .i64 kept2.plan.Percent, .int .i64 kept2.plan.Stamp, .int .i64 kept2.plan.Since, .int .i64 kept2.plan.Ramped, .int .u64 kept2.plan.Up, .int .u64 kept2.plan.Sup, .sl false 1 (List.map (eInt .i64) kept2.plan.Pen), .sl false 1 (List.map (eInt .i64) kept2.plan.Changes), .int .i64 kept2.writes.low, .int .i64 kept2.writes.high, .int .i64 kept2.writes.at_, .int .i64 kept2.wish, .int .i64 kept2.wishAt, .bool kept2.lead.is_, .int .i64 kept2.lead.who, .int .i64 kept2.lead.at_, .int .i64 c.F_, .int .i64 c.Deciders, .int .i64 c.Targets, .int .i64 c.Routers, .int .i64 c.Observers, .sl false 1 (List.map (eInt .i64) c.Tiers), .int .i64 c.Every, .int .i64 c.Wait, .int .i64 c.Rise, .int .i64 c.Fall, .int .i64 c.Fresh, .int .i64 c.L_, .int .i64 c.M_, .int .i64 c.Dwell, .int .i64 c.D_, .int .i64 c.W_, .int .i64 c.B_, .int .i64 c.Hit, .int .i64 c.Suppress, .int .i64 c.Reuse, .int .i64 c.Half, .int .i64 c.First, .int .i64 c.Step, .int .i64 c.StepTime, .int .i64 c.S_, .int .i64 c.Cap, .int .i64 c.Span, .int .i64 c.Room, .int .i64 c.Tries, .int .i64 c.Retry, .int .i64 node, .ptr 1 0 0]]⟩, some ⟨4, true, [[.msl 5 0 ((List.map (eInt .u8) b5).length) ((List.map (eInt .u8) b5).length) false, .msl 6 0 ((List.map (eInt .u8) b6).length) ((List.map (eInt .u8) b6).length) false, .int .i64 fuse2, .bool down2]]⟩, none, none, some ⟨26, false, [[.int .i64 m.Kind, .int .i64 m.From, .int .i64 m.To, .int .i64 m.Epoch, .int .i64 m.Ballot, .int .i64 m.Accepted, .int .i64 m.Nonce, .int .i64 m.Time, .int .u64 m.Up, .int .i64 m.Code, .bool m.HasPlan, .int .i64 m.Plan.Epoch, .int .i64 m.Plan.Target, .int .i64 m.Plan.Prev, .int .i64 m.Plan.Spill, .int .i64 m.Plan.Percent, .int .i64 m.Plan.Stamp, .int .i64 m.Plan.Since, .int .i64 m.Plan.Ramped, .int .u64 m.Plan.Up, .int .u64 m.Plan.Sup, .sl false 1 (List.map (eInt .i64) m.Plan.Pen), .sl false 1 (List.map (eInt .i64) m.Plan.Changes), .sl false 1 (List.map (eInt .i64) m.ID), .sl false 1 (List.map (eInt .u8) m.Session), .sl false 1 (List.map (eInt .u8) m.Payload)]]⟩, some ⟨1, false, (List.map (eInt .u8) b5)⟩, some ⟨1, false, (List.map (eInt .u8) b6)⟩]⟩
noncomputable def Acceptor_grant_1 (m : Msg) (now : Int) (kept : keptT) (c : Config) (node : Int) (fuse : Int) (down : Bool) (b2 : List Int) (b3 : List Int) (t86 : Bool) (kept2 : keptT) (fuse2 : Int) (down2 : Bool) (b5 : List Int) (b6 : List Int) : Option ((List Msg) × keptT × Int × Bool × (List Int) × (List Int)) := (bif t86 then (some ([], kept2, fuse2, down2, b5, b6)) else ((Acceptor_reply m 11 (⟨kept2.epoch, kept2.known, kept2.promised, kept2.accepted, kept2.plan, (⟨kept2.writes.low, kept2.writes.high, now⟩ : spanT), kept2.wish, kept2.wishAt, kept2.lead⟩ : keptT) c node fuse2 down2 b5 b6).bind fun y2 => (some ([(⟨y2.Kind, y2.From, y2.To, y2.Epoch, y2.Ballot, y2.Accepted, m.Nonce, y2.Time, y2.Up, m.Code, y2.HasPlan, y2.Plan, y2.ID, y2.Session, y2.Payload⟩ : Msg)], (⟨kept2.epoch, kept2.known, kept2.promised, kept2.accepted, kept2.plan, (⟨kept2.writes.low, kept2.writes.high, now⟩ : spanT), kept2.wish, kept2.wishAt, kept2.lead⟩ : keptT), fuse2, down2, b5, b6))))
theorem Acceptor_grant_1_ok {m now kept c node fuse down b2 b3 t86 kept2 fuse2 down2 b5 b6} : Acceptor_grant_W m now kept c node fuse down b2 b3 (Acceptor_grant_1M m now kept c node fuse down b2 b3 t86 kept2 fuse2 down2 b5 b6) (Acceptor_grant_1 m now kept c node fuse down b2 b3 t86 kept2 fuse2 down2 b5 b6) := by
 intro r h; unfold Acceptor_grant_1 at h
 refine zs 1 h (fun h => ?_) fun h => ?_
 ·
  exact zu 5 h [.slot 0 [some 26]]
 refine zc 19 [] h (fun _ => Acceptor_reply_ok) fun y2 h => ?_
 refine adv_ok hm 20 _ ?_
 refine r_fzT 6 (n1 := 1) (n2 := 1) (raw := ([[.int .i64 y2.Kind, .int .i64 y2.From, .int .i64 y2.To, .int .i64 y2.Epoch, .int .i64 y2.Ballot, .int .i64 y2.Accepted, .int .i64 m.Nonce, .int .i64 y2.Time, .int .u64 y2.Up, .int .i64 m.Code, .bool y2.HasPlan, .int .i64 y2.Plan.Epoch, .int .i64 y2.Plan.Target, .int .i64 y2.Plan.Prev, .int .i64 y2.Plan.Spill, .int .i64 y2.Plan.Percent, .int .i64 y2.Plan.Stamp, .int .i64 y2.Plan.Since, .int .i64 y2.Plan.Ramped, .int .u64 y2.Plan.Up, .int .u64 y2.Plan.Sup, .sl false 1 (List.map (eInt .i64) y2.Plan.Pen), .sl false 1 (List.map (eInt .i64) y2.Plan.Changes), .sl false 1 (List.map (eInt .i64) y2.ID), .sl false 1 (List.map (eInt .u8) y2.Session), .sl false 1 (List.map (eInt .u8) y2.Payload)]])) (rs := ([[.int .i64 y2.Kind, .int .i64 y2.From, .int .i64 y2.To, .int .i64 y2.Epoch, .int .i64 y2.Ballot, .int .i64 y2.Accepted, .int .i64 m.Nonce, .int .i64 y2.Time, .int .u64 y2.Up, .int .i64 m.Code, .bool y2.HasPlan, .int .i64 y2.Plan.Epoch, .int .i64 y2.Plan.Target, .int .i64 y2.Plan.Prev, .int .i64 y2.Plan.Spill, .int .i64 y2.Plan.Percent, .int .i64 y2.Plan.Stamp, .int .i64 y2.Plan.Since, .int .i64 y2.Plan.Ramped, .int .u64 y2.Plan.Up, .int .u64 y2.Plan.Sup, .sl false 1 (List.map (eInt .i64) y2.Plan.Pen), .sl false 1 (List.map (eInt .i64) y2.Plan.Changes), .sl false 1 (List.map (eInt .i64) y2.ID), .sl false 1 (List.map (eInt .u8) y2.Session), .sl false 1 (List.map (eInt .u8) y2.Payload)]])) (by kernel_rfl) rfl rfl ?_
 exact zu 1 h
noncomputable def Acceptor_grant_2M (m : Msg) (now : Int) (kept : keptT) (c : Config) (node : Int) (fuse : Int) (down : Bool) (b2 : List Int) (b3 : List Int) (wished : Bool) (record : Msg) : M := ⟨[.code (Acceptor_grant_c [1, 1, 1, 0, 1, 0, 1, 0, 1]), .blk 0, .code (Acceptor_grant_c [1, 1, 1, 1])], [(0, .ptr 0 0 0), (2, .int .i64 now), (4, .ptr 4 0 0), (7, .ptr 5 0 0), (8, .bool wished)], [some ⟨67, true, [[.int .i64 kept.epoch, .int .i64 kept.known.Epoch, .int .i64 kept.known.Target, .int .i64 kept.known.Prev, .int .i64 kept.known.Spill, .int .i64 kept.known.Percent, .int .i64 kept.known.Stamp, .int .i64 kept.known.Since, .int .i64 kept.known.Ramped, .int .u64 kept.known.Up, .int .u64 kept.known.Sup, .sl false 1 (List.map (eInt .i64) kept.known.Pen), .sl false 1 (List.map (eInt .i64) kept.known.Changes), .int .i64 kept.promised, .int .i64 kept.accepted, .int .i64 kept.plan.Epoch, .int .i64 kept.plan.Target, .int .i64 kept.plan.Prev, .int .i64 kept.plan.Spill, .int .i64 kept.plan.Percent, .int .i64 kept.plan.Stamp, .int .i64 kept.plan.Since, .int .i64 kept.plan.Ramped, .int .u64 kept.plan.Up, .int .u64 kept.plan.Sup, .sl false 1 (List.map (eInt .i64) kept.plan.Pen), .sl false 1 (List.map (eInt .i64) kept.plan.Changes), .int .i64 kept.writes.low, .int .i64 kept.writes.high, .int .i64 kept.writes.at_, .int .i64 kept.wish, .int .i64 kept.wishAt, .bool kept.lead.is_, .int .i64 kept.lead.who, .int .i64 kept.lead.at_, .int .i64 c.F_, .int .i64 c.Deciders, .int .i64 c.Targets, .int .i64 c.Routers, .int .i64 c.Observers, .sl false 1 (List.map (eInt .i64) c.Tiers), .int .i64 c.Every, .int .i64 c.Wait, .int .i64 c.Rise, .int .i64 c.Fall, .int .i64 c.Fresh, .int .i64 c.L_, .int .i64 c.M_, .int .i64 c.Dwell, .int .i64 c.D_, .int .i64 c.W_, .int .i64 c.B_, .int .i64 c.Hit, .int .i64 c.Suppress, .int .i64 c.Reuse, .int .i64 c.Half, .int .i64 c.First, .int .i64 c.Step, .int .i64 c.StepTime, .int .i64 c.S_, .int .i64 c.Cap, .int .i64 c.Span, .int .i64 c.Room, .int .i64 c.Tries, .int .i64 c.Retry, .int .i64 node, .ptr 1 0 0]]⟩, some ⟨4, true, [[.msl 2 0 ((List.map (eInt .u8) b2).length) ((List.map (eInt .u8) b2).length) false, .msl 3 0 ((List.map (eInt .u8) b3).length) ((List.map (eInt .u8) b3).length) false, .int .i64 fuse, .bool down]]⟩, some ⟨1, false, (List.map (eInt .u8) b2)⟩, some ⟨1, false, (List.map (eInt .u8) b3)⟩, some ⟨26, false, [[.int .i64 m.Kind, .int .i64 m.From, .int .i64 m.To, .int .i64 m.Epoch, .int .i64 m.Ballot, .int .i64 m.Accepted, .int .i64 m.Nonce, .int .i64 m.Time, .int .u64 m.Up, .int .i64 m.Code, .bool m.HasPlan, .int .i64 m.Plan.Epoch, .int .i64 m.Plan.Target, .int .i64 m.Plan.Prev, .int .i64 m.Plan.Spill, .int .i64 m.Plan.Percent, .int .i64 m.Plan.Stamp, .int .i64 m.Plan.Since, .int .i64 m.Plan.Ramped, .int .u64 m.Plan.Up, .int .u64 m.Plan.Sup, .sl false 1 (List.map (eInt .i64) m.Plan.Pen), .sl false 1 (List.map (eInt .i64) m.Plan.Changes), .sl false 1 (List.map (eInt .i64) m.ID), .sl false 1 (List.map (eInt .u8) m.Session), .sl false 1 (List.map (eInt .u8) m.Payload)]]⟩, some ⟨26, false, [[.int .i64 record.Kind, .int .i64 record.From, .int .i64 record.To, .int .i64 record.Epoch, .int .i64 record.Ballot, .int .i64 record.Accepted, .int .i64 record.Nonce, .int .i64 record.Time, .int .u64 record.Up, .int .i64 record.Code, .bool record.HasPlan, .int .i64 record.Plan.Epoch, .int .i64 record.Plan.Target, .int .i64 record.Plan.Prev, .int .i64 record.Plan.Spill, .int .i64 record.Plan.Percent, .int .i64 record.Plan.Stamp, .int .i64 record.Plan.Since, .int .i64 record.Plan.Ramped, .int .u64 record.Plan.Up, .int .u64 record.Plan.Sup, .sl false 1 (List.map (eInt .i64) record.Plan.Pen), .sl false 1 (List.map (eInt .i64) record.Plan.Changes), .sl false 1 (List.map (eInt .i64) record.ID), .sl false 1 (List.map (eInt .u8) record.Session), .sl false 1 (List.map (eInt .u8) record.Payload)]]⟩]⟩
noncomputable def Acceptor_grant_2 (m : Msg) (now : Int) (kept : keptT) (c : Config) (node : Int) (fuse : Int) (down : Bool) (b2 : List Int) (b3 : List Int) (wished : Bool) (record : Msg) : Option ((List Msg) × keptT × Int × Bool × (List Int) × (List Int)) := (bif (decide ((m.Epoch : Int) < (mxI kept.epoch 1))) then (Acceptor_grant_1 m now kept c node fuse down b2 b3 true kept fuse down b2 b3) else (bif wished then (Acceptor_grant_1 m now kept c node fuse down b2 b3 true kept fuse down b2 b3) else ((acceptor_span_has kept.writes m.Epoch).bind fun y3 => (bif (!y3) then ((Acceptor_remember__take record kept c node fuse down b2 b3).bind fun y5 => (Acceptor_grant_1 m now kept c node fuse down b2 b3 (!y5.1) y5.2.1 y5.2.2.1 y5.2.2.2.1 y5.2.2.2.2.1 y5.2.2.2.2.2)) else (Acceptor_grant_1 m now kept c node fuse down b2 b3 false kept fuse down b2 b3)))))
theorem Acceptor_grant_2_ok {m now kept c node fuse down b2 b3 wished record} : Acceptor_grant_W m now kept c node fuse down b2 b3 (Acceptor_grant_2M m now kept c node fuse down b2 b3 wished record) (Acceptor_grant_2 m now kept c node fuse down b2 b3 wished record) := by
 intro r h; unfold Acceptor_grant_2 at h
 refine zs 5 h (fun h => ?_) fun h => ?_
 ·
  exact zg 13 (Acceptor_grant_1_ok h) [.mv 2, .mv 3]
 refine zs 1 h (fun h => ?_) fun h => ?_
 ·
  exact zg 11 (Acceptor_grant_1_ok h) [.mv 2, .mv 3]
 refine zd 9 [] h (fun _ => acceptor_span_has_ok) fun y3 h => ?_
 refine zs 2 h (fun h => ?_) fun h => ?_
 ·
  refine zc 5 [] h (fun _ => Acceptor_remember__take_ok) fun y5 h => ?_
  exact zg 4 (Acceptor_grant_1_ok h)
 exact zg 8 (Acceptor_grant_1_ok h) [.mv 2, .mv 3]
noncomputable def Acceptor_grant_5M (m : Msg) (now : Int) (kept : keptT) (c : Config) (node : Int) (fuse : Int) (down : Bool) (b2 : List Int) (b3 : List Int) (record : Msg) : M := ⟨[.code (Acceptor_grant_c [1, 1, 1])], [(0, .ptr 0 0 0), (2, .int .i64 now), (4, .ptr 4 0 0), (7, .ptr 5 0 0)], [some ⟨67, true, [[.int .i64 kept.epoch, .int .i64 kept.known.Epoch, .int .i64 kept.known.Target, .int .i64 kept.known.Prev, .int .i64 kept.known.Spill, .int .i64 kept.known.Percent, .int .i64 kept.known.Stamp, .int .i64 kept.known.Since, .int .i64 kept.known.Ramped, .int .u64 kept.known.Up, .int .u64 kept.known.Sup, .sl false 1 (List.map (eInt .i64) kept.known.Pen), .sl false 1 (List.map (eInt .i64) kept.known.Changes), .int .i64 kept.promised, .int .i64 kept.accepted, .int .i64 kept.plan.Epoch, .int .i64 kept.plan.Target, .int .i64 kept.plan.Prev, .int .i64 kept.plan.Spill, .int .i64 kept.plan.Percent, .int .i64 kept.plan.Stamp, .int .i64 kept.plan.Since, .int .i64 kept.plan.Ramped, .int .u64 kept.plan.Up, .int .u64 kept.plan.Sup, .sl false 1 (List.map (eInt .i64) kept.plan.Pen), .sl false 1 (List.map (eInt .i64) kept.plan.Changes), .int .i64 kept.writes.low, .int .i64 kept.writes.high, .int .i64 kept.writes.at_, .int .i64 kept.wish, .int .i64 kept.wishAt, .bool kept.lead.is_, .int .i64 kept.lead.who, .int .i64 kept.lead.at_, .int .i64 c.F_, .int .i64 c.Deciders, .int .i64 c.Targets, .int .i64 c.Routers, .int .i64 c.Observers, .sl false 1 (List.map (eInt .i64) c.Tiers), .int .i64 c.Every, .int .i64 c.Wait, .int .i64 c.Rise, .int .i64 c.Fall, .int .i64 c.Fresh, .int .i64 c.L_, .int .i64 c.M_, .int .i64 c.Dwell, .int .i64 c.D_, .int .i64 c.W_, .int .i64 c.B_, .int .i64 c.Hit, .int .i64 c.Suppress, .int .i64 c.Reuse, .int .i64 c.Half, .int .i64 c.First, .int .i64 c.Step, .int .i64 c.StepTime, .int .i64 c.S_, .int .i64 c.Cap, .int .i64 c.Span, .int .i64 c.Room, .int .i64 c.Tries, .int .i64 c.Retry, .int .i64 node, .ptr 1 0 0]]⟩, some ⟨4, true, [[.msl 2 0 ((List.map (eInt .u8) b2).length) ((List.map (eInt .u8) b2).length) false, .msl 3 0 ((List.map (eInt .u8) b3).length) ((List.map (eInt .u8) b3).length) false, .int .i64 fuse, .bool down]]⟩, some ⟨1, false, (List.map (eInt .u8) b2)⟩, some ⟨1, false, (List.map (eInt .u8) b3)⟩, some ⟨26, false, [[.int .i64 m.Kind, .int .i64 m.From, .int .i64 m.To, .int .i64 m.Epoch, .int .i64 m.Ballot, .int .i64 m.Accepted, .int .i64 m.Nonce, .int .i64 m.Time, .int .u64 m.Up, .int .i64 m.Code, .bool m.HasPlan, .int .i64 m.Plan.Epoch, .int .i64 m.Plan.Target, .int .i64 m.Plan.Prev, .int .i64 m.Plan.Spill, .int .i64 m.Plan.Percent, .int .i64 m.Plan.Stamp, .int .i64 m.Plan.Since, .int .i64 m.Plan.Ramped, .int .u64 m.Plan.Up, .int .u64 m.Plan.Sup, .sl false 1 (List.map (eInt .i64) m.Plan.Pen), .sl false 1 (List.map (eInt .i64) m.Plan.Changes), .sl false 1 (List.map (eInt .i64) m.ID), .sl false 1 (List.map (eInt .u8) m.Session), .sl false 1 (List.map (eInt .u8) m.Payload)]]⟩, some ⟨26, false, [[.int .i64 record.Kind, .int .i64 record.From, .int .i64 record.To, .int .i64 record.Epoch, .int .i64 record.Ballot, .int .i64 record.Accepted, .int .i64 record.Nonce, .int .i64 record.Time, .int .u64 record.Up, .int .i64 record.Code, .bool record.HasPlan, .int .i64 record.Plan.Epoch, .int .i64 record.Plan.Target, .int .i64 record.Plan.Prev, .int .i64 record.Plan.Spill, .int .i64 record.Plan.Percent, .int .i64 record.Plan.Stamp, .int .i64 record.Plan.Since, .int .i64 record.Plan.Ramped, .int .u64 record.Plan.Up, .int .u64 record.Plan.Sup, .sl false 1 (List.map (eInt .i64) record.Plan.Pen), .sl false 1 (List.map (eInt .i64) record.Plan.Changes), .sl false 1 (List.map (eInt .i64) record.ID), .sl false 1 (List.map (eInt .u8) record.Session), .sl false 1 (List.map (eInt .u8) record.Payload)]]⟩]⟩
noncomputable def Acceptor_grant_5 (m : Msg) (now : Int) (kept : keptT) (c : Config) (node : Int) (fuse : Int) (down : Bool) (b2 : List Int) (b3 : List Int) (record : Msg) : Option ((List Msg) × keptT × Int × Bool × (List Int) × (List Int)) := (bif ((m.Code : Int) == 1) then (bif (decide ((m.Epoch : Int) < kept.wish)) then (Acceptor_grant_2 m now kept c node fuse down b2 b3 (decide (((IntKind.i64.wrap (now - kept.wishAt)) : Int) < (IntKind.i64.wrap ((2 : Int) * (IntKind.i64.wrap (c.L_ + c.M_)))))) record) else (Acceptor_grant_2 m now kept c node fuse down b2 b3 false record)) else (bif ((m.Code : Int) == 2) then (bif kept.lead.is_ then (Acceptor_grant_4 m now kept c node fuse down b2 b3 ((kept.lead.who : Int) == m.From) record) else (Acceptor_grant_4 m now kept c node fuse down b2 b3 false record)) else (some ([], kept, fuse, down, b2, b3))))
theorem Acceptor_grant_5_ok {m now kept c node fuse down b2 b3 record} : Acceptor_grant_W m now kept c node fuse down b2 b3 (Acceptor_grant_5M m now kept c node fuse down b2 b3 record) (Acceptor_grant_5 m now kept c node fuse down b2 b3 record) := by
 intro r h; unfold Acceptor_grant_5 at h
 refine zs 14 h (fun h => ?_) fun h => ?_
 ·
  refine zs 4 h (fun h => ?_) fun h => ?_
  ·
   exact zg 23 (Acceptor_grant_2_ok h)
  exact zg 20 (Acceptor_grant_2_ok h)
 refine zs 6 h (fun h => ?_) fun h => ?_
 ·
  refine zs 3 h (fun h => ?_) fun h => ?_
  ·
   exact zg 11 (Acceptor_grant_4_ok h)
  exact zg 9 (Acceptor_grant_4_ok h)
 refine zf 4 [.mv 2, .mv 3] ?_
 exact zu 1 h [.slot 0 [some 26]]
noncomputable def Acceptor_grant (m : Msg) (now : Int) (kept : keptT) (c : Config) (node : Int) (fuse : Int) (down : Bool) (b2 : List Int) (b3 : List Int) : Option ((List Msg) × keptT × Int × Bool × (List Int) × (List Int)) := (bif ((m.Code : Int) == 1) then (Acceptor_grant_5 m now kept c node fuse down b2 b3 (⟨11, m.From, 0, m.Epoch, 0, 0, 0, 0, 0, m.Code, false, (⟨0, 0, 0, 0, 0, 0, 0, 0, 0, 0, [], []⟩ : Plan), [], [], []⟩ : Msg)) else (Acceptor_grant_5 m now kept c node fuse down b2 b3 (⟨11, m.From, 0, 0, 0, 0, 0, 0, 0, m.Code, false, (⟨0, 0, 0, 0, 0, 0, 0, 0, 0, 0, [], []⟩ : Plan), [], [], []⟩ : Msg)))
theorem Acceptor_grant_ok {m : Msg} {now : Int} {kept : keptT} {c : Config} {node : Int} {fuse : Int} {down : Bool} {b2 : List Int} {b3 : List Int} {r : (List Msg) × keptT × Int × Bool × (List Int) × (List Int)} (h : Acceptor_grant m now kept c node fuse down b2 b3 = some r) : Sound E 30 [.ptr 0 0 0, .agg [.int .i64 m.Kind, .int .i64 m.From, .int .i64 m.To, .int .i64 m.Epoch, .int .i64 m.Ballot, .int .i64 m.Accepted, .int .i64 m.Nonce, .int .i64 m.Time, .int .u64 m.Up, .int .i64 m.Code, .bool m.HasPlan, .int .i64 m.Plan.Epoch, .int .i64 m.Plan.Target, .int .i64 m.Plan.Prev, .int .i64 m.Plan.Spill, .int .i64 m.Plan.Percent, .int .i64 m.Plan.Stamp, .int .i64 m.Plan.Since, .int .i64 m.Plan.Ramped, .int .u64 m.Plan.Up, .int .u64 m.Plan.Sup, .sl false 1 (List.map (eInt .i64) m.Plan.Pen), .sl false 1 (List.map (eInt .i64) m.Plan.Changes), .sl false 1 (List.map (eInt .i64) m.ID), .sl false 1 (List.map (eInt .u8) m.Session), .sl false 1 (List.map (eInt .u8) m.Payload)], .int .i64 now] [some ⟨67, true, [[.int .i64 kept.epoch, .int .i64 kept.known.Epoch, .int .i64 kept.known.Target, .int .i64 kept.known.Prev, .int .i64 kept.known.Spill, .int .i64 kept.known.Percent, .int .i64 kept.known.Stamp, .int .i64 kept.known.Since, .int .i64 kept.known.Ramped, .int .u64 kept.known.Up, .int .u64 kept.known.Sup, .sl false 1 (List.map (eInt .i64) kept.known.Pen), .sl false 1 (List.map (eInt .i64) kept.known.Changes), .int .i64 kept.promised, .int .i64 kept.accepted, .int .i64 kept.plan.Epoch, .int .i64 kept.plan.Target, .int .i64 kept.plan.Prev, .int .i64 kept.plan.Spill, .int .i64 kept.plan.Percent, .int .i64 kept.plan.Stamp, .int .i64 kept.plan.Since, .int .i64 kept.plan.Ramped, .int .u64 kept.plan.Up, .int .u64 kept.plan.Sup, .sl false 1 (List.map (eInt .i64) kept.plan.Pen), .sl false 1 (List.map (eInt .i64) kept.plan.Changes), .int .i64 kept.writes.low, .int .i64 kept.writes.high, .int .i64 kept.writes.at_, .int .i64 kept.wish, .int .i64 kept.wishAt, .bool kept.lead.is_, .int .i64 kept.lead.who, .int .i64 kept.lead.at_, .int .i64 c.F_, .int .i64 c.Deciders, .int .i64 c.Targets, .int .i64 c.Routers, .int .i64 c.Observers, .sl false 1 (List.map (eInt .i64) c.Tiers), .int .i64 c.Every, .int .i64 c.Wait, .int .i64 c.Rise, .int .i64 c.Fall, .int .i64 c.Fresh, .int .i64 c.L_, .int .i64 c.M_, .int .i64 c.Dwell, .int .i64 c.D_, .int .i64 c.W_, .int .i64 c.B_, .int .i64 c.Hit, .int .i64 c.Suppress, .int .i64 c.Reuse, .int .i64 c.Half, .int .i64 c.First, .int .i64 c.Step, .int .i64 c.StepTime, .int .i64 c.S_, .int .i64 c.Cap, .int .i64 c.Span, .int .i64 c.Room, .int .i64 c.Tries, .int .i64 c.Retry, .int .i64 node, .ptr 1 0 0]]⟩, some ⟨4, true, [[.msl 2 0 ((List.map (eInt .u8) b2).length) ((List.map (eInt .u8) b2).length) false, .msl 3 0 ((List.map (eInt .u8) b3).length) ((List.map (eInt .u8) b3).length) false, .int .i64 fuse, .bool down]]⟩, some ⟨1, false, (List.map (eInt .u8) b2)⟩, some ⟨1, false, (List.map (eInt .u8) b3)⟩] (Rs (Acceptor_grant_e c node) r) := so (fn := Tryd.f30) (k := true) (m := 4) h <| by
 intro r h; unfold Acceptor_grant at h
 refine zs 28 h (fun h => ?_) fun h => ?_
 ·
  exact zg 9 (Acceptor_grant_5_ok h) [.blk 5 [some 1, some 1, some 1, some 1, some 1]]
 exact zg 1 (Acceptor_grant_5_ok h) [.blk 5 [some 1, some 1, some 1, some 1, some 1]]
end Go.RX.L

set_option linter.unusedSimpArgs false
set_option linter.unusedVariables false
set_option maxRecDepth 100000
set_option maxHeartbeats 4000000
namespace Go.RX.L
open Go Go.RX Go.Proofs
attribute [local irreducible] FinQ
noncomputable def Acceptor_prepare_c := codeAt (bodyOf Tryd.f28)
noncomputable def Acceptor_prepare_e (c : Config) (node : Int) (y : (List Msg) × keptT × Int × Bool × (List Int) × (List Int)) : D × Sto := (.sl false 26 (List.map Msg.enc y.1), [some ⟨67, true, [[.int .i64 y.2.1.epoch, .int .i64 y.2.1.known.Epoch, .int .i64 y.2.1.known.Target, .int .i64 y.2.1.known.Prev, .int .i64 y.2.1.known.Spill, .int .i64 y.2.1.known.Percent, .int .i64 y.2.1.known.Stamp, .int .i64 y.2.1.known.Since, .int .i64 y.2.1.known.Ramped, .int .u64 y.2.1.known.Up, .int .u64 y.2.1.known.Sup, .sl false 1 (List.map (eInt .i64) y.2.1.known.Pen), .sl false 1 (List.map (eInt .i64) y.2.1.known.Changes), .int .i64 y.2.1.promised, .int .i64 y.2.1.accepted, .int .i64 y.2.1.plan.Epoch, .int .i64 y.2.1.plan.Target, .int .i64 y.2.1.plan.Prev, .int .i64 y.2.1.plan.Spill, .int .i64 y.2.1.plan.Percent, .int .i64 y.2.1.plan.Stamp, .int .i64 y.2.1.plan.Since, .int .i64 y.2.1.plan.Ramped, .int .u64 y.2.1.plan.Up, .int .u64 y.2.1.plan.Sup, .sl false 1 (List.map (eInt .i64) y.2.1.plan.Pen), .sl false 1 (List.map (eInt .i64) y.2.1.plan.Changes), .int .i64 y.2.1.writes.low, .int .i64 y.2.1.writes.high, .int .i64 y.2.1.writes.at_, .int .i64 y.2.1.wish, .int .i64 y.2.1.wishAt, .bool y.2.1.lead.is_, .int .i64 y.2.1.lead.who, .int .i64 y.2.1.lead.at_, .int .i64 c.F_, .int .i64 c.Deciders, .int .i64 c.Targets, .int .i64 c.Routers, .int .i64 c.Observers, .sl false 1 (List.map (eInt .i64) c.Tiers), .int .i64 c.Every, .int .i64 c.Wait, .int .i64 c.Rise, .int .i64 c.Fall, .int .i64 c.Fresh, .int .i64 c.L_, .int .i64 c.M_, .int .i64 c.Dwell, .int .i64 c.D_, .int .i64 c.W_, .int .i64 c.B_, .int .i64 c.Hit, .int .i64 c.Suppress, .int .i64 c.Reuse, .int .i64 c.Half, .int .i64 c.First, .int .i64 c.Step, .int .i64 c.StepTime, .int .i64 c.S_, .int .i64 c.Cap, .int .i64 c.Span, .int .i64 c.Room, .int .i64 c.Tries, .int .i64 c.Retry, .int .i64 node, .ptr 1 0 0]]⟩, some ⟨4, true, [[.msl 4 0 ((List.map (eInt .u8) y.2.2.2.2.1).length) ((List.map (eInt .u8) y.2.2.2.2.1).length) false, .msl 5 0 ((List.map (eInt .u8) y.2.2.2.2.2).length) ((List.map (eInt .u8) y.2.2.2.2.2).length) false, .int .i64 y.2.2.1, .bool y.2.2.2.1]]⟩, none, none, some ⟨1, false, (List.map (eInt .u8) y.2.2.2.2.1)⟩, some ⟨1, false, (List.map (eInt .u8) y.2.2.2.2.2)⟩])
abbrev Acceptor_prepare_W (m : Msg) (now : Int) (kept : keptT) (c : Config) (node : Int) (fuse : Int) (down : Bool) (b2 : List Int) (b3 : List Int) := AOk E (Cx.of Tryd.f28 true 4) (Acceptor_prepare_e c node)
noncomputable def Acceptor_prepare_1M (m : Msg) (now : Int) (kept : keptT) (c : Config) (node : Int) (fuse : Int) (down : Bool) (b2 : List Int) (b3 : List Int) (t81 : Bool) (known : Plan) : M := ⟨[.code (Acceptor_prepare_c [1, 1, 0, 0, 1, 1, 1, 1, 1, 0, 1, 1]), .blk 0, .code (Acceptor_prepare_c [1, 1, 1])], [(0, .ptr 0 0 0), (2, .int .i64 now), (4, .ptr 4 0 0), (7, .ptr 5 0 0), (81, .bool t81)], [some ⟨67, true, [[.int .i64 kept.epoch, .int .i64 kept.known.Epoch, .int .i64 kept.known.Target, .int .i64 kept.known.Prev, .int .i64 kept.known.Spill, .int .i64 kept.known.Percent, .int .i64 kept.known.Stamp, .int .i64 kept.known.Since, .int .i64 kept.known.Ramped, .int .u64 kept.known.Up, .int .u64 kept.known.Sup, .sl false 1 (List.map (eInt .i64) kept.known.Pen), .sl false 1 (List.map (eInt .i64) kept.known.Changes), .int .i64 kept.promised, .int .i64 kept.accepted, .int .i64 kept.plan.Epoch, .int .i64 kept.plan.Target, .int .i64 kept.plan.Prev, .int .i64 kept.plan.Spill, .int .i64 kept.plan.Percent, .int .i64 kept.plan.Stamp, .int .i64 kept.plan.Since, .int .i64 kept.plan.Ramped, .int .u64 kept.plan.Up, .int .u64 kept.plan.Sup, .sl false 1 (List.map (eInt .i64) kept.plan.Pen), .sl false 1 (List.map (eInt .i64) kept.plan.Changes), .int .i64 kept.writes.low, .int .i64 kept.writes.high, .int .i64 kept.writes.at_, .int .i64 kept.wish, .int .i64 kept.wishAt, .bool kept.lead.is_, .int .i64 kept.lead.who, .int .i64 kept.lead.at_, .int .i64 c.F_, .int .i64 c.Deciders, .int .i64 c.Targets, .int .i64 c.Routers, .int .i64 c.Observers, .sl false 1 (List.map (eInt .i64) c.Tiers), .int .i64 c.Every, .int .i64 c.Wait, .int .i64 c.Rise, .int .i64 c.Fall, .int .i64 c.Fresh, .int .i64 c.L_, .int .i64 c.M_, .int .i64 c.Dwell, .int .i64 c.D_, .int .i64 c.W_, .int .i64 c.B_, .int .i64 c.Hit, .int .i64 c.Suppress, .int .i64 c.Reuse, .int .i64 c.Half, .int .i64 c.First, .int .i64 c.Step, .int .i64 c.StepTime, .int .i64 c.S_, .int .i64 c.Cap, .int .i64 c.Span, .int .i64 c.Room, .int .i64 c.Tries, .int .i64 c.Retry, .int .i64 node, .ptr 1 0 0]]⟩, some ⟨4, true, [[.msl 2 0 ((List.map (eInt .u8) b2).length) ((List.map (eInt .u8) b2).length) false, .msl 3 0 ((List.map (eInt .u8) b3).length) ((List.map (eInt .u8) b3).length) false, .int .i64 fuse, .bool down]]⟩, some ⟨1, false, (List.map (eInt .u8) b2)⟩, some ⟨1, false, (List.map (eInt .u8) b3)⟩, some ⟨26, false, [[.int .i64 m.Kind, .int .i64 m.From, .int .i64 m.To, .int .i64 m.Epoch, .int .i64 m.Ballot, .int .i64 m.Accepted, .int .i64 m.Nonce, .int .i64 m.Time, .int .u64 m.Up, .int .i64 m.Code, .bool m.HasPlan, .int .i64 m.Plan.Epoch, .int .i64 m.Plan.Target, .int .i64 m.Plan.Prev, .int .i64 m.Plan.Spill, .int .i64 m.Plan.Percent, .int .i64 m.Plan.Stamp, .int .i64 m.Plan.Since, .int .i64 m.Plan.Ramped, .int .u64 m.Plan.Up, .int .u64 m.Plan.Sup, .sl false 1 (List.map (eInt .i64) m.Plan.Pen), .sl false 1 (List.map (eInt .i64) m.Plan.Changes), .sl false 1 (List.map (eInt .i64) m.ID), .sl false 1 (List.map (eInt .u8) m.Session), .sl false 1 (List.map (eInt .u8) m.Payload)]]⟩, some ⟨12, false, [[.int .i64 known.Epoch, .int .i64 known.Target, .int .i64 known.Prev, .int .i64 known.Spill, .int .i64 known.Percent, .int .i64 known.Stamp, .int .i64 known.Since, .int .i64 known.Ramped, .int .u64 known.Up, .int .u64 known.Sup, .sl false 1 (List.map (eInt .i64) known.Pen), .sl false 1 (List.map (eInt .i64) known.Changes)]]⟩]⟩
noncomputable def Acceptor_prepare_1 (m : Msg) (now : Int) (kept : keptT) (c : Config) (node : Int) (fuse : Int) (down : Bool) (b2 : List Int) (b3 : List Int) (t81 : Bool) (known : Plan) : Option ((List Msg) × keptT × Int × Bool × (List Int) × (List Int)) := (bif t81 then (some ([], (⟨kept.epoch, kept.known, kept.promised, kept.accepted, kept.plan, kept.writes, (mxI kept.wish m.Epoch), now, kept.lead⟩ : keptT), fuse, down, b2, b3)) else ((Acceptor_remember__take (⟨5, 0, 0, m.Epoch, m.Ballot, 0, 0, 0, 0, 0, true, known, [], [], []⟩ : Msg) kept c node fuse down b2 b3).bind fun y2 => (bif (!y2.1) then (some ([], y2.2.1, y2.2.2.1, y2.2.2.2.1, y2.2.2.2.2.1, y2.2.2.2.2.2)) else ((Acceptor_reply m 5 y2.2.1 c node y2.2.2.1 y2.2.2.2.1 y2.2.2.2.2.1 y2.2.2.2.2.2).bind fun y4 => (some ([(⟨y4.Kind, y4.From, y4.To, y4.Epoch, m.Ballot, y2.2.1.accepted, y4.Nonce, y4.Time, y4.Up, y4.Code, ((y2.2.1.accepted : Int) != 0), y2.2.1.plan, y4.ID, y4.Session, y4.Payload⟩ : Msg)], y2.2.1, y2.2.2.1, y2.2.2.2.1, y2.2.2.2.2.1, y2.2.2.2.2.2))))))
theorem Acceptor_prepare_1_ok {m now kept c node fuse down b2 b3 t81 known} : Acceptor_prepare_W m now kept c node fuse down b2 b3 (Acceptor_prepare_1M m now kept c node fuse down b2 b3 t81 known) (Acceptor_prepare_1 m now kept c node fuse down b2 b3 t81 known) := by
 intro r h; unfold Acceptor_prepare_1 at h
 refine zs 1 h (fun h => ?_) fun h => ?_
 ·
  refine zf 12 [.mv 2, .mv 3] ?_
  exact zu 1 h [.slot 0 [some 26]]
 refine zc 18 [some 1, some 1, some 1] h (fun _ => Acceptor_remember__take_ok) fun y2 h => ?_
 refine zs 3 h (fun h => ?_) fun h => ?_
 ·
  exact zu 5 h [.slot 0 [some 26]]
 refine zc 7 [] h (fun _ => Acceptor_reply_ok) fun y4 h => ?_
 refine adv_ok hm 26 _ ?_
 refine r_fzT 6 (n1 := 1) (n2 := 1) (raw := ([[.int .i64 y4.Kind, .int .i64 y4.From, .int .i64 y4.To, .int .i64 y4.Epoch, .int .i64 m.Ballot, .int .i64 y2.2.1.accepted, .int .i64 y4.Nonce, .int .i64 y4.Time, .int .u64 y4.Up, .int .i64 y4.Code, .bool ((y2.2.1.accepted : Int) != 0), .int .i64 y2.2.1.plan.Epoch, .int .i64 y2.2.1.plan.Target, .int .i64 y2.2.1.plan.Prev, .int .i64 y2.2.1.plan.Spill, .int .i64 y2.2.1.plan.Percent, .int .i64 y2.2.1.plan.Stamp, .int .i64 y2.2.1.plan.Since, .int .i64 y2.2.1.plan.Ramped, .int .u64 y2.2.1.plan.Up, .int .u64 y2.2.1.plan.Sup, .sl false 1 (List.map (eInt .i64) y2.2.1.plan.Pen), .sl false 1 (List.map (eInt .i64) y2.2.1.plan.Changes), .sl false 1 (List.map (eInt .i64) y4.ID), .sl false 1 (List.map (eInt .u8) y4.Session), .sl false 1 (List.map (eInt .u8) y4.Payload)]])) (rs := ([[.int .i64 y4.Kind, .int .i64 y4.From, .int .i64 y4.To, .int .i64 y4.Epoch, .int .i64 m.Ballot, .int .i64 y2.2.1.accepted, .int .i64 y4.Nonce, .int .i64 y4.Time, .int .u64 y4.Up, .int .i64 y4.Code, .bool ((y2.2.1.accepted : Int) != 0), .int .i64 y2.2.1.plan.Epoch, .int .i64 y2.2.1.plan.Target, .int .i64 y2.2.1.plan.Prev, .int .i64 y2.2.1.plan.Spill, .int .i64 y2.2.1.plan.Percent, .int .i64 y2.2.1.plan.Stamp, .int .i64 y2.2.1.plan.Since, .int .i64 y2.2.1.plan.Ramped, .int .u64 y2.2.1.plan.Up, .int .u64 y2.2.1.plan.Sup, .sl false 1 (List.map (eInt .i64) y2.2.1.plan.Pen), .sl false 1 (List.map (eInt .i64) y2.2.1.plan.Changes), .sl false 1 (List.map (eInt .i64) y4.ID), .sl false 1 (List.map (eInt .u8) y4.Session), .sl false 1 (List.map (eInt .u8) y4.Payload)]])) (by kernel_rfl) rfl rfl ?_
 exact zu 1 h
noncomputable def Acceptor_prepare_2M (m : Msg) (now : Int) (kept : keptT) (c : Config) (node : Int) (fuse : Int) (down : Bool) (b2 : List Int) (b3 : List Int) (t17 : Bool) (known : Plan) : M := ⟨[.code (Acceptor_prepare_c [1, 1, 0, 0, 1]), .blk 0, .code (Acceptor_prepare_c [1, 1, 1])], [(0, .ptr 0 0 0), (2, .int .i64 now), (4, .ptr 4 0 0), (7, .ptr 5 0 0), (17, .bool t17)], [some ⟨67, true, [[.int .i64 kept.epoch, .int .i64 kept.known.Epoch, .int .i64 kept.known.Target, .int .i64 kept.known.Prev, .int .i64 kept.known.Spill, .int .i64 kept.known.Percent, .int .i64 kept.known.Stamp, .int .i64 kept.known.Since, .int .i64 kept.known.Ramped, .int .u64 kept.known.Up, .int .u64 kept.known.Sup, .sl false 1 (List.map (eInt .i64) kept.known.Pen), .sl false 1 (List.map (eInt .i64) kept.known.Changes), .int .i64 kept.promised, .int .i64 kept.accepted, .int .i64 kept.plan.Epoch, .int .i64 kept.plan.Target, .int .i64 kept.plan.Prev, .int .i64 kept.plan.Spill, .int .i64 kept.plan.Percent, .int .i64 kept.plan.Stamp, .int .i64 kept.plan.Since, .int .i64 kept.plan.Ramped, .int .u64 kept.plan.Up, .int .u64 kept.plan.Sup, .sl false 1 (List.map (eInt .i64) kept.plan.Pen), .sl false 1 (List.map (eInt .i64) kept.plan.Changes), .int .i64 kept.writes.low, .int .i64 kept.writes.high, .int .i64 kept.writes.at_, .int .i64 kept.wish, .int .i64 kept.wishAt, .bool kept.lead.is_, .int .i64 kept.lead.who, .int .i64 kept.lead.at_, .int .i64 c.F_, .int .i64 c.Deciders, .int .i64 c.Targets, .int .i64 c.Routers, .int .i64 c.Observers, .sl false 1 (List.map (eInt .i64) c.Tiers), .int .i64 c.Every, .int .i64 c.Wait, .int .i64 c.Rise, .int .i64 c.Fall, .int .i64 c.Fresh, .int .i64 c.L_, .int .i64 c.M_, .int .i64 c.Dwell, .int .i64 c.D_, .int .i64 c.W_, .int .i64 c.B_, .int .i64 c.Hit, .int .i64 c.Suppress, .int .i64 c.Reuse, .int .i64 c.Half, .int .i64 c.First, .int .i64 c.Step, .int .i64 c.StepTime, .int .i64 c.S_, .int .i64 c.Cap, .int .i64 c.Span, .int .i64 c.Room, .int .i64 c.Tries, .int .i64 c.Retry, .int .i64 node, .ptr 1 0 0]]⟩, some ⟨4, true, [[.msl 2 0 ((List.map (eInt .u8) b2).length) ((List.map (eInt .u8) b2).length) false, .msl 3 0 ((List.map (eInt .u8) b3).length) ((List.map (eInt .u8) b3).length) false, .int .i64 fuse, .bool down]]⟩, some ⟨1, false, (List.map (eInt .u8) b2)⟩, some ⟨1, false, (List.map (eInt .u8) b3)⟩, some ⟨26, false, [[.int .i64 m.Kind, .int .i64 m.From, .int .i64 m.To, .int .i64 m.Epoch, .int .i64 m.Ballot, .int .i64 m.Accepted, .int .i64 m.Nonce, .int .i64 m.Time, .int .u64 m.Up, .int .i64 m.Code, .bool m.HasPlan, .int .i64 m.Plan.Epoch, .int .i64 m.Plan.Target, .int .i64 m.Plan.Prev, .int .i64 m.Plan.Spill, .int .i64 m.Plan.Percent, .int .i64 m.Plan.Stamp, .int .i64 m.Plan.Since, .int .i64 m.Plan.Ramped, .int .u64 m.Plan.Up, .int .u64 m.Plan.Sup, .sl false 1 (List.map (eInt .i64) m.Plan.Pen), .sl false 1 (List.map (eInt .i64) m.Plan.Changes), .sl false 1 (List.map (eInt .i64) m.ID), .sl false 1 (List.map (eInt .u8) m.Session), .sl false 1 (List.map (eInt .u8) m.Payload)]]⟩, some ⟨12, false, [[.int .i64 known.Epoch, .int .i64 known.Target, .int .i64 known.Prev, .int .i64 known.Spill, .int .i64 known.Percent, .int .i64 known.Stamp, .int .i64 known.Since, .int .i64 known.Ramped, .int .u64 known.Up, .int .u64 known.Sup, .sl false 1 (List.map (eInt .i64) known.Pen), .sl false 1 (List.map (eInt .i64) known.Changes)]]⟩]⟩
noncomputable def Acceptor_prepare_2 (m : Msg) (now : Int) (kept : keptT) (c : Config) (node : Int) (fuse : Int) (down : Bool) (b2 : List Int) (b3 : List Int) (t17 : Bool) (known : Plan) : Option ((List Msg) × keptT × Int × Bool × (List Int) × (List Int)) := (bif t17 then (some ([], kept, fuse, down, b2, b3)) else (bif (decide ((m.Epoch : Int) < kept.epoch)) then ((Acceptor_decided m kept c node fuse down b2 b3).bind fun y3 => (some (y3, kept, fuse, down, b2, b3))) else (bif (decide ((m.Epoch : Int) > kept.epoch)) then (bif ((kept.writes.low : Int) != 0) then (bif (decide ((kept.writes.low : Int) < m.Epoch)) then ((Acceptor_early kept.writes.at_ now kept c node fuse down b2 b3).bind fun y7 => (bif y7 then (Acceptor_prepare_1 m now kept c node fuse down b2 b3 ((m.Code : Int) != 1) known) else (Acceptor_prepare_1 m now kept c node fuse down b2 b3 false known))) else (Acceptor_prepare_1 m now kept c node fuse down b2 b3 false known)) else (Acceptor_prepare_1 m now kept c node fuse down b2 b3 false known)) else (bif (decide ((m.Ballot : Int) ≤ kept.promised)) then ((Acceptor_nack m kept c node fuse down b2 b3).bind fun y10 => (some (y10, kept, fuse, down, b2, b3))) else ((Acceptor_remember__take (⟨5, 0, 0, m.Epoch, m.Ballot, 0, 0, 0, 0, 0, true, kept.known, [], [], []⟩ : Msg) kept c node fuse down b2 b3).bind fun y11 => (bif (!y11.1) then (some ([], y11.2.1, y11.2.2.1, y11.2.2.2.1, y11.2.2.2.2.1, y11.2.2.2.2.2)) else ((Acceptor_reply m 5 y11.2.1 c node y11.2.2.1 y11.2.2.2.1 y11.2.2.2.2.1 y11.2.2.2.2.2).bind fun y13 => (some ([(⟨y13.Kind, y13.From, y13.To, y13.Epoch, m.Ballot, y11.2.1.accepted, y13.Nonce, y13.Time, y13.Up, y13.Code, ((y11.2.1.accepted : Int) != 0), y11.2.1.plan, y13.ID, y13.Session, y13.Payload⟩ : Msg)], y11.2.1, y11.2.2.1, y11.2.2.2.1, y11.2.2.2.2.1, y11.2.2.2.2.2)))))))))
theorem Acceptor_prepare_2_ok {m now kept c node fuse down b2 b3 t17 known} : Acceptor_prepare_W m now kept c node fuse down b2 b3 (Acceptor_prepare_2M m now kept c node fuse down b2 b3 t17 known) (Acceptor_prepare_2 m now kept c node fuse down b2 b3 t17 known) := by
 intro r h; unfold Acceptor_prepare_2 at h
 refine zs 1 h (fun h => ?_) fun h => ?_
 ·
  refine zf 4 [.mv 2, .mv 3] ?_
  exact zu 1 h [.slot 0 [some 26]]
 refine zs 5 h (fun h => ?_) fun h => ?_
 ·
  refine zc 6 [] h (fun _ => Acceptor_decided_ok) fun y3 h => ?_
  refine zf 2 [.mv 2, .mv 3] ?_
  exact zu 1 h
 refine zs 5 h (fun h => ?_) fun h => ?_
 ·
  refine zs 21 h (fun h => ?_) fun h => ?_
  ·
   refine zs 14 h (fun h => ?_) fun h => ?_
   ·
    refine zc 9 [] h (fun _ => Acceptor_early_ok) fun y7 h => ?_
    refine zs 4 h (fun h => ?_) fun h => ?_
    ·
     exact zg 8 (Acceptor_prepare_1_ok h)
    exact zg 7 (Acceptor_prepare_1_ok h)
   exact zg 20 (Acceptor_prepare_1_ok h)
  exact zg 33 (Acceptor_prepare_1_ok h)
 refine zs 5 h (fun h => ?_) fun h => ?_
 ·
  refine zc 6 [] h (fun _ => Acceptor_nack_ok) fun y10 h => ?_
  refine zf 2 [.mv 2, .mv 3] ?_
  exact zu 1 h
 refine zc 28 [some 1, some 1, some 1] h (fun _ => Acceptor_remember__take_ok) fun y11 h => ?_
 refine zs 3 h (fun h => ?_) fun h => ?_
 ·
  exact zu 5 h [.slot 0 [some 26]]
 refine zc 7 [] h (fun _ => Acceptor_reply_ok) fun y13 h => ?_
 refine adv_ok hm 26 _ ?_
 refine r_fzT 6 (n1 := 1) (n2 := 1) (raw := ([[.int .i64 y13.Kind, .int .i64 y13.From, .int .i64 y13.To, .int .i64 y13.Epoch, .int .i64 m.Ballot, .int .i64 y11.2.1.accepted, .int .i64 y13.Nonce, .int .i64 y13.Time, .int .u64 y13.Up, .int .i64 y13.Code, .bool ((y11.2.1.accepted : Int) != 0), .int .i64 y11.2.1.plan.Epoch, .int .i64 y11.2.1.plan.Target, .int .i64 y11.2.1.plan.Prev, .int .i64 y11.2.1.plan.Spill, .int .i64 y11.2.1.plan.Percent, .int .i64 y11.2.1.plan.Stamp, .int .i64 y11.2.1.plan.Since, .int .i64 y11.2.1.plan.Ramped, .int .u64 y11.2.1.plan.Up, .int .u64 y11.2.1.plan.Sup, .sl false 1 (List.map (eInt .i64) y11.2.1.plan.Pen), .sl false 1 (List.map (eInt .i64) y11.2.1.plan.Changes), .sl false 1 (List.map (eInt .i64) y13.ID), .sl false 1 (List.map (eInt .u8) y13.Session), .sl false 1 (List.map (eInt .u8) y13.Payload)]])) (rs := ([[.int .i64 y13.Kind, .int .i64 y13.From, .int .i64 y13.To, .int .i64 y13.Epoch, .int .i64 m.Ballot, .int .i64 y11.2.1.accepted, .int .i64 y13.Nonce, .int .i64 y13.Time, .int .u64 y13.Up, .int .i64 y13.Code, .bool ((y11.2.1.accepted : Int) != 0), .int .i64 y11.2.1.plan.Epoch, .int .i64 y11.2.1.plan.Target, .int .i64 y11.2.1.plan.Prev, .int .i64 y11.2.1.plan.Spill, .int .i64 y11.2.1.plan.Percent, .int .i64 y11.2.1.plan.Stamp, .int .i64 y11.2.1.plan.Since, .int .i64 y11.2.1.plan.Ramped, .int .u64 y11.2.1.plan.Up, .int .u64 y11.2.1.plan.Sup, .sl false 1 (List.map (eInt .i64) y11.2.1.plan.Pen), .sl false 1 (List.map (eInt .i64) y11.2.1.plan.Changes), .sl false 1 (List.map (eInt .i64) y13.ID), .sl false 1 (List.map (eInt .u8) y13.Session), .sl false 1 (List.map (eInt .u8) y13.Payload)]])) (by kernel_rfl) rfl rfl ?_
 exact zu 1 h
noncomputable def Acceptor_prepare (m : Msg) (now : Int) (kept : keptT) (c : Config) (node : Int) (fuse : Int) (down : Bool) (b2 : List Int) (b3 : List Int) : Option ((List Msg) × keptT × Int × Bool × (List Int) × (List Int)) := (bif (decide (((mnI m.Epoch m.Ballot) : Int) < 1)) then (Acceptor_prepare_2 m now kept c node fuse down b2 b3 (decide (((mnI m.Epoch m.Ballot) : Int) < 1)) m.Plan) else (bif (!m.HasPlan) then (Acceptor_prepare_2 m now kept c node fuse down b2 b3 (!m.HasPlan) m.Plan) else (Acceptor_prepare_2 m now kept c node fuse down b2 b3 ((m.Plan.Epoch : Int) != (IntKind.i64.wrap (m.Epoch - 1))) m.Plan)))
theorem Acceptor_prepare_ok {m : Msg} {now : Int} {kept : keptT} {c : Config} {node : Int} {fuse : Int} {down : Bool} {b2 : List Int} {b3 : List Int} {r : (List Msg) × keptT × Int × Bool × (List Int) × (List Int)} (h : Acceptor_prepare m now kept c node fuse down b2 b3 = some r) : Sound E 28 [.ptr 0 0 0, .agg [.int .i64 m.Kind, .int .i64 m.From, .int .i64 m.To, .int .i64 m.Epoch, .int .i64 m.Ballot, .int .i64 m.Accepted, .int .i64 m.Nonce, .int .i64 m.Time, .int .u64 m.Up, .int .i64 m.Code, .bool m.HasPlan, .int .i64 m.Plan.Epoch, .int .i64 m.Plan.Target, .int .i64 m.Plan.Prev, .int .i64 m.Plan.Spill, .int .i64 m.Plan.Percent, .int .i64 m.Plan.Stamp, .int .i64 m.Plan.Since, .int .i64 m.Plan.Ramped, .int .u64 m.Plan.Up, .int .u64 m.Plan.Sup, .sl false 1 (List.map (eInt .i64) m.Plan.Pen), .sl false 1 (List.map (eInt .i64) m.Plan.Changes), .sl false 1 (List.map (eInt .i64) m.ID), .sl false 1 (List.map (eInt .u8) m.Session), .sl false 1 (List.map (eInt .u8) m.Payload)], .int .i64 now] [some ⟨67, true, [[.int .i64 kept.epoch, .int .i64 kept.known.Epoch, .int .i64 kept.known.Target, .int .i64 kept.known.Prev, .int .i64 kept.known.Spill, .int .i64 kept.known.Percent, .int .i64 kept.known.Stamp, .int .i64 kept.known.Since, .int .i64 kept.known.Ramped, .int .u64 kept.known.Up, .int .u64 kept.known.Sup, .sl false 1 (List.map (eInt .i64) kept.known.Pen), .sl false 1 (List.map (eInt .i64) kept.known.Changes), .int .i64 kept.promised, .int .i64 kept.accepted, .int .i64 kept.plan.Epoch, .int .i64 kept.plan.Target, .int .i64 kept.plan.Prev, .int .i64 kept.plan.Spill, .int .i64 kept.plan.Percent, .int .i64 kept.plan.Stamp, .int .i64 kept.plan.Since, .int .i64 kept.plan.Ramped, .int .u64 kept.plan.Up, .int .u64 kept.plan.Sup, .sl false 1 (List.map (eInt .i64) kept.plan.Pen), .sl false 1 (List.map (eInt .i64) kept.plan.Changes), .int .i64 kept.writes.low, .int .i64 kept.writes.high, .int .i64 kept.writes.at_, .int .i64 kept.wish, .int .i64 kept.wishAt, .bool kept.lead.is_, .int .i64 kept.lead.who, .int .i64 kept.lead.at_, .int .i64 c.F_, .int .i64 c.Deciders, .int .i64 c.Targets, .int .i64 c.Routers, .int .i64 c.Observers, .sl false 1 (List.map (eInt .i64) c.Tiers), .int .i64 c.Every, .int .i64 c.Wait, .int .i64 c.Rise, .int .i64 c.Fall, .int .i64 c.Fresh, .int .i64 c.L_, .int .i64 c.M_, .int .i64 c.Dwell, .int .i64 c.D_, .int .i64 c.W_, .int .i64 c.B_, .int .i64 c.Hit, .int .i64 c.Suppress, .int .i64 c.Reuse, .int .i64 c.Half, .int .i64 c.First, .int .i64 c.Step, .int .i64 c.StepTime, .int .i64 c.S_, .int .i64 c.Cap, .int .i64 c.Span, .int .i64 c.Room, .int .i64 c.Tries, .int .i64 c.Retry, .int .i64 node, .ptr 1 0 0]]⟩, some ⟨4, true, [[.msl 2 0 ((List.map (eInt .u8) b2).length) ((List.map (eInt .u8) b2).length) false, .msl 3 0 ((List.map (eInt .u8) b3).length) ((List.map (eInt .u8) b3).length) false, .int .i64 fuse, .bool down]]⟩, some ⟨1, false, (List.map (eInt .u8) b2)⟩, some ⟨1, false, (List.map (eInt .u8) b3)⟩] (Rs (Acceptor_prepare_e c node) r) := so (fn := Tryd.f28) (k := true) (m := 4) h <| by
 intro r h; unfold Acceptor_prepare at h
 refine zs 31 h (fun h => ?_) fun h => ?_
 ·
  exact zg 1 (Acceptor_prepare_2_ok h)
 refine zs 9 h (fun h => ?_) fun h => ?_
 ·
  exact zg 1 (Acceptor_prepare_2_ok h)
 exact zg 12 (Acceptor_prepare_2_ok h)
end Go.RX.L

set_option linter.unusedSimpArgs false
set_option linter.unusedVariables false
set_option maxRecDepth 100000
set_option maxHeartbeats 4000000
namespace Go.RX.L
open Go Go.RX Go.Proofs
attribute [local irreducible] FinQ
noncomputable def Acceptor_Handle_c := codeAt (bodyOf Tryd.f12)
noncomputable def Acceptor_Handle_e (c : Config) (node : Int) (y : (List Msg) × keptT × Int × Bool × (List Int) × (List Int)) : D × Sto := (.sl false 26 (List.map Msg.enc y.1), [some ⟨67, true, [[.int .i64 y.2.1.epoch, .int .i64 y.2.1.known.Epoch, .int .i64 y.2.1.known.Target, .int .i64 y.2.1.known.Prev, .int .i64 y.2.1.known.Spill, .int .i64 y.2.1.known.Percent, .int .i64 y.2.1.known.Stamp, .int .i64 y.2.1.known.Since, .int .i64 y.2.1.known.Ramped, .int .u64 y.2.1.known.Up, .int .u64 y.2.1.known.Sup, .sl false 1 (List.map (eInt .i64) y.2.1.known.Pen), .sl false 1 (List.map (eInt .i64) y.2.1.known.Changes), .int .i64 y.2.1.promised, .int .i64 y.2.1.accepted, .int .i64 y.2.1.plan.Epoch, .int .i64 y.2.1.plan.Target, .int .i64 y.2.1.plan.Prev, .int .i64 y.2.1.plan.Spill, .int .i64 y.2.1.plan.Percent, .int .i64 y.2.1.plan.Stamp, .int .i64 y.2.1.plan.Since, .int .i64 y.2.1.plan.Ramped, .int .u64 y.2.1.plan.Up, .int .u64 y.2.1.plan.Sup, .sl false 1 (List.map (eInt .i64) y.2.1.plan.Pen), .sl false 1 (List.map (eInt .i64) y.2.1.plan.Changes), .int .i64 y.2.1.writes.low, .int .i64 y.2.1.writes.high, .int .i64 y.2.1.writes.at_, .int .i64 y.2.1.wish, .int .i64 y.2.1.wishAt, .bool y.2.1.lead.is_, .int .i64 y.2.1.lead.who, .int .i64 y.2.1.lead.at_, .int .i64 c.F_, .int .i64 c.Deciders, .int .i64 c.Targets, .int .i64 c.Routers, .int .i64 c.Observers, .sl false 1 (List.map (eInt .i64) c.Tiers), .int .i64 c.Every, .int .i64 c.Wait, .int .i64 c.Rise, .int .i64 c.Fall, .int .i64 c.Fresh, .int .i64 c.L_, .int .i64 c.M_, .int .i64 c.Dwell, .int .i64 c.D_, .int .i64 c.W_, .int .i64 c.B_, .int .i64 c.Hit, .int .i64 c.Suppress, .int .i64 c.Reuse, .int .i64 c.Half, .int .i64 c.First, .int .i64 c.Step, .int .i64 c.StepTime, .int .i64 c.S_, .int .i64 c.Cap, .int .i64 c.Span, .int .i64 c.Room, .int .i64 c.Tries, .int .i64 c.Retry, .int .i64 node, .ptr 1 0 0]]⟩, some ⟨4, true, [[.msl 4 0 ((List.map (eInt .u8) y.2.2.2.2.1).length) ((List.map (eInt .u8) y.2.2.2.2.1).length) false, .msl 5 0 ((List.map (eInt .u8) y.2.2.2.2.2).length) ((List.map (eInt .u8) y.2.2.2.2.2).length) false, .int .i64 y.2.2.1, .bool y.2.2.2.1]]⟩, none, none, some ⟨1, false, (List.map (eInt .u8) y.2.2.2.2.1)⟩, some ⟨1, false, (List.map (eInt .u8) y.2.2.2.2.2)⟩])
abbrev Acceptor_Handle_W (m : Msg) (now : Int) (kept : keptT) (c : Config) (node : Int) (fuse : Int) (down : Bool) (b2 : List Int) (b3 : List Int) := AOk E (Cx.of Tryd.f12 true 4) (Acceptor_Handle_e c node)
noncomputable def Acceptor_Handle_1M (m : Msg) (now : Int) (kept : keptT) (c : Config) (node : Int) (fuse : Int) (down : Bool) (b2 : List Int) (b3 : List Int) (t24 : Bool) : M := ⟨[.code (Acceptor_Handle_c [1, 0, 1]), .code (Acceptor_Handle_c [1, 1])], [(0, .ptr 0 0 0), (2, .int .i64 now), (4, .ptr 4 0 0), (24, .bool t24)], [some ⟨67, true, [[.int .i64 kept.epoch, .int .i64 kept.known.Epoch, .int .i64 kept.known.Target, .int .i64 kept.known.Prev, .int .i64 kept.known.Spill, .int .i64 kept.known.Percent, .int .i64 kept.known.Stamp, .int .i64 kept.known.Since, .int .i64 kept.known.Ramped, .int .u64 kept.known.Up, .int .u64 kept.known.Sup, .sl false 1 (List.map (eInt .i64) kept.known.Pen), .sl false 1 (List.map (eInt .i64) kept.known.Changes), .int .i64 kept.promised, .int .i64 kept.accepted, .int .i64 kept.plan.Epoch, .int .i64 kept.plan.Target, .int .i64 kept.plan.Prev, .int .i64 kept.plan.Spill, .int .i64 kept.plan.Percent, .int .i64 kept.plan.Stamp, .int .i64 kept.plan.Since, .int .i64 kept.plan.Ramped, .int .u64 kept.plan.Up, .int .u64 kept.plan.Sup, .sl false 1 (List.map (eInt .i64) kept.plan.Pen), .sl false 1 (List.map (eInt .i64) kept.plan.Changes), .int .i64 kept.writes.low, .int .i64 kept.writes.high, .int .i64 kept.writes.at_, .int .i64 kept.wish, .int .i64 kept.wishAt, .bool kept.lead.is_, .int .i64 kept.lead.who, .int .i64 kept.lead.at_, .int .i64 c.F_, .int .i64 c.Deciders, .int .i64 c.Targets, .int .i64 c.Routers, .int .i64 c.Observers, .sl false 1 (List.map (eInt .i64) c.Tiers), .int .i64 c.Every, .int .i64 c.Wait, .int .i64 c.Rise, .int .i64 c.Fall, .int .i64 c.Fresh, .int .i64 c.L_, .int .i64 c.M_, .int .i64 c.Dwell, .int .i64 c.D_, .int .i64 c.W_, .int .i64 c.B_, .int .i64 c.Hit, .int .i64 c.Suppress, .int .i64 c.Reuse, .int .i64 c.Half, .int .i64 c.First, .int .i64 c.Step, .int .i64 c.StepTime, .int .i64 c.S_, .int .i64 c.Cap, .int .i64 c.Span, .int .i64 c.Room, .int .i64 c.Tries, .int .i64 c.Retry, .int .i64 node, .ptr 1 0 0]]⟩, some ⟨4, true, [[.msl 2 0 ((List.map (eInt .u8) b2).length) ((List.map (eInt .u8) b2).length) false, .msl 3 0 ((List.map (eInt .u8) b3).length) ((List.map (eInt .u8) b3).length) false, .int .i64 fuse, .bool down]]⟩, some ⟨1, false, (List.map (eInt .u8) b2)⟩, some ⟨1, false, (List.map (eInt .u8) b3)⟩, some ⟨26, false, [[.int .i64 m.Kind, .int .i64 m.From, .int .i64 m.To, .int .i64 m.Epoch, .int .i64 m.Ballot, .int .i64 m.Accepted, .int .i64 m.Nonce, .int .i64 m.Time, .int .u64 m.Up, .int .i64 m.Code, .bool m.HasPlan, .int .i64 m.Plan.Epoch, .int .i64 m.Plan.Target, .int .i64 m.Plan.Prev, .int .i64 m.Plan.Spill, .int .i64 m.Plan.Percent, .int .i64 m.Plan.Stamp, .int .i64 m.Plan.Since, .int .i64 m.Plan.Ramped, .int .u64 m.Plan.Up, .int .u64 m.Plan.Sup, .sl false 1 (List.map (eInt .i64) m.Plan.Pen), .sl false 1 (List.map (eInt .i64) m.Plan.Changes), .sl false 1 (List.map (eInt .i64) m.ID), .sl false 1 (List.map (eInt .u8) m.Session), .sl false 1 (List.map (eInt .u8) m.Payload)]]⟩]⟩
noncomputable def Acceptor_Handle_1 (m : Msg) (now : Int) (kept : keptT) (c : Config) (node : Int) (fuse : Int) (down : Bool) (b2 : List Int) (b3 : List Int) (t24 : Bool) : Option ((List Msg) × keptT × Int × Bool × (List Int) × (List Int)) := (bif t24 then (some ([], kept, fuse, down, b2, b3)) else (bif ((m.Kind : Int) == 4) then ((Acceptor_prepare m now kept c node fuse down b2 b3).bind fun y3 => (some (y3.1, y3.2.1, y3.2.2.1, y3.2.2.2.1, y3.2.2.2.2.1, y3.2.2.2.2.2))) else (bif ((m.Kind : Int) == 7) then ((Acceptor_accept m now kept c node fuse down b2 b3).bind fun y5 => (some (y5.1, y5.2.1, y5.2.2.1, y5.2.2.2.1, y5.2.2.2.2.1, y5.2.2.2.2.2))) else (bif ((m.Kind : Int) == 10) then ((Acceptor_grant m now kept c node fuse down b2 b3).bind fun y7 => (some (y7.1, y7.2.1, y7.2.2.1, y7.2.2.2.1, y7.2.2.2.2.1, y7.2.2.2.2.2))) else (some ([], kept, fuse, down, b2, b3))))))
theorem Acceptor_Handle_1_ok {m now kept c node fuse down b2 b3 t24} : Acceptor_Handle_W m now kept c node fuse down b2 b3 (Acceptor_Handle_1M m now kept c node fuse down b2 b3 t24) (Acceptor_Handle_1 m now kept c node fuse down b2 b3 t24) := by
 intro r h; unfold Acceptor_Handle_1 at h
 refine zs 1 h (fun h => ?_) fun h => ?_
 ·
  refine zf 4 [.mv 2, .mv 3] ?_
  exact zu 1 h [.slot 0 [some 26]]
 refine zs 15 h (fun h => ?_) fun h => ?_
 ·
  refine zc 7 [] h (fun _ => Acceptor_prepare_ok) fun y3 h => ?_
  exact zu 3 h
 refine zs 6 h (fun h => ?_) fun h => ?_
 ·
  refine zc 7 [] h (fun _ => Acceptor_accept_ok) fun y5 h => ?_
  exact zu 3 h
 refine zs 6 h (fun h => ?_) fun h => ?_
 ·
  refine zc 7 [] h (fun _ => Acceptor_grant_ok) fun y7 h => ?_
  exact zu 3 h
 refine zf 6 [.mv 2, .mv 3] ?_
 exact zu 1 h [.slot 0 [some 26]]
noncomputable def Acceptor_Handle (m : Msg) (now : Int) (kept : keptT) (c : Config) (node : Int) (fuse : Int) (down : Bool) (b2 : List Int) (b3 : List Int) : Option ((List Msg) × keptT × Int × Bool × (List Int) × (List Int)) := ((msg_Right m).bind fun y1 => (bif (!y1) then (Acceptor_Handle_1 m now kept c node fuse down b2 b3 true) else (bif (decide ((now : Int) < 0)) then (Acceptor_Handle_1 m now kept c node fuse down b2 b3 true) else (bif (decide ((now : Int) > 1099511627776)) then (Acceptor_Handle_1 m now kept c node fuse down b2 b3 true) else ((Journal_Down (⟨b2, b3, fuse, down⟩ : Journal)).bind fun y5 => (Acceptor_Handle_1 m now kept c node fuse down b2 b3 y5))))))
theorem Acceptor_Handle_ok {m : Msg} {now : Int} {kept : keptT} {c : Config} {node : Int} {fuse : Int} {down : Bool} {b2 : List Int} {b3 : List Int} {r : (List Msg) × keptT × Int × Bool × (List Int) × (List Int)} (h : Acceptor_Handle m now kept c node fuse down b2 b3 = some r) : Sound E 12 [.ptr 0 0 0, .agg [.int .i64 m.Kind, .int .i64 m.From, .int .i64 m.To, .int .i64 m.Epoch, .int .i64 m.Ballot, .int .i64 m.Accepted, .int .i64 m.Nonce, .int .i64 m.Time, .int .u64 m.Up, .int .i64 m.Code, .bool m.HasPlan, .int .i64 m.Plan.Epoch, .int .i64 m.Plan.Target, .int .i64 m.Plan.Prev, .int .i64 m.Plan.Spill, .int .i64 m.Plan.Percent, .int .i64 m.Plan.Stamp, .int .i64 m.Plan.Since, .int .i64 m.Plan.Ramped, .int .u64 m.Plan.Up, .int .u64 m.Plan.Sup, .sl false 1 (List.map (eInt .i64) m.Plan.Pen), .sl false 1 (List.map (eInt .i64) m.Plan.Changes), .sl false 1 (List.map (eInt .i64) m.ID), .sl false 1 (List.map (eInt .u8) m.Session), .sl false 1 (List.map (eInt .u8) m.Payload)], .int .i64 now] [some ⟨67, true, [[.int .i64 kept.epoch, .int .i64 kept.known.Epoch, .int .i64 kept.known.Target, .int .i64 kept.known.Prev, .int .i64 kept.known.Spill, .int .i64 kept.known.Percent, .int .i64 kept.known.Stamp, .int .i64 kept.known.Since, .int .i64 kept.known.Ramped, .int .u64 kept.known.Up, .int .u64 kept.known.Sup, .sl false 1 (List.map (eInt .i64) kept.known.Pen), .sl false 1 (List.map (eInt .i64) kept.known.Changes), .int .i64 kept.promised, .int .i64 kept.accepted, .int .i64 kept.plan.Epoch, .int .i64 kept.plan.Target, .int .i64 kept.plan.Prev, .int .i64 kept.plan.Spill, .int .i64 kept.plan.Percent, .int .i64 kept.plan.Stamp, .int .i64 kept.plan.Since, .int .i64 kept.plan.Ramped, .int .u64 kept.plan.Up, .int .u64 kept.plan.Sup, .sl false 1 (List.map (eInt .i64) kept.plan.Pen), .sl false 1 (List.map (eInt .i64) kept.plan.Changes), .int .i64 kept.writes.low, .int .i64 kept.writes.high, .int .i64 kept.writes.at_, .int .i64 kept.wish, .int .i64 kept.wishAt, .bool kept.lead.is_, .int .i64 kept.lead.who, .int .i64 kept.lead.at_, .int .i64 c.F_, .int .i64 c.Deciders, .int .i64 c.Targets, .int .i64 c.Routers, .int .i64 c.Observers, .sl false 1 (List.map (eInt .i64) c.Tiers), .int .i64 c.Every, .int .i64 c.Wait, .int .i64 c.Rise, .int .i64 c.Fall, .int .i64 c.Fresh, .int .i64 c.L_, .int .i64 c.M_, .int .i64 c.Dwell, .int .i64 c.D_, .int .i64 c.W_, .int .i64 c.B_, .int .i64 c.Hit, .int .i64 c.Suppress, .int .i64 c.Reuse, .int .i64 c.Half, .int .i64 c.First, .int .i64 c.Step, .int .i64 c.StepTime, .int .i64 c.S_, .int .i64 c.Cap, .int .i64 c.Span, .int .i64 c.Room, .int .i64 c.Tries, .int .i64 c.Retry, .int .i64 node, .ptr 1 0 0]]⟩, some ⟨4, true, [[.msl 2 0 ((List.map (eInt .u8) b2).length) ((List.map (eInt .u8) b2).length) false, .msl 3 0 ((List.map (eInt .u8) b3).length) ((List.map (eInt .u8) b3).length) false, .int .i64 fuse, .bool down]]⟩, some ⟨1, false, (List.map (eInt .u8) b2)⟩, some ⟨1, false, (List.map (eInt .u8) b3)⟩] (Rs (Acceptor_Handle_e c node) r) := so (fn := Tryd.f12) (k := true) (m := 4) h <| by
 intro r h; unfold Acceptor_Handle at h
 refine zc 11 [] h (fun _ => msg_Right_ok) fun y1 h => ?_
 refine zs 3 h (fun h => ?_) fun h => ?_
 ·
  exact zg 25 (Acceptor_Handle_1_ok h)
 refine zs 6 h (fun h => ?_) fun h => ?_
 ·
  exact zg 18 (Acceptor_Handle_1_ok h)
 refine zs 6 h (fun h => ?_) fun h => ?_
 ·
  exact zg 11 (Acceptor_Handle_1_ok h)
 refine zm 9 (b := (Nat.ble (0 + (List.map (eInt .u8) b2).length) ((List.map (eInt .u8) b2).length))) (ble_full _) ?_
 refine zm 0 (b := (Nat.ble (0 + (List.map (eInt .u8) b3).length) ((List.map (eInt .u8) b3).length))) (ble_full _) ?_
 refine zcE 0 [] (args1 := [.iptr 4 [[.sl false 1 (List.take ((List.map (eInt .u8) b2).length) (List.drop 0 (List.map (eInt .u8) b2))), .sl false 1 (List.take ((List.map (eInt .u8) b3).length) (List.drop 0 (List.map (eInt .u8) b3))), .int .i64 fuse, .bool down]] 0 0]) h (fun _ => Journal_Down_ok) ⟨by simp [List.take_of_length_le, List.map_take, List.map_drop], rfl⟩ fun y5 h => ?_
 exact zg 3 (Acceptor_Handle_1_ok h)
end Go.RX.L

set_option linter.unusedSimpArgs false
set_option linter.unusedVariables false
set_option maxRecDepth 100000
set_option maxHeartbeats 4000000
namespace Go.RX.L
open Go Go.RX Go.Proofs
attribute [local irreducible] FinQ
noncomputable def policy_all_1_e (y : Bool) : D × Sto := (.bool y, [])
noncomputable def policy_all_1 (n : Int) (t : Int) (t2 : Int) : Option Bool := (bif (decide ((n : Int) < t)) then (some true) else (some (decide ((n : Int) > t2))))
theorem policy_all_1_ok {n : Int} {t : Int} {t2 : Int} {r : Bool} (h : policy_all_1 n t t2 = some r) : Sound E 59 [.int .i64 n, .iptr 1 [[.int .i64 t]] 0 0, .iptr 1 [[.int .i64 t2]] 0 0] [] (Rs policy_all_1_e r) := so (fn := Tryd.f59) (k := false) (m := 0) h <| by
 intro r h; unfold policy_all_1 at h
 refine zs 12 h (fun h => ?_) fun h => ?_
 ·
  exact zu 9 h
 exact zu 10 h
end Go.RX.L

set_option linter.unusedSimpArgs false
set_option linter.unusedVariables false
set_option maxRecDepth 100000
set_option maxHeartbeats 4000000
namespace Go.RX.L
open Go Go.RX Go.Proofs
attribute [local irreducible] FinQ
noncomputable def slices_IndexFunc__policy_all_1_c := codeAt (bodyOf Tryd.f75)
noncomputable def slices_IndexFunc__policy_all_1_e (y : Int) : D × Sto := (.int .i64 y, [])
inductive slices_IndexFunc__policy_all_1_S where
 | s0 (s_ : List Int) (f : Int) (f2 : Int)
 | s1 (s_ : List Int) (f : Int) (f2 : Int) (t7 : Int) (t8 : Int)
noncomputable def slices_IndexFunc__policy_all_1_M : slices_IndexFunc__policy_all_1_S → M
 | .s0 s_ f f2 => startM Tryd.f75 [.sl false 1 (List.map (eInt .i64) s_), .fn 59 [] [.iptr 1 [[.int .i64 f]] 0 0, .iptr 1 [[.int .i64 f2]] 0 0]] []
 | .s1 s_ f f2 t7 t8 => ⟨[.lpc (slices_IndexFunc__policy_all_1_c [1, 0, 1, 0, 0]) 387, .blk 0, .code (slices_IndexFunc__policy_all_1_c [1, 1])], [(0, .sl false 1 (List.map (eInt .i64) s_)), (1, .fn 59 [] [.iptr 1 [[.int .i64 f]] 0 0, .iptr 1 [[.int .i64 f2]] 0 0]), (7, .int .i64 t7), (8, .int .i64 t8)], []⟩
abbrev slices_IndexFunc__policy_all_1_W := SOk E (Cx.of Tryd.f75 false 0) slices_IndexFunc__policy_all_1_e slices_IndexFunc__policy_all_1_M
noncomputable def slices_IndexFunc__policy_all_1_0 (s_ : List Int) (f : Int) (f2 : Int) : Option (slices_IndexFunc__policy_all_1_S ⊕ Int) := (some (.inl (.s1 s_ f f2 (((List.map (eInt .i64) s_).length : Nat) : Int) 0)))
noncomputable def slices_IndexFunc__policy_all_1_1 (s_ : List Int) (f : Int) (f2 : Int) (t7 : Int) (t8 : Int) : Option (slices_IndexFunc__policy_all_1_S ⊕ Int) := (bif (decide ((t8 : Int) < t7)) then (bif ((decide ((0 : Int) ≤ t8)) && (decide ((t8 : Int) < (((List.map (eInt .i64) s_).length : Nat) : Int)))) then (((s_)[t8.toNat]?).bind fun y3 => ((policy_all_1 y3 f f2).bind fun y5 => (bif y5 then (some (.inr t8)) else (some (.inl (.s1 s_ f f2 t7 (IntKind.i64.wrap (t8 + 1)))))))) else none) else (some (.inr (-1))))
noncomputable def slices_IndexFunc__policy_all_1_step : slices_IndexFunc__policy_all_1_S → Option (slices_IndexFunc__policy_all_1_S ⊕ Int)
 | .s0 s_ f f2 => slices_IndexFunc__policy_all_1_0 s_ f f2
 | .s1 s_ f f2 t7 t8 => slices_IndexFunc__policy_all_1_1 s_ f f2 t7 t8
theorem slices_IndexFunc__policy_all_1_0_ok {s_ f f2} : slices_IndexFunc__policy_all_1_W (.s0 s_ f f2) (slices_IndexFunc__policy_all_1_0 s_ f f2) := by
 intro r x h ha; unfold slices_IndexFunc__policy_all_1_0 at h
 exact zj 14 h ha
theorem slices_IndexFunc__policy_all_1_1_ok {s_ f f2 t7 t8} : slices_IndexFunc__policy_all_1_W (.s1 s_ f f2 t7 t8) (slices_IndexFunc__policy_all_1_1 s_ f f2 t7 t8) := by
 intro r x h ha; unfold slices_IndexFunc__policy_all_1_1 at h
 refine zs 7 h (fun h => ?_) fun h => ?_
 ·
  refine zn 14 h fun h => ?_
  refine zr 1 (eInt .i64) h fun y3 h => ?_
  refine zc 1 [] h (fun _ => policy_all_1_ok) fun y5 h => ?_
  refine zs 2 h (fun h => ?_) fun h => ?_
  ·
   exact zt 6 h ha
  exact zj 7 h ha
 exact zt 6 h ha
noncomputable def slices_IndexFunc__policy_all_1 (s_ : List Int) (f : Int) (f2 : Int) : Option Int := evf slices_IndexFunc__policy_all_1_step (.s0 s_ f f2)
theorem slices_IndexFunc__policy_all_1_ok {s_ : List Int} {f : Int} {f2 : Int} {r : Int} (h : slices_IndexFunc__policy_all_1 s_ f f2 = some r) : Sound E 75 [.sl false 1 (List.map (eInt .i64) s_), .fn 59 [] [.iptr 1 [[.int .i64 f]] 0 0, .iptr 1 [[.int .i64 f2]] 0 0]] [] (Rs slices_IndexFunc__policy_all_1_e r) := sc (fn := Tryd.f75) (k := false) (m := 0) (stM := slices_IndexFunc__policy_all_1_M) h fun s => by
 cases s with
 | s0 => exact slices_IndexFunc__policy_all_1_0_ok
 | s1 => exact slices_IndexFunc__policy_all_1_1_ok
end Go.RX.L

set_option linter.unusedSimpArgs false
set_option linter.unusedVariables false
set_option maxRecDepth 100000
set_option maxHeartbeats 4000000
namespace Go.RX.L
open Go Go.RX Go.Proofs
attribute [local irreducible] FinQ
noncomputable def slices_ContainsFunc__policy_all_1_e (y : Bool) : D × Sto := (.bool y, [])
noncomputable def slices_ContainsFunc__policy_all_1 (s_ : List Int) (f : Int) (f2 : Int) : Option Bool := ((slices_IndexFunc__policy_all_1 s_ f f2).bind fun y1 => (some (decide ((y1 : Int) ≥ 0))))
theorem slices_ContainsFunc__policy_all_1_ok {s_ : List Int} {f : Int} {f2 : Int} {r : Bool} (h : slices_ContainsFunc__policy_all_1 s_ f f2 = some r) : Sound E 58 [.sl false 1 (List.map (eInt .i64) s_), .fn 59 [] [.iptr 1 [[.int .i64 f]] 0 0, .iptr 1 [[.int .i64 f2]] 0 0]] [] (Rs slices_ContainsFunc__policy_all_1_e r) := so (fn := Tryd.f58) (k := false) (m := 0) h <| by
 intro r h; unfold slices_ContainsFunc__policy_all_1 at h
 refine zc 9 [] h (fun _ => slices_IndexFunc__policy_all_1_ok) fun y1 h => ?_
 exact zu 4 h
end Go.RX.L

set_option linter.unusedSimpArgs false
set_option linter.unusedVariables false
set_option maxRecDepth 100000
set_option maxHeartbeats 4000000
namespace Go.RX.L
open Go Go.RX Go.Proofs
attribute [local irreducible] FinQ
noncomputable def policy_all_e (y : Bool) : D × Sto := (.bool y, [])
noncomputable def policy_all (low : Int) (high : Int) (l_ : List Int) : Option Bool := ((slices_ContainsFunc__policy_all_1 l_ low high).bind fun y1 => (some (!y1)))
theorem policy_all_ok {low : Int} {high : Int} {l_ : List Int} {r : Bool} (h : policy_all low high l_ = some r) : Sound E 37 [.int .i64 low, .int .i64 high, .sl false 1 (List.map (eInt .i64) l_)] [] (Rs policy_all_e r) := so (fn := Tryd.f37) (k := false) (m := 0) h <| by
 intro r h; unfold policy_all at h
 refine zc 11 [] h (fun _ => slices_ContainsFunc__policy_all_1_ok) fun y1 h => ?_
 exact zu 4 h
end Go.RX.L

set_option linter.unusedSimpArgs false
set_option linter.unusedVariables false
set_option maxRecDepth 100000
set_option maxHeartbeats 4000000
namespace Go.RX.L
open Go Go.RX Go.Proofs
attribute [local irreducible] FinQ
noncomputable def policy_all_1_v2_e (y : Bool) : D × Sto := (.bool y, [])
noncomputable def policy_all_1_v2 (n : Int) (t : Int) (t2 : Int) : Option Bool := (bif (decide ((n : Int) < t)) then (some true) else (some (decide ((n : Int) > t2))))
theorem policy_all_1_v2_ok {n : Int} {t : Int} {t2 : Int} {r : Bool} (h : policy_all_1_v2 n t t2 = some r) : Sound E 61 [.int .i64 n, .iptr 1 [[.int .i64 t]] 0 0, .iptr 1 [[.int .i64 t2]] 0 0] [] (Rs policy_all_1_v2_e r) := so (fn := Tryd.f61) (k := false) (m := 0) h <| by
 intro r h; unfold policy_all_1_v2 at h
 refine zs 12 h (fun h => ?_) fun h => ?_
 ·
  exact zu 9 h
 exact zu 10 h
end Go.RX.L

set_option linter.unusedSimpArgs false
set_option linter.unusedVariables false
set_option maxRecDepth 100000
set_option maxHeartbeats 4000000
namespace Go.RX.L
open Go Go.RX Go.Proofs
attribute [local irreducible] FinQ
noncomputable def slices_IndexFunc__policy_all_1_v2_c := codeAt (bodyOf Tryd.f76)
noncomputable def slices_IndexFunc__policy_all_1_v2_e (y : Int) : D × Sto := (.int .i64 y, [])
inductive slices_IndexFunc__policy_all_1_v2_S where
 | s0 (s_ : List Int) (f : Int) (f2 : Int)
 | s1 (s_ : List Int) (f : Int) (f2 : Int) (t7 : Int) (t8 : Int)
noncomputable def slices_IndexFunc__policy_all_1_v2_M : slices_IndexFunc__policy_all_1_v2_S → M
 | .s0 s_ f f2 => startM Tryd.f76 [.sl false 1 (List.map (eInt .i64) s_), .fn 61 [] [.iptr 1 [[.int .i64 f]] 0 0, .iptr 1 [[.int .i64 f2]] 0 0]] []
 | .s1 s_ f f2 t7 t8 => ⟨[.lpc (slices_IndexFunc__policy_all_1_v2_c [1, 0, 1, 0, 0]) 387, .blk 0, .code (slices_IndexFunc__policy_all_1_v2_c [1, 1])], [(0, .sl false 1 (List.map (eInt .i64) s_)), (1, .fn 61 [] [.iptr 1 [[.int .i64 f]] 0 0, .iptr 1 [[.int .i64 f2]] 0 0]), (7, .int .i64 t7), (8, .int .i64 t8)], []⟩
abbrev slices_IndexFunc__policy_all_1_v2_W := SOk E (Cx.of Tryd.f76 false 0) slices_IndexFunc__policy_all_1_v2_e slices_IndexFunc__policy_all_1_v2_M
noncomputable def slices_IndexFunc__policy_all_1_v2_0 (s_ : List Int) (f : Int) (f2 : Int) : Option (slices_IndexFunc__policy_all_1_v2_S ⊕ Int) := (some (.inl (.s1 s_ f f2 (((List.map (eInt .i64) s_).length : Nat) : Int) 0)))
noncomputable def slices_IndexFunc__policy_all_1_v2_1 (s_ : List Int) (f : Int) (f2 : Int) (t7 : Int) (t8 : Int) : Option (slices_IndexFunc__policy_all_1_v2_S ⊕ Int) := (bif (decide ((t8 : Int) < t7)) then (bif ((decide ((0 : Int) ≤ t8)) && (decide ((t8 : Int) < (((List.map (eInt .i64) s_).length : Nat) : Int)))) then (((s_)[t8.toNat]?).bind fun y3 => ((policy_all_1_v2 y3 f f2).bind fun y5 => (bif y5 then (some (.inr t8)) else (some (.inl (.s1 s_ f f2 t7 (IntKind.i64.wrap (t8 + 1)))))))) else none) else (some (.inr (-1))))
noncomputable def slices_IndexFunc__policy_all_1_v2_step : slices_IndexFunc__policy_all_1_v2_S → Option (slices_IndexFunc__policy_all_1_v2_S ⊕ Int)
 | .s0 s_ f f2 => slices_IndexFunc__policy_all_1_v2_0 s_ f f2
 | .s1 s_ f f2 t7 t8 => slices_IndexFunc__policy_all_1_v2_1 s_ f f2 t7 t8
theorem slices_IndexFunc__policy_all_1_v2_0_ok {s_ f f2} : slices_IndexFunc__policy_all_1_v2_W (.s0 s_ f f2) (slices_IndexFunc__policy_all_1_v2_0 s_ f f2) := by
 intro r x h ha; unfold slices_IndexFunc__policy_all_1_v2_0 at h
 exact zj 14 h ha
theorem slices_IndexFunc__policy_all_1_v2_1_ok {s_ f f2 t7 t8} : slices_IndexFunc__policy_all_1_v2_W (.s1 s_ f f2 t7 t8) (slices_IndexFunc__policy_all_1_v2_1 s_ f f2 t7 t8) := by
 intro r x h ha; unfold slices_IndexFunc__policy_all_1_v2_1 at h
 refine zs 7 h (fun h => ?_) fun h => ?_
 ·
  refine zn 14 h fun h => ?_
  refine zr 1 (eInt .i64) h fun y3 h => ?_
  refine zc 1 [] h (fun _ => policy_all_1_v2_ok) fun y5 h => ?_
  refine zs 2 h (fun h => ?_) fun h => ?_
  ·
   exact zt 6 h ha
  exact zj 7 h ha
 exact zt 6 h ha
noncomputable def slices_IndexFunc__policy_all_1_v2 (s_ : List Int) (f : Int) (f2 : Int) : Option Int := evf slices_IndexFunc__policy_all_1_v2_step (.s0 s_ f f2)
theorem slices_IndexFunc__policy_all_1_v2_ok {s_ : List Int} {f : Int} {f2 : Int} {r : Int} (h : slices_IndexFunc__policy_all_1_v2 s_ f f2 = some r) : Sound E 76 [.sl false 1 (List.map (eInt .i64) s_), .fn 61 [] [.iptr 1 [[.int .i64 f]] 0 0, .iptr 1 [[.int .i64 f2]] 0 0]] [] (Rs slices_IndexFunc__policy_all_1_v2_e r) := sc (fn := Tryd.f76) (k := false) (m := 0) (stM := slices_IndexFunc__policy_all_1_v2_M) h fun s => by
 cases s with
 | s0 => exact slices_IndexFunc__policy_all_1_v2_0_ok
 | s1 => exact slices_IndexFunc__policy_all_1_v2_1_ok
end Go.RX.L
