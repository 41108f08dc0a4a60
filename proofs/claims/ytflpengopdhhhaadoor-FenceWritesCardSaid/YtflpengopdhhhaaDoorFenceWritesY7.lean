/-
  Words and walks for FenceWrites. No condition.
-/
import Derived.Test.YtflpengopdhhhaaDoorFenceWritesY6
set_option linter.unusedSectionVars false
set_option linter.unnecessarySimpa false
set_option linter.unusedSimpArgs false
set_option linter.unusedVariables false
set_option maxRecDepth 100000
set_option maxHeartbeats 4000000
namespace Go.RX.L
open Go Go.RX Go.Proofs
attribute [local irreducible] FinQ
noncomputable def Journal_Append_e (b1 : List Int) (y : Int × Int × Bool × (List Int)) : D × Sto := (.int .i64 y.1, [some ⟨4, true, [[(grD 3 (List.map (eInt .u8) b1)), (grD 4 (List.map (eInt .u8) y.2.2.2)), .int .i64 y.2.1, .bool y.2.2.1]]⟩, none, none, some ⟨1, false, (List.map (eInt .u8) b1)⟩, some ⟨1, false, (List.map (eInt .u8) y.2.2.2)⟩])
noncomputable def Journal_Append (kind : Int) (body : List Int) (fuse : Int) (down : Bool) (b1 b2 : List Int) : Option (Int × Int × Bool × (List Int)) := ((frame_Put kind body).bind fun y1 => (bif ((y1.2 : Int) != 0) then (some (y1.2, fuse, down, b2)) else ((Journal_effect__Append_1 fuse down y1.1 b1 b2).bind fun y3 => (some (y3.1, y3.2.1, y3.2.2.1, y3.2.2.2)))))
theorem Journal_Append_ok {kind : Int} {body : List Int} {fuse : Int} {down : Bool} {b1 b2 : List Int} {r : Int × Int × Bool × (List Int)} (h : Journal_Append kind body fuse down b1 b2 = some r) : Sound E 52 [.ptr 0 0 0, .int .u8 kind, .sl false 1 (List.map (eInt .u8) body)] [some ⟨4, true, [[(grD 1 (List.map (eInt .u8) b1)), (grD 2 (List.map (eInt .u8) b2)), .int .i64 fuse, .bool down]]⟩, some ⟨1, false, (List.map (eInt .u8) b1)⟩, some ⟨1, false, (List.map (eInt .u8) b2)⟩] (Rs (Journal_Append_e b1) r) := so (fn := Tryd.f52) (k := true) (m := 3) h <| by
 intro r h; unfold Journal_Append at h
 refine zc 10 [] h (fun _ => frame_Put_ok) fun y1 h => ?_
 refine zs 16 h (fun h => ?_) fun h => ?_
 ·
  refine zf 5 [.mv 1, .mv 2] ?_
  exact zu 1 h
 refine zc 7 [] h (fun _ => Journal_effect__Append_1_ok) fun y3 h => ?_
 exact zu 3 h
end Go.RX.L

namespace Go.RX.L
open Go Go.RX Go.Proofs
attribute [local irreducible] FinQ
noncomputable def Journal_Sync_1_e (fuse : Int) (down : Bool) (b3 : List Int) (y : (List Int) × (List Int)) : D × Sto := (.tup [], [some ⟨1, true, [[.ptr 1 0 0]]⟩, some ⟨4, true, [[(grD 4 (List.map (eInt .u8) y.1)), (grD 5 (List.map (eInt .u8) y.2)), .int .i64 fuse, .bool down]]⟩, none, some ⟨1, false, (List.map (eInt .u8) b3)⟩, some ⟨1, false, (List.map (eInt .u8) y.1)⟩, some ⟨1, false, (List.map (eInt .u8) y.2)⟩])
noncomputable def Journal_Sync_1 (fuse : Int) (down : Bool) (b2 b3 : List Int) : Option ((List Int) × (List Int)) := (bif (decide (((List.map (eInt .u8) b2).length + (List.take ((List.map (eInt .u8) b3).length) (List.drop 0 (List.map (eInt .u8) b3))).length) * 1 ≤ bytesLim)) then (some ((b2 ++ b3), [])) else none)
theorem Journal_Sync_1_ok {fuse : Int} {down : Bool} {b2 b3 : List Int} {r : (List Int) × (List Int)} (h : Journal_Sync_1 fuse down b2 b3 = some r) : Sound E 79 [.ptr 0 0 0] [some ⟨1, true, [[.ptr 1 0 0]]⟩, some ⟨4, true, [[(grD 2 (List.map (eInt .u8) b2)), (grD 3 (List.map (eInt .u8) b3)), .int .i64 fuse, .bool down]]⟩, some ⟨1, false, (List.map (eInt .u8) b2)⟩, some ⟨1, false, (List.map (eInt .u8) b3)⟩] (Rs (Journal_Sync_1_e fuse down b3) r) := so (fn := Tryd.f79) (k := true) (m := 4) h <| by
 intro r h; unfold Journal_Sync_1 at h
 refine zm 7 (b := (Nat.beq ((List.take ((List.map (eInt .u8) b3).length) (List.drop 0 (List.map (eInt .u8) b3))).length) ((List.map (eInt .u8) b3).length))) (by simp) ?_
 refine zn 0 h fun h => ?_
 refine zm 0 (b := (Nat.ble (0 + (List.map (eInt .u8) b2).length) ((List.map (eInt .u8) b2).length))) (ble_full _) ?_
 refine zw 0 (a := (List.take ((List.map (eInt .u8) b2).length) (List.drop 0 (List.map (eInt .u8) b2)) ++ (List.take ((List.map (eInt .u8) b3).length) (List.drop 0 (List.map (eInt .u8) b3))))) (b := (List.map (eInt .u8) (b2 ++ b3))) (by simp only [take_full, take_full', List.map_append, List.map_take, List.map_drop]) ?_
 refine zf 4 [.matc 1 0 1 1] ?_
 exact zu 1 h
end Go.RX.L

namespace Go.RX.L
open Go Go.RX Go.Proofs
attribute [local irreducible] FinQ
noncomputable def Journal_effect__Sync_1_c := codeAt (bodyOf Tryd.f77)
noncomputable def Journal_effect__Sync_1_e (y : Int × Int × Bool × (List Int) × (List Int)) : D × Sto := (.int .i64 y.1, [some ⟨4, true, [[(grD 4 (List.map (eInt .u8) y.2.2.2.1)), (grD 5 (List.map (eInt .u8) y.2.2.2.2)), .int .i64 y.2.1, .bool y.2.2.1]]⟩, some ⟨1, true, [[.ptr 0 0 0]]⟩, none, none, some ⟨1, false, (List.map (eInt .u8) y.2.2.2.1)⟩, some ⟨1, false, (List.map (eInt .u8) y.2.2.2.2)⟩])
abbrev Journal_effect__Sync_1_W (fuse : Int) (down : Bool) (b2 b3 : List Int) := AOk E (Cx.of Tryd.f77 true 4) Journal_effect__Sync_1_e
noncomputable def Journal_effect__Sync_1_1M (fuse : Int) (down : Bool) (b2 b3 : List Int) (fuse2 : Int) (down2 : Bool) : M := ⟨[.code (Journal_effect__Sync_1_c [1, 1])], [(0, .ptr 0 0 0), (1, .fn 79 [] [.ptr 1 0 0])], [some ⟨4, true, [[(grD 2 (List.map (eInt .u8) b2)), (grD 3 (List.map (eInt .u8) b3)), .int .i64 fuse2, .bool down2]]⟩, some ⟨1, true, [[.ptr 0 0 0]]⟩, some ⟨1, false, (List.map (eInt .u8) b2)⟩, some ⟨1, false, (List.map (eInt .u8) b3)⟩]⟩
noncomputable def Journal_effect__Sync_1_1 (fuse : Int) (down : Bool) (b2 b3 : List Int) (fuse2 : Int) (down2 : Bool) : Option (Int × Int × Bool × (List Int) × (List Int)) := (bif down2 then (some (61, fuse2, down2, b2, b3)) else (bif (decide ((fuse2 : Int) > 0)) then ((Journal_Sync_1 (IntKind.i64.wrap (fuse2 - 1)) down2 b2 b3).bind fun y3 => (some (0, (IntKind.i64.wrap (fuse2 - 1)), down2, y3.1, y3.2))) else ((Journal_Sync_1 fuse2 down2 b2 b3).bind fun y4 => (some (0, fuse2, down2, y4.1, y4.2)))))
theorem Journal_effect__Sync_1_1_ok {fuse down b2 b3 fuse2 down2} : Journal_effect__Sync_1_W fuse down b2 b3 (Journal_effect__Sync_1_1M fuse down b2 b3 fuse2 down2) (Journal_effect__Sync_1_1 fuse down b2 b3 fuse2 down2) := by
 intro r h; unfold Journal_effect__Sync_1_1 at h
 refine zs 10 h (fun h => ?_) fun h => ?_
 ·
  refine zf 4 [.mv 2, .mv 3] ?_
  exact zu 1 h
 refine zs 12 h (fun h => ?_) fun h => ?_
 ·
  refine zc 17 [] h (fun _ => Journal_Sync_1_ok) fun y3 h => ?_
  refine zf 5 [.mv 3] ?_
  exact zu 1 h
 refine zc 5 [] h (fun _ => Journal_Sync_1_ok) fun y4 h => ?_
 refine zf 5 [.mv 3] ?_
 exact zu 1 h
noncomputable def Journal_effect__Sync_1_2M (fuse : Int) (down : Bool) (b2 b3 : List Int) (t16 : Bool) : M := ⟨[.code (Journal_effect__Sync_1_c [1, 0, 1]), .code (Journal_effect__Sync_1_c [1, 1])], [(0, .ptr 0 0 0), (1, .fn 79 [] [.ptr 1 0 0]), (16, .bool t16)], [some ⟨4, true, [[(grD 2 (List.map (eInt .u8) b2)), (grD 3 (List.map (eInt .u8) b3)), .int .i64 fuse, .bool down]]⟩, some ⟨1, true, [[.ptr 0 0 0]]⟩, some ⟨1, false, (List.map (eInt .u8) b2)⟩, some ⟨1, false, (List.map (eInt .u8) b3)⟩]⟩
noncomputable def Journal_effect__Sync_1_2 (fuse : Int) (down : Bool) (b2 b3 : List Int) (t16 : Bool) : Option (Int × Int × Bool × (List Int) × (List Int)) := (bif t16 then (Journal_effect__Sync_1_1 fuse down b2 b3 (-1) true) else (Journal_effect__Sync_1_1 fuse down b2 b3 fuse down))
theorem Journal_effect__Sync_1_2_ok {fuse down b2 b3 t16} : Journal_effect__Sync_1_W fuse down b2 b3 (Journal_effect__Sync_1_2M fuse down b2 b3 t16) (Journal_effect__Sync_1_2 fuse down b2 b3 t16) := by
 intro r h; unfold Journal_effect__Sync_1_2 at h
 refine zs 1 h (fun h => ?_) fun h => ?_
 ·
  exact zg 14 (Journal_effect__Sync_1_1_ok h)
 exact zg 1 (Journal_effect__Sync_1_1_ok h)
noncomputable def Journal_effect__Sync_1 (fuse : Int) (down : Bool) (b2 b3 : List Int) : Option (Int × Int × Bool × (List Int) × (List Int)) := (bif (!down) then (Journal_effect__Sync_1_2 fuse down b2 b3 ((fuse : Int) == 0)) else (Journal_effect__Sync_1_2 fuse down b2 b3 false))
theorem Journal_effect__Sync_1_ok {fuse : Int} {down : Bool} {b2 b3 : List Int} {r : Int × Int × Bool × (List Int) × (List Int)} (h : Journal_effect__Sync_1 fuse down b2 b3 = some r) : Sound E 77 [.ptr 0 0 0, .fn 79 [] [.ptr 1 0 0]] [some ⟨4, true, [[(grD 2 (List.map (eInt .u8) b2)), (grD 3 (List.map (eInt .u8) b3)), .int .i64 fuse, .bool down]]⟩, some ⟨1, true, [[.ptr 0 0 0]]⟩, some ⟨1, false, (List.map (eInt .u8) b2)⟩, some ⟨1, false, (List.map (eInt .u8) b3)⟩] (Rs Journal_effect__Sync_1_e r) := so (fn := Tryd.f77) (k := true) (m := 4) h <| by
 intro r h; unfold Journal_effect__Sync_1 at h
 refine zs 15 h (fun h => ?_) fun h => ?_
 ·
  exact zg 12 (Journal_effect__Sync_1_2_ok h)
 exact zg 11 (Journal_effect__Sync_1_2_ok h)
end Go.RX.L

namespace Go.RX.L
open Go Go.RX Go.Proofs
attribute [local irreducible] FinQ
noncomputable def Journal_Sync_e (y : Int × Int × Bool × (List Int) × (List Int)) : D × Sto := (.int .i64 y.1, [some ⟨4, true, [[(grD 3 (List.map (eInt .u8) y.2.2.2.1)), (grD 4 (List.map (eInt .u8) y.2.2.2.2)), .int .i64 y.2.1, .bool y.2.2.1]]⟩, none, none, some ⟨1, false, (List.map (eInt .u8) y.2.2.2.1)⟩, some ⟨1, false, (List.map (eInt .u8) y.2.2.2.2)⟩])
noncomputable def Journal_Sync (fuse : Int) (down : Bool) (b1 b2 : List Int) : Option (Int × Int × Bool × (List Int) × (List Int)) := ((Journal_effect__Sync_1 fuse down b1 b2).bind fun y1 => (some (y1.1, y1.2.1, y1.2.2.1, y1.2.2.2.1, y1.2.2.2.2)))
theorem Journal_Sync_ok {fuse : Int} {down : Bool} {b1 b2 : List Int} {r : Int × Int × Bool × (List Int) × (List Int)} (h : Journal_Sync fuse down b1 b2 = some r) : Sound E 53 [.ptr 0 0 0] [some ⟨4, true, [[(grD 1 (List.map (eInt .u8) b1)), (grD 2 (List.map (eInt .u8) b2)), .int .i64 fuse, .bool down]]⟩, some ⟨1, false, (List.map (eInt .u8) b1)⟩, some ⟨1, false, (List.map (eInt .u8) b2)⟩] (Rs Journal_Sync_e r) := so (fn := Tryd.f53) (k := true) (m := 3) h <| by
 intro r h; unfold Journal_Sync at h
 refine zc 11 [] h (fun _ => Journal_effect__Sync_1_ok) fun y1 h => ?_
 exact zu 3 h
end Go.RX.L

namespace Go.RX.L
open Go Go.RX Go.Proofs
attribute [local irreducible] FinQ
end Go.RX.L

namespace Go.RX.L
open Go Go.RX Go.Proofs
attribute [local irreducible] FinQ
end Go.RX.L

namespace Go.RX.L
open Go Go.RX Go.Proofs
attribute [local irreducible] FinQ
noncomputable def Journal_Down_e (y : Bool) : D × Sto := (.bool y, [])
noncomputable def Journal_Down (j : Journal) : Option Bool := (some j.down)
theorem Journal_Down_ok {j : Journal} {r : Bool} (h : Journal_Down j = some r) : Sound E 23 [.iptr 4 [[.sl false 1 (List.map (eInt .u8) j.synced), .sl false 1 (List.map (eInt .u8) j.tail), .int .i64 j.fuse, .bool j.down]] 0 0] [] (Rs Journal_Down_e r) := so (fn := Tryd.f23) (k := false) (m := 0) h <| by
 intro r h; unfold Journal_Down at h
 exact zu 14 h
end Go.RX.L

namespace Go.RX.L
open Go Go.RX
def eff (fuse : Int) (down : Bool) : Option Int := if down = true ∨ fuse = 0 then none else some (if 0 < fuse then fuse - 1 else fuse)
def fd (fuse : Int) (down : Bool) : Int := bif down then fuse else -1
def okFuse (f : Int) : Prop := -1 ≤ f ∧ f ≤ 9223372036854775807
theorem eff_up {f g : Int} {d : Bool} (h : eff f d = some g) : d = false ∧ f ≠ 0 ∧ g = if 0 < f then f - 1 else f := by
  unfold eff at h
  split at h
  · cases h
  · rename_i hn
    simp only [not_or, Bool.not_eq_true] at hn
    exact ⟨hn.1, hn.2, (Option.some.inj h).symm⟩
theorem eff_fuse {f g : Int} {d : Bool} (hf : okFuse f) (h : eff f d = some g) : okFuse g := by
  obtain ⟨-, h1, rfl⟩ := eff_up h
  unfold okFuse at *
  split <;> omega
theorem lim7 {n : Nat} (h : n ≤ 20000000) : decide (n * 1 ≤ bytesLim) = true := limOk (by omega)
theorem jappend {k : Int} {body : List Int} (hk : 0 ≤ k ∧ k ≤ 255) (hb : Bytes body) (hl : body.length ≤ 8192) {fuse : Int} (hf : okFuse fuse) {down : Bool} {s t : List Int} (ht : t.length ≤ 10000000) :
    Journal_Append k body fuse down s t = some (match eff fuse down with | some f => (0, f, false, t ++ encF k body) | none => (61, fd fuse down, true, t)) := by
  have hp : frame_Put k body = some (encF k body, 0) := by rw [framePut_ok hk hb (by simp only [memB]; omega), putF, if_pos hl]
  have hlen := encF_len k body
  have app : ∀ f d, Journal_Append_1 (encF k body) f d s t = some (t ++ encF k body) := fun f d => by
    simp only [Journal_Append_1, List.length_map, lim7 (show t.length + (encF k body).length ≤ 20000000 by omega), cond_true]
  unfold okFuse at hf
  simp only [Journal_Append, hp, Option.bind_some, bne_self_eq_false, cond_false, Journal_effect__Append_1]
  cases down with
  | true => simp only [Bool.not_true, cond_false, Journal_effect__Append_1_2, Journal_effect__Append_1_1, cond_true, Option.bind_some, eff, fd, true_or, if_true]
  | false =>
    simp only [Bool.not_false, cond_true]
    by_cases h0 : fuse = 0
    · subst h0
      simp only [beq_self_eq_true, Journal_effect__Append_1_2, cond_true, Journal_effect__Append_1_1, Option.bind_some, eff, fd, or_true, if_true, cond_false]
    · have e0 : ((fuse : Int) == 0) = false := by simpa using h0
      simp only [e0, Journal_effect__Append_1_2, cond_false, Journal_effect__Append_1_1, app, Option.bind_some, eff, fd, h0, Bool.false_eq_true, or_self, if_false]
      by_cases hp : 0 < fuse
      · have : decide (fuse > 0) = true := decide_eq_true hp
        rw [wI64 (n := fuse - 1) (by omega) (by omega)]
        simp only [this, cond_true, Option.bind_some, if_pos hp]
      · have : decide (fuse > 0) = false := decide_eq_false (by omega)
        simp only [this, cond_false, Option.bind_some, if_neg hp]
theorem jsync {fuse : Int} (hf : okFuse fuse) {down : Bool} {s t : List Int} (ht : s.length + t.length ≤ 20000000) :
    Journal_Sync fuse down s t = some (match eff fuse down with | some f => (0, f, false, s ++ t, []) | none => (61, fd fuse down, true, s, t)) := by
  have app : ∀ f d, Journal_Sync_1 f d s t = some (s ++ t, []) := fun f d => by
    have e : (List.take t.length (List.drop 0 (List.map (eInt .u8) t))).length = t.length := by simp
    simp only [Journal_Sync_1, List.length_map]
    rw [e, lim7 ht]; rfl
  unfold okFuse at hf
  simp only [Journal_Sync, Journal_effect__Sync_1]
  cases down with
  | true => simp only [Bool.not_true, cond_false, Journal_effect__Sync_1_2, Journal_effect__Sync_1_1, cond_true, Option.bind_some, eff, fd, true_or, if_true]
  | false =>
    simp only [Bool.not_false, cond_true]
    by_cases h0 : fuse = 0
    · subst h0
      simp only [beq_self_eq_true, Journal_effect__Sync_1_2, cond_true, Journal_effect__Sync_1_1, Option.bind_some, eff, fd, or_true, if_true, cond_false]
    · have e0 : ((fuse : Int) == 0) = false := by simpa using h0
      simp only [e0, Journal_effect__Sync_1_2, cond_false, Journal_effect__Sync_1_1, app, Option.bind_some, eff, fd, h0, Bool.false_eq_true, or_self, if_false]
      by_cases hp : 0 < fuse
      · have : decide (fuse > 0) = true := decide_eq_true hp
        rw [wI64 (n := fuse - 1) (by omega) (by omega)]
        simp only [this, cond_true, Option.bind_some, if_pos hp]
      · have : decide (fuse > 0) = false := decide_eq_false (by omega)
        simp only [this, cond_false, Option.bind_some, if_neg hp]
def kept_ (keep : Int) (t : List Int) : List Int := t.take (min (max keep 0) (t.length : Int)).toNat
/-! ### records -/
def okRec (m : Msg) : Prop := FineM m ∧ rightM m = true
def rec1 (m : Msg) : Fr1 := (m.Kind, encB m)
theorem okRec.fr {m : Msg} (h : okRec m) : okFr (rec1 m) := by
  refine ⟨kind_in h.2, fun c hc => ?_, by have := encB_len h.1 h.2; simp only [rec1]; omega⟩
  have := frame_bytes h.1 h.2
  have hc' : c ∈ encB m := hc
  exact this c (by simp only [encF, inner]; simp [hc'])
def log (rs : List Msg) : List Int := frs (rs.map rec1)
theorem log_app (a b : List Msg) : log (a ++ b) = log a ++ log b := by simp [log, frs_app]
theorem log_one (m : Msg) : log [m] = encF m.Kind (encB m) := by simp [log, frs, rec1]
theorem okFrs {rs : List Msg} (h : ∀ m ∈ rs, okRec m) : ∀ x ∈ rs.map rec1, okFr x := fun x hx => by
  obtain ⟨m, hm, rfl⟩ := List.mem_map.1 hx
  exact (h m hm).fr
theorem log_bytes {rs : List Msg} (h : ∀ m ∈ rs, okRec m) : Bytes (log rs) := frs_bytes (okFrs h)
/-- A disk: its records; what is cut; what is not synced. -/
structure Disk (rs : List Msg) (J : List Int) (s : List Int) : Prop where
  ok : ∀ m ∈ rs, okRec m
  eq : s = log rs ++ J
  cut : ∃ e, pF J = .inl e
  jb : Bytes J
theorem Disk.nil : Disk [] [] [] := ⟨fun m h => by simp at h, rfl, ⟨_, rfl⟩, fun c hc => by simp at hc⟩
theorem Disk.crash {rs : List Msg} {s : List Int} (h : Disk rs [] s) {m : Msg} (hm : okRec m) (keep : Int) : (Disk (rs ++ [m]) [] (s ++ kept_ keep (log [m]))) ∨ (∃ J, Disk rs J (s ++ kept_ keep (log [m]))) := by
  have hl : (log [m]).length = (encB m).length + 8 := by rw [log_one, encF_len]
  obtain ⟨h1, h2, h3⟩ := hm.fr
  unfold kept_
  generalize hn : (min (max keep 0) ((log [m]).length : Int)).toNat = n
  by_cases hf : n = (log [m]).length
  · left
    refine ⟨fun x hx => ?_, ?_, ⟨_, rfl⟩, fun c hc => by simp at hc⟩
    · rcases List.mem_append.1 hx with hx | hx
      · exact h.ok x hx
      · rw [List.mem_singleton.1 hx]; exact hm
    · rw [hf, List.take_length, h.eq, log_app]; simp
  · right
    refine ⟨(log [m]).take n, h.ok, by rw [h.eq]; simp, ?_, fun c hc => log_bytes (rs := [m]) (fun x hx => by rw [List.mem_singleton.1 hx]; exact hm) c (List.mem_of_mem_take hc)⟩
    have := pF_cut h1 h2 h3 (j := n) (by simp only [rec1]; omega)
    rw [log_one]
    simpa only [rec1] using this
end Go.RX.L

namespace Go.RX.L
open Go Go.RX Go.Proofs
attribute [local irreducible] FinQ
noncomputable def policy_all_1_e (y : Bool) : D × Sto := (.bool y, [])
noncomputable def policy_all_1 (n t t2 : Int) : Option Bool := (bif (decide ((n : Int) < t)) then (some true) else (some (decide ((n : Int) > t2))))
theorem policy_all_1_ok {n t t2 : Int} {r : Bool} (h : policy_all_1 n t t2 = some r) : Sound E 65 [.int .i64 n, .iptr 1 [[.int .i64 t]] 0 0, .iptr 1 [[.int .i64 t2]] 0 0] [] (Rs policy_all_1_e r) := so (fn := Tryd.f65) (k := false) (m := 0) h <| by
 intro r h; unfold policy_all_1 at h
 refine zs 12 h (fun h => ?_) fun h => ?_
 ·
  exact zu 9 h
 exact zu 10 h
end Go.RX.L

namespace Go.RX.L
open Go Go.RX Go.Proofs
attribute [local irreducible] FinQ
noncomputable def slices_IndexFunc__policy_all_1_c := codeAt (bodyOf Tryd.f88)
noncomputable def slices_IndexFunc__policy_all_1_e (y : Int) : D × Sto := (.int .i64 y, [])
inductive slices_IndexFunc__policy_all_1_S where
 | s0 (s_ : List Int) (f f2 : Int)
 | s1 (s_ : List Int) (f f2 : Int) (t7 t8 : Int)
noncomputable def slices_IndexFunc__policy_all_1_M : slices_IndexFunc__policy_all_1_S → M
 | .s0 s_ f f2 => startM Tryd.f88 [.sl false 1 (List.map (eInt .i64) s_), .fn 65 [] [.iptr 1 [[.int .i64 f]] 0 0, .iptr 1 [[.int .i64 f2]] 0 0]] []
 | .s1 s_ f f2 t7 t8 => ⟨[.lpc (slices_IndexFunc__policy_all_1_c [1, 0, 1, 0, 0]) 387, .blk 0, .code (slices_IndexFunc__policy_all_1_c [1, 1])], [(0, .sl false 1 (List.map (eInt .i64) s_)), (1, .fn 65 [] [.iptr 1 [[.int .i64 f]] 0 0, .iptr 1 [[.int .i64 f2]] 0 0]), (7, .int .i64 t7), (8, .int .i64 t8)], []⟩
abbrev slices_IndexFunc__policy_all_1_W := SOk E (Cx.of Tryd.f88 false 0) slices_IndexFunc__policy_all_1_e slices_IndexFunc__policy_all_1_M
noncomputable def slices_IndexFunc__policy_all_1_0 (s_ : List Int) (f f2 : Int) : Option (slices_IndexFunc__policy_all_1_S ⊕ Int) := (some (.inl (.s1 s_ f f2 (((List.map (eInt .i64) s_).length : Nat) : Int) 0)))
noncomputable def slices_IndexFunc__policy_all_1_1 (s_ : List Int) (f f2 : Int) (t7 t8 : Int) : Option (slices_IndexFunc__policy_all_1_S ⊕ Int) := (bif (decide ((t8 : Int) < t7)) then (bif ((decide ((0 : Int) ≤ t8)) && (decide ((t8 : Int) < (((List.map (eInt .i64) s_).length : Nat) : Int)))) then (((s_)[t8.toNat]?).bind fun y3 => ((policy_all_1 y3 f f2).bind fun y5 => (bif y5 then (some (.inr t8)) else (some (.inl (.s1 s_ f f2 t7 (IntKind.i64.wrap (t8 + 1)))))))) else none) else (some (.inr (-1))))
noncomputable def slices_IndexFunc__policy_all_1_step : slices_IndexFunc__policy_all_1_S → Option (slices_IndexFunc__policy_all_1_S ⊕ Int)
 | .s0 s_ f f2 => slices_IndexFunc__policy_all_1_0 s_ f f2
 | .s1 s_ f f2 t7 t8 => slices_IndexFunc__policy_all_1_1 s_ f f2 t7 t8
theorem slices_IndexFunc__policy_all_1_0_ok {s_ f f2} : slices_IndexFunc__policy_all_1_W (.s0 s_ f f2) (slices_IndexFunc__policy_all_1_0 s_ f f2) := by
 intro r x h ha; unfold slices_IndexFunc__policy_all_1_0 at h
 exact zj 14 h ha
theorem slices_IndexFunc__policy_all_1_1_ok {s_ f f2 t7 t8} : slices_IndexFunc__policy_all_1_W (.s1 s_ f f2 t7 t8) (slices_IndexFunc__policy_all_1_1 s_ f f2 t7 t8) := by
 intro r x h ha; unfold slices_IndexFunc__policy_all_1_1 at h
 refine zs 7 h (fun h => ?_) fun h => ?_
 ·
  refine zn 14 h fun h => ?_
  refine zr 1 (eInt .i64) h fun y3 h => ?_
  refine zc 1 [] h (fun _ => policy_all_1_ok) fun y5 h => ?_
  refine zs 2 h (fun h => ?_) fun h => ?_
  ·
   exact zt 6 h ha
  exact zj 7 h ha
 exact zt 6 h ha
noncomputable def slices_IndexFunc__policy_all_1 (s_ : List Int) (f f2 : Int) : Option Int := evf slices_IndexFunc__policy_all_1_step (.s0 s_ f f2)
theorem slices_IndexFunc__policy_all_1_ok {s_ : List Int} {f f2 r : Int} (h : slices_IndexFunc__policy_all_1 s_ f f2 = some r) : Sound E 88 [.sl false 1 (List.map (eInt .i64) s_), .fn 65 [] [.iptr 1 [[.int .i64 f]] 0 0, .iptr 1 [[.int .i64 f2]] 0 0]] [] (Rs slices_IndexFunc__policy_all_1_e r) := sc (fn := Tryd.f88) (k := false) (m := 0) (stM := slices_IndexFunc__policy_all_1_M) h fun s => by
 cases s with
 | s0 => exact slices_IndexFunc__policy_all_1_0_ok
 | s1 => exact slices_IndexFunc__policy_all_1_1_ok
end Go.RX.L

namespace Go.RX.L
open Go Go.RX Go.Proofs
attribute [local irreducible] FinQ
noncomputable def slices_ContainsFunc__policy_all_1_e (y : Bool) : D × Sto := (.bool y, [])
noncomputable def slices_ContainsFunc__policy_all_1 (s_ : List Int) (f f2 : Int) : Option Bool := ((slices_IndexFunc__policy_all_1 s_ f f2).bind fun y1 => (some (decide ((y1 : Int) ≥ 0))))
theorem slices_ContainsFunc__policy_all_1_ok {s_ : List Int} {f f2 : Int} {r : Bool} (h : slices_ContainsFunc__policy_all_1 s_ f f2 = some r) : Sound E 64 [.sl false 1 (List.map (eInt .i64) s_), .fn 65 [] [.iptr 1 [[.int .i64 f]] 0 0, .iptr 1 [[.int .i64 f2]] 0 0]] [] (Rs slices_ContainsFunc__policy_all_1_e r) := so (fn := Tryd.f64) (k := false) (m := 0) h <| by
 intro r h; unfold slices_ContainsFunc__policy_all_1 at h
 refine zc 9 [] h (fun _ => slices_IndexFunc__policy_all_1_ok) fun y1 h => ?_
 exact zu 4 h
end Go.RX.L

namespace Go.RX.L
open Go Go.RX Go.Proofs
attribute [local irreducible] FinQ
noncomputable def policy_all_e (y : Bool) : D × Sto := (.bool y, [])
noncomputable def policy_all (low high : Int) (l_ : List Int) : Option Bool := ((slices_ContainsFunc__policy_all_1 l_ low high).bind fun y1 => (some (!y1)))
theorem policy_all_ok {low high : Int} {l_ : List Int} {r : Bool} (h : policy_all low high l_ = some r) : Sound E 47 [.int .i64 low, .int .i64 high, .sl false 1 (List.map (eInt .i64) l_)] [] (Rs policy_all_e r) := so (fn := Tryd.f47) (k := false) (m := 0) h <| by
 intro r h; unfold policy_all at h
 refine zc 11 [] h (fun _ => slices_ContainsFunc__policy_all_1_ok) fun y1 h => ?_
 exact zu 4 h
end Go.RX.L

namespace Go.RX.L
open Go Go.RX Go.Proofs
attribute [local irreducible] FinQ
noncomputable def policy_all_1_v2_e (y : Bool) : D × Sto := (.bool y, [])
noncomputable def policy_all_1_v2 (n t t2 : Int) : Option Bool := (bif (decide ((n : Int) < t)) then (some true) else (some (decide ((n : Int) > t2))))
theorem policy_all_1_v2_ok {n t t2 : Int} {r : Bool} (h : policy_all_1_v2 n t t2 = some r) : Sound E 67 [.int .i64 n, .iptr 1 [[.int .i64 t]] 0 0, .iptr 1 [[.int .i64 t2]] 0 0] [] (Rs policy_all_1_v2_e r) := so (fn := Tryd.f67) (k := false) (m := 0) h <| by
 intro r h; unfold policy_all_1_v2 at h
 refine zs 12 h (fun h => ?_) fun h => ?_
 ·
  exact zu 9 h
 exact zu 10 h
end Go.RX.L

namespace Go.RX.L
open Go Go.RX Go.Proofs
attribute [local irreducible] FinQ
noncomputable def slices_IndexFunc__policy_all_1_v2_c := codeAt (bodyOf Tryd.f89)
noncomputable def slices_IndexFunc__policy_all_1_v2_e (y : Int) : D × Sto := (.int .i64 y, [])
inductive slices_IndexFunc__policy_all_1_v2_S where
 | s0 (s_ : List Int) (f f2 : Int)
 | s1 (s_ : List Int) (f f2 : Int) (t7 t8 : Int)
noncomputable def slices_IndexFunc__policy_all_1_v2_M : slices_IndexFunc__policy_all_1_v2_S → M
 | .s0 s_ f f2 => startM Tryd.f89 [.sl false 1 (List.map (eInt .i64) s_), .fn 67 [] [.iptr 1 [[.int .i64 f]] 0 0, .iptr 1 [[.int .i64 f2]] 0 0]] []
 | .s1 s_ f f2 t7 t8 => ⟨[.lpc (slices_IndexFunc__policy_all_1_v2_c [1, 0, 1, 0, 0]) 387, .blk 0, .code (slices_IndexFunc__policy_all_1_v2_c [1, 1])], [(0, .sl false 1 (List.map (eInt .i64) s_)), (1, .fn 67 [] [.iptr 1 [[.int .i64 f]] 0 0, .iptr 1 [[.int .i64 f2]] 0 0]), (7, .int .i64 t7), (8, .int .i64 t8)], []⟩
abbrev slices_IndexFunc__policy_all_1_v2_W := SOk E (Cx.of Tryd.f89 false 0) slices_IndexFunc__policy_all_1_v2_e slices_IndexFunc__policy_all_1_v2_M
noncomputable def slices_IndexFunc__policy_all_1_v2_0 (s_ : List Int) (f f2 : Int) : Option (slices_IndexFunc__policy_all_1_v2_S ⊕ Int) := (some (.inl (.s1 s_ f f2 (((List.map (eInt .i64) s_).length : Nat) : Int) 0)))
noncomputable def slices_IndexFunc__policy_all_1_v2_1 (s_ : List Int) (f f2 : Int) (t7 t8 : Int) : Option (slices_IndexFunc__policy_all_1_v2_S ⊕ Int) := (bif (decide ((t8 : Int) < t7)) then (bif ((decide ((0 : Int) ≤ t8)) && (decide ((t8 : Int) < (((List.map (eInt .i64) s_).length : Nat) : Int)))) then (((s_)[t8.toNat]?).bind fun y3 => ((policy_all_1_v2 y3 f f2).bind fun y5 => (bif y5 then (some (.inr t8)) else (some (.inl (.s1 s_ f f2 t7 (IntKind.i64.wrap (t8 + 1)))))))) else none) else (some (.inr (-1))))
noncomputable def slices_IndexFunc__policy_all_1_v2_step : slices_IndexFunc__policy_all_1_v2_S → Option (slices_IndexFunc__policy_all_1_v2_S ⊕ Int)
 | .s0 s_ f f2 => slices_IndexFunc__policy_all_1_v2_0 s_ f f2
 | .s1 s_ f f2 t7 t8 => slices_IndexFunc__policy_all_1_v2_1 s_ f f2 t7 t8
theorem slices_IndexFunc__policy_all_1_v2_0_ok {s_ f f2} : slices_IndexFunc__policy_all_1_v2_W (.s0 s_ f f2) (slices_IndexFunc__policy_all_1_v2_0 s_ f f2) := by
 intro r x h ha; unfold slices_IndexFunc__policy_all_1_v2_0 at h
 exact zj 14 h ha
theorem slices_IndexFunc__policy_all_1_v2_1_ok {s_ f f2 t7 t8} : slices_IndexFunc__policy_all_1_v2_W (.s1 s_ f f2 t7 t8) (slices_IndexFunc__policy_all_1_v2_1 s_ f f2 t7 t8) := by
 intro r x h ha; unfold slices_IndexFunc__policy_all_1_v2_1 at h
 refine zs 7 h (fun h => ?_) fun h => ?_
 ·
  refine zn 14 h fun h => ?_
  refine zr 1 (eInt .i64) h fun y3 h => ?_
  refine zc 1 [] h (fun _ => policy_all_1_v2_ok) fun y5 h => ?_
  refine zs 2 h (fun h => ?_) fun h => ?_
  ·
   exact zt 6 h ha
  exact zj 7 h ha
 exact zt 6 h ha
noncomputable def slices_IndexFunc__policy_all_1_v2 (s_ : List Int) (f f2 : Int) : Option Int := evf slices_IndexFunc__policy_all_1_v2_step (.s0 s_ f f2)
theorem slices_IndexFunc__policy_all_1_v2_ok {s_ : List Int} {f f2 r : Int} (h : slices_IndexFunc__policy_all_1_v2 s_ f f2 = some r) : Sound E 89 [.sl false 1 (List.map (eInt .i64) s_), .fn 67 [] [.iptr 1 [[.int .i64 f]] 0 0, .iptr 1 [[.int .i64 f2]] 0 0]] [] (Rs slices_IndexFunc__policy_all_1_v2_e r) := sc (fn := Tryd.f89) (k := false) (m := 0) (stM := slices_IndexFunc__policy_all_1_v2_M) h fun s => by
 cases s with
 | s0 => exact slices_IndexFunc__policy_all_1_v2_0_ok
 | s1 => exact slices_IndexFunc__policy_all_1_v2_1_ok
end Go.RX.L

namespace Go.RX.L
open Go Go.RX Go.Proofs
attribute [local irreducible] FinQ
noncomputable def slices_ContainsFunc__policy_all_1_v2_e (y : Bool) : D × Sto := (.bool y, [])
noncomputable def slices_ContainsFunc__policy_all_1_v2 (s_ : List Int) (f f2 : Int) : Option Bool := ((slices_IndexFunc__policy_all_1_v2 s_ f f2).bind fun y1 => (some (decide ((y1 : Int) ≥ 0))))
theorem slices_ContainsFunc__policy_all_1_v2_ok {s_ : List Int} {f f2 : Int} {r : Bool} (h : slices_ContainsFunc__policy_all_1_v2 s_ f f2 = some r) : Sound E 66 [.sl false 1 (List.map (eInt .i64) s_), .fn 67 [] [.iptr 1 [[.int .i64 f]] 0 0, .iptr 1 [[.int .i64 f2]] 0 0]] [] (Rs slices_ContainsFunc__policy_all_1_v2_e r) := so (fn := Tryd.f66) (k := false) (m := 0) h <| by
 intro r h; unfold slices_ContainsFunc__policy_all_1_v2 at h
 refine zc 9 [] h (fun _ => slices_IndexFunc__policy_all_1_v2_ok) fun y1 h => ?_
 exact zu 4 h
end Go.RX.L

namespace Go.RX.L
open Go Go.RX Go.Proofs
attribute [local irreducible] FinQ
noncomputable def policy_all_v2_e (y : Bool) : D × Sto := (.bool y, [])
noncomputable def policy_all_v2 (low high : Int) (l_ : List Int) : Option Bool := ((slices_ContainsFunc__policy_all_1_v2 l_ low high).bind fun y1 => (some (!y1)))
theorem policy_all_v2_ok {low high : Int} {l_ : List Int} {r : Bool} (h : policy_all_v2 low high l_ = some r) : Sound E 48 [.int .i64 low, .int .i64 high, .sl false 1 (List.map (eInt .i64) l_)] [] (Rs policy_all_v2_e r) := so (fn := Tryd.f48) (k := false) (m := 0) h <| by
 intro r h; unfold policy_all_v2 at h
 refine zc 11 [] h (fun _ => slices_ContainsFunc__policy_all_1_v2_ok) fun y1 h => ?_
 exact zu 4 h
end Go.RX.L

namespace Go.RX.L
open Go Go.RX Go.Proofs
attribute [local irreducible] FinQ
noncomputable def policy_Right_e (y : Bool) : D × Sto := (.bool y, [])
noncomputable def policy_Right (c : Config) : Option Bool := ((policy_all 0 3 ([c.F_])).bind fun y1 => (bif y1 then ((policy_all 1 4 ([c.Deciders, c.Routers])).bind fun y3 => (bif y3 then ((policy_all 1 16 ([c.Targets])).bind fun y5 => (bif y5 then ((policy_all 1 7 ([c.Observers])).bind fun y7 => (bif y7 then (bif (((((List.map (eInt .i64) c.Tiers).length : Nat) : Int) : Int) == c.Targets) then ((policy_all 0 15 c.Tiers).bind fun y10 => (bif y10 then ((policy_all_v2 1 1048576 ([c.Every, c.Wait, c.Fresh, c.L_, c.Dwell, c.D_, c.W_, c.Half, c.StepTime, c.S_, c.Span, c.Retry])).bind fun y12 => (bif y12 then ((policy_all_v2 0 1048576 ([c.M_])).bind fun y14 => (bif y14 then ((policy_all 1 100 ([c.Rise, c.Fall, c.First, c.Step])).bind fun y16 => (bif y16 then ((policy_all 1 8 ([c.B_])).bind fun y18 => (bif y18 then ((policy_all 0 1000000 ([c.Hit])).bind fun y20 => (bif y20 then ((policy_all 1 1000000 ([c.Suppress])).bind fun y22 => (bif y22 then ((policy_all 0 (IntKind.i64.wrap (c.Suppress - 1)) ([c.Reuse])).bind fun y24 => (bif y24 then ((policy_all 1 1000 ([c.Cap])).bind fun y26 => (bif y26 then ((policy_all 1 64 ([c.Room])).bind fun y28 => (bif y28 then ((policy_all 1 20 ([c.Tries])).bind fun y30 => (some y30)) else (some false))) else (some false))) else (some false))) else (some false))) else (some false))) else (some false))) else (some false))) else (some false))) else (some false))) else (some false))) else (some false)) else (some false))) else (some false))) else (some false))) else (some false)))
theorem policy_Right_ok {c : Config} {r : Bool} (h : policy_Right c = some r) : Sound E 27 [.agg (Config.enc c)] [] (Rs policy_Right_e r) := so (fn := Tryd.f27) (k := false) (m := 0) h <| by
 intro r h; unfold policy_Right at h
 refine zc 13 [] h (fun _ => policy_all_ok) fun y1 h => ?_
 refine zs 2 h (fun h => ?_) fun h => ?_
 ·
  refine zc 13 [] h (fun _ => policy_all_ok) fun y3 h => ?_
  refine zs 4 h (fun h => ?_) fun h => ?_
  ·
   refine zc 8 [] h (fun _ => policy_all_ok) fun y5 h => ?_
   refine zs 4 h (fun h => ?_) fun h => ?_
   ·
    refine zc 8 [] h (fun _ => policy_all_ok) fun y7 h => ?_
    refine zs 4 h (fun h => ?_) fun h => ?_
    ·
     refine zs 16 h (fun h => ?_) fun h => ?_
     ·
      refine zc 5 [] h (fun _ => policy_all_ok) fun y10 h => ?_
      refine zs 4 h (fun h => ?_) fun h => ?_
      ·
       refine zc 63 [] h (fun _ => policy_all_v2_ok) fun y12 h => ?_
       refine zs 4 h (fun h => ?_) fun h => ?_
       ·
        refine zc 8 [] h (fun _ => policy_all_v2_ok) fun y14 h => ?_
        refine zs 4 h (fun h => ?_) fun h => ?_
        ·
         refine zc 23 [] h (fun _ => policy_all_ok) fun y16 h => ?_
         refine zs 4 h (fun h => ?_) fun h => ?_
         ·
          refine zc 8 [] h (fun _ => policy_all_ok) fun y18 h => ?_
          refine zs 4 h (fun h => ?_) fun h => ?_
          ·
           refine zc 8 [] h (fun _ => policy_all_ok) fun y20 h => ?_
           refine zs 4 h (fun h => ?_) fun h => ?_
           ·
            refine zc 8 [] h (fun _ => policy_all_ok) fun y22 h => ?_
            refine zs 4 h (fun h => ?_) fun h => ?_
            ·
             refine zc 15 [] h (fun _ => policy_all_ok) fun y24 h => ?_
             refine zs 4 h (fun h => ?_) fun h => ?_
             ·
              refine zc 8 [] h (fun _ => policy_all_ok) fun y26 h => ?_
              refine zs 4 h (fun h => ?_) fun h => ?_
              ·
               refine zc 8 [] h (fun _ => policy_all_ok) fun y28 h => ?_
               refine zs 4 h (fun h => ?_) fun h => ?_
               ·
                refine zc 8 [] h (fun _ => policy_all_ok) fun y30 h => ?_
                exact zu 5 h
               exact zu 11 h
              exact zu 22 h
             exact zu 33 h
            exact zu 50 h
           exact zu 61 h
          exact zu 72 h
         exact zu 83 h
        exact zu 106 h
       exact zu 117 h
      exact zu 172 h
     exact zu 181 h
    exact zu 196 h
   exact zu 207 h
  exact zu 218 h
 exact zu 233 h
end Go.RX.L

namespace Go.RX.L
open Go Go.RX Go.Proofs
attribute [local irreducible] FinQ
noncomputable def policy_Zero_e (y : Plan) : D × Sto := (.agg [.int .i64 y.Epoch, .int .i64 y.Target, .int .i64 y.Prev, .int .i64 y.Spill, .int .i64 y.Percent, .int .i64 y.Stamp, .int .i64 y.Since, .int .i64 y.Ramped, .int .u64 y.Up, .int .u64 y.Sup, .sl false 1 (List.map (eInt .i64) y.Pen), .sl false 1 (List.map (eInt .i64) y.Changes)], [])
noncomputable def policy_Zero (c : Config) : Option Plan := ((policy_Right c).bind fun y1 => (bif (!y1) then (some (⟨0, 0, 0, 0, 0, 0, 0, 0, 0, 0, [], []⟩ : Plan)) else (bif (decide ((0 : Int) ≤ c.Targets) && (decide ((c.Targets : Int) ≤ c.Targets) && (decide ((c.Targets : Int) ≤ 9223372036854775807) && decide (c.Targets.toNat * 8 ≤ bytesLim)))) then (some (⟨0, (-1), (-1), (-1), 0, 0, 0, 0, 0, 0, (List.replicate c.Targets.toNat 0), []⟩ : Plan)) else none)))
theorem policy_Zero_ok {c : Config} {r : Plan} (h : policy_Zero c = some r) : Sound E 28 [.agg (Config.enc c)] [] (Rs policy_Zero_e r) := so (fn := Tryd.f28) (k := false) (m := 0) h <| by
 intro r h; unfold policy_Zero at h
 refine zc 11 [] h (fun _ => policy_Right_ok) fun y1 h => ?_
 refine zs 3 h (fun h => ?_) fun h => ?_
 ·
  exact zu 9 h [.slot 0 [some 1, some 1]]
 refine zn 7 h fun h => ?_
 refine zw 0 (a := (List.replicate c.Targets.toNat ((eInt .i64) 0))) (b := (List.map (eInt .i64) (List.replicate c.Targets.toNat 0))) (rows_rep _ _ _) ?_
 refine zm 7 (b := (Nat.ble (0 + (List.map (eInt .i64) (List.replicate c.Targets.toNat 0)).length) ((List.map (eInt .i64) (List.replicate c.Targets.toNat 0)).length))) (ble_full _) ?_
 obtain rfl := Option.some.inj h
 exact r_retE [.slot 0 [some 1]] (d1 := .agg [.int .i64 0, .int .i64 (-1), .int .i64 (-1), .int .i64 (-1), .int .i64 0, .int .i64 0, .int .i64 0, .int .i64 0, .int .u64 0, .int .u64 0, .sl false 1 (List.take ((List.map (eInt .i64) (List.replicate c.Targets.toNat 0)).length) (List.drop 0 (List.map (eInt .i64) (List.replicate c.Targets.toNat 0)))), .sl false 1 []]) (d := .agg [.int .i64 0, .int .i64 (-1), .int .i64 (-1), .int .i64 (-1), .int .i64 0, .int .i64 0, .int .i64 0, .int .i64 0, .int .u64 0, .int .u64 0, .sl false 1 (List.map (eInt .i64) (List.replicate c.Targets.toNat 0)), .sl false 1 []]) (s1 := []) (s := []) (by kernel_rfl) ⟨by simp [List.take_of_length_le, List.map_take, List.map_drop], rfl⟩ ⟨rfl, rfl⟩ Cx.fin_of
end Go.RX.L

namespace Go.RX.L
open Go Go.RX
theorem pix_loop (l : List Int) (lo hi : Int) (hl : l.length < 9223372036854775807) : ∀ (j k : Nat), k + j = l.length → ∃ r : Int, Ev slices_IndexFunc__policy_all_1_step (.s1 l lo hi l.length k) r ∧ decide (r ≥ 0) = !(btw lo hi (l.drop k)) := by
  intro j
  induction j with
  | zero =>
    intro k hk
    refine ⟨-1, .done ?_, ?_⟩
    · simp [slices_IndexFunc__policy_all_1_step, slices_IndexFunc__policy_all_1_1, show ¬ (k : Int) < l.length by omega]
    · rw [List.drop_eq_nil_of_le (by omega)]; rfl
  | succ j ih =>
    intro k hk
    have hlt : k < l.length := by omega
    rw [List.drop_eq_getElem_cons hlt, btw_cons]
    by_cases h : lo ≤ l[k] ∧ l[k] ≤ hi
    · obtain ⟨r, h1, h2⟩ := ih (k + 1) (by omega)
      refine ⟨r, .next (s' := .s1 l lo hi l.length ((k + 1 : Nat) : Int)) ?_ h1, ?_⟩
      · have e1 : decide (l[k] < lo) = false := by simp; omega
        have e2 : decide (l[k] > hi) = false := by simp; omega
        simp only [slices_IndexFunc__policy_all_1_step, slices_IndexFunc__policy_all_1_1, List.length_map, ltB hlt, le0, Bool.and_self, cond_true, Int.toNat_natCast, List.getE hlt, Option.bind_some, policy_all_1, e1, e2, cond_false, wS (show k < 9223372036854775807 by omega)]
      · rw [h2, decide_eq_true h, Bool.true_and]
    · refine ⟨k, .done ?_, ?_⟩
      · have e : policy_all_1 l[k] lo hi = some true := by
          unfold policy_all_1
          by_cases h1 : l[k] < lo
          · rw [decide_eq_true h1]; rfl
          · have h2 : l[k] > hi := by omega
            rw [decide_eq_false h1, decide_eq_true h2]; rfl
        simp only [slices_IndexFunc__policy_all_1_step, slices_IndexFunc__policy_all_1_1, List.length_map, ltB hlt, le0, Bool.and_self, cond_true, Int.toNat_natCast, List.getE hlt, Option.bind_some, e]
      · rw [decide_eq_false h, Bool.false_and]; simp
theorem pall_ok (lo hi : Int) {l : List Int} (hl : l.length < 9223372036854775807) : policy_all lo hi l = some (btw lo hi l) := by
  obtain ⟨r, h1, h2⟩ := pix_loop l lo hi hl l.length 0 (by omega)
  have h3 : slices_IndexFunc__policy_all_1 l lo hi = some r := evf_of (.next (s' := .s1 l lo hi l.length 0) (by simp [slices_IndexFunc__policy_all_1_step, slices_IndexFunc__policy_all_1_0]) h1)
  simp only [policy_all, slices_ContainsFunc__policy_all_1, h3, Option.bind_some, h2]
  simp
theorem pix_v2_loop (l : List Int) (lo hi : Int) (hl : l.length < 9223372036854775807) : ∀ (j k : Nat), k + j = l.length → ∃ r : Int, Ev slices_IndexFunc__policy_all_1_v2_step (.s1 l lo hi l.length k) r ∧ decide (r ≥ 0) = !(btw lo hi (l.drop k)) := by
  intro j
  induction j with
  | zero =>
    intro k hk
    refine ⟨-1, .done ?_, ?_⟩
    · simp [slices_IndexFunc__policy_all_1_v2_step, slices_IndexFunc__policy_all_1_v2_1, show ¬ (k : Int) < l.length by omega]
    · rw [List.drop_eq_nil_of_le (by omega)]; rfl
  | succ j ih =>
    intro k hk
    have hlt : k < l.length := by omega
    rw [List.drop_eq_getElem_cons hlt, btw_cons]
    by_cases h : lo ≤ l[k] ∧ l[k] ≤ hi
    · obtain ⟨r, h1, h2⟩ := ih (k + 1) (by omega)
      refine ⟨r, .next (s' := .s1 l lo hi l.length ((k + 1 : Nat) : Int)) ?_ h1, ?_⟩
      · have e1 : decide (l[k] < lo) = false := by simp; omega
        have e2 : decide (l[k] > hi) = false := by simp; omega
        simp only [slices_IndexFunc__policy_all_1_v2_step, slices_IndexFunc__policy_all_1_v2_1, List.length_map, ltB hlt, le0, Bool.and_self, cond_true, Int.toNat_natCast, List.getE hlt, Option.bind_some, policy_all_1_v2, e1, e2, cond_false, wS (show k < 9223372036854775807 by omega)]
      · rw [h2, decide_eq_true h, Bool.true_and]
    · refine ⟨k, .done ?_, ?_⟩
      · have e : policy_all_1_v2 l[k] lo hi = some true := by
          unfold policy_all_1_v2
          by_cases h1 : l[k] < lo
          · rw [decide_eq_true h1]; rfl
          · have h2 : l[k] > hi := by omega
            rw [decide_eq_false h1, decide_eq_true h2]; rfl
        simp only [slices_IndexFunc__policy_all_1_v2_step, slices_IndexFunc__policy_all_1_v2_1, List.length_map, ltB hlt, le0, Bool.and_self, cond_true, Int.toNat_natCast, List.getE hlt, Option.bind_some, e]
      · rw [decide_eq_false h, Bool.false_and]; simp
theorem pall_v2_ok (lo hi : Int) {l : List Int} (hl : l.length < 9223372036854775807) : policy_all_v2 lo hi l = some (btw lo hi l) := by
  obtain ⟨r, h1, h2⟩ := pix_v2_loop l lo hi hl l.length 0 (by omega)
  have h3 : slices_IndexFunc__policy_all_1_v2 l lo hi = some r := evf_of (.next (s' := .s1 l lo hi l.length 0) (by simp [slices_IndexFunc__policy_all_1_v2_step, slices_IndexFunc__policy_all_1_v2_0]) h1)
  simp only [policy_all_v2, slices_ContainsFunc__policy_all_1_v2, h3, Option.bind_some, h2]
  simp
def rightC (c : Config) : Bool :=
  btw 0 3 [c.F_] && (btw 1 4 [c.Deciders, c.Routers] && (btw 1 16 [c.Targets] && (btw 1 7 [c.Observers] && (decide ((c.Tiers.length : Int) = c.Targets) && (btw 0 15 c.Tiers &&
  (btw 1 1048576 [c.Every, c.Wait, c.Fresh, c.L_, c.Dwell, c.D_, c.W_, c.Half, c.StepTime, c.S_, c.Span, c.Retry] && (btw 0 1048576 [c.M_] && (btw 1 100 [c.Rise, c.Fall, c.First, c.Step] && (btw 1 8 [c.B_] && (btw 0 1000000 [c.Hit] && (btw 1 1000000 [c.Suppress] &&
  (btw 0 (IntKind.i64.wrap (c.Suppress - 1)) [c.Reuse] && (btw 1 1000 [c.Cap] && (btw 1 64 [c.Room] && btw 1 20 [c.Tries]))))))))))))))
theorem bif_and (x y : Bool) : (bif x then some y else some false) = some (x && y) := by cases x <;> rfl
theorem polright_ok {c : Config} (h : c.Tiers.length < 9223372036854775807) : policy_Right c = some (rightC c) := by
  have a : ∀ lo hi (l : List Int), l.length < 9223372036854775807 → policy_all lo hi l = some (btw lo hi l) := fun lo hi l h => pall_ok lo hi h
  have a2 : ∀ lo hi (l : List Int), l.length < 9223372036854775807 → policy_all_v2 lo hi l = some (btw lo hi l) := fun lo hi l h => pall_v2_ok lo hi h
  unfold policy_Right rightC
  rw [a 0 3 _ (by simp), a 1 4 _ (by simp), a 1 16 _ (by simp), a 1 7 _ (by simp), a 0 15 _ h, a2 1 1048576 _ (by simp), a2 0 1048576 _ (by simp), a 1 100 _ (by simp), a 1 8 _ (by simp), a 0 1000000 _ (by simp), a 1 1000000 _ (by simp), a 0 _ _ (by simp), a 1 1000 _ (by simp), a 1 64 _ (by simp), a 1 20 _ (by simp)]
  simp only [Option.bind_some, bif_and, List.length_map]
  congr 1
theorem rightC_b {c : Config} (h : rightC c = true) : (1 ≤ c.Targets ∧ c.Targets ≤ 16) ∧ (1 ≤ c.L_ ∧ c.L_ ≤ 1048576) ∧ (0 ≤ c.M_ ∧ c.M_ ≤ 1048576) ∧ (1 ≤ c.S_ ∧ c.S_ ≤ 1048576) := by
  simp only [rightC, Bool.and_eq_true, btw_iff, List.mem_cons, List.not_mem_nil, or_false, forall_eq_or_imp, forall_eq] at h
  obtain ⟨-, -, h3, -, -, -, h7, h8, -⟩ := h
  omega
theorem polzero_ok {c : Config} (ht : c.Tiers.length < 9223372036854775807) (h : rightC c = true) : policy_Zero c = some ⟨0, -1, -1, -1, 0, 0, 0, 0, 0, 0, List.replicate c.Targets.toNat 0, []⟩ := by
  obtain ⟨⟨h1, h2⟩, -⟩ := rightC_b h
  have e : (decide ((0 : Int) ≤ c.Targets) && (decide ((c.Targets : Int) ≤ c.Targets) && (decide ((c.Targets : Int) ≤ 9223372036854775807) && decide (c.Targets.toNat * 8 ≤ bytesLim)))) = true := by
    have l : decide (c.Targets.toNat * 8 ≤ bytesLim) = true := limOk (by omega)
    simp only [l, Bool.and_eq_true, decide_eq_true_eq]
    exact ⟨by omega, Int.le_refl _, by omega, trivial⟩
  simp only [policy_Zero, polright_ok ht, h, Option.bind_some, Bool.not_true, cond_false, e, cond_true]
end Go.RX.L

namespace Go.RX.L
open Go Go.RX Go.Proofs
attribute [local irreducible] FinQ
noncomputable def journal_New_e (y : Int × Bool × (List Int) × (List Int)) : D × Sto := (.ptr 0 0 0, [some ⟨4, true, [[(grD 1 (List.map (eInt .u8) y.2.2.1)), (grD 2 (List.map (eInt .u8) y.2.2.2)), .int .i64 y.1, .bool y.2.1]]⟩, some ⟨1, false, (List.map (eInt .u8) y.2.2.1)⟩, some ⟨1, false, (List.map (eInt .u8) y.2.2.2)⟩])
noncomputable def journal_New  : Option (Int × Bool × (List Int) × (List Int)) := (some ((-1), false, [], []))
theorem journal_New_ok  {r : Int × Bool × (List Int) × (List Int)} (h : journal_New = some r) : Sound E 29 [] [] (Rs journal_New_e r) := so (fn := Tryd.f29) (k := true) (m := 0) h <| by
 intro r h; unfold journal_New at h
 refine zf 10 [.matc 0 0 0 1, .matc 0 0 1 1] ?_
 exact zu 1 h
end Go.RX.L

namespace Go.RX.L
open Go Go.RX Go.Proofs
attribute [local irreducible] FinQ
noncomputable def fence_New_c := codeAt (bodyOf Tryd.f9)
inductive fence_New_R where
 | r0
 | r1 (a0 : Int) (a1 : Plan) (a2 : Hold) (a3 : Int) (a4 : Int) (a5 : Bool) (a6 : List Entry) (a7 : List (List Int)) (a8 : Int) (a9 : Bool) (a10 : List Int) (a11 : List Int)
noncomputable def fence_New_e (c : Config) (index : Int) : fence_New_R → D × Sto
 | .r0 => (.nilp, [])
 | .r1 a0 a1 a2 a3 a4 a5 a6 a7 a8 a9 a10 a11 => (.ptr 0 0 0, [some ⟨54, true, [([.int .i64 a0] ++ Plan.encL a1 ([.int .i64 a2.Epoch, .int .i64 a2.Nonce, .int .u64 a2.Grants, .int .i64 a2.Until, (grD 1 (List.map Entry.enc a6)), (grD 2 (List.map (eSl 1 (eInt .i64)) a7)), .int .i64 a3, .int .i64 a4] ++ Config.encL c [.int .i64 index, .ptr 3 0 0, .bool a5]))]⟩, some ⟨3, false, (List.map Entry.enc a6)⟩, some ⟨1, false, (List.map (eSl 1 (eInt .i64)) a7)⟩, some ⟨4, true, [[(grD 4 (List.map (eInt .u8) a10)), (grD 5 (List.map (eInt .u8) a11)), .int .i64 a8, .bool a9]]⟩, some ⟨1, false, (List.map (eInt .u8) a10)⟩, some ⟨1, false, (List.map (eInt .u8) a11)⟩])
abbrev fence_New_W (c : Config) (index : Int) := AOk E (Cx.of Tryd.f9 true 0) (fence_New_e c index)
noncomputable def fence_New_1M (c : Config) (index : Int) (t17 : Bool) : M := ⟨[.code (fence_New_c [1, 0, 1]), .code (fence_New_c [1, 1])], [(1, .int .i64 index), (2, .ptr 0 0 0), (17, .bool t17)], [some ⟨30, false, [(Config.enc c)]⟩]⟩
noncomputable def fence_New_1 (c : Config) (index : Int) (t17 : Bool) : Option fence_New_R := (bif t17 then (some (fence_New_R.r0)) else ((policy_Zero c).bind fun y2 => ((journal_New ).bind fun y3 => (some (fence_New_R.r1 0 y2 (⟨0, 0, 0, 0⟩ : Hold) 0 0 true ([]) ([]) y3.1 y3.2.1 y3.2.2.1 y3.2.2.2)))))
theorem fence_New_1_ok {c index t17} : fence_New_W c index (fence_New_1M c index t17) (fence_New_1 c index t17) := by
 intro r h; unfold fence_New_1 at h
 refine zs 1 h (fun h => ?_) fun h => ?_
 ·
  exact zu 5 h
 refine zd 4 [] h (fun _ => policy_Zero_ok) fun y2 h => ?_
 refine zc 1 [] h (fun _ => journal_New_ok) fun y3 h => ?_
 refine zf 0 [.matc 4 0 17 3, .matc 4 0 18 1] ?_
 exact zu 1 h
noncomputable def fence_New (c : Config) (index : Int) : Option fence_New_R := ((policy_Right c).bind fun y1 => (bif (!y1) then (fence_New_1 c index true) else (bif (decide ((index : Int) < 0)) then (fence_New_1 c index true) else (fence_New_1 c index (decide ((index : Int) ≥ c.Targets))))))
theorem fence_New_ok {c : Config} {index : Int} {r : fence_New_R} (h : fence_New c index = some r) : Sound E 9 [.agg (Config.enc c), .int .i64 index] [] (Rs (fence_New_e c index) r) := so (fn := Tryd.f9) (k := true) (m := 0) h <| by
 intro r h; unfold fence_New at h
 refine zc 11 [] h (fun _ => policy_Right_ok) fun y1 h => ?_
 refine zs 3 h (fun h => ?_) fun h => ?_
 ·
  exact zg 16 (fence_New_1_ok h)
 refine zs 6 h (fun h => ?_) fun h => ?_
 ·
  exact zg 9 (fence_New_1_ok h)
 exact zg 10 (fence_New_1_ok h)
end Go.RX.L

namespace Go.RX.L
open Go Go.RX Go.Proofs
attribute [local irreducible] FinQ
noncomputable def bytes_Clone_e (y : List Int) : D × Sto := (.sl false 1 (List.map (eInt .u8) y), [])
noncomputable def bytes_Clone (b : List Int) : Option (List Int) := (bif (decide ((0 + (List.map (eInt .u8) b).length) * 1 ≤ bytesLim)) then (some b) else none)
theorem bytes_Clone_ok {b r : List Int} (h : bytes_Clone b = some r) : Sound E 37 [.sl false 1 (List.map (eInt .u8) b)] [] (Rs bytes_Clone_e r) := so (fn := Tryd.f37) (k := true) (m := 0) h <| by
 intro r h; unfold bytes_Clone at h
 refine adv_ok hm 9 _ ?_
 refine r_any (List.isEmpty (List.map (eInt .u8) b)) (by kernel_rfl) ?_ (fun h1 => ?_)
 · -- it is not nil
   refine zn 9 h fun h => ?_
   refine zw 1 (a := (List.map (eInt .u8) b)) (b := (List.map (eInt .u8) b)) (rfl) ?_
   refine adv_ok hm 2 _ ?_
   refine r_fzT 2 (n1 := (0 + (List.map (eInt .u8) b).length)) (n2 := ((List.map (eInt .u8) b).length)) (raw := (List.take ((List.map (eInt .u8) b).length) (List.drop 0 (List.map (eInt .u8) b)))) (rs := (List.map (eInt .u8) b)) (by kernel_rfl) (ble_full _) (by simp only [take_full, take_full', List.map_take, List.map_drop]) ?_
   exact zu 1 h
 · -- nil
   obtain rfl : b = [] := by simpa using h1
   simp [bytesLim] at h
   subst h
   refine adv_ok hm 8 _ ?_
   exact r_retF [.slot 0 [some 1]] (d := .sl false 1 []) (s := []) (by kernel_rfl) Cx.fin_of ⟨rfl, rfl⟩
end Go.RX.L

namespace Go.RX.L
open Go Go.RX Go.Proofs
attribute [local irreducible] FinQ
noncomputable def slices_Clone_e (y : List Int) : D × Sto := (.sl false 1 (List.map (eInt .i64) y), [])
noncomputable def slices_Clone (s_ : List Int) : Option (List Int) := (bif (decide ((0 + (List.map (eInt .i64) s_).length) * 8 ≤ bytesLim)) then (some s_) else none)
theorem slices_Clone_ok {s_ r : List Int} (h : slices_Clone s_ = some r) : Sound E 41 [.sl false 1 (List.map (eInt .i64) s_)] [] (Rs slices_Clone_e r) := so (fn := Tryd.f41) (k := false) (m := 0) h <| by
 intro r h; unfold slices_Clone at h
 refine adv_ok hm 9 _ ?_
 refine r_any (List.isEmpty (List.map (eInt .i64) s_)) (by kernel_rfl) ?_ (fun h1 => ?_)
 · -- it is not nil
   refine zn 9 h fun h => ?_
   refine zw 1 (a := (List.map (eInt .i64) s_)) (b := (List.map (eInt .i64) s_)) (rfl) ?_
   refine zm 3 (b := (Nat.ble (0 + (List.map (eInt .i64) s_).length) ((List.map (eInt .i64) s_).length))) (ble_full _) ?_
   obtain rfl := Option.some.inj h
   exact r_retE [] (d1 := .sl false 1 (List.take ((List.map (eInt .i64) s_).length) (List.drop 0 (List.map (eInt .i64) s_)))) (d := .sl false 1 (List.map (eInt .i64) s_)) (s1 := []) (s := []) (by kernel_rfl) ⟨by simp [List.take_of_length_le, List.map_take, List.map_drop], rfl⟩ ⟨rfl, rfl⟩ Cx.fin_of
 · -- nil
   obtain rfl : s_ = [] := by simpa using h1
   simp [bytesLim] at h
   subst h
   refine adv_ok hm 8 _ ?_
   exact r_retF [.slot 0 [some 1]] (d := .sl false 1 []) (s := []) (by kernel_rfl) Cx.fin_of ⟨rfl, rfl⟩
end Go.RX.L

namespace Go.RX.L
open Go Go.RX Go.Proofs
attribute [local irreducible] FinQ
noncomputable def Target_take_e (known : Plan) (hold : Hold) (begun filled : Int) (c : Config) (index : Int) (well : Bool) (fuse : Int) (down : Bool) (b4 b5 : List Int) (y : Int × (List Entry) × (List (List Int))) : D × Sto := (.tup [], [some ⟨54, true, [([.int .i64 y.1] ++ Plan.encL known ([.int .i64 hold.Epoch, .int .i64 hold.Nonce, .int .u64 hold.Grants, .int .i64 hold.Until, (grD 6 (List.map Entry.enc y.2.1)), (grD 7 (List.map (eSl 1 (eInt .i64)) y.2.2)), .int .i64 begun, .int .i64 filled] ++ Config.encL c [.int .i64 index, .ptr 3 0 0, .bool well]))]⟩, none, none, some ⟨4, true, [[(grD 8 (List.map (eInt .u8) b4)), (grD 9 (List.map (eInt .u8) b5)), .int .i64 fuse, .bool down]]⟩, none, none, some ⟨3, false, (List.map Entry.enc y.2.1)⟩, some ⟨1, false, (List.map (eSl 1 (eInt .i64)) y.2.2)⟩, some ⟨1, false, (List.map (eInt .u8) b4)⟩, some ⟨1, false, (List.map (eInt .u8) b5)⟩])
noncomputable def Target_take (m : Msg) (fence : Int) (known : Plan) (hold : Hold) (begun filled : Int) (c : Config) (index : Int) (well : Bool) (b1 : List Entry) (b2 : List (List Int)) (fuse : Int) (down : Bool) (b4 b5 : List Int) : Option (Int × (List Entry) × (List (List Int))) := (bif ((m.Kind : Int) == 19) then (some ((mxI fence m.Epoch), b1, b2)) else (bif ((m.Kind : Int) == 14) then ((slices_Clone m.ID).bind fun y3 => ((bytes_Clone m.Payload).bind fun y4 => (bif (decide (((List.map Entry.enc b1).length + 1) * 56 ≤ bytesLim)) then (some ((mxI fence m.Epoch), (b1 ++ [(⟨y3, m.Epoch, y4⟩ : Entry)]), b2)) else none))) else (bif ((m.Kind : Int) == 18) then ((slices_Clone m.ID).bind fun y7 => (bif (decide (((List.map (eSl 1 (eInt .i64)) b2).length + 1) * 24 ≤ bytesLim)) then (some (fence, b1, (b2 ++ [y7]))) else none)) else (some (fence, b1, b2)))))
theorem Target_take_ok {m : Msg} {fence : Int} {known : Plan} {hold : Hold} {begun filled : Int} {c : Config} {index : Int} {well : Bool} {b1 : List Entry} {b2 : List (List Int)} {fuse : Int} {down : Bool} {b4 b5 : List Int} {r : Int × (List Entry) × (List (List Int))} (h : Target_take m fence known hold begun filled c index well b1 b2 fuse down b4 b5 = some r) : Sound E 34 [.ptr 0 0 0, .agg [.int .i64 m.Kind, .int .i64 m.From, .int .i64 m.To, .int .i64 m.Epoch, .int .i64 m.Ballot, .int .i64 m.Accepted, .int .i64 m.Nonce, .int .i64 m.Time, .int .u64 m.Up, .int .i64 m.Code, .bool m.HasPlan, .int .i64 m.Plan.Epoch, .int .i64 m.Plan.Target, .int .i64 m.Plan.Prev, .int .i64 m.Plan.Spill, .int .i64 m.Plan.Percent, .int .i64 m.Plan.Stamp, .int .i64 m.Plan.Since, .int .i64 m.Plan.Ramped, .int .u64 m.Plan.Up, .int .u64 m.Plan.Sup, .sl false 1 (List.map (eInt .i64) m.Plan.Pen), .sl false 1 (List.map (eInt .i64) m.Plan.Changes), .sl false 1 (List.map (eInt .i64) m.ID), .sl false 1 (List.map (eInt .u8) m.Session), .sl false 1 (List.map (eInt .u8) m.Payload)]] [some ⟨54, true, [([.int .i64 fence] ++ Plan.encL known ([.int .i64 hold.Epoch, .int .i64 hold.Nonce, .int .u64 hold.Grants, .int .i64 hold.Until, (grD 1 (List.map Entry.enc b1)), (grD 2 (List.map (eSl 1 (eInt .i64)) b2)), .int .i64 begun, .int .i64 filled] ++ Config.encL c [.int .i64 index, .ptr 3 0 0, .bool well]))]⟩, some ⟨3, false, (List.map Entry.enc b1)⟩, some ⟨1, false, (List.map (eSl 1 (eInt .i64)) b2)⟩, some ⟨4, true, [[(grD 4 (List.map (eInt .u8) b4)), (grD 5 (List.map (eInt .u8) b5)), .int .i64 fuse, .bool down]]⟩, some ⟨1, false, (List.map (eInt .u8) b4)⟩, some ⟨1, false, (List.map (eInt .u8) b5)⟩] (Rs (Target_take_e known hold begun filled c index well fuse down b4 b5) r) := so (fn := Tryd.f34) (k := true) (m := 6) h <| by
 intro r h; unfold Target_take at h
 refine zs 17 h (fun h => ?_) fun h => ?_
 ·
  refine zf 6 [.mv 1, .mv 2, .mv 4, .mv 5] ?_
  exact zu 1 h
 refine zs 6 h (fun h => ?_) fun h => ?_
 ·
  refine zd 9 [] h (fun _ => slices_Clone_ok) fun y3 h => ?_
  refine zdR 2 [] h (fun _ => bytes_Clone_ok) fun y4 h => ?_
  refine zn 0 h fun h => ?_
  refine za 0 Entry.enc b1 ([(⟨y3, m.Epoch, y4⟩ : Entry)]) ?_
  refine zf 3 [.mv 2, .mv 4, .mv 5] ?_
  exact zu 1 h
 refine zs 6 h (fun h => ?_) fun h => ?_
 ·
  refine zd 3 [] h (fun _ => slices_Clone_ok) fun y7 h => ?_
  refine zn 0 h fun h => ?_
  refine za 0 (eSl 1 (eInt .i64)) b2 ([y7]) ?_
  refine zf 3 [.mv 1, .mv 4, .mv 5] ?_
  exact zu 1 h
 refine zf 2 [.mv 1, .mv 2, .mv 4, .mv 5] ?_
 exact zu 1 h
end Go.RX.L

namespace Go.RX.L
open Go Go.RX Go.Proofs
attribute [local irreducible] FinQ
noncomputable def Target_remember__take_c := codeAt (bodyOf Tryd.f33)
noncomputable def Target_remember__take_e (known : Plan) (hold : Hold) (begun filled : Int) (c : Config) (index : Int) (well : Bool) (y : Bool × Int × Int × Bool × (List Entry) × (List (List Int)) × (List Int) × (List Int)) : D × Sto := (.bool y.1, [some ⟨54, true, [([.int .i64 y.2.1] ++ Plan.encL known ([.int .i64 hold.Epoch, .int .i64 hold.Nonce, .int .u64 hold.Grants, .int .i64 hold.Until, (grD 6 (List.map Entry.enc y.2.2.2.2.1)), (grD 7 (List.map (eSl 1 (eInt .i64)) y.2.2.2.2.2.1)), .int .i64 begun, .int .i64 filled] ++ Config.encL c [.int .i64 index, .ptr 3 0 0, .bool well]))]⟩, none, none, some ⟨4, true, [[(grD 8 (List.map (eInt .u8) y.2.2.2.2.2.2.1)), (grD 9 (List.map (eInt .u8) y.2.2.2.2.2.2.2)), .int .i64 y.2.2.1, .bool y.2.2.2.1]]⟩, none, none, some ⟨3, false, (List.map Entry.enc y.2.2.2.2.1)⟩, some ⟨1, false, (List.map (eSl 1 (eInt .i64)) y.2.2.2.2.2.1)⟩, some ⟨1, false, (List.map (eInt .u8) y.2.2.2.2.2.2.1)⟩, some ⟨1, false, (List.map (eInt .u8) y.2.2.2.2.2.2.2)⟩])
abbrev Target_remember__take_W (m : Msg) (fence : Int) (known : Plan) (hold : Hold) (begun filled : Int) (c : Config) (index : Int) (well : Bool) (b1 : List Entry) (b2 : List (List Int)) := AOk E (Cx.of Tryd.f33 true 6) (Target_remember__take_e known hold begun filled c index well)
noncomputable def Target_remember__take_1M (m : Msg) (fence : Int) (known : Plan) (hold : Hold) (begun filled : Int) (c : Config) (index : Int) (well : Bool) (b1 : List Entry) (b2 : List (List Int)) (t35 : Bool) (fuse2 : Int) (down2 : Bool) (b7 b8 : List Int) : M := ⟨[.code (Target_remember__take_c [1, 1, 0, 1]), .code (Target_remember__take_c [1, 1, 1])], [(2, .fn 34 [.ptr 0 0 0] []), (4, .ptr 6 0 0), (35, .bool t35)], [some ⟨54, true, [([.int .i64 fence] ++ Plan.encL known ([.int .i64 hold.Epoch, .int .i64 hold.Nonce, .int .u64 hold.Grants, .int .i64 hold.Until, (grD 1 (List.map Entry.enc b1)), (grD 2 (List.map (eSl 1 (eInt .i64)) b2)), .int .i64 begun, .int .i64 filled] ++ Config.encL c [.int .i64 index, .ptr 3 0 0, .bool well]))]⟩, some ⟨3, false, (List.map Entry.enc b1)⟩, some ⟨1, false, (List.map (eSl 1 (eInt .i64)) b2)⟩, some ⟨4, true, [[(grD 7 (List.map (eInt .u8) b7)), (grD 8 (List.map (eInt .u8) b8)), .int .i64 fuse2, .bool down2]]⟩, none, none, some ⟨26, false, [(Msg.enc m)]⟩, some ⟨1, false, (List.map (eInt .u8) b7)⟩, some ⟨1, false, (List.map (eInt .u8) b8)⟩]⟩
noncomputable def Target_remember__take_1 (m : Msg) (fence : Int) (known : Plan) (hold : Hold) (begun filled : Int) (c : Config) (index : Int) (well : Bool) (b1 : List Entry) (b2 : List (List Int)) (t35 : Bool) (fuse2 : Int) (down2 : Bool) (b7 b8 : List Int) : Option (Bool × Int × Int × Bool × (List Entry) × (List (List Int)) × (List Int) × (List Int)) := (bif t35 then (some (false, fence, fuse2, down2, b1, b2, b7, b8)) else ((Target_take m fence known hold begun filled c index well b1 b2 fuse2 down2 b7 b8).bind fun y2 => (some (true, y2.1, fuse2, down2, y2.2.1, y2.2.2, b7, b8))))
theorem Target_remember__take_1_ok {m fence known hold begun filled c index well b1 b2 t35 fuse2 down2 b7 b8} : Target_remember__take_W m fence known hold begun filled c index well b1 b2 (Target_remember__take_1M m fence known hold begun filled c index well b1 b2 t35 fuse2 down2 b7 b8) (Target_remember__take_1 m fence known hold begun filled c index well b1 b2 t35 fuse2 down2 b7 b8) := by
 intro r h; unfold Target_remember__take_1 at h
 refine zs 1 h (fun h => ?_) fun h => ?_
 ·
  refine zf 4 [.mv 1, .mv 2] ?_
  exact zu 1 h
 refine adv_ok hm 7 _ ?_
 have ok2 := fun (y : Int × (List Entry) × (List (List Int))) (hy : Target_take m fence known hold begun filled c index well b1 b2 fuse2 down2 b7 b8 = some y) => @Eq.mp (Sound E 34 [.ptr 0 0 0, .agg [.int .i64 m.Kind, .int .i64 m.From, .int .i64 m.To, .int .i64 m.Epoch, .int .i64 m.Ballot, .int .i64 m.Accepted, .int .i64 m.Nonce, .int .i64 m.Time, .int .u64 m.Up, .int .i64 m.Code, .bool m.HasPlan, .int .i64 m.Plan.Epoch, .int .i64 m.Plan.Target, .int .i64 m.Plan.Prev, .int .i64 m.Plan.Spill, .int .i64 m.Plan.Percent, .int .i64 m.Plan.Stamp, .int .i64 m.Plan.Since, .int .i64 m.Plan.Ramped, .int .u64 m.Plan.Up, .int .u64 m.Plan.Sup, .sl false 1 (List.map (eInt .i64) m.Plan.Pen), .sl false 1 (List.map (eInt .i64) m.Plan.Changes), .sl false 1 (List.map (eInt .i64) m.ID), .sl false 1 (List.map (eInt .u8) m.Session), .sl false 1 (List.map (eInt .u8) m.Payload)]] [some ⟨54, true, [([.int .i64 fence] ++ Plan.encL known ([.int .i64 hold.Epoch, .int .i64 hold.Nonce, .int .u64 hold.Grants, .int .i64 hold.Until, (grD 1 (List.map Entry.enc b1)), (grD 2 (List.map (eSl 1 (eInt .i64)) b2)), .int .i64 begun, .int .i64 filled] ++ Config.encL c [.int .i64 index, .ptr 3 0 0, .bool well]))]⟩, some ⟨3, false, (List.map Entry.enc b1)⟩, some ⟨1, false, (List.map (eSl 1 (eInt .i64)) b2)⟩, some ⟨4, true, [[(grD 4 (List.map (eInt .u8) b7)), (grD 5 (List.map (eInt .u8) b8)), .int .i64 fuse2, .bool down2]]⟩, some ⟨1, false, (List.map (eInt .u8) b7)⟩, some ⟨1, false, (List.map (eInt .u8) b8)⟩] (Rs (Target_take_e known hold begun filled c index well fuse2 down2 b7 b8) y)) (Sound E 34 [.ptr 0 0 0, .agg [.int .i64 m.Kind, .int .i64 m.From, .int .i64 m.To, .int .i64 m.Epoch, .int .i64 m.Ballot, .int .i64 m.Accepted, .int .i64 m.Nonce, .int .i64 m.Time, .int .u64 m.Up, .int .i64 m.Code, .bool m.HasPlan, .int .i64 m.Plan.Epoch, .int .i64 m.Plan.Target, .int .i64 m.Plan.Prev, .int .i64 m.Plan.Spill, .int .i64 m.Plan.Percent, .int .i64 m.Plan.Stamp, .int .i64 m.Plan.Since, .int .i64 m.Plan.Ramped, .int .u64 m.Plan.Up, .int .u64 m.Plan.Sup, .sl false 1 (List.map (eInt .i64) m.Plan.Pen), .sl false 1 (List.map (eInt .i64) m.Plan.Changes), .sl false 1 (List.map (eInt .i64) m.ID), .sl false 1 (List.map (eInt .u8) m.Session), .sl false 1 (List.map (eInt .u8) m.Payload)]] [some ⟨54, true, [([.int .i64 fence] ++ Plan.encL known ([.int .i64 hold.Epoch, .int .i64 hold.Nonce, .int .u64 hold.Grants, .int .i64 hold.Until, (grD 1 (List.map Entry.enc b1)), (grD 2 (List.map (eSl 1 (eInt .i64)) b2)), .int .i64 begun, .int .i64 filled] ++ Config.encL c [.int .i64 index, .ptr 3 0 0, .bool well]))]⟩, some ⟨3, false, (List.map Entry.enc b1)⟩, some ⟨1, false, (List.map (eSl 1 (eInt .i64)) b2)⟩, some ⟨4, true, [[(grD 4 (List.map (eInt .u8) b7)), (grD 5 (List.map (eInt .u8) b8)), .int .i64 fuse2, .bool down2]]⟩, some ⟨1, false, (List.map (eInt .u8) b7)⟩, some ⟨1, false, (List.map (eInt .u8) b8)⟩] (Rs (Target_take_e known hold begun filled c index well fuse2 down2 b7 b8) y)) (by kernel_rfl) (Target_take_ok hy)
 refine zc 0 [] h ok2 fun y2 h => ?_
 exact zu 6 h
noncomputable def Target_remember__take (m : Msg) (fence : Int) (known : Plan) (hold : Hold) (begun filled : Int) (c : Config) (index : Int) (well : Bool) (b1 : List Entry) (b2 : List (List Int)) (fuse : Int) (down : Bool) (b4 b5 : List Int) : Option (Bool × Int × Int × Bool × (List Entry) × (List (List Int)) × (List Int) × (List Int)) := ((msg_Body m).bind fun y1 => (bif ((y1.2.2 : Int) != 0) then (Target_remember__take_1 m fence known hold begun filled c index well b1 b2 true fuse down b4 b5) else ((Journal_Append y1.1 y1.2.1 fuse down b4 b5).bind fun y3 => (bif ((y3.1 : Int) != 0) then (Target_remember__take_1 m fence known hold begun filled c index well b1 b2 true y3.2.1 y3.2.2.1 b4 y3.2.2.2) else ((Journal_Sync y3.2.1 y3.2.2.1 b4 y3.2.2.2).bind fun y5 => (Target_remember__take_1 m fence known hold begun filled c index well b1 b2 ((y5.1 : Int) != 0) y5.2.1 y5.2.2.1 y5.2.2.2.1 y5.2.2.2.2))))))
theorem Target_remember__take_ok {m : Msg} {fence : Int} {known : Plan} {hold : Hold} {begun filled : Int} {c : Config} {index : Int} {well : Bool} {b1 : List Entry} {b2 : List (List Int)} {fuse : Int} {down : Bool} {b4 b5 : List Int} {r : Bool × Int × Int × Bool × (List Entry) × (List (List Int)) × (List Int) × (List Int)} (h : Target_remember__take m fence known hold begun filled c index well b1 b2 fuse down b4 b5 = some r) : Sound E 33 [.ptr 0 0 0, .agg [.int .i64 m.Kind, .int .i64 m.From, .int .i64 m.To, .int .i64 m.Epoch, .int .i64 m.Ballot, .int .i64 m.Accepted, .int .i64 m.Nonce, .int .i64 m.Time, .int .u64 m.Up, .int .i64 m.Code, .bool m.HasPlan, .int .i64 m.Plan.Epoch, .int .i64 m.Plan.Target, .int .i64 m.Plan.Prev, .int .i64 m.Plan.Spill, .int .i64 m.Plan.Percent, .int .i64 m.Plan.Stamp, .int .i64 m.Plan.Since, .int .i64 m.Plan.Ramped, .int .u64 m.Plan.Up, .int .u64 m.Plan.Sup, .sl false 1 (List.map (eInt .i64) m.Plan.Pen), .sl false 1 (List.map (eInt .i64) m.Plan.Changes), .sl false 1 (List.map (eInt .i64) m.ID), .sl false 1 (List.map (eInt .u8) m.Session), .sl false 1 (List.map (eInt .u8) m.Payload)], .fn 34 [.ptr 0 0 0] []] [some ⟨54, true, [([.int .i64 fence] ++ Plan.encL known ([.int .i64 hold.Epoch, .int .i64 hold.Nonce, .int .u64 hold.Grants, .int .i64 hold.Until, (grD 1 (List.map Entry.enc b1)), (grD 2 (List.map (eSl 1 (eInt .i64)) b2)), .int .i64 begun, .int .i64 filled] ++ Config.encL c [.int .i64 index, .ptr 3 0 0, .bool well]))]⟩, some ⟨3, false, (List.map Entry.enc b1)⟩, some ⟨1, false, (List.map (eSl 1 (eInt .i64)) b2)⟩, some ⟨4, true, [[(grD 4 (List.map (eInt .u8) b4)), (grD 5 (List.map (eInt .u8) b5)), .int .i64 fuse, .bool down]]⟩, some ⟨1, false, (List.map (eInt .u8) b4)⟩, some ⟨1, false, (List.map (eInt .u8) b5)⟩] (Rs (Target_remember__take_e known hold begun filled c index well) r) := so (fn := Tryd.f33) (k := true) (m := 6) h <| by
 intro r h; unfold Target_remember__take at h
 refine zc 10 [] h (fun _ => msg_Body_ok) fun y1 h => ?_
 refine zs 15 h (fun h => ?_) fun h => ?_
 ·
  exact zg 32 (Target_remember__take_1_ok h) [.mv 4, .mv 5]
 refine zc 13 [] h (fun _ => Journal_Append_ok) fun y3 h => ?_
 refine zs 6 h (fun h => ?_) fun h => ?_
 ·
  exact zg 13 (Target_remember__take_1_ok h)
 refine zc 9 [] h (fun _ => Journal_Sync_ok) fun y5 h => ?_
 exact zg 5 (Target_remember__take_1_ok h)
end Go.RX.L

namespace Go.RX.L
open Go Go.RX Go.Proofs
attribute [local irreducible] FinQ
noncomputable def math_bits_OnesCount64_e (y : Int) : D × Sto := (.int .i64 y, [])
noncomputable def math_bits_OnesCount64 (x_ : Int) : Option Int := (some (andI .i64 (IntKind.i64.wrap ((IntKind.u64.wrap ((IntKind.u64.wrap ((IntKind.u64.wrap ((andI .u64 (IntKind.u64.wrap ((shrI .u64 (IntKind.u64.wrap ((andI .u64 (shrI .u64 (IntKind.u64.wrap ((andI .u64 (shrI .u64 x_ 1) 6148914691236517205) + (andI .u64 x_ 6148914691236517205))) 2) 3689348814741910323) + (andI .u64 (IntKind.u64.wrap ((andI .u64 (shrI .u64 x_ 1) 6148914691236517205) + (andI .u64 x_ 6148914691236517205))) 3689348814741910323))) 4) + (IntKind.u64.wrap ((andI .u64 (shrI .u64 (IntKind.u64.wrap ((andI .u64 (shrI .u64 x_ 1) 6148914691236517205) + (andI .u64 x_ 6148914691236517205))) 2) 3689348814741910323) + (andI .u64 (IntKind.u64.wrap ((andI .u64 (shrI .u64 x_ 1) 6148914691236517205) + (andI .u64 x_ 6148914691236517205))) 3689348814741910323))))) 1085102592571150095) + (shrI .u64 (andI .u64 (IntKind.u64.wrap ((shrI .u64 (IntKind.u64.wrap ((andI .u64 (shrI .u64 (IntKind.u64.wrap ((andI .u64 (shrI .u64 x_ 1) 6148914691236517205) + (andI .u64 x_ 6148914691236517205))) 2) 3689348814741910323) + (andI .u64 (IntKind.u64.wrap ((andI .u64 (shrI .u64 x_ 1) 6148914691236517205) + (andI .u64 x_ 6148914691236517205))) 3689348814741910323))) 4) + (IntKind.u64.wrap ((andI .u64 (shrI .u64 (IntKind.u64.wrap ((andI .u64 (shrI .u64 x_ 1) 6148914691236517205) + (andI .u64 x_ 6148914691236517205))) 2) 3689348814741910323) + (andI .u64 (IntKind.u64.wrap ((andI .u64 (shrI .u64 x_ 1) 6148914691236517205) + (andI .u64 x_ 6148914691236517205))) 3689348814741910323))))) 1085102592571150095) 8))) + (shrI .u64 (IntKind.u64.wrap ((andI .u64 (IntKind.u64.wrap ((shrI .u64 (IntKind.u64.wrap ((andI .u64 (shrI .u64 (IntKind.u64.wrap ((andI .u64 (shrI .u64 x_ 1) 6148914691236517205) + (andI .u64 x_ 6148914691236517205))) 2) 3689348814741910323) + (andI .u64 (IntKind.u64.wrap ((andI .u64 (shrI .u64 x_ 1) 6148914691236517205) + (andI .u64 x_ 6148914691236517205))) 3689348814741910323))) 4) + (IntKind.u64.wrap ((andI .u64 (shrI .u64 (IntKind.u64.wrap ((andI .u64 (shrI .u64 x_ 1) 6148914691236517205) + (andI .u64 x_ 6148914691236517205))) 2) 3689348814741910323) + (andI .u64 (IntKind.u64.wrap ((andI .u64 (shrI .u64 x_ 1) 6148914691236517205) + (andI .u64 x_ 6148914691236517205))) 3689348814741910323))))) 1085102592571150095) + (shrI .u64 (andI .u64 (IntKind.u64.wrap ((shrI .u64 (IntKind.u64.wrap ((andI .u64 (shrI .u64 (IntKind.u64.wrap ((andI .u64 (shrI .u64 x_ 1) 6148914691236517205) + (andI .u64 x_ 6148914691236517205))) 2) 3689348814741910323) + (andI .u64 (IntKind.u64.wrap ((andI .u64 (shrI .u64 x_ 1) 6148914691236517205) + (andI .u64 x_ 6148914691236517205))) 3689348814741910323))) 4) + (IntKind.u64.wrap ((andI .u64 (shrI .u64 (IntKind.u64.wrap ((andI .u64 (shrI .u64 x_ 1) 6148914691236517205) + (andI .u64 x_ 6148914691236517205))) 2) 3689348814741910323) + (andI .u64 (IntKind.u64.wrap ((andI .u64 (shrI .u64 x_ 1) 6148914691236517205) + (andI .u64 x_ 6148914691236517205))) 3689348814741910323))))) 1085102592571150095) 8))) 16))) + (shrI .u64 (IntKind.u64.wrap ((IntKind.u64.wrap ((andI .u64 (IntKind.u64.wrap ((shrI .u64 (IntKind.u64.wrap ((andI .u64 (shrI .u64 (IntKind.u64.wrap ((andI .u64 (shrI .u64 x_ 1) 6148914691236517205) + (andI .u64 x_ 6148914691236517205))) 2) 3689348814741910323) + (andI .u64 (IntKind.u64.wrap ((andI .u64 (shrI .u64 x_ 1) 6148914691236517205) + (andI .u64 x_ 6148914691236517205))) 3689348814741910323))) 4) + (IntKind.u64.wrap ((andI .u64 (shrI .u64 (IntKind.u64.wrap ((andI .u64 (shrI .u64 x_ 1) 6148914691236517205) + (andI .u64 x_ 6148914691236517205))) 2) 3689348814741910323) + (andI .u64 (IntKind.u64.wrap ((andI .u64 (shrI .u64 x_ 1) 6148914691236517205) + (andI .u64 x_ 6148914691236517205))) 3689348814741910323))))) 1085102592571150095) + (shrI .u64 (andI .u64 (IntKind.u64.wrap ((shrI .u64 (IntKind.u64.wrap ((andI .u64 (shrI .u64 (IntKind.u64.wrap ((andI .u64 (shrI .u64 x_ 1) 6148914691236517205) + (andI .u64 x_ 6148914691236517205))) 2) 3689348814741910323) + (andI .u64 (IntKind.u64.wrap ((andI .u64 (shrI .u64 x_ 1) 6148914691236517205) + (andI .u64 x_ 6148914691236517205))) 3689348814741910323))) 4) + (IntKind.u64.wrap ((andI .u64 (shrI .u64 (IntKind.u64.wrap ((andI .u64 (shrI .u64 x_ 1) 6148914691236517205) + (andI .u64 x_ 6148914691236517205))) 2) 3689348814741910323) + (andI .u64 (IntKind.u64.wrap ((andI .u64 (shrI .u64 x_ 1) 6148914691236517205) + (andI .u64 x_ 6148914691236517205))) 3689348814741910323))))) 1085102592571150095) 8))) + (shrI .u64 (IntKind.u64.wrap ((andI .u64 (IntKind.u64.wrap ((shrI .u64 (IntKind.u64.wrap ((andI .u64 (shrI .u64 (IntKind.u64.wrap ((andI .u64 (shrI .u64 x_ 1) 6148914691236517205) + (andI .u64 x_ 6148914691236517205))) 2) 3689348814741910323) + (andI .u64 (IntKind.u64.wrap ((andI .u64 (shrI .u64 x_ 1) 6148914691236517205) + (andI .u64 x_ 6148914691236517205))) 3689348814741910323))) 4) + (IntKind.u64.wrap ((andI .u64 (shrI .u64 (IntKind.u64.wrap ((andI .u64 (shrI .u64 x_ 1) 6148914691236517205) + (andI .u64 x_ 6148914691236517205))) 2) 3689348814741910323) + (andI .u64 (IntKind.u64.wrap ((andI .u64 (shrI .u64 x_ 1) 6148914691236517205) + (andI .u64 x_ 6148914691236517205))) 3689348814741910323))))) 1085102592571150095) + (shrI .u64 (andI .u64 (IntKind.u64.wrap ((shrI .u64 (IntKind.u64.wrap ((andI .u64 (shrI .u64 (IntKind.u64.wrap ((andI .u64 (shrI .u64 x_ 1) 6148914691236517205) + (andI .u64 x_ 6148914691236517205))) 2) 3689348814741910323) + (andI .u64 (IntKind.u64.wrap ((andI .u64 (shrI .u64 x_ 1) 6148914691236517205) + (andI .u64 x_ 6148914691236517205))) 3689348814741910323))) 4) + (IntKind.u64.wrap ((andI .u64 (shrI .u64 (IntKind.u64.wrap ((andI .u64 (shrI .u64 x_ 1) 6148914691236517205) + (andI .u64 x_ 6148914691236517205))) 2) 3689348814741910323) + (andI .u64 (IntKind.u64.wrap ((andI .u64 (shrI .u64 x_ 1) 6148914691236517205) + (andI .u64 x_ 6148914691236517205))) 3689348814741910323))))) 1085102592571150095) 8))) 16))) 32))))) 127))
theorem math_bits_OnesCount64_ok {x_ r : Int} (h : math_bits_OnesCount64 x_ = some r) : Sound E 80 [.int .u64 x_] [] (Rs math_bits_OnesCount64_e r) := so (fn := Tryd.f80) (k := false) (m := 0) h <| by
 intro r h; unfold math_bits_OnesCount64 at h
 exact zu 71 h
end Go.RX.L

namespace Go.RX.L
open Go Go.RX Go.Proofs
attribute [local irreducible] FinQ
noncomputable def proposer_more_e (y : Int) : D × Sto := (.int .i64 y, [])
noncomputable def proposer_more (c : Config) : Option Int := (some (mnI (mxI c.F_ 0) 3))
theorem proposer_more_ok {c : Config} {r : Int} (h : proposer_more c = some r) : Sound E 81 [.agg (Config.enc c)] [] (Rs proposer_more_e r) := so (fn := Tryd.f81) (k := false) (m := 0) h <| by
 intro r h; unfold proposer_more at h
 exact zu 15 h
end Go.RX.L

namespace Go.RX.L
open Go Go.RX Go.Proofs
attribute [local irreducible] FinQ
noncomputable def proposer_Most_e (y : Bool) : D × Sto := (.bool y, [])
noncomputable def proposer_Most (c : Config) (mask_ : Int) : Option Bool := ((proposer_more c).bind fun y1 => (bif (!decide (((IntKind.i64.wrap ((IntKind.i64.wrap ((2 : Int) * y1)) + 1)) : Int) < 0)) then ((math_bits_OnesCount64 (andI .u64 mask_ (IntKind.u64.wrap ((shlI .u64 1 (IntKind.i64.wrap ((IntKind.i64.wrap ((2 : Int) * y1)) + 1))) - 1)))).bind fun y3 => ((proposer_more c).bind fun y4 => (some (decide ((y3 : Int) > y4))))) else none))
theorem proposer_Most_ok {c : Config} {mask_ : Int} {r : Bool} (h : proposer_Most c mask_ = some r) : Sound E 54 [.agg (Config.enc c), .int .u64 mask_] [] (Rs proposer_Most_e r) := so (fn := Tryd.f54) (k := false) (m := 0) h <| by
 intro r h; unfold proposer_Most at h
 refine zd 8 [] h (fun _ => proposer_more_ok) fun y1 h => ?_
 refine zn 0 h fun h => ?_
 refine zd 0 [] h (fun _ => math_bits_OnesCount64_ok) fun y3 h => ?_
 refine zd 1 [] h (fun _ => proposer_more_ok) fun y4 h => ?_
 exact zu 1 h
end Go.RX.L

namespace Go.RX.L
open Go Go.RX Go.Proofs
attribute [local irreducible] FinQ
noncomputable def lease_Grant_c := codeAt (bodyOf Tryd.f35)
noncomputable def lease_Grant_e (y : Hold) : D × Sto := (.agg [.int .i64 y.Epoch, .int .i64 y.Nonce, .int .u64 y.Grants, .int .i64 y.Until], [])
abbrev lease_Grant_W (h_ : Hold) (c : Config) (m : Msg) := AOk E (Cx.of Tryd.f35 false 0) lease_Grant_e
noncomputable def lease_Grant_1M (h_ : Hold) (c : Config) (m : Msg) (t13 : Bool) (b3 : Hold) : M := ⟨[.code (lease_Grant_c [1, 1, 0, 0, 1]), .blk 0, .code (lease_Grant_c [1, 1, 1])], [(3, .ptr 0 0 0), (4, .ptr 1 0 0), (5, .ptr 2 0 0), (6, .ptr 3 0 0), (13, .bool t13)], [some ⟨4, false, [(Hold.enc h_)]⟩, some ⟨30, false, [(Config.enc c)]⟩, some ⟨26, false, [(Msg.enc m)]⟩, some ⟨4, false, [(Hold.enc b3)]⟩]⟩
noncomputable def lease_Grant_1 (h_ : Hold) (c : Config) (m : Msg) (t13 : Bool) (b3 : Hold) : Option Hold := (bif t13 then (some h_) else (bif (!decide ((m.From : Int) < 0)) then ((proposer_Most c (orI .u64 h_.Grants (shlI .u64 1 m.From))).bind fun y3 => (bif y3 then (some (⟨h_.Epoch, h_.Nonce, (orI .u64 h_.Grants (shlI .u64 1 m.From)), (mxI h_.Until (IntKind.i64.wrap (h_.Nonce + (mnI (mxI c.L_ 0) 1048576))))⟩ : Hold)) else (some (⟨h_.Epoch, h_.Nonce, (orI .u64 h_.Grants (shlI .u64 1 m.From)), h_.Until⟩ : Hold)))) else none))
theorem lease_Grant_1_ok {h_ c m t13 b3} : lease_Grant_W h_ c m (lease_Grant_1M h_ c m t13 b3) (lease_Grant_1 h_ c m t13 b3) := by
 intro r h; unfold lease_Grant_1 at h
 refine zs 1 h (fun h => ?_) fun h => ?_
 ·
  exact zu 10 h
 refine zn 7 h fun h => ?_
 refine zc 10 [] h (fun _ => proposer_Most_ok) fun y3 h => ?_
 refine zs 2 h (fun h => ?_) fun h => ?_
 ·
  exact zu 29 h
 exact zu 11 h
noncomputable def lease_Grant (h_ : Hold) (c : Config) (m : Msg) : Option Hold := (bif ((m.Kind : Int) != 11) then (lease_Grant_1 h_ c m ((m.Kind : Int) != 11) (⟨0, 0, 0, 0⟩ : Hold)) else (bif (!(((h_.Epoch : Int) == m.Epoch) && (((h_.Nonce : Int) == m.Nonce) && true))) then (lease_Grant_1 h_ c m (!(((h_.Epoch : Int) == m.Epoch) && (((h_.Nonce : Int) == m.Nonce) && true))) (⟨0, 0, 0, 0⟩ : Hold)) else (bif (decide ((m.From : Int) < 0)) then (lease_Grant_1 h_ c m (decide ((m.From : Int) < 0)) (⟨0, 0, 0, 0⟩ : Hold)) else (bif (decide ((m.From : Int) > (IntKind.i64.wrap ((2 : Int) * (mnI (mxI c.F_ 0) 3))))) then (lease_Grant_1 h_ c m (decide ((m.From : Int) > (IntKind.i64.wrap ((2 : Int) * (mnI (mxI c.F_ 0) 3))))) (⟨0, 0, 0, 0⟩ : Hold)) else (bif (decide ((h_.Nonce : Int) < 0)) then (lease_Grant_1 h_ c m (decide ((h_.Nonce : Int) < 0)) (⟨0, 0, 0, 0⟩ : Hold)) else (lease_Grant_1 h_ c m (decide ((h_.Nonce : Int) > 1099511627776)) (⟨0, 0, 0, 0⟩ : Hold)))))))
theorem lease_Grant_ok {h_ : Hold} {c : Config} {m : Msg} {r : Hold} (h : lease_Grant h_ c m = some r) : Sound E 35 [.agg [.int .i64 h_.Epoch, .int .i64 h_.Nonce, .int .u64 h_.Grants, .int .i64 h_.Until], .agg (Config.enc c), .agg [.int .i64 m.Kind, .int .i64 m.From, .int .i64 m.To, .int .i64 m.Epoch, .int .i64 m.Ballot, .int .i64 m.Accepted, .int .i64 m.Nonce, .int .i64 m.Time, .int .u64 m.Up, .int .i64 m.Code, .bool m.HasPlan, .int .i64 m.Plan.Epoch, .int .i64 m.Plan.Target, .int .i64 m.Plan.Prev, .int .i64 m.Plan.Spill, .int .i64 m.Plan.Percent, .int .i64 m.Plan.Stamp, .int .i64 m.Plan.Since, .int .i64 m.Plan.Ramped, .int .u64 m.Plan.Up, .int .u64 m.Plan.Sup, .sl false 1 (List.map (eInt .i64) m.Plan.Pen), .sl false 1 (List.map (eInt .i64) m.Plan.Changes), .sl false 1 (List.map (eInt .i64) m.ID), .sl false 1 (List.map (eInt .u8) m.Session), .sl false 1 (List.map (eInt .u8) m.Payload)]] [] (Rs lease_Grant_e r) := so (fn := Tryd.f35) (k := false) (m := 0) h <| by
 intro r h; unfold lease_Grant at h
 refine zs 33 h (fun h => ?_) fun h => ?_
 ·
  exact zg 1 (lease_Grant_1_ok h)
 refine zs 15 h (fun h => ?_) fun h => ?_
 ·
  exact zg 1 (lease_Grant_1_ok h)
 refine zs 9 h (fun h => ?_) fun h => ?_
 ·
  exact zg 1 (lease_Grant_1_ok h)
 refine zs 15 h (fun h => ?_) fun h => ?_
 ·
  exact zg 1 (lease_Grant_1_ok h)
 refine zs 9 h (fun h => ?_) fun h => ?_
 ·
  exact zg 1 (lease_Grant_1_ok h)
 exact zg 7 (lease_Grant_1_ok h)
end Go.RX.L

namespace Go.RX.L
open Go Go.RX Go.Proofs
attribute [local irreducible] FinQ
noncomputable def Target_fits_e (fence : Int) (known : Plan) (hold : Hold) (begun filled : Int) (c : Config) (index : Int) (well : Bool) (b1 : List Entry) (b2 : List (List Int)) (fuse : Int) (down : Bool) (b4 b5 : List Int) (y : Bool) : D × Sto := (.bool y, [some ⟨54, true, [([.int .i64 fence] ++ Plan.encL known ([.int .i64 hold.Epoch, .int .i64 hold.Nonce, .int .u64 hold.Grants, .int .i64 hold.Until, (grD 1 (List.map Entry.enc b1)), (grD 2 (List.map (eSl 1 (eInt .i64)) b2)), .int .i64 begun, .int .i64 filled] ++ Config.encL c [.int .i64 index, .ptr 3 0 0, .bool well]))]⟩, some ⟨3, false, (List.map Entry.enc b1)⟩, some ⟨1, false, (List.map (eSl 1 (eInt .i64)) b2)⟩, some ⟨4, true, [[(grD 4 (List.map (eInt .u8) b4)), (grD 5 (List.map (eInt .u8) b5)), .int .i64 fuse, .bool down]]⟩, some ⟨1, false, (List.map (eInt .u8) b4)⟩, some ⟨1, false, (List.map (eInt .u8) b5)⟩])
noncomputable def Target_fits (p_ : Plan) (fence : Int) (known : Plan) (hold : Hold) (begun filled : Int) (c : Config) (index : Int) (well : Bool) (b1 : List Entry) (b2 : List (List Int)) (fuse : Int) (down : Bool) (b4 b5 : List Int) : Option Bool := (bif (!decide ((c.Targets : Int) < 0)) then ((plan_Right p_).bind fun y2 => (bif y2 then (bif (((((List.map (eInt .i64) p_.Pen).length : Nat) : Int) : Int) == c.Targets) then (bif (decide (((mxI (mxI p_.Target p_.Prev) p_.Spill) : Int) < c.Targets)) then (bif (((andNotI .u64 (orI .u64 p_.Up p_.Sup) (IntKind.u64.wrap ((shlI .u64 1 c.Targets) - 1))) : Int) == 0) then (some (decide (((((List.map (eInt .i64) p_.Changes).length : Nat) : Int) : Int) ≤ c.B_))) else (some false)) else (some false)) else (some false)) else (some false))) else none)
theorem Target_fits_ok {p_ : Plan} {fence : Int} {known : Plan} {hold : Hold} {begun filled : Int} {c : Config} {index : Int} {well : Bool} {b1 : List Entry} {b2 : List (List Int)} {fuse : Int} {down : Bool} {b4 b5 : List Int} {r : Bool} (h : Target_fits p_ fence known hold begun filled c index well b1 b2 fuse down b4 b5 = some r) : Sound E 32 [.ptr 0 0 0, .agg [.int .i64 p_.Epoch, .int .i64 p_.Target, .int .i64 p_.Prev, .int .i64 p_.Spill, .int .i64 p_.Percent, .int .i64 p_.Stamp, .int .i64 p_.Since, .int .i64 p_.Ramped, .int .u64 p_.Up, .int .u64 p_.Sup, .sl false 1 (List.map (eInt .i64) p_.Pen), .sl false 1 (List.map (eInt .i64) p_.Changes)]] [some ⟨54, true, [([.int .i64 fence] ++ Plan.encL known ([.int .i64 hold.Epoch, .int .i64 hold.Nonce, .int .u64 hold.Grants, .int .i64 hold.Until, (grD 1 (List.map Entry.enc b1)), (grD 2 (List.map (eSl 1 (eInt .i64)) b2)), .int .i64 begun, .int .i64 filled] ++ Config.encL c [.int .i64 index, .ptr 3 0 0, .bool well]))]⟩, some ⟨3, false, (List.map Entry.enc b1)⟩, some ⟨1, false, (List.map (eSl 1 (eInt .i64)) b2)⟩, some ⟨4, true, [[(grD 4 (List.map (eInt .u8) b4)), (grD 5 (List.map (eInt .u8) b5)), .int .i64 fuse, .bool down]]⟩, some ⟨1, false, (List.map (eInt .u8) b4)⟩, some ⟨1, false, (List.map (eInt .u8) b5)⟩] (Rs (Target_fits_e fence known hold begun filled c index well b1 b2 fuse down b4 b5) r) := so (fn := Tryd.f32) (k := true) (m := 6) h <| by
 intro r h; unfold Target_fits at h
 refine zn 14 h fun h => ?_
 refine zd 6 [] h (fun _ => plan_Right_ok) fun y2 h => ?_
 refine zs 0 h (fun h => ?_) fun h => ?_
 ·
  refine zs 11 h (fun h => ?_) fun h => ?_
  ·
   refine zs 17 h (fun h => ?_) fun h => ?_
   ·
    refine zs 10 h (fun h => ?_) fun h => ?_
    ·
     exact zu 12 h
    exact zu 10 h
   exact zu 19 h
  exact zu 33 h
 exact zu 43 h
end Go.RX.L

namespace Go.RX.L
open Go Go.RX Go.Proofs
attribute [local irreducible] FinQ
noncomputable def api_Acceptors_e (y : Int) : D × Sto := (.int .i64 y, [])
noncomputable def api_Acceptors (c : Config) : Option Int := (some (IntKind.i64.wrap ((IntKind.i64.wrap ((2 : Int) * c.F_)) + 1)))
theorem api_Acceptors_ok {c : Config} {r : Int} (h : api_Acceptors c = some r) : Sound E 21 [.agg (Config.enc c)] [] (Rs api_Acceptors_e r) := so (fn := Tryd.f21) (k := false) (m := 0) h <| by
 intro r h; unfold api_Acceptors at h
 exact zu 15 h
end Go.RX.L

namespace Go.RX.L
open Go Go.RX Go.Proofs
attribute [local irreducible] FinQ
noncomputable def api_DeciderNode_e (y : Int) : D × Sto := (.int .i64 y, [])
noncomputable def api_DeciderNode (c : Config) (i : Int) : Option Int := ((api_Acceptors c).bind fun y1 => (some (IntKind.i64.wrap (y1 + i))))
theorem api_DeciderNode_ok {c : Config} {i r : Int} (h : api_DeciderNode c i = some r) : Sound E 38 [.agg (Config.enc c), .int .i64 i] [] (Rs api_DeciderNode_e r) := so (fn := Tryd.f38) (k := false) (m := 0) h <| by
 intro r h; unfold api_DeciderNode at h
 refine zc 10 [] h (fun _ => api_Acceptors_ok) fun y1 h => ?_
 exact zu 5 h
end Go.RX.L

namespace Go.RX.L
open Go Go.RX Go.Proofs
attribute [local irreducible] FinQ
noncomputable def api_TargetNode_e (y : Int) : D × Sto := (.int .i64 y, [])
noncomputable def api_TargetNode (c : Config) (i : Int) : Option Int := ((api_DeciderNode c c.Deciders).bind fun y1 => (some (IntKind.i64.wrap (y1 + i))))
theorem api_TargetNode_ok {c : Config} {i r : Int} (h : api_TargetNode c i = some r) : Sound E 14 [.agg (Config.enc c), .int .i64 i] [] (Rs api_TargetNode_e r) := so (fn := Tryd.f14) (k := false) (m := 0) h <| by
 intro r h; unfold api_TargetNode at h
 refine zc 13 [] h (fun _ => api_DeciderNode_ok) fun y1 h => ?_
 exact zu 5 h
end Go.RX.L

namespace Go.RX.L
open Go Go.RX Go.Proofs
attribute [local irreducible] FinQ
noncomputable def Target_reply_e (fence : Int) (known : Plan) (hold : Hold) (begun filled : Int) (c : Config) (index : Int) (well : Bool) (b1 : List Entry) (b2 : List (List Int)) (fuse : Int) (down : Bool) (b4 b5 : List Int) (y : List Msg) : D × Sto := (.sl false 26 (List.map Msg.enc y), [some ⟨54, true, [([.int .i64 fence] ++ Plan.encL known ([.int .i64 hold.Epoch, .int .i64 hold.Nonce, .int .u64 hold.Grants, .int .i64 hold.Until, (grD 1 (List.map Entry.enc b1)), (grD 2 (List.map (eSl 1 (eInt .i64)) b2)), .int .i64 begun, .int .i64 filled] ++ Config.encL c [.int .i64 index, .ptr 3 0 0, .bool well]))]⟩, some ⟨3, false, (List.map Entry.enc b1)⟩, some ⟨1, false, (List.map (eSl 1 (eInt .i64)) b2)⟩, some ⟨4, true, [[(grD 4 (List.map (eInt .u8) b4)), (grD 5 (List.map (eInt .u8) b5)), .int .i64 fuse, .bool down]]⟩, some ⟨1, false, (List.map (eInt .u8) b4)⟩, some ⟨1, false, (List.map (eInt .u8) b5)⟩])
noncomputable def Target_reply (m : Msg) (kind : Int) (with_ : Msg) (fence : Int) (known : Plan) (hold : Hold) (begun filled : Int) (c : Config) (index : Int) (well : Bool) (b1 : List Entry) (b2 : List (List Int)) (fuse : Int) (down : Bool) (b4 b5 : List Int) : Option (List Msg) := ((api_TargetNode c index).bind fun y1 => (some ([(⟨kind, y1, m.From, with_.Epoch, with_.Ballot, with_.Accepted, with_.Nonce, with_.Time, with_.Up, with_.Code, with_.HasPlan, with_.Plan, with_.ID, with_.Session, with_.Payload⟩ : Msg)])))
theorem Target_reply_ok {m : Msg} {kind : Int} {with_ : Msg} {fence : Int} {known : Plan} {hold : Hold} {begun filled : Int} {c : Config} {index : Int} {well : Bool} {b1 : List Entry} {b2 : List (List Int)} {fuse : Int} {down : Bool} {b4 b5 : List Int} {r : List Msg} (h : Target_reply m kind with_ fence known hold begun filled c index well b1 b2 fuse down b4 b5 = some r) : Sound E 31 [.ptr 0 0 0, .agg [.int .i64 m.Kind, .int .i64 m.From, .int .i64 m.To, .int .i64 m.Epoch, .int .i64 m.Ballot, .int .i64 m.Accepted, .int .i64 m.Nonce, .int .i64 m.Time, .int .u64 m.Up, .int .i64 m.Code, .bool m.HasPlan, .int .i64 m.Plan.Epoch, .int .i64 m.Plan.Target, .int .i64 m.Plan.Prev, .int .i64 m.Plan.Spill, .int .i64 m.Plan.Percent, .int .i64 m.Plan.Stamp, .int .i64 m.Plan.Since, .int .i64 m.Plan.Ramped, .int .u64 m.Plan.Up, .int .u64 m.Plan.Sup, .sl false 1 (List.map (eInt .i64) m.Plan.Pen), .sl false 1 (List.map (eInt .i64) m.Plan.Changes), .sl false 1 (List.map (eInt .i64) m.ID), .sl false 1 (List.map (eInt .u8) m.Session), .sl false 1 (List.map (eInt .u8) m.Payload)], .int .i64 kind, .agg [.int .i64 with_.Kind, .int .i64 with_.From, .int .i64 with_.To, .int .i64 with_.Epoch, .int .i64 with_.Ballot, .int .i64 with_.Accepted, .int .i64 with_.Nonce, .int .i64 with_.Time, .int .u64 with_.Up, .int .i64 with_.Code, .bool with_.HasPlan, .int .i64 with_.Plan.Epoch, .int .i64 with_.Plan.Target, .int .i64 with_.Plan.Prev, .int .i64 with_.Plan.Spill, .int .i64 with_.Plan.Percent, .int .i64 with_.Plan.Stamp, .int .i64 with_.Plan.Since, .int .i64 with_.Plan.Ramped, .int .u64 with_.Plan.Up, .int .u64 with_.Plan.Sup, .sl false 1 (List.map (eInt .i64) with_.Plan.Pen), .sl false 1 (List.map (eInt .i64) with_.Plan.Changes), .sl false 1 (List.map (eInt .i64) with_.ID), .sl false 1 (List.map (eInt .u8) with_.Session), .sl false 1 (List.map (eInt .u8) with_.Payload)]] [some ⟨54, true, [([.int .i64 fence] ++ Plan.encL known ([.int .i64 hold.Epoch, .int .i64 hold.Nonce, .int .u64 hold.Grants, .int .i64 hold.Until, (grD 1 (List.map Entry.enc b1)), (grD 2 (List.map (eSl 1 (eInt .i64)) b2)), .int .i64 begun, .int .i64 filled] ++ Config.encL c [.int .i64 index, .ptr 3 0 0, .bool well]))]⟩, some ⟨3, false, (List.map Entry.enc b1)⟩, some ⟨1, false, (List.map (eSl 1 (eInt .i64)) b2)⟩, some ⟨4, true, [[(grD 4 (List.map (eInt .u8) b4)), (grD 5 (List.map (eInt .u8) b5)), .int .i64 fuse, .bool down]]⟩, some ⟨1, false, (List.map (eInt .u8) b4)⟩, some ⟨1, false, (List.map (eInt .u8) b5)⟩] (Rs (Target_reply_e fence known hold begun filled c index well b1 b2 fuse down b4 b5) r) := so (fn := Tryd.f31) (k := true) (m := 6) h <| by
 intro r h; unfold Target_reply at h
 refine zd 10 [] h (fun _ => api_TargetNode_ok) fun y1 h => ?_
 refine adv_ok hm 14 _ ?_
 refine r_fzT 8 (n1 := 1) (n2 := 1) (raw := ([[.int .i64 kind, .int .i64 y1, .int .i64 m.From, .int .i64 with_.Epoch, .int .i64 with_.Ballot, .int .i64 with_.Accepted, .int .i64 with_.Nonce, .int .i64 with_.Time, .int .u64 with_.Up, .int .i64 with_.Code, .bool with_.HasPlan, .int .i64 with_.Plan.Epoch, .int .i64 with_.Plan.Target, .int .i64 with_.Plan.Prev, .int .i64 with_.Plan.Spill, .int .i64 with_.Plan.Percent, .int .i64 with_.Plan.Stamp, .int .i64 with_.Plan.Since, .int .i64 with_.Plan.Ramped, .int .u64 with_.Plan.Up, .int .u64 with_.Plan.Sup, .sl false 1 (List.map (eInt .i64) with_.Plan.Pen), .sl false 1 (List.map (eInt .i64) with_.Plan.Changes), .sl false 1 (List.map (eInt .i64) with_.ID), .sl false 1 (List.map (eInt .u8) with_.Session), .sl false 1 (List.map (eInt .u8) with_.Payload)]])) (rs := ([[.int .i64 kind, .int .i64 y1, .int .i64 m.From, .int .i64 with_.Epoch, .int .i64 with_.Ballot, .int .i64 with_.Accepted, .int .i64 with_.Nonce, .int .i64 with_.Time, .int .u64 with_.Up, .int .i64 with_.Code, .bool with_.HasPlan, .int .i64 with_.Plan.Epoch, .int .i64 with_.Plan.Target, .int .i64 with_.Plan.Prev, .int .i64 with_.Plan.Spill, .int .i64 with_.Plan.Percent, .int .i64 with_.Plan.Stamp, .int .i64 with_.Plan.Since, .int .i64 with_.Plan.Ramped, .int .u64 with_.Plan.Up, .int .u64 with_.Plan.Sup, .sl false 1 (List.map (eInt .i64) with_.Plan.Pen), .sl false 1 (List.map (eInt .i64) with_.Plan.Changes), .sl false 1 (List.map (eInt .i64) with_.ID), .sl false 1 (List.map (eInt .u8) with_.Session), .sl false 1 (List.map (eInt .u8) with_.Payload)]])) (by kernel_rfl) rfl rfl ?_
 exact zu 1 h
end Go.RX.L

namespace Go.RX.L
open Go Go.RX Go.Proofs
attribute [local irreducible] FinQ
noncomputable def lease_Live_e (y : Bool) : D × Sto := (.bool y, [])
noncomputable def lease_Live (h_ : Hold) (epoch now : Int) : Option Bool := (bif ((h_.Epoch : Int) == epoch) then (some (decide ((now : Int) < h_.Until))) else (some false))
theorem lease_Live_ok {h_ : Hold} {epoch now : Int} {r : Bool} (h : lease_Live h_ epoch now = some r) : Sound E 60 [.agg [.int .i64 h_.Epoch, .int .i64 h_.Nonce, .int .u64 h_.Grants, .int .i64 h_.Until], .int .i64 epoch, .int .i64 now] [] (Rs lease_Live_e r) := so (fn := Tryd.f60) (k := false) (m := 0) h <| by
 intro r h; unfold lease_Live at h
 refine zs 14 h (fun h => ?_) fun h => ?_
 ·
  exact zu 12 h
 exact zu 11 h
end Go.RX.L

namespace Go.RX.L
open Go Go.RX Go.Proofs
attribute [local irreducible] FinQ
noncomputable def plan_Names_e (y : Bool) : D × Sto := (.bool y, [])
noncomputable def plan_Names (p_ : Plan) (target : Int) : Option Bool := (bif (decide ((target : Int) ≥ 0)) then (bif ((target : Int) == p_.Target) then (some true) else (bif ((target : Int) == p_.Prev) then (bif (decide ((p_.Percent : Int) < 100)) then (some true) else (some ((target : Int) == p_.Spill))) else (some ((target : Int) == p_.Spill)))) else (some false))
theorem plan_Names_ok {p_ : Plan} {target : Int} {r : Bool} (h : plan_Names p_ target = some r) : Sound E 39 [.agg [.int .i64 p_.Epoch, .int .i64 p_.Target, .int .i64 p_.Prev, .int .i64 p_.Spill, .int .i64 p_.Percent, .int .i64 p_.Stamp, .int .i64 p_.Since, .int .i64 p_.Ramped, .int .u64 p_.Up, .int .u64 p_.Sup, .sl false 1 (List.map (eInt .i64) p_.Pen), .sl false 1 (List.map (eInt .i64) p_.Changes)], .int .i64 target] [] (Rs plan_Names_e r) := so (fn := Tryd.f39) (k := false) (m := 0) h <| by
 intro r h; unfold plan_Names at h
 refine zs 11 h (fun h => ?_) fun h => ?_
 ·
  refine zs 10 h (fun h => ?_) fun h => ?_
  ·
   exact zu 34 h
  refine zs 10 h (fun h => ?_) fun h => ?_
  ·
   refine zs 14 h (fun h => ?_) fun h => ?_
   ·
    exact zu 14 h
   exact zu 15 h
  exact zu 29 h
 exact zu 32 h
end Go.RX.L

namespace Go.RX.L
open Go Go.RX Go.Proofs
attribute [local irreducible] FinQ
noncomputable def Target_same_e (y : Bool) : D × Sto := (.bool y, [])
noncomputable def Target_same (id_ : List Int) (t : Msg) : Option Bool := ((slices_Equal_v2 id_ t.ID).bind fun y1 => (some y1))
theorem Target_same_ok {id_ : List Int} {t : Msg} {r : Bool} (h : Target_same id_ t = some r) : Sound E 55 [.sl false 1 (List.map (eInt .i64) id_), .iptr 26 [[.int .i64 t.Kind, .int .i64 t.From, .int .i64 t.To, .int .i64 t.Epoch, .int .i64 t.Ballot, .int .i64 t.Accepted, .int .i64 t.Nonce, .int .i64 t.Time, .int .u64 t.Up, .int .i64 t.Code, .bool t.HasPlan, .int .i64 t.Plan.Epoch, .int .i64 t.Plan.Target, .int .i64 t.Plan.Prev, .int .i64 t.Plan.Spill, .int .i64 t.Plan.Percent, .int .i64 t.Plan.Stamp, .int .i64 t.Plan.Since, .int .i64 t.Plan.Ramped, .int .u64 t.Plan.Up, .int .u64 t.Plan.Sup, .sl false 1 (List.map (eInt .i64) t.Plan.Pen), .sl false 1 (List.map (eInt .i64) t.Plan.Changes), .sl false 1 (List.map (eInt .i64) t.ID), .sl false 1 (List.map (eInt .u8) t.Session), .sl false 1 (List.map (eInt .u8) t.Payload)]] 0 0] [] (Rs Target_same_e r) := so (fn := Tryd.f55) (k := false) (m := 0) h <| by
 intro r h; unfold Target_same at h
 refine zc 11 [] h (fun _ => slices_Equal_v2_ok) fun y1 h => ?_
 exact zu 3 h
end Go.RX.L

namespace Go.RX.L
open Go Go.RX Go.Proofs
attribute [local irreducible] FinQ
noncomputable def slices_IndexFunc__same_c := codeAt (bodyOf Tryd.f82)
noncomputable def slices_IndexFunc__same_e (y : Int) : D × Sto := (.int .i64 y, [])
inductive slices_IndexFunc__same_S where
 | s0 (s_ : List (List Int)) (f : Msg)
 | s1 (s_ : List (List Int)) (f : Msg) (t7 t8 : Int)
noncomputable def slices_IndexFunc__same_M : slices_IndexFunc__same_S → M
 | .s0 s_ f => startM Tryd.f82 [.sl false 1 (List.map (eSl 1 (eInt .i64)) s_), .fn 55 [] [.iptr 26 [[.int .i64 f.Kind, .int .i64 f.From, .int .i64 f.To, .int .i64 f.Epoch, .int .i64 f.Ballot, .int .i64 f.Accepted, .int .i64 f.Nonce, .int .i64 f.Time, .int .u64 f.Up, .int .i64 f.Code, .bool f.HasPlan, .int .i64 f.Plan.Epoch, .int .i64 f.Plan.Target, .int .i64 f.Plan.Prev, .int .i64 f.Plan.Spill, .int .i64 f.Plan.Percent, .int .i64 f.Plan.Stamp, .int .i64 f.Plan.Since, .int .i64 f.Plan.Ramped, .int .u64 f.Plan.Up, .int .u64 f.Plan.Sup, .sl false 1 (List.map (eInt .i64) f.Plan.Pen), .sl false 1 (List.map (eInt .i64) f.Plan.Changes), .sl false 1 (List.map (eInt .i64) f.ID), .sl false 1 (List.map (eInt .u8) f.Session), .sl false 1 (List.map (eInt .u8) f.Payload)]] 0 0]] []
 | .s1 s_ f t7 t8 => ⟨[.lpc (slices_IndexFunc__same_c [1, 0, 1, 0, 0]) 387, .blk 0, .code (slices_IndexFunc__same_c [1, 1])], [(0, .sl false 1 (List.map (eSl 1 (eInt .i64)) s_)), (1, .fn 55 [] [.iptr 26 [[.int .i64 f.Kind, .int .i64 f.From, .int .i64 f.To, .int .i64 f.Epoch, .int .i64 f.Ballot, .int .i64 f.Accepted, .int .i64 f.Nonce, .int .i64 f.Time, .int .u64 f.Up, .int .i64 f.Code, .bool f.HasPlan, .int .i64 f.Plan.Epoch, .int .i64 f.Plan.Target, .int .i64 f.Plan.Prev, .int .i64 f.Plan.Spill, .int .i64 f.Plan.Percent, .int .i64 f.Plan.Stamp, .int .i64 f.Plan.Since, .int .i64 f.Plan.Ramped, .int .u64 f.Plan.Up, .int .u64 f.Plan.Sup, .sl false 1 (List.map (eInt .i64) f.Plan.Pen), .sl false 1 (List.map (eInt .i64) f.Plan.Changes), .sl false 1 (List.map (eInt .i64) f.ID), .sl false 1 (List.map (eInt .u8) f.Session), .sl false 1 (List.map (eInt .u8) f.Payload)]] 0 0]), (7, .int .i64 t7), (8, .int .i64 t8)], []⟩
abbrev slices_IndexFunc__same_W := SOk E (Cx.of Tryd.f82 false 0) slices_IndexFunc__same_e slices_IndexFunc__same_M
noncomputable def slices_IndexFunc__same_0 (s_ : List (List Int)) (f : Msg) : Option (slices_IndexFunc__same_S ⊕ Int) := (some (.inl (.s1 s_ f (((List.map (eSl 1 (eInt .i64)) s_).length : Nat) : Int) 0)))
noncomputable def slices_IndexFunc__same_1 (s_ : List (List Int)) (f : Msg) (t7 t8 : Int) : Option (slices_IndexFunc__same_S ⊕ Int) := (bif (decide ((t8 : Int) < t7)) then (bif ((decide ((0 : Int) ≤ t8)) && (decide ((t8 : Int) < (((List.map (eSl 1 (eInt .i64)) s_).length : Nat) : Int)))) then (((s_)[t8.toNat]?).bind fun y3 => ((Target_same y3 f).bind fun y5 => (bif y5 then (some (.inr t8)) else (some (.inl (.s1 s_ f t7 (IntKind.i64.wrap (t8 + 1)))))))) else none) else (some (.inr (-1))))
noncomputable def slices_IndexFunc__same_step : slices_IndexFunc__same_S → Option (slices_IndexFunc__same_S ⊕ Int)
 | .s0 s_ f => slices_IndexFunc__same_0 s_ f
 | .s1 s_ f t7 t8 => slices_IndexFunc__same_1 s_ f t7 t8
theorem slices_IndexFunc__same_0_ok {s_ f} : slices_IndexFunc__same_W (.s0 s_ f) (slices_IndexFunc__same_0 s_ f) := by
 intro r x h ha; unfold slices_IndexFunc__same_0 at h
 exact zj 14 h ha
theorem slices_IndexFunc__same_1_ok {s_ f t7 t8} : slices_IndexFunc__same_W (.s1 s_ f t7 t8) (slices_IndexFunc__same_1 s_ f t7 t8) := by
 intro r x h ha; unfold slices_IndexFunc__same_1 at h
 refine zs 7 h (fun h => ?_) fun h => ?_
 ·
  refine zn 14 h fun h => ?_
  refine zr 1 (eSl 1 (eInt .i64)) h fun y3 h => ?_
  refine zc 1 [] h (fun _ => Target_same_ok) fun y5 h => ?_
  refine zs 2 h (fun h => ?_) fun h => ?_
  ·
   exact zt 6 h ha
  exact zj 7 h ha
 exact zt 6 h ha
noncomputable def slices_IndexFunc__same (s_ : List (List Int)) (f : Msg) : Option Int := evf slices_IndexFunc__same_step (.s0 s_ f)
theorem slices_IndexFunc__same_ok {s_ : List (List Int)} {f : Msg} {r : Int} (h : slices_IndexFunc__same s_ f = some r) : Sound E 82 [.sl false 1 (List.map (eSl 1 (eInt .i64)) s_), .fn 55 [] [.iptr 26 [[.int .i64 f.Kind, .int .i64 f.From, .int .i64 f.To, .int .i64 f.Epoch, .int .i64 f.Ballot, .int .i64 f.Accepted, .int .i64 f.Nonce, .int .i64 f.Time, .int .u64 f.Up, .int .i64 f.Code, .bool f.HasPlan, .int .i64 f.Plan.Epoch, .int .i64 f.Plan.Target, .int .i64 f.Plan.Prev, .int .i64 f.Plan.Spill, .int .i64 f.Plan.Percent, .int .i64 f.Plan.Stamp, .int .i64 f.Plan.Since, .int .i64 f.Plan.Ramped, .int .u64 f.Plan.Up, .int .u64 f.Plan.Sup, .sl false 1 (List.map (eInt .i64) f.Plan.Pen), .sl false 1 (List.map (eInt .i64) f.Plan.Changes), .sl false 1 (List.map (eInt .i64) f.ID), .sl false 1 (List.map (eInt .u8) f.Session), .sl false 1 (List.map (eInt .u8) f.Payload)]] 0 0]] [] (Rs slices_IndexFunc__same_e r) := sc (fn := Tryd.f82) (k := false) (m := 0) (stM := slices_IndexFunc__same_M) h fun s => by
 cases s with
 | s0 => exact slices_IndexFunc__same_0_ok
 | s1 => exact slices_IndexFunc__same_1_ok
end Go.RX.L

namespace Go.RX.L
open Go Go.RX Go.Proofs
attribute [local irreducible] FinQ
noncomputable def slices_ContainsFunc__same_e (y : Bool) : D × Sto := (.bool y, [])
noncomputable def slices_ContainsFunc__same (s_ : List (List Int)) (f : Msg) : Option Bool := ((slices_IndexFunc__same s_ f).bind fun y1 => (some (decide ((y1 : Int) ≥ 0))))
theorem slices_ContainsFunc__same_ok {s_ : List (List Int)} {f : Msg} {r : Bool} (h : slices_ContainsFunc__same s_ f = some r) : Sound E 59 [.sl false 1 (List.map (eSl 1 (eInt .i64)) s_), .fn 55 [] [.iptr 26 [[.int .i64 f.Kind, .int .i64 f.From, .int .i64 f.To, .int .i64 f.Epoch, .int .i64 f.Ballot, .int .i64 f.Accepted, .int .i64 f.Nonce, .int .i64 f.Time, .int .u64 f.Up, .int .i64 f.Code, .bool f.HasPlan, .int .i64 f.Plan.Epoch, .int .i64 f.Plan.Target, .int .i64 f.Plan.Prev, .int .i64 f.Plan.Spill, .int .i64 f.Plan.Percent, .int .i64 f.Plan.Stamp, .int .i64 f.Plan.Since, .int .i64 f.Plan.Ramped, .int .u64 f.Plan.Up, .int .u64 f.Plan.Sup, .sl false 1 (List.map (eInt .i64) f.Plan.Pen), .sl false 1 (List.map (eInt .i64) f.Plan.Changes), .sl false 1 (List.map (eInt .i64) f.ID), .sl false 1 (List.map (eInt .u8) f.Session), .sl false 1 (List.map (eInt .u8) f.Payload)]] 0 0]] [] (Rs slices_ContainsFunc__same_e r) := so (fn := Tryd.f59) (k := false) (m := 0) h <| by
 intro r h; unfold slices_ContainsFunc__same at h
 refine adv_ok hm 9 _ ?_
 have ok1 := fun (y : Int) (hy : slices_IndexFunc__same s_ f = some y) => @Eq.mp (Sound E 82 [.sl false 1 (List.map (eSl 1 (eInt .i64)) s_), .fn 55 [] [.iptr 26 [[.int .i64 f.Kind, .int .i64 f.From, .int .i64 f.To, .int .i64 f.Epoch, .int .i64 f.Ballot, .int .i64 f.Accepted, .int .i64 f.Nonce, .int .i64 f.Time, .int .u64 f.Up, .int .i64 f.Code, .bool f.HasPlan, .int .i64 f.Plan.Epoch, .int .i64 f.Plan.Target, .int .i64 f.Plan.Prev, .int .i64 f.Plan.Spill, .int .i64 f.Plan.Percent, .int .i64 f.Plan.Stamp, .int .i64 f.Plan.Since, .int .i64 f.Plan.Ramped, .int .u64 f.Plan.Up, .int .u64 f.Plan.Sup, .sl false 1 (List.map (eInt .i64) f.Plan.Pen), .sl false 1 (List.map (eInt .i64) f.Plan.Changes), .sl false 1 (List.map (eInt .i64) f.ID), .sl false 1 (List.map (eInt .u8) f.Session), .sl false 1 (List.map (eInt .u8) f.Payload)]] 0 0]] [] (Rs (slices_IndexFunc__same_e) y)) (Sound E 82 [.sl false 1 (List.map (eSl 1 (eInt .i64)) s_), .fn 55 [] [.iptr 26 [[.int .i64 f.Kind, .int .i64 f.From, .int .i64 f.To, .int .i64 f.Epoch, .int .i64 f.Ballot, .int .i64 f.Accepted, .int .i64 f.Nonce, .int .i64 f.Time, .int .u64 f.Up, .int .i64 f.Code, .bool f.HasPlan, .int .i64 f.Plan.Epoch, .int .i64 f.Plan.Target, .int .i64 f.Plan.Prev, .int .i64 f.Plan.Spill, .int .i64 f.Plan.Percent, .int .i64 f.Plan.Stamp, .int .i64 f.Plan.Since, .int .i64 f.Plan.Ramped, .int .u64 f.Plan.Up, .int .u64 f.Plan.Sup, .sl false 1 (List.map (eInt .i64) f.Plan.Pen), .sl false 1 (List.map (eInt .i64) f.Plan.Changes), .sl false 1 (List.map (eInt .i64) f.ID), .sl false 1 (List.map (eInt .u8) f.Session), .sl false 1 (List.map (eInt .u8) f.Payload)]] 0 0]] [] (Rs (slices_IndexFunc__same_e) y)) (by kernel_rfl) (slices_IndexFunc__same_ok hy)
 refine zc 0 [] h ok1 fun y1 h => ?_
 exact zu 4 h
end Go.RX.L

namespace Go.RX.L
open Go Go.RX Go.Proofs
attribute [local irreducible] FinQ
noncomputable def Target_is_e (y : Bool) : D × Sto := (.bool y, [])
noncomputable def Target_is (e : Entry) (t : Msg) : Option Bool := ((Target_same e.ID t).bind fun y1 => (some y1))
theorem Target_is_ok {e : Entry} {t : Msg} {r : Bool} (h : Target_is e t = some r) : Sound E 58 [.agg [.sl false 1 (List.map (eInt .i64) e.ID), .int .i64 e.Epoch, .sl false 1 (List.map (eInt .u8) e.Payload)], .iptr 1 [[.fn 55 [] [.iptr 26 [[.int .i64 t.Kind, .int .i64 t.From, .int .i64 t.To, .int .i64 t.Epoch, .int .i64 t.Ballot, .int .i64 t.Accepted, .int .i64 t.Nonce, .int .i64 t.Time, .int .u64 t.Up, .int .i64 t.Code, .bool t.HasPlan, .int .i64 t.Plan.Epoch, .int .i64 t.Plan.Target, .int .i64 t.Plan.Prev, .int .i64 t.Plan.Spill, .int .i64 t.Plan.Percent, .int .i64 t.Plan.Stamp, .int .i64 t.Plan.Since, .int .i64 t.Plan.Ramped, .int .u64 t.Plan.Up, .int .u64 t.Plan.Sup, .sl false 1 (List.map (eInt .i64) t.Plan.Pen), .sl false 1 (List.map (eInt .i64) t.Plan.Changes), .sl false 1 (List.map (eInt .i64) t.ID), .sl false 1 (List.map (eInt .u8) t.Session), .sl false 1 (List.map (eInt .u8) t.Payload)]] 0 0]]] 0 0] [] (Rs Target_is_e r) := so (fn := Tryd.f58) (k := false) (m := 0) h <| by
 intro r h; unfold Target_is at h
 refine zc 13 [] h (fun _ => Target_same_ok) fun y1 h => ?_
 exact zu 3 h
end Go.RX.L

namespace Go.RX.L
open Go Go.RX Go.Proofs
attribute [local irreducible] FinQ
noncomputable def slices_IndexFunc__is_c := codeAt (bodyOf Tryd.f57)
noncomputable def slices_IndexFunc__is_e (y : Int) : D × Sto := (.int .i64 y, [])
inductive slices_IndexFunc__is_S where
 | s0 (s_ : List Entry) (f : Msg)
 | s1 (s_ : List Entry) (f : Msg) (t7 t8 : Int)
noncomputable def slices_IndexFunc__is_M : slices_IndexFunc__is_S → M
 | .s0 s_ f => startM Tryd.f57 [.sl false 3 (List.map Entry.enc s_), .fn 58 [] [.iptr 1 [[.fn 55 [] [.iptr 26 [[.int .i64 f.Kind, .int .i64 f.From, .int .i64 f.To, .int .i64 f.Epoch, .int .i64 f.Ballot, .int .i64 f.Accepted, .int .i64 f.Nonce, .int .i64 f.Time, .int .u64 f.Up, .int .i64 f.Code, .bool f.HasPlan, .int .i64 f.Plan.Epoch, .int .i64 f.Plan.Target, .int .i64 f.Plan.Prev, .int .i64 f.Plan.Spill, .int .i64 f.Plan.Percent, .int .i64 f.Plan.Stamp, .int .i64 f.Plan.Since, .int .i64 f.Plan.Ramped, .int .u64 f.Plan.Up, .int .u64 f.Plan.Sup, .sl false 1 (List.map (eInt .i64) f.Plan.Pen), .sl false 1 (List.map (eInt .i64) f.Plan.Changes), .sl false 1 (List.map (eInt .i64) f.ID), .sl false 1 (List.map (eInt .u8) f.Session), .sl false 1 (List.map (eInt .u8) f.Payload)]] 0 0]]] 0 0]] []
 | .s1 s_ f t7 t8 => ⟨[.lpc (slices_IndexFunc__is_c [1, 0, 1, 0, 0]) 387, .blk 0, .code (slices_IndexFunc__is_c [1, 1])], [(0, .sl false 3 (List.map Entry.enc s_)), (1, .fn 58 [] [.iptr 1 [[.fn 55 [] [.iptr 26 [[.int .i64 f.Kind, .int .i64 f.From, .int .i64 f.To, .int .i64 f.Epoch, .int .i64 f.Ballot, .int .i64 f.Accepted, .int .i64 f.Nonce, .int .i64 f.Time, .int .u64 f.Up, .int .i64 f.Code, .bool f.HasPlan, .int .i64 f.Plan.Epoch, .int .i64 f.Plan.Target, .int .i64 f.Plan.Prev, .int .i64 f.Plan.Spill, .int .i64 f.Plan.Percent, .int .i64 f.Plan.Stamp, .int .i64 f.Plan.Since, .int .i64 f.Plan.Ramped, .int .u64 f.Plan.Up, .int .u64 f.Plan.Sup, .sl false 1 (List.map (eInt .i64) f.Plan.Pen), .sl false 1 (List.map (eInt .i64) f.Plan.Changes), .sl false 1 (List.map (eInt .i64) f.ID), .sl false 1 (List.map (eInt .u8) f.Session), .sl false 1 (List.map (eInt .u8) f.Payload)]] 0 0]]] 0 0]), (7, .int .i64 t7), (8, .int .i64 t8)], []⟩
abbrev slices_IndexFunc__is_W := SOk E (Cx.of Tryd.f57 false 0) slices_IndexFunc__is_e slices_IndexFunc__is_M
noncomputable def slices_IndexFunc__is_0 (s_ : List Entry) (f : Msg) : Option (slices_IndexFunc__is_S ⊕ Int) := (some (.inl (.s1 s_ f (((List.map Entry.enc s_).length : Nat) : Int) 0)))
noncomputable def slices_IndexFunc__is_1 (s_ : List Entry) (f : Msg) (t7 t8 : Int) : Option (slices_IndexFunc__is_S ⊕ Int) := (bif (decide ((t8 : Int) < t7)) then (bif ((decide ((0 : Int) ≤ t8)) && (decide ((t8 : Int) < (((List.map Entry.enc s_).length : Nat) : Int)))) then (((s_)[t8.toNat]?).bind fun y3 => ((Target_is y3 f).bind fun y5 => (bif y5 then (some (.inr t8)) else (some (.inl (.s1 s_ f t7 (IntKind.i64.wrap (t8 + 1)))))))) else none) else (some (.inr (-1))))
noncomputable def slices_IndexFunc__is_step : slices_IndexFunc__is_S → Option (slices_IndexFunc__is_S ⊕ Int)
 | .s0 s_ f => slices_IndexFunc__is_0 s_ f
 | .s1 s_ f t7 t8 => slices_IndexFunc__is_1 s_ f t7 t8
theorem slices_IndexFunc__is_0_ok {s_ f} : slices_IndexFunc__is_W (.s0 s_ f) (slices_IndexFunc__is_0 s_ f) := by
 intro r x h ha; unfold slices_IndexFunc__is_0 at h
 exact zj 14 h ha
theorem slices_IndexFunc__is_1_ok {s_ f t7 t8} : slices_IndexFunc__is_W (.s1 s_ f t7 t8) (slices_IndexFunc__is_1 s_ f t7 t8) := by
 intro r x h ha; unfold slices_IndexFunc__is_1 at h
 refine zs 7 h (fun h => ?_) fun h => ?_
 ·
  refine zn 14 h fun h => ?_
  refine zr 1 Entry.enc h fun y3 h => ?_
  refine zc 1 [] h (fun _ => Target_is_ok) fun y5 h => ?_
  refine zs 2 h (fun h => ?_) fun h => ?_
  ·
   exact zt 6 h ha
  exact zj 7 h ha
 exact zt 6 h ha
noncomputable def slices_IndexFunc__is (s_ : List Entry) (f : Msg) : Option Int := evf slices_IndexFunc__is_step (.s0 s_ f)
theorem slices_IndexFunc__is_ok {s_ : List Entry} {f : Msg} {r : Int} (h : slices_IndexFunc__is s_ f = some r) : Sound E 57 [.sl false 3 (List.map Entry.enc s_), .fn 58 [] [.iptr 1 [[.fn 55 [] [.iptr 26 [[.int .i64 f.Kind, .int .i64 f.From, .int .i64 f.To, .int .i64 f.Epoch, .int .i64 f.Ballot, .int .i64 f.Accepted, .int .i64 f.Nonce, .int .i64 f.Time, .int .u64 f.Up, .int .i64 f.Code, .bool f.HasPlan, .int .i64 f.Plan.Epoch, .int .i64 f.Plan.Target, .int .i64 f.Plan.Prev, .int .i64 f.Plan.Spill, .int .i64 f.Plan.Percent, .int .i64 f.Plan.Stamp, .int .i64 f.Plan.Since, .int .i64 f.Plan.Ramped, .int .u64 f.Plan.Up, .int .u64 f.Plan.Sup, .sl false 1 (List.map (eInt .i64) f.Plan.Pen), .sl false 1 (List.map (eInt .i64) f.Plan.Changes), .sl false 1 (List.map (eInt .i64) f.ID), .sl false 1 (List.map (eInt .u8) f.Session), .sl false 1 (List.map (eInt .u8) f.Payload)]] 0 0]]] 0 0]] [] (Rs slices_IndexFunc__is_e r) := sc (fn := Tryd.f57) (k := false) (m := 0) (stM := slices_IndexFunc__is_M) h fun s => by
 cases s with
 | s0 => exact slices_IndexFunc__is_0_ok
 | s1 => exact slices_IndexFunc__is_1_ok
end Go.RX.L

namespace Go.RX.L
open Go Go.RX Go.Proofs
attribute [local irreducible] FinQ
noncomputable def Target_room_c := codeAt (bodyOf Tryd.f61)
noncomputable def Target_room_e (fence : Int) (known : Plan) (hold : Hold) (c : Config) (index : Int) (well : Bool) (b1 : List Entry) (b2 : List (List Int)) (fuse : Int) (down : Bool) (b4 b5 : List Int) (y : Bool × Int × Int) : D × Sto := (.bool y.1, [some ⟨54, true, [([.int .i64 fence] ++ Plan.encL known ([.int .i64 hold.Epoch, .int .i64 hold.Nonce, .int .u64 hold.Grants, .int .i64 hold.Until, (grD 1 (List.map Entry.enc b1)), (grD 2 (List.map (eSl 1 (eInt .i64)) b2)), .int .i64 y.2.1, .int .i64 y.2.2] ++ Config.encL c [.int .i64 index, .ptr 3 0 0, .bool well]))]⟩, some ⟨3, false, (List.map Entry.enc b1)⟩, some ⟨1, false, (List.map (eSl 1 (eInt .i64)) b2)⟩, some ⟨4, true, [[(grD 4 (List.map (eInt .u8) b4)), (grD 5 (List.map (eInt .u8) b5)), .int .i64 fuse, .bool down]]⟩, some ⟨1, false, (List.map (eInt .u8) b4)⟩, some ⟨1, false, (List.map (eInt .u8) b5)⟩])
abbrev Target_room_W (fence : Int) (known : Plan) (hold : Hold) (c : Config) (index : Int) (well : Bool) (b1 : List Entry) (b2 : List (List Int)) (fuse : Int) (down : Bool) (b4 b5 : List Int) := AOk E (Cx.of Tryd.f61 true 6) (Target_room_e fence known hold c index well b1 b2 fuse down b4 b5)
noncomputable def Target_room_1M (fence : Int) (known : Plan) (hold : Hold) (c : Config) (index : Int) (well : Bool) (b1 : List Entry) (b2 : List (List Int)) (fuse : Int) (down : Bool) (b4 b5 : List Int) (begun2 filled2 : Int) : M := ⟨[.code (Target_room_c [1, 1])], [(0, .ptr 0 0 0)], [some ⟨54, true, [([.int .i64 fence] ++ Plan.encL known ([.int .i64 hold.Epoch, .int .i64 hold.Nonce, .int .u64 hold.Grants, .int .i64 hold.Until, (grD 1 (List.map Entry.enc b1)), (grD 2 (List.map (eSl 1 (eInt .i64)) b2)), .int .i64 begun2, .int .i64 filled2] ++ Config.encL c [.int .i64 index, .ptr 3 0 0, .bool well]))]⟩, some ⟨3, false, (List.map Entry.enc b1)⟩, some ⟨1, false, (List.map (eSl 1 (eInt .i64)) b2)⟩, some ⟨4, true, [[(grD 4 (List.map (eInt .u8) b4)), (grD 5 (List.map (eInt .u8) b5)), .int .i64 fuse, .bool down]]⟩, some ⟨1, false, (List.map (eInt .u8) b4)⟩, some ⟨1, false, (List.map (eInt .u8) b5)⟩]⟩
noncomputable def Target_room_1 (fence : Int) (known : Plan) (hold : Hold) (c : Config) (index : Int) (well : Bool) (b1 : List Entry) (b2 : List (List Int)) (fuse : Int) (down : Bool) (b4 b5 : List Int) (begun2 filled2 : Int) : Option (Bool × Int × Int) := (some ((decide ((filled2 : Int) < c.Cap)), begun2, filled2))
theorem Target_room_1_ok {fence known hold c index well b1 b2 fuse down b4 b5 begun2 filled2} : Target_room_W fence known hold c index well b1 b2 fuse down b4 b5 (Target_room_1M fence known hold c index well b1 b2 fuse down b4 b5 begun2 filled2) (Target_room_1 fence known hold c index well b1 b2 fuse down b4 b5 begun2 filled2) := by
 intro r h; unfold Target_room_1 at h
 exact zu 5 h
noncomputable def Target_room (now fence : Int) (known : Plan) (hold : Hold) (begun filled : Int) (c : Config) (index : Int) (well : Bool) (b1 : List Entry) (b2 : List (List Int)) (fuse : Int) (down : Bool) (b4 b5 : List Int) : Option (Bool × Int × Int) := (bif (decide (((IntKind.i64.wrap (now - begun)) : Int) ≥ c.Span)) then (Target_room_1 fence known hold c index well b1 b2 fuse down b4 b5 now 0) else (Target_room_1 fence known hold c index well b1 b2 fuse down b4 b5 begun filled))
theorem Target_room_ok {now fence : Int} {known : Plan} {hold : Hold} {begun filled : Int} {c : Config} {index : Int} {well : Bool} {b1 : List Entry} {b2 : List (List Int)} {fuse : Int} {down : Bool} {b4 b5 : List Int} {r : Bool × Int × Int} (h : Target_room now fence known hold begun filled c index well b1 b2 fuse down b4 b5 = some r) : Sound E 61 [.ptr 0 0 0, .int .i64 now] [some ⟨54, true, [([.int .i64 fence] ++ Plan.encL known ([.int .i64 hold.Epoch, .int .i64 hold.Nonce, .int .u64 hold.Grants, .int .i64 hold.Until, (grD 1 (List.map Entry.enc b1)), (grD 2 (List.map (eSl 1 (eInt .i64)) b2)), .int .i64 begun, .int .i64 filled] ++ Config.encL c [.int .i64 index, .ptr 3 0 0, .bool well]))]⟩, some ⟨3, false, (List.map Entry.enc b1)⟩, some ⟨1, false, (List.map (eSl 1 (eInt .i64)) b2)⟩, some ⟨4, true, [[(grD 4 (List.map (eInt .u8) b4)), (grD 5 (List.map (eInt .u8) b5)), .int .i64 fuse, .bool down]]⟩, some ⟨1, false, (List.map (eInt .u8) b4)⟩, some ⟨1, false, (List.map (eInt .u8) b5)⟩] (Rs (Target_room_e fence known hold c index well b1 b2 fuse down b4 b5) r) := so (fn := Tryd.f61) (k := true) (m := 6) h <| by
 intro r h; unfold Target_room at h
 refine zs 10 h (fun h => ?_) fun h => ?_
 ·
  exact zg 17 (Target_room_1_ok h)
 exact zg 1 (Target_room_1_ok h)
end Go.RX.L

namespace Go.RX.L
open Go Go.RX Go.Proofs
attribute [local irreducible] FinQ
noncomputable def Target_write_c := codeAt (bodyOf Tryd.f36)
noncomputable def Target_write_e (known : Plan) (hold : Hold) (c : Config) (index : Int) (well : Bool) (y : (List Msg) × Int × Int × Int × Int × Bool × (List Entry) × (List (List Int)) × (List Int) × (List Int)) : D × Sto := (.sl false 26 (List.map Msg.enc y.1), [some ⟨54, true, [([.int .i64 y.2.1] ++ Plan.encL known ([.int .i64 hold.Epoch, .int .i64 hold.Nonce, .int .u64 hold.Grants, .int .i64 hold.Until, (grD 6 (List.map Entry.enc y.2.2.2.2.2.2.1)), (grD 7 (List.map (eSl 1 (eInt .i64)) y.2.2.2.2.2.2.2.1)), .int .i64 y.2.2.1, .int .i64 y.2.2.2.1] ++ Config.encL c [.int .i64 index, .ptr 3 0 0, .bool well]))]⟩, none, none, some ⟨4, true, [[(grD 8 (List.map (eInt .u8) y.2.2.2.2.2.2.2.2.1)), (grD 9 (List.map (eInt .u8) y.2.2.2.2.2.2.2.2.2)), .int .i64 y.2.2.2.2.1, .bool y.2.2.2.2.2.1]]⟩, none, none, some ⟨3, false, (List.map Entry.enc y.2.2.2.2.2.2.1)⟩, some ⟨1, false, (List.map (eSl 1 (eInt .i64)) y.2.2.2.2.2.2.2.1)⟩, some ⟨1, false, (List.map (eInt .u8) y.2.2.2.2.2.2.2.2.1)⟩, some ⟨1, false, (List.map (eInt .u8) y.2.2.2.2.2.2.2.2.2)⟩])
abbrev Target_write_W (m : Msg) (now fence : Int) (known : Plan) (hold : Hold) (begun filled : Int) (c : Config) (index : Int) (well : Bool) (b1 : List Entry) (b2 : List (List Int)) (fuse : Int) (down : Bool) (b4 b5 : List Int) := AOk E (Cx.of Tryd.f36 true 6) (Target_write_e known hold c index well)
noncomputable def Target_write_1M (m : Msg) (now fence : Int) (known : Plan) (hold : Hold) (begun filled : Int) (c : Config) (index : Int) (well : Bool) (b1 : List Entry) (b2 : List (List Int)) (fuse : Int) (down : Bool) (b4 b5 : List Int) (begun2 filled2 : Int) (no : Msg) : M := ⟨[.code (Target_write_c [1, 1, 1, 1, 1, 1, 1, 1])], [(0, .ptr 0 0 0), (4, .ptr 6 0 0), (9, .ptr 7 0 0)], [some ⟨54, true, [([.int .i64 fence] ++ Plan.encL known ([.int .i64 hold.Epoch, .int .i64 hold.Nonce, .int .u64 hold.Grants, .int .i64 hold.Until, (grD 1 (List.map Entry.enc b1)), (grD 2 (List.map (eSl 1 (eInt .i64)) b2)), .int .i64 begun2, .int .i64 filled2] ++ Config.encL c [.int .i64 index, .ptr 3 0 0, .bool well]))]⟩, some ⟨3, false, (List.map Entry.enc b1)⟩, some ⟨1, false, (List.map (eSl 1 (eInt .i64)) b2)⟩, some ⟨4, true, [[(grD 4 (List.map (eInt .u8) b4)), (grD 5 (List.map (eInt .u8) b5)), .int .i64 fuse, .bool down]]⟩, some ⟨1, false, (List.map (eInt .u8) b4)⟩, some ⟨1, false, (List.map (eInt .u8) b5)⟩, some ⟨26, false, [(Msg.enc m)]⟩, some ⟨26, false, [(Msg.enc no)]⟩]⟩
noncomputable def Target_write_1 (m : Msg) (now fence : Int) (known : Plan) (hold : Hold) (begun filled : Int) (c : Config) (index : Int) (well : Bool) (b1 : List Entry) (b2 : List (List Int)) (fuse : Int) (down : Bool) (b4 b5 : List Int) (begun2 filled2 : Int) (no : Msg) : Option ((List Msg) × Int × Int × Int × Int × Bool × (List Entry) × (List (List Int)) × (List Int) × (List Int)) := ((Target_remember__take (⟨18, 0, 0, 0, 0, 0, 0, 0, 0, 0, false, (⟨0, 0, 0, 0, 0, 0, 0, 0, 0, 0, [], []⟩ : Plan), m.ID, [], []⟩ : Msg) fence known hold begun2 filled2 c index well b1 b2 fuse down b4 b5).bind fun y1 => (bif (!y1.1) then (some ([], y1.2.1, begun2, filled2, y1.2.2.1, y1.2.2.2.1, y1.2.2.2.2.1, y1.2.2.2.2.2.1, y1.2.2.2.2.2.2.1, y1.2.2.2.2.2.2.2)) else ((Target_reply m 15 no y1.2.1 known hold begun2 filled2 c index well y1.2.2.2.2.1 y1.2.2.2.2.2.1 y1.2.2.1 y1.2.2.2.1 y1.2.2.2.2.2.2.1 y1.2.2.2.2.2.2.2).bind fun y3 => (some (y3, y1.2.1, begun2, filled2, y1.2.2.1, y1.2.2.2.1, y1.2.2.2.2.1, y1.2.2.2.2.2.1, y1.2.2.2.2.2.2.1, y1.2.2.2.2.2.2.2)))))
theorem Target_write_1_ok {m now fence known hold begun filled c index well b1 b2 fuse down b4 b5 begun2 filled2 no} : Target_write_W m now fence known hold begun filled c index well b1 b2 fuse down b4 b5 (Target_write_1M m now fence known hold begun filled c index well b1 b2 fuse down b4 b5 begun2 filled2 no) (Target_write_1 m now fence known hold begun filled c index well b1 b2 fuse down b4 b5 begun2 filled2 no) := by
 intro r h; unfold Target_write_1 at h
 refine adv_ok hm 11 _ ?_
 have ok1 := fun (y : Bool × Int × Int × Bool × (List Entry) × (List (List Int)) × (List Int) × (List Int)) (hy : Target_remember__take (⟨18, 0, 0, 0, 0, 0, 0, 0, 0, 0, false, (⟨0, 0, 0, 0, 0, 0, 0, 0, 0, 0, [], []⟩ : Plan), m.ID, [], []⟩ : Msg) fence known hold begun2 filled2 c index well b1 b2 fuse down b4 b5 = some y) => @Eq.mp (Sound E 33 [.ptr 0 0 0, .agg [.int .i64 18, .int .i64 0, .int .i64 0, .int .i64 0, .int .i64 0, .int .i64 0, .int .i64 0, .int .i64 0, .int .u64 0, .int .i64 0, .bool false, .int .i64 0, .int .i64 0, .int .i64 0, .int .i64 0, .int .i64 0, .int .i64 0, .int .i64 0, .int .i64 0, .int .u64 0, .int .u64 0, .sl false 1 (List.map (eInt .i64) ([])), .sl false 1 (List.map (eInt .i64) ([])), .sl false 1 (List.map (eInt .i64) m.ID), .sl false 1 (List.map (eInt .u8) ([])), .sl false 1 (List.map (eInt .u8) ([]))], .fn 34 [.ptr 0 0 0] []] [some ⟨54, true, [([.int .i64 fence] ++ Plan.encL known ([.int .i64 hold.Epoch, .int .i64 hold.Nonce, .int .u64 hold.Grants, .int .i64 hold.Until, (grD 1 (List.map Entry.enc b1)), (grD 2 (List.map (eSl 1 (eInt .i64)) b2)), .int .i64 begun2, .int .i64 filled2] ++ Config.encL c [.int .i64 index, .ptr 3 0 0, .bool well]))]⟩, some ⟨3, false, (List.map Entry.enc b1)⟩, some ⟨1, false, (List.map (eSl 1 (eInt .i64)) b2)⟩, some ⟨4, true, [[(grD 4 (List.map (eInt .u8) b4)), (grD 5 (List.map (eInt .u8) b5)), .int .i64 fuse, .bool down]]⟩, some ⟨1, false, (List.map (eInt .u8) b4)⟩, some ⟨1, false, (List.map (eInt .u8) b5)⟩] (Rs (Target_remember__take_e known hold begun2 filled2 c index well) y)) (Sound E 33 [.ptr 0 0 0, .agg [.int .i64 18, .int .i64 0, .int .i64 0, .int .i64 0, .int .i64 0, .int .i64 0, .int .i64 0, .int .i64 0, .int .u64 0, .int .i64 0, .bool false, .int .i64 0, .int .i64 0, .int .i64 0, .int .i64 0, .int .i64 0, .int .i64 0, .int .i64 0, .int .i64 0, .int .u64 0, .int .u64 0, .sl false 1 [], .sl false 1 [], .sl false 1 (List.map (eInt .i64) m.ID), .sl false 1 [], .sl false 1 []], .fn 34 [.ptr 0 0 0] []] [some ⟨54, true, [([.int .i64 fence] ++ Plan.encL known ([.int .i64 hold.Epoch, .int .i64 hold.Nonce, .int .u64 hold.Grants, .int .i64 hold.Until, (grD 1 (List.map Entry.enc b1)), (grD 2 (List.map (eSl 1 (eInt .i64)) b2)), .int .i64 begun2, .int .i64 filled2] ++ Config.encL c [.int .i64 index, .ptr 3 0 0, .bool well]))]⟩, some ⟨3, false, (List.map Entry.enc b1)⟩, some ⟨1, false, (List.map (eSl 1 (eInt .i64)) b2)⟩, some ⟨4, true, [[(grD 4 (List.map (eInt .u8) b4)), (grD 5 (List.map (eInt .u8) b5)), .int .i64 fuse, .bool down]]⟩, some ⟨1, false, (List.map (eInt .u8) b4)⟩, some ⟨1, false, (List.map (eInt .u8) b5)⟩] (Rs (Target_remember__take_e known hold begun2 filled2 c index well) y)) (by kernel_rfl) (Target_remember__take_ok hy)
 refine zc 0 [some 1, some 1, some 1, some 1] h ok1 fun y1 h => ?_
 refine zs 3 h (fun h => ?_) fun h => ?_
 ·
  exact zu 5 h [.slot 0 [some 26]]
 refine adv_ok hm 9 _ ?_
 have ok3 := fun (y : List Msg) (hy : Target_reply m 15 no y1.2.1 known hold begun2 filled2 c index well y1.2.2.2.2.1 y1.2.2.2.2.2.1 y1.2.2.1 y1.2.2.2.1 y1.2.2.2.2.2.2.1 y1.2.2.2.2.2.2.2 = some y) => @Eq.mp (Sound E 31 [.ptr 0 0 0, .agg [.int .i64 m.Kind, .int .i64 m.From, .int .i64 m.To, .int .i64 m.Epoch, .int .i64 m.Ballot, .int .i64 m.Accepted, .int .i64 m.Nonce, .int .i64 m.Time, .int .u64 m.Up, .int .i64 m.Code, .bool m.HasPlan, .int .i64 m.Plan.Epoch, .int .i64 m.Plan.Target, .int .i64 m.Plan.Prev, .int .i64 m.Plan.Spill, .int .i64 m.Plan.Percent, .int .i64 m.Plan.Stamp, .int .i64 m.Plan.Since, .int .i64 m.Plan.Ramped, .int .u64 m.Plan.Up, .int .u64 m.Plan.Sup, .sl false 1 (List.map (eInt .i64) m.Plan.Pen), .sl false 1 (List.map (eInt .i64) m.Plan.Changes), .sl false 1 (List.map (eInt .i64) m.ID), .sl false 1 (List.map (eInt .u8) m.Session), .sl false 1 (List.map (eInt .u8) m.Payload)], .int .i64 15, .agg [.int .i64 no.Kind, .int .i64 no.From, .int .i64 no.To, .int .i64 no.Epoch, .int .i64 no.Ballot, .int .i64 no.Accepted, .int .i64 no.Nonce, .int .i64 no.Time, .int .u64 no.Up, .int .i64 no.Code, .bool no.HasPlan, .int .i64 no.Plan.Epoch, .int .i64 no.Plan.Target, .int .i64 no.Plan.Prev, .int .i64 no.Plan.Spill, .int .i64 no.Plan.Percent, .int .i64 no.Plan.Stamp, .int .i64 no.Plan.Since, .int .i64 no.Plan.Ramped, .int .u64 no.Plan.Up, .int .u64 no.Plan.Sup, .sl false 1 (List.map (eInt .i64) no.Plan.Pen), .sl false 1 (List.map (eInt .i64) no.Plan.Changes), .sl false 1 (List.map (eInt .i64) no.ID), .sl false 1 (List.map (eInt .u8) no.Session), .sl false 1 (List.map (eInt .u8) no.Payload)]] [some ⟨54, true, [([.int .i64 y1.2.1] ++ Plan.encL known ([.int .i64 hold.Epoch, .int .i64 hold.Nonce, .int .u64 hold.Grants, .int .i64 hold.Until, (grD 1 (List.map Entry.enc y1.2.2.2.2.1)), (grD 2 (List.map (eSl 1 (eInt .i64)) y1.2.2.2.2.2.1)), .int .i64 begun2, .int .i64 filled2] ++ Config.encL c [.int .i64 index, .ptr 3 0 0, .bool well]))]⟩, some ⟨3, false, (List.map Entry.enc y1.2.2.2.2.1)⟩, some ⟨1, false, (List.map (eSl 1 (eInt .i64)) y1.2.2.2.2.2.1)⟩, some ⟨4, true, [[(grD 4 (List.map (eInt .u8) y1.2.2.2.2.2.2.1)), (grD 5 (List.map (eInt .u8) y1.2.2.2.2.2.2.2)), .int .i64 y1.2.2.1, .bool y1.2.2.2.1]]⟩, some ⟨1, false, (List.map (eInt .u8) y1.2.2.2.2.2.2.1)⟩, some ⟨1, false, (List.map (eInt .u8) y1.2.2.2.2.2.2.2)⟩] (Rs (Target_reply_e y1.2.1 known hold begun2 filled2 c index well y1.2.2.2.2.1 y1.2.2.2.2.2.1 y1.2.2.1 y1.2.2.2.1 y1.2.2.2.2.2.2.1 y1.2.2.2.2.2.2.2) y)) (Sound E 31 [.ptr 0 0 0, .agg [.int .i64 m.Kind, .int .i64 m.From, .int .i64 m.To, .int .i64 m.Epoch, .int .i64 m.Ballot, .int .i64 m.Accepted, .int .i64 m.Nonce, .int .i64 m.Time, .int .u64 m.Up, .int .i64 m.Code, .bool m.HasPlan, .int .i64 m.Plan.Epoch, .int .i64 m.Plan.Target, .int .i64 m.Plan.Prev, .int .i64 m.Plan.Spill, .int .i64 m.Plan.Percent, .int .i64 m.Plan.Stamp, .int .i64 m.Plan.Since, .int .i64 m.Plan.Ramped, .int .u64 m.Plan.Up, .int .u64 m.Plan.Sup, .sl false 1 (List.map (eInt .i64) m.Plan.Pen), .sl false 1 (List.map (eInt .i64) m.Plan.Changes), .sl false 1 (List.map (eInt .i64) m.ID), .sl false 1 (List.map (eInt .u8) m.Session), .sl false 1 (List.map (eInt .u8) m.Payload)], .int .i64 15, .agg [.int .i64 no.Kind, .int .i64 no.From, .int .i64 no.To, .int .i64 no.Epoch, .int .i64 no.Ballot, .int .i64 no.Accepted, .int .i64 no.Nonce, .int .i64 no.Time, .int .u64 no.Up, .int .i64 no.Code, .bool no.HasPlan, .int .i64 no.Plan.Epoch, .int .i64 no.Plan.Target, .int .i64 no.Plan.Prev, .int .i64 no.Plan.Spill, .int .i64 no.Plan.Percent, .int .i64 no.Plan.Stamp, .int .i64 no.Plan.Since, .int .i64 no.Plan.Ramped, .int .u64 no.Plan.Up, .int .u64 no.Plan.Sup, .sl false 1 (List.map (eInt .i64) no.Plan.Pen), .sl false 1 (List.map (eInt .i64) no.Plan.Changes), .sl false 1 (List.map (eInt .i64) no.ID), .sl false 1 (List.map (eInt .u8) no.Session), .sl false 1 (List.map (eInt .u8) no.Payload)]] [some ⟨54, true, [([.int .i64 y1.2.1] ++ Plan.encL known ([.int .i64 hold.Epoch, .int .i64 hold.Nonce, .int .u64 hold.Grants, .int .i64 hold.Until, (grD 1 (List.map Entry.enc y1.2.2.2.2.1)), (grD 2 (List.map (eSl 1 (eInt .i64)) y1.2.2.2.2.2.1)), .int .i64 begun2, .int .i64 filled2] ++ Config.encL c [.int .i64 index, .ptr 3 0 0, .bool well]))]⟩, some ⟨3, false, (List.map Entry.enc y1.2.2.2.2.1)⟩, some ⟨1, false, (List.map (eSl 1 (eInt .i64)) y1.2.2.2.2.2.1)⟩, some ⟨4, true, [[(grD 4 (List.map (eInt .u8) y1.2.2.2.2.2.2.1)), (grD 5 (List.map (eInt .u8) y1.2.2.2.2.2.2.2)), .int .i64 y1.2.2.1, .bool y1.2.2.2.1]]⟩, some ⟨1, false, (List.map (eInt .u8) y1.2.2.2.2.2.2.1)⟩, some ⟨1, false, (List.map (eInt .u8) y1.2.2.2.2.2.2.2)⟩] (Rs (Target_reply_e y1.2.1 known hold begun2 filled2 c index well y1.2.2.2.2.1 y1.2.2.2.2.2.1 y1.2.2.1 y1.2.2.2.1 y1.2.2.2.2.2.2.1 y1.2.2.2.2.2.2.2) y)) (by kernel_rfl) (Target_reply_ok hy)
 refine zc 0 [] h ok3 fun y3 h => ?_
 exact zu 3 h
noncomputable def Target_write_2M (m : Msg) (now fence : Int) (known : Plan) (hold : Hold) (begun filled : Int) (c : Config) (index : Int) (well : Bool) (b1 : List Entry) (b2 : List (List Int)) (fuse : Int) (down : Bool) (b4 b5 : List Int) (t94 : Bool) (no : Msg) : M := ⟨[.code (Target_write_c [1, 1, 1, 1, 1, 1, 1, 0, 1]), .code (Target_write_c [1, 1, 1, 1, 1, 1, 1, 1])], [(0, .ptr 0 0 0), (2, .int .i64 now), (4, .ptr 6 0 0), (9, .ptr 7 0 0), (94, .bool t94)], [some ⟨54, true, [([.int .i64 fence] ++ Plan.encL known ([.int .i64 hold.Epoch, .int .i64 hold.Nonce, .int .u64 hold.Grants, .int .i64 hold.Until, (grD 1 (List.map Entry.enc b1)), (grD 2 (List.map (eSl 1 (eInt .i64)) b2)), .int .i64 begun, .int .i64 filled] ++ Config.encL c [.int .i64 index, .ptr 3 0 0, .bool well]))]⟩, some ⟨3, false, (List.map Entry.enc b1)⟩, some ⟨1, false, (List.map (eSl 1 (eInt .i64)) b2)⟩, some ⟨4, true, [[(grD 4 (List.map (eInt .u8) b4)), (grD 5 (List.map (eInt .u8) b5)), .int .i64 fuse, .bool down]]⟩, some ⟨1, false, (List.map (eInt .u8) b4)⟩, some ⟨1, false, (List.map (eInt .u8) b5)⟩, some ⟨26, false, [(Msg.enc m)]⟩, some ⟨26, false, [(Msg.enc no)]⟩]⟩
noncomputable def Target_write_2 (m : Msg) (now fence : Int) (known : Plan) (hold : Hold) (begun filled : Int) (c : Config) (index : Int) (well : Bool) (b1 : List Entry) (b2 : List (List Int)) (fuse : Int) (down : Bool) (b4 b5 : List Int) (t94 : Bool) (no : Msg) : Option ((List Msg) × Int × Int × Int × Int × Bool × (List Entry) × (List (List Int)) × (List Int) × (List Int)) := (bif t94 then ((lease_Live hold m.Epoch now).bind fun y2 => (bif (!y2) then (some ([], fence, begun, filled, fuse, down, b1, b2, b4, b5)) else ((Target_room now fence known hold begun filled c index well b1 b2 fuse down b4 b5).bind fun y4 => (bif y4.1 then ((Target_remember__take (⟨14, 0, 0, m.Epoch, 0, 0, 0, 0, 0, 0, false, (⟨0, 0, 0, 0, 0, 0, 0, 0, 0, 0, [], []⟩ : Plan), m.ID, [], m.Payload⟩ : Msg) fence known hold y4.2.1 y4.2.2 c index well b1 b2 fuse down b4 b5).bind fun y6 => (bif (!y6.1) then (some ([], y6.2.1, y4.2.1, y4.2.2, y6.2.2.1, y6.2.2.2.1, y6.2.2.2.2.1, y6.2.2.2.2.2.1, y6.2.2.2.2.2.2.1, y6.2.2.2.2.2.2.2)) else ((Target_reply m 15 (⟨0, 0, 0, m.Epoch, 0, 0, 0, 0, 0, 0, false, (⟨0, 0, 0, 0, 0, 0, 0, 0, 0, 0, [], []⟩ : Plan), m.ID, [], []⟩ : Msg) y6.2.1 known hold y4.2.1 (IntKind.i64.wrap (y4.2.2 + 1)) c index well y6.2.2.2.2.1 y6.2.2.2.2.2.1 y6.2.2.1 y6.2.2.2.1 y6.2.2.2.2.2.2.1 y6.2.2.2.2.2.2.2).bind fun y8 => (some (y8, y6.2.1, y4.2.1, (IntKind.i64.wrap (y4.2.2 + 1)), y6.2.2.1, y6.2.2.2.1, y6.2.2.2.2.1, y6.2.2.2.2.2.1, y6.2.2.2.2.2.2.1, y6.2.2.2.2.2.2.2))))) else (Target_write_1 m now fence known hold begun filled c index well b1 b2 fuse down b4 b5 y4.2.1 y4.2.2 no))))) else (Target_write_1 m now fence known hold begun filled c index well b1 b2 fuse down b4 b5 begun filled no))
theorem Target_write_2_ok {m now fence known hold begun filled c index well b1 b2 fuse down b4 b5 t94 no} : Target_write_W m now fence known hold begun filled c index well b1 b2 fuse down b4 b5 (Target_write_2M m now fence known hold begun filled c index well b1 b2 fuse down b4 b5 t94 no) (Target_write_2 m now fence known hold begun filled c index well b1 b2 fuse down b4 b5 t94 no) := by
 intro r h; unfold Target_write_2 at h
 refine zs 1 h (fun h => ?_) fun h => ?_
 ·
  refine zd 5 [] h (fun _ => lease_Live_ok) fun y2 h => ?_
  refine zs 1 h (fun h => ?_) fun h => ?_
  ·
   refine zf 4 [.mv 1, .mv 2, .mv 4, .mv 5] ?_
   exact zu 1 h [.slot 0 [some 26]]
  refine adv_ok hm 6 _ ?_
  have ok4 := fun (y : Bool × Int × Int) (hy : Target_room now fence known hold begun filled c index well b1 b2 fuse down b4 b5 = some y) => @Eq.mp (Sound E 61 [.ptr 0 0 0, .int .i64 now] [some ⟨54, true, [([.int .i64 fence] ++ Plan.encL known ([.int .i64 hold.Epoch, .int .i64 hold.Nonce, .int .u64 hold.Grants, .int .i64 hold.Until, (grD 1 (List.map Entry.enc b1)), (grD 2 (List.map (eSl 1 (eInt .i64)) b2)), .int .i64 begun, .int .i64 filled] ++ Config.encL c [.int .i64 index, .ptr 3 0 0, .bool well]))]⟩, some ⟨3, false, (List.map Entry.enc b1)⟩, some ⟨1, false, (List.map (eSl 1 (eInt .i64)) b2)⟩, some ⟨4, true, [[(grD 4 (List.map (eInt .u8) b4)), (grD 5 (List.map (eInt .u8) b5)), .int .i64 fuse, .bool down]]⟩, some ⟨1, false, (List.map (eInt .u8) b4)⟩, some ⟨1, false, (List.map (eInt .u8) b5)⟩] (Rs (Target_room_e fence known hold c index well b1 b2 fuse down b4 b5) y)) (Sound E 61 [.ptr 0 0 0, .int .i64 now] [some ⟨54, true, [([.int .i64 fence] ++ Plan.encL known ([.int .i64 hold.Epoch, .int .i64 hold.Nonce, .int .u64 hold.Grants, .int .i64 hold.Until, (grD 1 (List.map Entry.enc b1)), (grD 2 (List.map (eSl 1 (eInt .i64)) b2)), .int .i64 begun, .int .i64 filled] ++ Config.encL c [.int .i64 index, .ptr 3 0 0, .bool well]))]⟩, some ⟨3, false, (List.map Entry.enc b1)⟩, some ⟨1, false, (List.map (eSl 1 (eInt .i64)) b2)⟩, some ⟨4, true, [[(grD 4 (List.map (eInt .u8) b4)), (grD 5 (List.map (eInt .u8) b5)), .int .i64 fuse, .bool down]]⟩, some ⟨1, false, (List.map (eInt .u8) b4)⟩, some ⟨1, false, (List.map (eInt .u8) b5)⟩] (Rs (Target_room_e fence known hold c index well b1 b2 fuse down b4 b5) y)) (by kernel_rfl) (Target_room_ok hy)
  refine zc 0 [] h ok4 fun y4 h => ?_
  refine zs 2 h (fun h => ?_) fun h => ?_
  ·
   refine adv_ok hm 17 _ ?_
   have ok6 := fun (y : Bool × Int × Int × Bool × (List Entry) × (List (List Int)) × (List Int) × (List Int)) (hy : Target_remember__take (⟨14, 0, 0, m.Epoch, 0, 0, 0, 0, 0, 0, false, (⟨0, 0, 0, 0, 0, 0, 0, 0, 0, 0, [], []⟩ : Plan), m.ID, [], m.Payload⟩ : Msg) fence known hold y4.2.1 y4.2.2 c index well b1 b2 fuse down b4 b5 = some y) => @Eq.mp (Sound E 33 [.ptr 0 0 0, .agg [.int .i64 14, .int .i64 0, .int .i64 0, .int .i64 m.Epoch, .int .i64 0, .int .i64 0, .int .i64 0, .int .i64 0, .int .u64 0, .int .i64 0, .bool false, .int .i64 0, .int .i64 0, .int .i64 0, .int .i64 0, .int .i64 0, .int .i64 0, .int .i64 0, .int .i64 0, .int .u64 0, .int .u64 0, .sl false 1 (List.map (eInt .i64) ([])), .sl false 1 (List.map (eInt .i64) ([])), .sl false 1 (List.map (eInt .i64) m.ID), .sl false 1 (List.map (eInt .u8) ([])), .sl false 1 (List.map (eInt .u8) m.Payload)], .fn 34 [.ptr 0 0 0] []] [some ⟨54, true, [([.int .i64 fence] ++ Plan.encL known ([.int .i64 hold.Epoch, .int .i64 hold.Nonce, .int .u64 hold.Grants, .int .i64 hold.Until, (grD 1 (List.map Entry.enc b1)), (grD 2 (List.map (eSl 1 (eInt .i64)) b2)), .int .i64 y4.2.1, .int .i64 y4.2.2] ++ Config.encL c [.int .i64 index, .ptr 3 0 0, .bool well]))]⟩, some ⟨3, false, (List.map Entry.enc b1)⟩, some ⟨1, false, (List.map (eSl 1 (eInt .i64)) b2)⟩, some ⟨4, true, [[(grD 4 (List.map (eInt .u8) b4)), (grD 5 (List.map (eInt .u8) b5)), .int .i64 fuse, .bool down]]⟩, some ⟨1, false, (List.map (eInt .u8) b4)⟩, some ⟨1, false, (List.map (eInt .u8) b5)⟩] (Rs (Target_remember__take_e known hold y4.2.1 y4.2.2 c index well) y)) (Sound E 33 [.ptr 0 0 0, .agg [.int .i64 14, .int .i64 0, .int .i64 0, .int .i64 m.Epoch, .int .i64 0, .int .i64 0, .int .i64 0, .int .i64 0, .int .u64 0, .int .i64 0, .bool false, .int .i64 0, .int .i64 0, .int .i64 0, .int .i64 0, .int .i64 0, .int .i64 0, .int .i64 0, .int .i64 0, .int .u64 0, .int .u64 0, .sl false 1 [], .sl false 1 [], .sl false 1 (List.map (eInt .i64) m.ID), .sl false 1 [], .sl false 1 (List.map (eInt .u8) m.Payload)], .fn 34 [.ptr 0 0 0] []] [some ⟨54, true, [([.int .i64 fence] ++ Plan.encL known ([.int .i64 hold.Epoch, .int .i64 hold.Nonce, .int .u64 hold.Grants, .int .i64 hold.Until, (grD 1 (List.map Entry.enc b1)), (grD 2 (List.map (eSl 1 (eInt .i64)) b2)), .int .i64 y4.2.1, .int .i64 y4.2.2] ++ Config.encL c [.int .i64 index, .ptr 3 0 0, .bool well]))]⟩, some ⟨3, false, (List.map Entry.enc b1)⟩, some ⟨1, false, (List.map (eSl 1 (eInt .i64)) b2)⟩, some ⟨4, true, [[(grD 4 (List.map (eInt .u8) b4)), (grD 5 (List.map (eInt .u8) b5)), .int .i64 fuse, .bool down]]⟩, some ⟨1, false, (List.map (eInt .u8) b4)⟩, some ⟨1, false, (List.map (eInt .u8) b5)⟩] (Rs (Target_remember__take_e known hold y4.2.1 y4.2.2 c index well) y)) (by kernel_rfl) (Target_remember__take_ok hy)
   refine zc 0 [some 1, some 1, some 1] h ok6 fun y6 h => ?_
   refine zs 3 h (fun h => ?_) fun h => ?_
   ·
    exact zu 5 h [.slot 0 [some 26]]
   refine adv_ok hm 30 _ ?_
   have ok8 := fun (y : List Msg) (hy : Target_reply m 15 (⟨0, 0, 0, m.Epoch, 0, 0, 0, 0, 0, 0, false, (⟨0, 0, 0, 0, 0, 0, 0, 0, 0, 0, [], []⟩ : Plan), m.ID, [], []⟩ : Msg) y6.2.1 known hold y4.2.1 (IntKind.i64.wrap (y4.2.2 + 1)) c index well y6.2.2.2.2.1 y6.2.2.2.2.2.1 y6.2.2.1 y6.2.2.2.1 y6.2.2.2.2.2.2.1 y6.2.2.2.2.2.2.2 = some y) => @Eq.mp (Sound E 31 [.ptr 0 0 0, .agg [.int .i64 m.Kind, .int .i64 m.From, .int .i64 m.To, .int .i64 m.Epoch, .int .i64 m.Ballot, .int .i64 m.Accepted, .int .i64 m.Nonce, .int .i64 m.Time, .int .u64 m.Up, .int .i64 m.Code, .bool m.HasPlan, .int .i64 m.Plan.Epoch, .int .i64 m.Plan.Target, .int .i64 m.Plan.Prev, .int .i64 m.Plan.Spill, .int .i64 m.Plan.Percent, .int .i64 m.Plan.Stamp, .int .i64 m.Plan.Since, .int .i64 m.Plan.Ramped, .int .u64 m.Plan.Up, .int .u64 m.Plan.Sup, .sl false 1 (List.map (eInt .i64) m.Plan.Pen), .sl false 1 (List.map (eInt .i64) m.Plan.Changes), .sl false 1 (List.map (eInt .i64) m.ID), .sl false 1 (List.map (eInt .u8) m.Session), .sl false 1 (List.map (eInt .u8) m.Payload)], .int .i64 15, .agg [.int .i64 0, .int .i64 0, .int .i64 0, .int .i64 m.Epoch, .int .i64 0, .int .i64 0, .int .i64 0, .int .i64 0, .int .u64 0, .int .i64 0, .bool false, .int .i64 0, .int .i64 0, .int .i64 0, .int .i64 0, .int .i64 0, .int .i64 0, .int .i64 0, .int .i64 0, .int .u64 0, .int .u64 0, .sl false 1 (List.map (eInt .i64) ([])), .sl false 1 (List.map (eInt .i64) ([])), .sl false 1 (List.map (eInt .i64) m.ID), .sl false 1 (List.map (eInt .u8) ([])), .sl false 1 (List.map (eInt .u8) ([]))]] [some ⟨54, true, [([.int .i64 y6.2.1] ++ Plan.encL known ([.int .i64 hold.Epoch, .int .i64 hold.Nonce, .int .u64 hold.Grants, .int .i64 hold.Until, (grD 1 (List.map Entry.enc y6.2.2.2.2.1)), (grD 2 (List.map (eSl 1 (eInt .i64)) y6.2.2.2.2.2.1)), .int .i64 y4.2.1, .int .i64 (IntKind.i64.wrap (y4.2.2 + 1))] ++ Config.encL c [.int .i64 index, .ptr 3 0 0, .bool well]))]⟩, some ⟨3, false, (List.map Entry.enc y6.2.2.2.2.1)⟩, some ⟨1, false, (List.map (eSl 1 (eInt .i64)) y6.2.2.2.2.2.1)⟩, some ⟨4, true, [[(grD 4 (List.map (eInt .u8) y6.2.2.2.2.2.2.1)), (grD 5 (List.map (eInt .u8) y6.2.2.2.2.2.2.2)), .int .i64 y6.2.2.1, .bool y6.2.2.2.1]]⟩, some ⟨1, false, (List.map (eInt .u8) y6.2.2.2.2.2.2.1)⟩, some ⟨1, false, (List.map (eInt .u8) y6.2.2.2.2.2.2.2)⟩] (Rs (Target_reply_e y6.2.1 known hold y4.2.1 (IntKind.i64.wrap (y4.2.2 + 1)) c index well y6.2.2.2.2.1 y6.2.2.2.2.2.1 y6.2.2.1 y6.2.2.2.1 y6.2.2.2.2.2.2.1 y6.2.2.2.2.2.2.2) y)) (Sound E 31 [.ptr 0 0 0, .agg [.int .i64 m.Kind, .int .i64 m.From, .int .i64 m.To, .int .i64 m.Epoch, .int .i64 m.Ballot, .int .i64 m.Accepted, .int .i64 m.Nonce, .int .i64 m.Time, .int .u64 m.Up, .int .i64 m.Code, .bool m.HasPlan, .int .i64 m.Plan.Epoch, .int .i64 m.Plan.Target, .int .i64 m.Plan.Prev, .int .i64 m.Plan.Spill, .int .i64 m.Plan.Percent, .int .i64 m.Plan.Stamp, .int .i64 m.Plan.Since, .int .i64 m.Plan.Ramped, .int .u64 m.Plan.Up, .int .u64 m.Plan.Sup, .sl false 1 (List.map (eInt .i64) m.Plan.Pen), .sl false 1 (List.map (eInt .i64) m.Plan.Changes), .sl false 1 (List.map (eInt .i64) m.ID), .sl false 1 (List.map (eInt .u8) m.Session), .sl false 1 (List.map (eInt .u8) m.Payload)], .int .i64 15, .agg [.int .i64 0, .int .i64 0, .int .i64 0, .int .i64 m.Epoch, .int .i64 0, .int .i64 0, .int .i64 0, .int .i64 0, .int .u64 0, .int .i64 0, .bool false, .int .i64 0, .int .i64 0, .int .i64 0, .int .i64 0, .int .i64 0, .int .i64 0, .int .i64 0, .int .i64 0, .int .u64 0, .int .u64 0, .sl false 1 [], .sl false 1 [], .sl false 1 (List.map (eInt .i64) m.ID), .sl false 1 [], .sl false 1 []]] [some ⟨54, true, [([.int .i64 y6.2.1] ++ Plan.encL known ([.int .i64 hold.Epoch, .int .i64 hold.Nonce, .int .u64 hold.Grants, .int .i64 hold.Until, (grD 1 (List.map Entry.enc y6.2.2.2.2.1)), (grD 2 (List.map (eSl 1 (eInt .i64)) y6.2.2.2.2.2.1)), .int .i64 y4.2.1, .int .i64 (IntKind.i64.wrap (y4.2.2 + 1))] ++ Config.encL c [.int .i64 index, .ptr 3 0 0, .bool well]))]⟩, some ⟨3, false, (List.map Entry.enc y6.2.2.2.2.1)⟩, some ⟨1, false, (List.map (eSl 1 (eInt .i64)) y6.2.2.2.2.2.1)⟩, some ⟨4, true, [[(grD 4 (List.map (eInt .u8) y6.2.2.2.2.2.2.1)), (grD 5 (List.map (eInt .u8) y6.2.2.2.2.2.2.2)), .int .i64 y6.2.2.1, .bool y6.2.2.2.1]]⟩, some ⟨1, false, (List.map (eInt .u8) y6.2.2.2.2.2.2.1)⟩, some ⟨1, false, (List.map (eInt .u8) y6.2.2.2.2.2.2.2)⟩] (Rs (Target_reply_e y6.2.1 known hold y4.2.1 (IntKind.i64.wrap (y4.2.2 + 1)) c index well y6.2.2.2.2.1 y6.2.2.2.2.2.1 y6.2.2.1 y6.2.2.2.1 y6.2.2.2.2.2.2.1 y6.2.2.2.2.2.2.2) y)) (by kernel_rfl) (Target_reply_ok hy)
   refine zc 0 [some 1, some 1, some 1, some 1] h ok8 fun y8 h => ?_
   exact zu 3 h
  exact zg 1 (Target_write_1_ok h)
 exact zg 1 (Target_write_1_ok h)
noncomputable def Target_write (m : Msg) (now fence : Int) (known : Plan) (hold : Hold) (begun filled : Int) (c : Config) (index : Int) (well : Bool) (b1 : List Entry) (b2 : List (List Int)) (fuse : Int) (down : Bool) (b4 b5 : List Int) : Option ((List Msg) × Int × Int × Int × Int × Bool × (List Entry) × (List (List Int)) × (List Int) × (List Int)) := (bif (((((List.map (eInt .i64) m.ID).length : Nat) : Int) : Int) != 3) then (some ([], fence, begun, filled, fuse, down, b1, b2, b4, b5)) else ((slices_IndexFunc__is b1 m).bind fun y2 => (bif (decide ((y2 : Int) ≥ 0)) then (bif ((decide ((0 : Int) ≤ y2)) && (decide ((y2 : Int) < (((List.map Entry.enc b1).length : Nat) : Int)))) then (((b1)[(0 + y2.toNat)]?).bind fun y5 => ((Target_reply m 15 (⟨0, 0, 0, y5.Epoch, 0, 0, 0, 0, 0, 0, false, (⟨0, 0, 0, 0, 0, 0, 0, 0, 0, 0, [], []⟩ : Plan), m.ID, [], []⟩ : Msg) fence known hold begun filled c index well b1 b2 fuse down b4 b5).bind fun y7 => (some (y7, fence, begun, filled, fuse, down, b1, b2, b4, b5)))) else none) else ((slices_ContainsFunc__same b2 m).bind fun y8 => (bif y8 then ((Target_reply m 15 (⟨0, 0, 0, m.Epoch, 0, 0, 0, 0, 0, 1, false, (⟨0, 0, 0, 0, 0, 0, 0, 0, 0, 0, [], []⟩ : Plan), m.ID, [], []⟩ : Msg) fence known hold begun filled c index well b1 b2 fuse down b4 b5).bind fun y10 => (some (y10, fence, begun, filled, fuse, down, b1, b2, b4, b5))) else (bif (decide ((m.Epoch : Int) > known.Epoch)) then (some ([], fence, begun, filled, fuse, down, b1, b2, b4, b5)) else (bif ((m.Epoch : Int) == known.Epoch) then ((plan_Names known index).bind fun y13 => (bif y13 then (Target_write_2 m now fence known hold begun filled c index well b1 b2 fuse down b4 b5 (decide ((m.Epoch : Int) ≥ fence)) (⟨0, 0, 0, m.Epoch, 0, 0, 0, 0, 0, 1, false, (⟨0, 0, 0, 0, 0, 0, 0, 0, 0, 0, [], []⟩ : Plan), m.ID, [], []⟩ : Msg)) else (Target_write_2 m now fence known hold begun filled c index well b1 b2 fuse down b4 b5 false (⟨0, 0, 0, m.Epoch, 0, 0, 0, 0, 0, 1, false, (⟨0, 0, 0, 0, 0, 0, 0, 0, 0, 0, [], []⟩ : Plan), m.ID, [], []⟩ : Msg)))) else (Target_write_2 m now fence known hold begun filled c index well b1 b2 fuse down b4 b5 false (⟨0, 0, 0, m.Epoch, 0, 0, 0, 0, 0, 1, false, (⟨0, 0, 0, 0, 0, 0, 0, 0, 0, 0, [], []⟩ : Plan), m.ID, [], []⟩ : Msg)))))))))
theorem Target_write_ok {m : Msg} {now fence : Int} {known : Plan} {hold : Hold} {begun filled : Int} {c : Config} {index : Int} {well : Bool} {b1 : List Entry} {b2 : List (List Int)} {fuse : Int} {down : Bool} {b4 b5 : List Int} {r : (List Msg) × Int × Int × Int × Int × Bool × (List Entry) × (List (List Int)) × (List Int) × (List Int)} (h : Target_write m now fence known hold begun filled c index well b1 b2 fuse down b4 b5 = some r) : Sound E 36 [.ptr 0 0 0, .agg [.int .i64 m.Kind, .int .i64 m.From, .int .i64 m.To, .int .i64 m.Epoch, .int .i64 m.Ballot, .int .i64 m.Accepted, .int .i64 m.Nonce, .int .i64 m.Time, .int .u64 m.Up, .int .i64 m.Code, .bool m.HasPlan, .int .i64 m.Plan.Epoch, .int .i64 m.Plan.Target, .int .i64 m.Plan.Prev, .int .i64 m.Plan.Spill, .int .i64 m.Plan.Percent, .int .i64 m.Plan.Stamp, .int .i64 m.Plan.Since, .int .i64 m.Plan.Ramped, .int .u64 m.Plan.Up, .int .u64 m.Plan.Sup, .sl false 1 (List.map (eInt .i64) m.Plan.Pen), .sl false 1 (List.map (eInt .i64) m.Plan.Changes), .sl false 1 (List.map (eInt .i64) m.ID), .sl false 1 (List.map (eInt .u8) m.Session), .sl false 1 (List.map (eInt .u8) m.Payload)], .int .i64 now] [some ⟨54, true, [([.int .i64 fence] ++ Plan.encL known ([.int .i64 hold.Epoch, .int .i64 hold.Nonce, .int .u64 hold.Grants, .int .i64 hold.Until, (grD 1 (List.map Entry.enc b1)), (grD 2 (List.map (eSl 1 (eInt .i64)) b2)), .int .i64 begun, .int .i64 filled] ++ Config.encL c [.int .i64 index, .ptr 3 0 0, .bool well]))]⟩, some ⟨3, false, (List.map Entry.enc b1)⟩, some ⟨1, false, (List.map (eSl 1 (eInt .i64)) b2)⟩, some ⟨4, true, [[(grD 4 (List.map (eInt .u8) b4)), (grD 5 (List.map (eInt .u8) b5)), .int .i64 fuse, .bool down]]⟩, some ⟨1, false, (List.map (eInt .u8) b4)⟩, some ⟨1, false, (List.map (eInt .u8) b5)⟩] (Rs (Target_write_e known hold c index well) r) := so (fn := Tryd.f36) (k := true) (m := 6) h <| by
 intro r h; unfold Target_write at h
 refine zs 15 h (fun h => ?_) fun h => ?_
 ·
  refine zf 4 [.mv 1, .mv 2, .mv 4, .mv 5] ?_
  exact zu 1 h [.slot 0 [some 26]]
 refine zm 20 (ble_full ((List.map Entry.enc b1).length)) ?_
 refine zcE 0 [] (args1 := [.sl false 3 (List.take ((List.map Entry.enc b1).length) (List.drop 0 (List.map Entry.enc b1))), .fn 58 [] [.iptr 1 [[.fn 55 [] [.iptr 26 [[.int .i64 m.Kind, .int .i64 m.From, .int .i64 m.To, .int .i64 m.Epoch, .int .i64 m.Ballot, .int .i64 m.Accepted, .int .i64 m.Nonce, .int .i64 m.Time, .int .u64 m.Up, .int .i64 m.Code, .bool m.HasPlan, .int .i64 m.Plan.Epoch, .int .i64 m.Plan.Target, .int .i64 m.Plan.Prev, .int .i64 m.Plan.Spill, .int .i64 m.Plan.Percent, .int .i64 m.Plan.Stamp, .int .i64 m.Plan.Since, .int .i64 m.Plan.Ramped, .int .u64 m.Plan.Up, .int .u64 m.Plan.Sup, .sl false 1 (List.map (eInt .i64) m.Plan.Pen), .sl false 1 (List.map (eInt .i64) m.Plan.Changes), .sl false 1 (List.map (eInt .i64) m.ID), .sl false 1 (List.map (eInt .u8) m.Session), .sl false 1 (List.map (eInt .u8) m.Payload)]] 0 0]]] 0 0]]) h (fun _ => slices_IndexFunc__is_ok) ⟨by simp [List.take_of_length_le, List.map_take, List.map_drop], rfl⟩ fun y2 h => ?_
 refine zs 8 h (fun h => ?_) fun h => ?_
 ·
  refine zn 4 h fun h => ?_
  refine zr 0 Entry.enc h fun y5 h => ?_
  refine zdR 1 [some 1, some 1, some 1, some 1] h (fun _ => Target_reply_ok) fun y7 h => ?_
  refine zf 0 [.mv 1, .mv 2, .mv 4, .mv 5] ?_
  exact zu 1 h
 refine zm 20 (b := (Nat.ble (0 + (List.map (eSl 1 (eInt .i64)) b2).length) ((List.map (eSl 1 (eInt .i64)) b2).length))) (ble_full _) ?_
 refine zdE 0 [] (args1 := [.sl false 1 (List.take ((List.map (eSl 1 (eInt .i64)) b2).length) (List.drop 0 (List.map (eSl 1 (eInt .i64)) b2))), .fn 55 [] [.iptr 26 [[.int .i64 m.Kind, .int .i64 m.From, .int .i64 m.To, .int .i64 m.Epoch, .int .i64 m.Ballot, .int .i64 m.Accepted, .int .i64 m.Nonce, .int .i64 m.Time, .int .u64 m.Up, .int .i64 m.Code, .bool m.HasPlan, .int .i64 m.Plan.Epoch, .int .i64 m.Plan.Target, .int .i64 m.Plan.Prev, .int .i64 m.Plan.Spill, .int .i64 m.Plan.Percent, .int .i64 m.Plan.Stamp, .int .i64 m.Plan.Since, .int .i64 m.Plan.Ramped, .int .u64 m.Plan.Up, .int .u64 m.Plan.Sup, .sl false 1 (List.map (eInt .i64) m.Plan.Pen), .sl false 1 (List.map (eInt .i64) m.Plan.Changes), .sl false 1 (List.map (eInt .i64) m.ID), .sl false 1 (List.map (eInt .u8) m.Session), .sl false 1 (List.map (eInt .u8) m.Payload)]] 0 0]]) h (fun _ => slices_ContainsFunc__same_ok) (by simp [List.take_of_length_le, List.map_take, List.map_drop]) fun y8 h => ?_
 refine zs 1 h (fun h => ?_) fun h => ?_
 ·
  refine adv_ok hm 8 _ ?_
  have ok10 := fun (y : List Msg) (hy : Target_reply m 15 (⟨0, 0, 0, m.Epoch, 0, 0, 0, 0, 0, 1, false, (⟨0, 0, 0, 0, 0, 0, 0, 0, 0, 0, [], []⟩ : Plan), m.ID, [], []⟩ : Msg) fence known hold begun filled c index well b1 b2 fuse down b4 b5 = some y) => @Eq.mp (Sound E 31 [.ptr 0 0 0, .agg [.int .i64 m.Kind, .int .i64 m.From, .int .i64 m.To, .int .i64 m.Epoch, .int .i64 m.Ballot, .int .i64 m.Accepted, .int .i64 m.Nonce, .int .i64 m.Time, .int .u64 m.Up, .int .i64 m.Code, .bool m.HasPlan, .int .i64 m.Plan.Epoch, .int .i64 m.Plan.Target, .int .i64 m.Plan.Prev, .int .i64 m.Plan.Spill, .int .i64 m.Plan.Percent, .int .i64 m.Plan.Stamp, .int .i64 m.Plan.Since, .int .i64 m.Plan.Ramped, .int .u64 m.Plan.Up, .int .u64 m.Plan.Sup, .sl false 1 (List.map (eInt .i64) m.Plan.Pen), .sl false 1 (List.map (eInt .i64) m.Plan.Changes), .sl false 1 (List.map (eInt .i64) m.ID), .sl false 1 (List.map (eInt .u8) m.Session), .sl false 1 (List.map (eInt .u8) m.Payload)], .int .i64 15, .agg [.int .i64 0, .int .i64 0, .int .i64 0, .int .i64 m.Epoch, .int .i64 0, .int .i64 0, .int .i64 0, .int .i64 0, .int .u64 0, .int .i64 1, .bool false, .int .i64 0, .int .i64 0, .int .i64 0, .int .i64 0, .int .i64 0, .int .i64 0, .int .i64 0, .int .i64 0, .int .u64 0, .int .u64 0, .sl false 1 (List.map (eInt .i64) ([])), .sl false 1 (List.map (eInt .i64) ([])), .sl false 1 (List.map (eInt .i64) m.ID), .sl false 1 (List.map (eInt .u8) ([])), .sl false 1 (List.map (eInt .u8) ([]))]] [some ⟨54, true, [([.int .i64 fence] ++ Plan.encL known ([.int .i64 hold.Epoch, .int .i64 hold.Nonce, .int .u64 hold.Grants, .int .i64 hold.Until, (grD 1 (List.map Entry.enc b1)), (grD 2 (List.map (eSl 1 (eInt .i64)) b2)), .int .i64 begun, .int .i64 filled] ++ Config.encL c [.int .i64 index, .ptr 3 0 0, .bool well]))]⟩, some ⟨3, false, (List.map Entry.enc b1)⟩, some ⟨1, false, (List.map (eSl 1 (eInt .i64)) b2)⟩, some ⟨4, true, [[(grD 4 (List.map (eInt .u8) b4)), (grD 5 (List.map (eInt .u8) b5)), .int .i64 fuse, .bool down]]⟩, some ⟨1, false, (List.map (eInt .u8) b4)⟩, some ⟨1, false, (List.map (eInt .u8) b5)⟩] (Rs (Target_reply_e fence known hold begun filled c index well b1 b2 fuse down b4 b5) y)) (Sound E 31 [.ptr 0 0 0, .agg [.int .i64 m.Kind, .int .i64 m.From, .int .i64 m.To, .int .i64 m.Epoch, .int .i64 m.Ballot, .int .i64 m.Accepted, .int .i64 m.Nonce, .int .i64 m.Time, .int .u64 m.Up, .int .i64 m.Code, .bool m.HasPlan, .int .i64 m.Plan.Epoch, .int .i64 m.Plan.Target, .int .i64 m.Plan.Prev, .int .i64 m.Plan.Spill, .int .i64 m.Plan.Percent, .int .i64 m.Plan.Stamp, .int .i64 m.Plan.Since, .int .i64 m.Plan.Ramped, .int .u64 m.Plan.Up, .int .u64 m.Plan.Sup, .sl false 1 (List.map (eInt .i64) m.Plan.Pen), .sl false 1 (List.map (eInt .i64) m.Plan.Changes), .sl false 1 (List.map (eInt .i64) m.ID), .sl false 1 (List.map (eInt .u8) m.Session), .sl false 1 (List.map (eInt .u8) m.Payload)], .int .i64 15, .agg [.int .i64 0, .int .i64 0, .int .i64 0, .int .i64 m.Epoch, .int .i64 0, .int .i64 0, .int .i64 0, .int .i64 0, .int .u64 0, .int .i64 1, .bool false, .int .i64 0, .int .i64 0, .int .i64 0, .int .i64 0, .int .i64 0, .int .i64 0, .int .i64 0, .int .i64 0, .int .u64 0, .int .u64 0, .sl false 1 [], .sl false 1 [], .sl false 1 (List.map (eInt .i64) m.ID), .sl false 1 [], .sl false 1 []]] [some ⟨54, true, [([.int .i64 fence] ++ Plan.encL known ([.int .i64 hold.Epoch, .int .i64 hold.Nonce, .int .u64 hold.Grants, .int .i64 hold.Until, (grD 1 (List.map Entry.enc b1)), (grD 2 (List.map (eSl 1 (eInt .i64)) b2)), .int .i64 begun, .int .i64 filled] ++ Config.encL c [.int .i64 index, .ptr 3 0 0, .bool well]))]⟩, some ⟨3, false, (List.map Entry.enc b1)⟩, some ⟨1, false, (List.map (eSl 1 (eInt .i64)) b2)⟩, some ⟨4, true, [[(grD 4 (List.map (eInt .u8) b4)), (grD 5 (List.map (eInt .u8) b5)), .int .i64 fuse, .bool down]]⟩, some ⟨1, false, (List.map (eInt .u8) b4)⟩, some ⟨1, false, (List.map (eInt .u8) b5)⟩] (Rs (Target_reply_e fence known hold begun filled c index well b1 b2 fuse down b4 b5) y)) (by kernel_rfl) (Target_reply_ok hy)
  refine zc 0 [some 1, some 1, some 1, some 1] h ok10 fun y10 h => ?_
  refine zf 2 [.mv 1, .mv 2, .mv 4, .mv 5, .blk 8 [some 1, some 1, some 1, some 1]] ?_
  exact zu 1 h
 refine zs 7 h (fun h => ?_) fun h => ?_
 ·
  refine zf 4 [.mv 1, .mv 2, .mv 4, .mv 5, .blk 8 [some 1, some 1, some 1, some 1]] ?_
  exact zu 1 h [.slot 0 [some 26]]
 refine zs 6 h (fun h => ?_) fun h => ?_
 ·
  refine zd 11 [] h (fun _ => plan_Names_ok) fun y13 h => ?_
  refine zs 1 h (fun h => ?_) fun h => ?_
  ·
   exact zg 10 (Target_write_2_ok h) [.blk 8 [some 1, some 1, some 1, some 1]]
  exact zg 8 (Target_write_2_ok h) [.blk 8 [some 1, some 1, some 1, some 1]]
 exact zg 19 (Target_write_2_ok h) [.blk 8 [some 1, some 1, some 1, some 1]]
end Go.RX.L
