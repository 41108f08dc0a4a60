/-
  Words and walks for MsgBack. No condition.
-/
import Derived.Test.YtgjhdekafiodhaaDoorMsgBackY9
set_option linter.unusedSimpArgs false
set_option linter.unusedVariables false
set_option maxRecDepth 100000
namespace Go.RX.L
open Go Go.RX Go.Proofs
theorem law05_MsgBack_of_t22 {n : Nat} {ds : List D} (h : wtF Tryd.prog (n + 1) 22 ds) : ∃ x : Int, ds = (eInt .i64) x ∧ inK .i64 x := by
  obtain ⟨m, rfl, o⟩ := wt_int (k := .i64) (by kernel_rfl) h
  exact ⟨m, rfl, o⟩
theorem law05_MsgBack_of_t3 {n : Nat} {ds : List D} (h : wtF Tryd.prog (n + 1) 3 ds) : ∃ x : Int, ds = (eInt .i64) x ∧ inK .i64 x := by
  obtain ⟨m, rfl, o⟩ := wt_int (k := .i64) (by kernel_rfl) h
  exact ⟨m, rfl, o⟩
theorem law05_MsgBack_of_t2 {n : Nat} {ds : List D} (h : wtF Tryd.prog (n + 1) 2 ds) : ∃ x : Int, ds = (eInt .i64) x ∧ inK .i64 x := by
  obtain ⟨m, rfl, o⟩ := wt_int (k := .i64) (by kernel_rfl) h
  exact ⟨m, rfl, o⟩
theorem law05_MsgBack_of_t23 {n : Nat} {ds : List D} (h : wtF Tryd.prog (n + 1) 23 ds) : ∃ x : Int, ds = (eInt .u64) x ∧ inK .u64 x := by
  obtain ⟨m, rfl, o⟩ := wt_int (k := .u64) (by kernel_rfl) h
  exact ⟨m, rfl, o⟩
theorem law05_MsgBack_of_t4 {n : Nat} {ds : List D} (h : wtF Tryd.prog (n + 1) 4 ds) : ∃ x : Bool, ds = eBool x ∧ True := by
  obtain ⟨m, rfl⟩ := wt_bool (by kernel_rfl) h
  exact ⟨m, rfl, trivial⟩
theorem law05_MsgBack_of_t24 {n : Nat} {ds : List D} (h : wtF Tryd.prog (n + 2) 24 ds) : ∃ x : List Int, ds = (eSl 1 (eInt .i64)) x ∧ (x.length * 8 ≤ reachBytes ∧ ∀ y ∈ x, inK .i64 y) := by
  obtain ⟨rows, rfl, o, w⟩ := wt_slice (n := n + 1) (e := 3) (sz := 1) (by_ := 8) (by kernel_rfl) (by kernel_rfl) (by kernel_rfl) h
  obtain ⟨l, rfl, q⟩ := wt_rows (en := (eInt .i64)) (Ok := fun y => inK .i64 y) (fun r hr => law05_MsgBack_of_t3 (n := n + 0) hr) rows w
  exact ⟨l, rfl, by simpa using o, q⟩
theorem law05_MsgBack_of_t25 {n : Nat} {ds : List D} (h : wtF Tryd.prog (n + 2) 25 ds) : ∃ x : List Int, ds = (eSl 1 (eInt .i64)) x ∧ (x.length * 8 ≤ reachBytes ∧ ∀ y ∈ x, inK .i64 y) := by
  obtain ⟨rows, rfl, o, w⟩ := wt_slice (n := n + 1) (e := 2) (sz := 1) (by_ := 8) (by kernel_rfl) (by kernel_rfl) (by kernel_rfl) h
  obtain ⟨l, rfl, q⟩ := wt_rows (en := (eInt .i64)) (Ok := fun y => inK .i64 y) (fun r hr => law05_MsgBack_of_t2 (n := n + 0) hr) rows w
  exact ⟨l, rfl, by simpa using o, q⟩
theorem law05_MsgBack_of_t27 {n : Nat} {ds : List D} (h : wtF Tryd.prog (n + 3) 27 ds) : ∃ x : Plan, ds = Plan.enc x ∧ x.Ok := by
  have h0 := wt_struct (n := n + 2) (ts := [2, 3, 3, 3, 3, 2, 2, 2, 23, 23, 24, 25]) (by kernel_rfl) h
  obtain ⟨a0, b0, rfl, w0, h1⟩ := wtL_cons h0
  obtain ⟨x0, rfl, o0⟩ := law05_MsgBack_of_t2 (n := n + 1) w0
  obtain ⟨a1, b1, rfl, w1, h2⟩ := wtL_cons h1
  obtain ⟨x1, rfl, o1⟩ := law05_MsgBack_of_t3 (n := n + 1) w1
  obtain ⟨a2, b2, rfl, w2, h3⟩ := wtL_cons h2
  obtain ⟨x2, rfl, o2⟩ := law05_MsgBack_of_t3 (n := n + 1) w2
  obtain ⟨a3, b3, rfl, w3, h4⟩ := wtL_cons h3
  obtain ⟨x3, rfl, o3⟩ := law05_MsgBack_of_t3 (n := n + 1) w3
  obtain ⟨a4, b4, rfl, w4, h5⟩ := wtL_cons h4
  obtain ⟨x4, rfl, o4⟩ := law05_MsgBack_of_t3 (n := n + 1) w4
  obtain ⟨a5, b5, rfl, w5, h6⟩ := wtL_cons h5
  obtain ⟨x5, rfl, o5⟩ := law05_MsgBack_of_t2 (n := n + 1) w5
  obtain ⟨a6, b6, rfl, w6, h7⟩ := wtL_cons h6
  obtain ⟨x6, rfl, o6⟩ := law05_MsgBack_of_t2 (n := n + 1) w6
  obtain ⟨a7, b7, rfl, w7, h8⟩ := wtL_cons h7
  obtain ⟨x7, rfl, o7⟩ := law05_MsgBack_of_t2 (n := n + 1) w7
  obtain ⟨a8, b8, rfl, w8, h9⟩ := wtL_cons h8
  obtain ⟨x8, rfl, o8⟩ := law05_MsgBack_of_t23 (n := n + 1) w8
  obtain ⟨a9, b9, rfl, w9, h10⟩ := wtL_cons h9
  obtain ⟨x9, rfl, o9⟩ := law05_MsgBack_of_t23 (n := n + 1) w9
  obtain ⟨a10, b10, rfl, w10, h11⟩ := wtL_cons h10
  obtain ⟨x10, rfl, o10⟩ := law05_MsgBack_of_t24 (n := n + 0) w10
  obtain ⟨a11, b11, rfl, w11, h12⟩ := wtL_cons h11
  obtain ⟨x11, rfl, o11⟩ := law05_MsgBack_of_t25 (n := n + 0) w11
  obtain rfl := wtL_nil h12
  exact ⟨⟨x0, x1, x2, x3, x4, x5, x6, x7, x8, x9, x10, x11⟩, rfl, o0, o1, o2, o3, o4, o5, o6, o7, o8, o9, o10, o11⟩
theorem law05_MsgBack_of_t5 {n : Nat} {ds : List D} (h : wtF Tryd.prog (n + 1) 5 ds) : ∃ x : Int, ds = (eInt .u8) x ∧ inK .u8 x := by
  obtain ⟨m, rfl, o⟩ := wt_int (k := .u8) (by kernel_rfl) h
  exact ⟨m, rfl, o⟩
theorem law05_MsgBack_of_t28 {n : Nat} {ds : List D} (h : wtF Tryd.prog (n + 2) 28 ds) : ∃ x : List Int, ds = (eSl 1 (eInt .u8)) x ∧ (x.length * 1 ≤ reachBytes ∧ ∀ y ∈ x, inK .u8 y) := by
  obtain ⟨rows, rfl, o, w⟩ := wt_slice (n := n + 1) (e := 5) (sz := 1) (by_ := 1) (by kernel_rfl) (by kernel_rfl) (by kernel_rfl) h
  obtain ⟨l, rfl, q⟩ := wt_rows (en := (eInt .u8)) (Ok := fun y => inK .u8 y) (fun r hr => law05_MsgBack_of_t5 (n := n + 0) hr) rows w
  exact ⟨l, rfl, by simpa using o, q⟩
theorem law05_MsgBack_of_t30 {n : Nat} {ds : List D} (h : wtF Tryd.prog (n + 4) 30 ds) : ∃ x : Msg, ds = Msg.enc x ∧ x.Ok := by
  have h0 := wt_struct (n := n + 3) (ts := [22, 3, 3, 2, 2, 2, 2, 2, 23, 3, 4, 27, 25, 28, 28]) (by kernel_rfl) h
  obtain ⟨a0, b0, rfl, w0, h1⟩ := wtL_cons h0
  obtain ⟨x0, rfl, o0⟩ := law05_MsgBack_of_t22 (n := n + 2) w0
  obtain ⟨a1, b1, rfl, w1, h2⟩ := wtL_cons h1
  obtain ⟨x1, rfl, o1⟩ := law05_MsgBack_of_t3 (n := n + 2) w1
  obtain ⟨a2, b2, rfl, w2, h3⟩ := wtL_cons h2
  obtain ⟨x2, rfl, o2⟩ := law05_MsgBack_of_t3 (n := n + 2) w2
  obtain ⟨a3, b3, rfl, w3, h4⟩ := wtL_cons h3
  obtain ⟨x3, rfl, o3⟩ := law05_MsgBack_of_t2 (n := n + 2) w3
  obtain ⟨a4, b4, rfl, w4, h5⟩ := wtL_cons h4
  obtain ⟨x4, rfl, o4⟩ := law05_MsgBack_of_t2 (n := n + 2) w4
  obtain ⟨a5, b5, rfl, w5, h6⟩ := wtL_cons h5
  obtain ⟨x5, rfl, o5⟩ := law05_MsgBack_of_t2 (n := n + 2) w5
  obtain ⟨a6, b6, rfl, w6, h7⟩ := wtL_cons h6
  obtain ⟨x6, rfl, o6⟩ := law05_MsgBack_of_t2 (n := n + 2) w6
  obtain ⟨a7, b7, rfl, w7, h8⟩ := wtL_cons h7
  obtain ⟨x7, rfl, o7⟩ := law05_MsgBack_of_t2 (n := n + 2) w7
  obtain ⟨a8, b8, rfl, w8, h9⟩ := wtL_cons h8
  obtain ⟨x8, rfl, o8⟩ := law05_MsgBack_of_t23 (n := n + 2) w8
  obtain ⟨a9, b9, rfl, w9, h10⟩ := wtL_cons h9
  obtain ⟨x9, rfl, o9⟩ := law05_MsgBack_of_t3 (n := n + 2) w9
  obtain ⟨a10, b10, rfl, w10, h11⟩ := wtL_cons h10
  obtain ⟨x10, rfl, o10⟩ := law05_MsgBack_of_t4 (n := n + 2) w10
  obtain ⟨a11, b11, rfl, w11, h12⟩ := wtL_cons h11
  obtain ⟨x11, rfl, o11⟩ := law05_MsgBack_of_t27 (n := n + 0) w11
  obtain ⟨a12, b12, rfl, w12, h13⟩ := wtL_cons h12
  obtain ⟨x12, rfl, o12⟩ := law05_MsgBack_of_t25 (n := n + 1) w12
  obtain ⟨a13, b13, rfl, w13, h14⟩ := wtL_cons h13
  obtain ⟨x13, rfl, o13⟩ := law05_MsgBack_of_t28 (n := n + 1) w13
  obtain ⟨a14, b14, rfl, w14, h15⟩ := wtL_cons h14
  obtain ⟨x14, rfl, o14⟩ := law05_MsgBack_of_t28 (n := n + 1) w14
  obtain rfl := wtL_nil h15
  exact ⟨⟨x0, x1, x2, x3, x4, x5, x6, x7, x8, x9, x10, x11, x12, x13, x14⟩, rfl, o0, o1, o2, o3, o4, o5, o6, o7, o8, o9, o10, o11, o12, o13, o14⟩
theorem law05_MsgBack_sound (H : ∀ (m : Msg) (n : Msg) (b : List Int), m.Ok → n.Ok → (b.length * 1 ≤ reachBytes ∧ ∀ y ∈ b, inK .u8 y) → law05_MsgBack m n b = some true) : ∀ xs, wtA Tryd.prog Tryd.f5.params.toList xs → Sound E 5 xs [] fun d _ => d = .bool true := by
  intro xs h
  have h0 : wtA Tryd.prog [30, 30, 28] xs := h
  obtain ⟨d0, r0, rfl, w0, h1⟩ := wtA_cons h0
  obtain ⟨c0, rfl, v0⟩ := wtP_agg (by kernel_rfl) w0
  obtain ⟨x0, rfl, o0⟩ := law05_MsgBack_of_t30 (n := 2) v0
  obtain ⟨d1, r1, rfl, w1, h2⟩ := wtA_cons h1
  obtain ⟨c1, rfl, v1⟩ := wtP_agg (by kernel_rfl) w1
  obtain ⟨x1, rfl, o1⟩ := law05_MsgBack_of_t30 (n := 2) v1
  obtain ⟨d2, r2, rfl, w2, h3⟩ := wtA_cons h2
  have v2 := wtP_flat (by kernel_rfl) w2
  obtain ⟨x2, e2, o2⟩ := law05_MsgBack_of_t28 (n := 4) v2
  obtain ⟨rfl, -⟩ := List.cons.inj e2
  obtain rfl := wtA_nil h3
  exact (law05_MsgBack_ok (H x0 x1 x2 o0 o1 o2)).mono fun d s h => h.1
end Go.RX.L

set_option linter.unusedSimpArgs false
set_option linter.unusedVariables false
set_option maxRecDepth 100000
namespace Go.RX.L
open Go Go.RX

theorem back2 {b : List Int} (hb : Bytes b) (hm : b.length ≤ memB) : law05_MsgBack_2 b true false = some true := by
  simp only [law05_MsgBack_2, cond_false, mget_ok hb hm, Option.bind_some]
  rcases getM_snd b with h | ⟨h, h0⟩
  · obtain ⟨h1, h2, h3⟩ := getM_dec hb (m := (getM b).1) (by rw [← h])
    have e : putM (getM b).1 = (b, 0) := by rw [putM, if_pos h1, h3]
    simp only [h, mput_ok h2, e, Option.bind_some, bne_self_eq_false, cond_false, cond_true, beq_self_eq_true]
  · rw [show ((getM b).2 != 0) = true from bne_iff_ne.2 h, h0]
    rfl
theorem enc_inj {m n : Msg} (hm : FineM m) (hn : FineM n) (rm : rightM m = true) (rn : rightM n = true) : decide (encF m.Kind (encB m) = encF n.Kind (encB n)) = sameM m n := by
  rw [Bool.eq_iff_iff, decide_eq_true_eq, sameM_iff]
  refine ⟨fun h => ?_, fun h => by rw [h]⟩
  have h1 := getM_enc hm rm
  rw [h, getM_enc hn rn] at h1
  exact (Prod.mk.inj h1).1.symm
theorem msgBack : ∀ (m : Msg) (n : Msg) (b : List Int), m.Ok → n.Ok → (b.length * 1 ≤ reachBytes ∧ ∀ y ∈ b, inK .u8 y) → law05_MsgBack m n b = some true := by
  intro m n b hm hn h
  obtain ⟨hb, hl⟩ := bytesOf h
  have fm := hm.fine
  have fn := hn.fine
  have b2 := back2 hb hl
  have s1 := msame_ok fm fn hm.idl
  have s2 := rmsame_ok fm fn hm.idl
  simp only [law05_MsgBack, head_ok, mput_ok fm, mput_ok fn, Option.bind_some]
  by_cases rm : rightM m = true
  · have em : putM m = (encF m.Kind (encB m), 0) := by rw [putM, if_pos rm]
    have lm := frame_len fm rm
    have g := mget_ok (frame_bytes fm rm) (by simp only [memB]; omega)
    rw [getM_enc fm rm] at g
    have s := rmsame_ok fm fm hm.idl
    rw [sameM_self] at s
    simp only [em, g, s, Option.bind_some, bne_self_eq_false, cond_false, beq_self_eq_true, cond_true, Bool.not_true]
    unfold law05_MsgBack_1
    simp only [cond_false, beq_self_eq_true, cond_true, s1, s2, Option.bind_some, Bool.not_true]
    by_cases rn : rightM n = true
    · have en : putM n = (encF n.Kind (encB n), 0) := by rw [putM, if_pos rn]
      simp only [en, beq_self_eq_true, cond_true, b8_inj (frame_bytes fm rm) (frame_bytes fn rn), enc_inj fm fn rm rn, Bool.not_true]
      exact b2
    · have en : putM n = ([], 51) := by rw [putM, if_neg rn]
      rw [en]
      exact b2
  · have em : putM m = ([], 51) := by rw [putM, if_neg rm]
    rw [em]
    simp only [s1, s2, Option.bind_some, beq_self_eq_true, Bool.not_true, cond_false]
    exact b2

end Go.RX.L
