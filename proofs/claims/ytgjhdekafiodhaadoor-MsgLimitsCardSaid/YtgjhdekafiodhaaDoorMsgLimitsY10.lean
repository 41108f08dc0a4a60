/-
  Words and walks for MsgLimits. No condition.
-/
import Derived.Test.YtgjhdekafiodhaaDoorMsgLimitsY9
set_option linter.unusedSimpArgs false
set_option linter.unusedVariables false
set_option maxRecDepth 100000
namespace Go.RX.L
open Go Go.RX Go.Proofs
theorem law05_MsgLimits_of_t22 {n : Nat} {ds : List D} (h : wtF Tryd.prog (n + 1) 22 ds) : ∃ x : Int, ds = (eInt .i64) x ∧ inK .i64 x := by
  obtain ⟨m, rfl, o⟩ := wt_int (k := .i64) (by kernel_rfl) h
  exact ⟨m, rfl, o⟩
theorem law05_MsgLimits_of_t3 {n : Nat} {ds : List D} (h : wtF Tryd.prog (n + 1) 3 ds) : ∃ x : Int, ds = (eInt .i64) x ∧ inK .i64 x := by
  obtain ⟨m, rfl, o⟩ := wt_int (k := .i64) (by kernel_rfl) h
  exact ⟨m, rfl, o⟩
theorem law05_MsgLimits_of_t2 {n : Nat} {ds : List D} (h : wtF Tryd.prog (n + 1) 2 ds) : ∃ x : Int, ds = (eInt .i64) x ∧ inK .i64 x := by
  obtain ⟨m, rfl, o⟩ := wt_int (k := .i64) (by kernel_rfl) h
  exact ⟨m, rfl, o⟩
theorem law05_MsgLimits_of_t23 {n : Nat} {ds : List D} (h : wtF Tryd.prog (n + 1) 23 ds) : ∃ x : Int, ds = (eInt .u64) x ∧ inK .u64 x := by
  obtain ⟨m, rfl, o⟩ := wt_int (k := .u64) (by kernel_rfl) h
  exact ⟨m, rfl, o⟩
theorem law05_MsgLimits_of_t4 {n : Nat} {ds : List D} (h : wtF Tryd.prog (n + 1) 4 ds) : ∃ x : Bool, ds = eBool x ∧ True := by
  obtain ⟨m, rfl⟩ := wt_bool (by kernel_rfl) h
  exact ⟨m, rfl, trivial⟩
theorem law05_MsgLimits_of_t24 {n : Nat} {ds : List D} (h : wtF Tryd.prog (n + 2) 24 ds) : ∃ x : List Int, ds = (eSl 1 (eInt .i64)) x ∧ (x.length * 8 ≤ reachBytes ∧ ∀ y ∈ x, inK .i64 y) := by
  obtain ⟨rows, rfl, o, w⟩ := wt_slice (n := n + 1) (e := 3) (sz := 1) (by_ := 8) (by kernel_rfl) (by kernel_rfl) (by kernel_rfl) h
  obtain ⟨l, rfl, q⟩ := wt_rows (en := (eInt .i64)) (Ok := fun y => inK .i64 y) (fun r hr => law05_MsgLimits_of_t3 (n := n + 0) hr) rows w
  exact ⟨l, rfl, by simpa using o, q⟩
theorem law05_MsgLimits_of_t25 {n : Nat} {ds : List D} (h : wtF Tryd.prog (n + 2) 25 ds) : ∃ x : List Int, ds = (eSl 1 (eInt .i64)) x ∧ (x.length * 8 ≤ reachBytes ∧ ∀ y ∈ x, inK .i64 y) := by
  obtain ⟨rows, rfl, o, w⟩ := wt_slice (n := n + 1) (e := 2) (sz := 1) (by_ := 8) (by kernel_rfl) (by kernel_rfl) (by kernel_rfl) h
  obtain ⟨l, rfl, q⟩ := wt_rows (en := (eInt .i64)) (Ok := fun y => inK .i64 y) (fun r hr => law05_MsgLimits_of_t2 (n := n + 0) hr) rows w
  exact ⟨l, rfl, by simpa using o, q⟩
theorem law05_MsgLimits_of_t27 {n : Nat} {ds : List D} (h : wtF Tryd.prog (n + 3) 27 ds) : ∃ x : Plan, ds = Plan.enc x ∧ x.Ok := by
  have h0 := wt_struct (n := n + 2) (ts := [2, 3, 3, 3, 3, 2, 2, 2, 23, 23, 24, 25]) (by kernel_rfl) h
  obtain ⟨a0, b0, rfl, w0, h1⟩ := wtL_cons h0
  obtain ⟨x0, rfl, o0⟩ := law05_MsgLimits_of_t2 (n := n + 1) w0
  obtain ⟨a1, b1, rfl, w1, h2⟩ := wtL_cons h1
  obtain ⟨x1, rfl, o1⟩ := law05_MsgLimits_of_t3 (n := n + 1) w1
  obtain ⟨a2, b2, rfl, w2, h3⟩ := wtL_cons h2
  obtain ⟨x2, rfl, o2⟩ := law05_MsgLimits_of_t3 (n := n + 1) w2
  obtain ⟨a3, b3, rfl, w3, h4⟩ := wtL_cons h3
  obtain ⟨x3, rfl, o3⟩ := law05_MsgLimits_of_t3 (n := n + 1) w3
  obtain ⟨a4, b4, rfl, w4, h5⟩ := wtL_cons h4
  obtain ⟨x4, rfl, o4⟩ := law05_MsgLimits_of_t3 (n := n + 1) w4
  obtain ⟨a5, b5, rfl, w5, h6⟩ := wtL_cons h5
  obtain ⟨x5, rfl, o5⟩ := law05_MsgLimits_of_t2 (n := n + 1) w5
  obtain ⟨a6, b6, rfl, w6, h7⟩ := wtL_cons h6
  obtain ⟨x6, rfl, o6⟩ := law05_MsgLimits_of_t2 (n := n + 1) w6
  obtain ⟨a7, b7, rfl, w7, h8⟩ := wtL_cons h7
  obtain ⟨x7, rfl, o7⟩ := law05_MsgLimits_of_t2 (n := n + 1) w7
  obtain ⟨a8, b8, rfl, w8, h9⟩ := wtL_cons h8
  obtain ⟨x8, rfl, o8⟩ := law05_MsgLimits_of_t23 (n := n + 1) w8
  obtain ⟨a9, b9, rfl, w9, h10⟩ := wtL_cons h9
  obtain ⟨x9, rfl, o9⟩ := law05_MsgLimits_of_t23 (n := n + 1) w9
  obtain ⟨a10, b10, rfl, w10, h11⟩ := wtL_cons h10
  obtain ⟨x10, rfl, o10⟩ := law05_MsgLimits_of_t24 (n := n + 0) w10
  obtain ⟨a11, b11, rfl, w11, h12⟩ := wtL_cons h11
  obtain ⟨x11, rfl, o11⟩ := law05_MsgLimits_of_t25 (n := n + 0) w11
  obtain rfl := wtL_nil h12
  exact ⟨⟨x0, x1, x2, x3, x4, x5, x6, x7, x8, x9, x10, x11⟩, rfl, o0, o1, o2, o3, o4, o5, o6, o7, o8, o9, o10, o11⟩
theorem law05_MsgLimits_of_t5 {n : Nat} {ds : List D} (h : wtF Tryd.prog (n + 1) 5 ds) : ∃ x : Int, ds = (eInt .u8) x ∧ inK .u8 x := by
  obtain ⟨m, rfl, o⟩ := wt_int (k := .u8) (by kernel_rfl) h
  exact ⟨m, rfl, o⟩
theorem law05_MsgLimits_of_t28 {n : Nat} {ds : List D} (h : wtF Tryd.prog (n + 2) 28 ds) : ∃ x : List Int, ds = (eSl 1 (eInt .u8)) x ∧ (x.length * 1 ≤ reachBytes ∧ ∀ y ∈ x, inK .u8 y) := by
  obtain ⟨rows, rfl, o, w⟩ := wt_slice (n := n + 1) (e := 5) (sz := 1) (by_ := 1) (by kernel_rfl) (by kernel_rfl) (by kernel_rfl) h
  obtain ⟨l, rfl, q⟩ := wt_rows (en := (eInt .u8)) (Ok := fun y => inK .u8 y) (fun r hr => law05_MsgLimits_of_t5 (n := n + 0) hr) rows w
  exact ⟨l, rfl, by simpa using o, q⟩
theorem law05_MsgLimits_of_t30 {n : Nat} {ds : List D} (h : wtF Tryd.prog (n + 4) 30 ds) : ∃ x : Msg, ds = Msg.enc x ∧ x.Ok := by
  have h0 := wt_struct (n := n + 3) (ts := [22, 3, 3, 2, 2, 2, 2, 2, 23, 3, 4, 27, 25, 28, 28]) (by kernel_rfl) h
  obtain ⟨a0, b0, rfl, w0, h1⟩ := wtL_cons h0
  obtain ⟨x0, rfl, o0⟩ := law05_MsgLimits_of_t22 (n := n + 2) w0
  obtain ⟨a1, b1, rfl, w1, h2⟩ := wtL_cons h1
  obtain ⟨x1, rfl, o1⟩ := law05_MsgLimits_of_t3 (n := n + 2) w1
  obtain ⟨a2, b2, rfl, w2, h3⟩ := wtL_cons h2
  obtain ⟨x2, rfl, o2⟩ := law05_MsgLimits_of_t3 (n := n + 2) w2
  obtain ⟨a3, b3, rfl, w3, h4⟩ := wtL_cons h3
  obtain ⟨x3, rfl, o3⟩ := law05_MsgLimits_of_t2 (n := n + 2) w3
  obtain ⟨a4, b4, rfl, w4, h5⟩ := wtL_cons h4
  obtain ⟨x4, rfl, o4⟩ := law05_MsgLimits_of_t2 (n := n + 2) w4
  obtain ⟨a5, b5, rfl, w5, h6⟩ := wtL_cons h5
  obtain ⟨x5, rfl, o5⟩ := law05_MsgLimits_of_t2 (n := n + 2) w5
  obtain ⟨a6, b6, rfl, w6, h7⟩ := wtL_cons h6
  obtain ⟨x6, rfl, o6⟩ := law05_MsgLimits_of_t2 (n := n + 2) w6
  obtain ⟨a7, b7, rfl, w7, h8⟩ := wtL_cons h7
  obtain ⟨x7, rfl, o7⟩ := law05_MsgLimits_of_t2 (n := n + 2) w7
  obtain ⟨a8, b8, rfl, w8, h9⟩ := wtL_cons h8
  obtain ⟨x8, rfl, o8⟩ := law05_MsgLimits_of_t23 (n := n + 2) w8
  obtain ⟨a9, b9, rfl, w9, h10⟩ := wtL_cons h9
  obtain ⟨x9, rfl, o9⟩ := law05_MsgLimits_of_t3 (n := n + 2) w9
  obtain ⟨a10, b10, rfl, w10, h11⟩ := wtL_cons h10
  obtain ⟨x10, rfl, o10⟩ := law05_MsgLimits_of_t4 (n := n + 2) w10
  obtain ⟨a11, b11, rfl, w11, h12⟩ := wtL_cons h11
  obtain ⟨x11, rfl, o11⟩ := law05_MsgLimits_of_t27 (n := n + 0) w11
  obtain ⟨a12, b12, rfl, w12, h13⟩ := wtL_cons h12
  obtain ⟨x12, rfl, o12⟩ := law05_MsgLimits_of_t25 (n := n + 1) w12
  obtain ⟨a13, b13, rfl, w13, h14⟩ := wtL_cons h13
  obtain ⟨x13, rfl, o13⟩ := law05_MsgLimits_of_t28 (n := n + 1) w13
  obtain ⟨a14, b14, rfl, w14, h15⟩ := wtL_cons h14
  obtain ⟨x14, rfl, o14⟩ := law05_MsgLimits_of_t28 (n := n + 1) w14
  obtain rfl := wtL_nil h15
  exact ⟨⟨x0, x1, x2, x3, x4, x5, x6, x7, x8, x9, x10, x11, x12, x13, x14⟩, rfl, o0, o1, o2, o3, o4, o5, o6, o7, o8, o9, o10, o11, o12, o13, o14⟩
theorem law05_MsgLimits_sound (H : ∀ (m : Msg), m.Ok → law05_MsgLimits m = some true) : ∀ xs, wtA Tryd.prog Tryd.f8.params.toList xs → Sound E 8 xs [] fun d _ => d = .bool true := by
  intro xs h
  have h0 : wtA Tryd.prog [30] xs := h
  obtain ⟨d0, r0, rfl, w0, h1⟩ := wtA_cons h0
  obtain ⟨c0, rfl, v0⟩ := wtP_agg (by kernel_rfl) w0
  obtain ⟨x0, rfl, o0⟩ := law05_MsgLimits_of_t30 (n := 2) v0
  obtain rfl := wtA_nil h1
  exact (law05_MsgLimits_ok (H x0 o0)).mono fun d s h => h.1
end Go.RX.L

set_option linter.unusedSimpArgs false
set_option linter.unusedVariables false
set_option maxRecDepth 100000
namespace Go.RX.L
open Go Go.RX

theorem not_right {m : Msg} (h : ¬ (hdM m ∧ txM m)) : rightM m = false := by
  rw [Bool.eq_false_iff]
  intro hr
  exact h ⟨(right_and hr).1, (right_and hr).2.1⟩
theorem msgLimits : ∀ (m : Msg), m.Ok → law05_MsgLimits m = some true := by
  intro m hm
  have hf := hm.fine
  have hs := hf.sh
  have no : ∀ m' : Msg, m'.Plan = m.Plan → ¬ (hdM m' ∧ txM m') → msg_Right m' = some false := by
    intro m' hp h
    have := mright_ok (m := m') ⟨hp ▸ hs.s, hp ▸ hs.up, hp ▸ hs.sup⟩
    rw [not_right h] at this
    exact this
  simp only [law05_MsgLimits, head_ok, mright_ok hs, Option.bind_some]
  cases r : rightM m
  · rfl
  · simp only [Bool.not_true, cond_false, cond_true]
    rw [no _ (by rfl) (fun h => absurd h.1 (by unfold hdM; simp only; omega))]
    simp only [Option.bind_some, Bool.not_false, cond_true]
    rw [no _ (by rfl) (fun h => absurd h.1 (by unfold hdM; simp only; omega))]
    simp only [Option.bind_some, Bool.not_false, cond_true]
    rw [no _ (by rfl) (fun h => absurd h.1 (by unfold hdM; simp only; omega))]
    simp only [Option.bind_some, Bool.not_false, cond_true]
    rw [no _ (by rfl) (fun h => absurd h.1 (by unfold hdM; simp only; omega))]
    simp only [Option.bind_some, Bool.not_false, cond_true]
    rw [no _ (by rfl) (fun h => absurd h.1 (by unfold hdM; simp only; omega))]
    simp only [Option.bind_some, Bool.not_false, cond_true]
    rw [no _ (by rfl) (fun h => absurd (show ([1, 2] : List Int).length = 0 ∨ ([1, 2] : List Int).length = 3 from h.2.1) (by decide))]
    simp only [Option.bind_some, Bool.not_false, cond_true]
    rw [no _ (by rfl) (fun h => by have h3 := h.2.2.2; dsimp only at h3; exact absurd h3 (by decide +kernel))]
    rfl

end Go.RX.L
