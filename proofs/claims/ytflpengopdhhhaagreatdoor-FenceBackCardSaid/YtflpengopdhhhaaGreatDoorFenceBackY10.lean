/-
  Words and walks for FenceBack. No condition.
-/
import Derived.Test.YtflpengopdhhhaaGreatDoorFenceBackY9
set_option linter.unusedSectionVars false
set_option linter.unnecessarySimpa false
set_option linter.unusedSimpArgs false
set_option linter.unusedVariables false
set_option maxRecDepth 100000
namespace Go.RX.L
open Go Go.RX Go.Proofs
theorem law18_FenceBack_of_t3 {n : Nat} {ds : List D} (h : wtF Tryz.prog (n + 1) 3 ds) : ∃ x : Int, ds = (eInt .i64) x ∧ inK .i64 x := by
  obtain ⟨m, rfl, o⟩ := wt_int (k := .i64) (by kernel_rfl) h
  exact ⟨m, rfl, o⟩
theorem law18_FenceBack_of_t22 {n : Nat} {ds : List D} (h : wtF Tryz.prog (n + 2) 22 ds) : ∃ x : List Int, ds = (eSl 1 (eInt .i64)) x ∧ (x.length * 8 ≤ reachBytes ∧ ∀ y ∈ x, inK .i64 y) := by
  obtain ⟨rows, rfl, o, w⟩ := wt_slice (n := n + 1) (e := 3) (sz := 1) (by_ := 8) (by kernel_rfl) (by kernel_rfl) (by kernel_rfl) h
  obtain ⟨l, rfl, q⟩ := wt_rows (en := (eInt .i64)) (Ok := fun y => inK .i64 y) (fun r hr => law18_FenceBack_of_t3 (n := n + 0) hr) rows w
  exact ⟨l, rfl, by simpa using o, q⟩
theorem law18_FenceBack_of_t2 {n : Nat} {ds : List D} (h : wtF Tryz.prog (n + 1) 2 ds) : ∃ x : Int, ds = (eInt .i64) x ∧ inK .i64 x := by
  obtain ⟨m, rfl, o⟩ := wt_int (k := .i64) (by kernel_rfl) h
  exact ⟨m, rfl, o⟩
theorem law18_FenceBack_of_t24 {n : Nat} {ds : List D} (h : wtF Tryz.prog (n + 3) 24 ds) : ∃ x : Config, ds = Config.enc x ∧ x.Ok := by
  have h0 := wt_struct (n := n + 2) (ts := [3, 3, 3, 3, 3, 22, 2, 2, 3, 3, 2, 2, 2, 2, 2, 2, 3, 3, 3, 3, 2, 3, 3, 2, 2, 3, 2, 3, 3, 2]) (by kernel_rfl) h
  obtain ⟨a0, b0, rfl, w0, h1⟩ := wtL_cons h0
  obtain ⟨x0, rfl, o0⟩ := law18_FenceBack_of_t3 (n := n + 1) w0
  obtain ⟨a1, b1, rfl, w1, h2⟩ := wtL_cons h1
  obtain ⟨x1, rfl, o1⟩ := law18_FenceBack_of_t3 (n := n + 1) w1
  obtain ⟨a2, b2, rfl, w2, h3⟩ := wtL_cons h2
  obtain ⟨x2, rfl, o2⟩ := law18_FenceBack_of_t3 (n := n + 1) w2
  obtain ⟨a3, b3, rfl, w3, h4⟩ := wtL_cons h3
  obtain ⟨x3, rfl, o3⟩ := law18_FenceBack_of_t3 (n := n + 1) w3
  obtain ⟨a4, b4, rfl, w4, h5⟩ := wtL_cons h4
  obtain ⟨x4, rfl, o4⟩ := law18_FenceBack_of_t3 (n := n + 1) w4
  obtain ⟨a5, b5, rfl, w5, h6⟩ := wtL_cons h5
  obtain ⟨x5, rfl, o5⟩ := law18_FenceBack_of_t22 (n := n + 0) w5
  obtain ⟨a6, b6, rfl, w6, h7⟩ := wtL_cons h6
  obtain ⟨x6, rfl, o6⟩ := law18_FenceBack_of_t2 (n := n + 1) w6
  obtain ⟨a7, b7, rfl, w7, h8⟩ := wtL_cons h7
  obtain ⟨x7, rfl, o7⟩ := law18_FenceBack_of_t2 (n := n + 1) w7
  obtain ⟨a8, b8, rfl, w8, h9⟩ := wtL_cons h8
  obtain ⟨x8, rfl, o8⟩ := law18_FenceBack_of_t3 (n := n + 1) w8
  obtain ⟨a9, b9, rfl, w9, h10⟩ := wtL_cons h9
  obtain ⟨x9, rfl, o9⟩ := law18_FenceBack_of_t3 (n := n + 1) w9
  obtain ⟨a10, b10, rfl, w10, h11⟩ := wtL_cons h10
  obtain ⟨x10, rfl, o10⟩ := law18_FenceBack_of_t2 (n := n + 1) w10
  obtain ⟨a11, b11, rfl, w11, h12⟩ := wtL_cons h11
  obtain ⟨x11, rfl, o11⟩ := law18_FenceBack_of_t2 (n := n + 1) w11
  obtain ⟨a12, b12, rfl, w12, h13⟩ := wtL_cons h12
  obtain ⟨x12, rfl, o12⟩ := law18_FenceBack_of_t2 (n := n + 1) w12
  obtain ⟨a13, b13, rfl, w13, h14⟩ := wtL_cons h13
  obtain ⟨x13, rfl, o13⟩ := law18_FenceBack_of_t2 (n := n + 1) w13
  obtain ⟨a14, b14, rfl, w14, h15⟩ := wtL_cons h14
  obtain ⟨x14, rfl, o14⟩ := law18_FenceBack_of_t2 (n := n + 1) w14
  obtain ⟨a15, b15, rfl, w15, h16⟩ := wtL_cons h15
  obtain ⟨x15, rfl, o15⟩ := law18_FenceBack_of_t2 (n := n + 1) w15
  obtain ⟨a16, b16, rfl, w16, h17⟩ := wtL_cons h16
  obtain ⟨x16, rfl, o16⟩ := law18_FenceBack_of_t3 (n := n + 1) w16
  obtain ⟨a17, b17, rfl, w17, h18⟩ := wtL_cons h17
  obtain ⟨x17, rfl, o17⟩ := law18_FenceBack_of_t3 (n := n + 1) w17
  obtain ⟨a18, b18, rfl, w18, h19⟩ := wtL_cons h18
  obtain ⟨x18, rfl, o18⟩ := law18_FenceBack_of_t3 (n := n + 1) w18
  obtain ⟨a19, b19, rfl, w19, h20⟩ := wtL_cons h19
  obtain ⟨x19, rfl, o19⟩ := law18_FenceBack_of_t3 (n := n + 1) w19
  obtain ⟨a20, b20, rfl, w20, h21⟩ := wtL_cons h20
  obtain ⟨x20, rfl, o20⟩ := law18_FenceBack_of_t2 (n := n + 1) w20
  obtain ⟨a21, b21, rfl, w21, h22⟩ := wtL_cons h21
  obtain ⟨x21, rfl, o21⟩ := law18_FenceBack_of_t3 (n := n + 1) w21
  obtain ⟨a22, b22, rfl, w22, h23⟩ := wtL_cons h22
  obtain ⟨x22, rfl, o22⟩ := law18_FenceBack_of_t3 (n := n + 1) w22
  obtain ⟨a23, b23, rfl, w23, h24⟩ := wtL_cons h23
  obtain ⟨x23, rfl, o23⟩ := law18_FenceBack_of_t2 (n := n + 1) w23
  obtain ⟨a24, b24, rfl, w24, h25⟩ := wtL_cons h24
  obtain ⟨x24, rfl, o24⟩ := law18_FenceBack_of_t2 (n := n + 1) w24
  obtain ⟨a25, b25, rfl, w25, h26⟩ := wtL_cons h25
  obtain ⟨x25, rfl, o25⟩ := law18_FenceBack_of_t3 (n := n + 1) w25
  obtain ⟨a26, b26, rfl, w26, h27⟩ := wtL_cons h26
  obtain ⟨x26, rfl, o26⟩ := law18_FenceBack_of_t2 (n := n + 1) w26
  obtain ⟨a27, b27, rfl, w27, h28⟩ := wtL_cons h27
  obtain ⟨x27, rfl, o27⟩ := law18_FenceBack_of_t3 (n := n + 1) w27
  obtain ⟨a28, b28, rfl, w28, h29⟩ := wtL_cons h28
  obtain ⟨x28, rfl, o28⟩ := law18_FenceBack_of_t3 (n := n + 1) w28
  obtain ⟨a29, b29, rfl, w29, h30⟩ := wtL_cons h29
  obtain ⟨x29, rfl, o29⟩ := law18_FenceBack_of_t2 (n := n + 1) w29
  obtain rfl := wtL_nil h30
  exact ⟨⟨x0, x1, x2, x3, x4, x5, x6, x7, x8, x9, x10, x11, x12, x13, x14, x15, x16, x17, x18, x19, x20, x21, x22, x23, x24, x25, x26, x27, x28, x29⟩, rfl, o0, o1, o2, o3, o4, o5, o6, o7, o8, o9, o10, o11, o12, o13, o14, o15, o16, o17, o18, o19, o20, o21, o22, o23, o24, o25, o26, o27, o28, o29⟩
theorem law18_FenceBack_of_t32 {n : Nat} {ds : List D} (h : wtF Tryz.prog (n + 1) 32 ds) : ∃ x : Int, ds = (eInt .i64) x ∧ inK .i64 x := by
  obtain ⟨m, rfl, o⟩ := wt_int (k := .i64) (by kernel_rfl) h
  exact ⟨m, rfl, o⟩
theorem law18_FenceBack_of_t33 {n : Nat} {ds : List D} (h : wtF Tryz.prog (n + 1) 33 ds) : ∃ x : Int, ds = (eInt .u64) x ∧ inK .u64 x := by
  obtain ⟨m, rfl, o⟩ := wt_int (k := .u64) (by kernel_rfl) h
  exact ⟨m, rfl, o⟩
theorem law18_FenceBack_of_t4 {n : Nat} {ds : List D} (h : wtF Tryz.prog (n + 1) 4 ds) : ∃ x : Bool, ds = eBool x ∧ True := by
  obtain ⟨m, rfl⟩ := wt_bool (by kernel_rfl) h
  exact ⟨m, rfl, trivial⟩
theorem law18_FenceBack_of_t34 {n : Nat} {ds : List D} (h : wtF Tryz.prog (n + 2) 34 ds) : ∃ x : List Int, ds = (eSl 1 (eInt .i64)) x ∧ (x.length * 8 ≤ reachBytes ∧ ∀ y ∈ x, inK .i64 y) := by
  obtain ⟨rows, rfl, o, w⟩ := wt_slice (n := n + 1) (e := 2) (sz := 1) (by_ := 8) (by kernel_rfl) (by kernel_rfl) (by kernel_rfl) h
  obtain ⟨l, rfl, q⟩ := wt_rows (en := (eInt .i64)) (Ok := fun y => inK .i64 y) (fun r hr => law18_FenceBack_of_t2 (n := n + 0) hr) rows w
  exact ⟨l, rfl, by simpa using o, q⟩
theorem law18_FenceBack_of_t36 {n : Nat} {ds : List D} (h : wtF Tryz.prog (n + 3) 36 ds) : ∃ x : Plan, ds = Plan.enc x ∧ x.Ok := by
  have h0 := wt_struct (n := n + 2) (ts := [2, 3, 3, 3, 3, 2, 2, 2, 33, 33, 22, 34]) (by kernel_rfl) h
  obtain ⟨a0, b0, rfl, w0, h1⟩ := wtL_cons h0
  obtain ⟨x0, rfl, o0⟩ := law18_FenceBack_of_t2 (n := n + 1) w0
  obtain ⟨a1, b1, rfl, w1, h2⟩ := wtL_cons h1
  obtain ⟨x1, rfl, o1⟩ := law18_FenceBack_of_t3 (n := n + 1) w1
  obtain ⟨a2, b2, rfl, w2, h3⟩ := wtL_cons h2
  obtain ⟨x2, rfl, o2⟩ := law18_FenceBack_of_t3 (n := n + 1) w2
  obtain ⟨a3, b3, rfl, w3, h4⟩ := wtL_cons h3
  obtain ⟨x3, rfl, o3⟩ := law18_FenceBack_of_t3 (n := n + 1) w3
  obtain ⟨a4, b4, rfl, w4, h5⟩ := wtL_cons h4
  obtain ⟨x4, rfl, o4⟩ := law18_FenceBack_of_t3 (n := n + 1) w4
  obtain ⟨a5, b5, rfl, w5, h6⟩ := wtL_cons h5
  obtain ⟨x5, rfl, o5⟩ := law18_FenceBack_of_t2 (n := n + 1) w5
  obtain ⟨a6, b6, rfl, w6, h7⟩ := wtL_cons h6
  obtain ⟨x6, rfl, o6⟩ := law18_FenceBack_of_t2 (n := n + 1) w6
  obtain ⟨a7, b7, rfl, w7, h8⟩ := wtL_cons h7
  obtain ⟨x7, rfl, o7⟩ := law18_FenceBack_of_t2 (n := n + 1) w7
  obtain ⟨a8, b8, rfl, w8, h9⟩ := wtL_cons h8
  obtain ⟨x8, rfl, o8⟩ := law18_FenceBack_of_t33 (n := n + 1) w8
  obtain ⟨a9, b9, rfl, w9, h10⟩ := wtL_cons h9
  obtain ⟨x9, rfl, o9⟩ := law18_FenceBack_of_t33 (n := n + 1) w9
  obtain ⟨a10, b10, rfl, w10, h11⟩ := wtL_cons h10
  obtain ⟨x10, rfl, o10⟩ := law18_FenceBack_of_t22 (n := n + 0) w10
  obtain ⟨a11, b11, rfl, w11, h12⟩ := wtL_cons h11
  obtain ⟨x11, rfl, o11⟩ := law18_FenceBack_of_t34 (n := n + 0) w11
  obtain rfl := wtL_nil h12
  exact ⟨⟨x0, x1, x2, x3, x4, x5, x6, x7, x8, x9, x10, x11⟩, rfl, o0, o1, o2, o3, o4, o5, o6, o7, o8, o9, o10, o11⟩
theorem law18_FenceBack_of_t5 {n : Nat} {ds : List D} (h : wtF Tryz.prog (n + 1) 5 ds) : ∃ x : Int, ds = (eInt .u8) x ∧ inK .u8 x := by
  obtain ⟨m, rfl, o⟩ := wt_int (k := .u8) (by kernel_rfl) h
  exact ⟨m, rfl, o⟩
theorem law18_FenceBack_of_t37 {n : Nat} {ds : List D} (h : wtF Tryz.prog (n + 2) 37 ds) : ∃ x : List Int, ds = (eSl 1 (eInt .u8)) x ∧ (x.length * 1 ≤ reachBytes ∧ ∀ y ∈ x, inK .u8 y) := by
  obtain ⟨rows, rfl, o, w⟩ := wt_slice (n := n + 1) (e := 5) (sz := 1) (by_ := 1) (by kernel_rfl) (by kernel_rfl) (by kernel_rfl) h
  obtain ⟨l, rfl, q⟩ := wt_rows (en := (eInt .u8)) (Ok := fun y => inK .u8 y) (fun r hr => law18_FenceBack_of_t5 (n := n + 0) hr) rows w
  exact ⟨l, rfl, by simpa using o, q⟩
theorem law18_FenceBack_of_t39 {n : Nat} {ds : List D} (h : wtF Tryz.prog (n + 4) 39 ds) : ∃ x : Msg, ds = Msg.enc x ∧ x.Ok := by
  have h0 := wt_struct (n := n + 3) (ts := [32, 3, 3, 2, 2, 2, 2, 2, 33, 3, 4, 36, 34, 37, 37]) (by kernel_rfl) h
  obtain ⟨a0, b0, rfl, w0, h1⟩ := wtL_cons h0
  obtain ⟨x0, rfl, o0⟩ := law18_FenceBack_of_t32 (n := n + 2) w0
  obtain ⟨a1, b1, rfl, w1, h2⟩ := wtL_cons h1
  obtain ⟨x1, rfl, o1⟩ := law18_FenceBack_of_t3 (n := n + 2) w1
  obtain ⟨a2, b2, rfl, w2, h3⟩ := wtL_cons h2
  obtain ⟨x2, rfl, o2⟩ := law18_FenceBack_of_t3 (n := n + 2) w2
  obtain ⟨a3, b3, rfl, w3, h4⟩ := wtL_cons h3
  obtain ⟨x3, rfl, o3⟩ := law18_FenceBack_of_t2 (n := n + 2) w3
  obtain ⟨a4, b4, rfl, w4, h5⟩ := wtL_cons h4
  obtain ⟨x4, rfl, o4⟩ := law18_FenceBack_of_t2 (n := n + 2) w4
  obtain ⟨a5, b5, rfl, w5, h6⟩ := wtL_cons h5
  obtain ⟨x5, rfl, o5⟩ := law18_FenceBack_of_t2 (n := n + 2) w5
  obtain ⟨a6, b6, rfl, w6, h7⟩ := wtL_cons h6
  obtain ⟨x6, rfl, o6⟩ := law18_FenceBack_of_t2 (n := n + 2) w6
  obtain ⟨a7, b7, rfl, w7, h8⟩ := wtL_cons h7
  obtain ⟨x7, rfl, o7⟩ := law18_FenceBack_of_t2 (n := n + 2) w7
  obtain ⟨a8, b8, rfl, w8, h9⟩ := wtL_cons h8
  obtain ⟨x8, rfl, o8⟩ := law18_FenceBack_of_t33 (n := n + 2) w8
  obtain ⟨a9, b9, rfl, w9, h10⟩ := wtL_cons h9
  obtain ⟨x9, rfl, o9⟩ := law18_FenceBack_of_t3 (n := n + 2) w9
  obtain ⟨a10, b10, rfl, w10, h11⟩ := wtL_cons h10
  obtain ⟨x10, rfl, o10⟩ := law18_FenceBack_of_t4 (n := n + 2) w10
  obtain ⟨a11, b11, rfl, w11, h12⟩ := wtL_cons h11
  obtain ⟨x11, rfl, o11⟩ := law18_FenceBack_of_t36 (n := n + 0) w11
  obtain ⟨a12, b12, rfl, w12, h13⟩ := wtL_cons h12
  obtain ⟨x12, rfl, o12⟩ := law18_FenceBack_of_t34 (n := n + 1) w12
  obtain ⟨a13, b13, rfl, w13, h14⟩ := wtL_cons h13
  obtain ⟨x13, rfl, o13⟩ := law18_FenceBack_of_t37 (n := n + 1) w13
  obtain ⟨a14, b14, rfl, w14, h15⟩ := wtL_cons h14
  obtain ⟨x14, rfl, o14⟩ := law18_FenceBack_of_t37 (n := n + 1) w14
  obtain rfl := wtL_nil h15
  exact ⟨⟨x0, x1, x2, x3, x4, x5, x6, x7, x8, x9, x10, x11, x12, x13, x14⟩, rfl, o0, o1, o2, o3, o4, o5, o6, o7, o8, o9, o10, o11, o12, o13, o14⟩
theorem law18_FenceBack_of_t41 {n : Nat} {ds : List D} (h : wtF Tryz.prog (n + 5) 41 ds) : ∃ x : Op, ds = Op.enc x ∧ x.Ok := by
  have h0 := wt_struct (n := n + 4) (ts := [3, 39, 2, 3]) (by kernel_rfl) h
  obtain ⟨a0, b0, rfl, w0, h1⟩ := wtL_cons h0
  obtain ⟨x0, rfl, o0⟩ := law18_FenceBack_of_t3 (n := n + 3) w0
  obtain ⟨a1, b1, rfl, w1, h2⟩ := wtL_cons h1
  obtain ⟨x1, rfl, o1⟩ := law18_FenceBack_of_t39 (n := n + 0) w1
  obtain ⟨a2, b2, rfl, w2, h3⟩ := wtL_cons h2
  obtain ⟨x2, rfl, o2⟩ := law18_FenceBack_of_t2 (n := n + 3) w2
  obtain ⟨a3, b3, rfl, w3, h4⟩ := wtL_cons h3
  obtain ⟨x3, rfl, o3⟩ := law18_FenceBack_of_t3 (n := n + 3) w3
  obtain rfl := wtL_nil h4
  exact ⟨⟨x0, x1, x2, x3⟩, rfl, o0, o1, o2, o3⟩
theorem law18_FenceBack_of_t25 {n : Nat} {ds : List D} (h : wtF Tryz.prog (n + 6) 25 ds) : ∃ x : List Op, ds = (eSl 29 Op.enc) x ∧ (x.length * 312 ≤ reachBytes ∧ ∀ y ∈ x, y.Ok) := by
  obtain ⟨rows, rfl, o, w⟩ := wt_slice (n := n + 5) (e := 41) (sz := 29) (by_ := 312) (by kernel_rfl) (by kernel_rfl) (by kernel_rfl) h
  obtain ⟨l, rfl, q⟩ := wt_rows (en := Op.enc) (Ok := fun y => y.Ok) (fun r hr => law18_FenceBack_of_t41 (n := n + 0) hr) rows w
  exact ⟨l, rfl, by simpa using o, q⟩
theorem law18_FenceBack_sound (H : ∀ (c : Config) (l_ : List Op) (now : Int), c.Ok → (l_.length * 312 ≤ reachBytes ∧ ∀ y ∈ l_, y.Ok) → inK .i64 now → law18_FenceBack c l_ now = some true) : ∀ xs, wtA Tryz.prog Tryz.f3.params.toList xs → Sound E 3 xs [] fun d _ => d = .bool true := by
  intro xs h
  have h0 : wtA Tryz.prog [24, 25, 2] xs := h
  obtain ⟨d0, r0, rfl, w0, h1⟩ := wtA_cons h0
  obtain ⟨c0, rfl, v0⟩ := wtP_agg (by kernel_rfl) w0
  obtain ⟨x0, rfl, o0⟩ := law18_FenceBack_of_t24 (n := 3) v0
  obtain ⟨d1, r1, rfl, w1, h2⟩ := wtA_cons h1
  have v1 := wtP_flat (by kernel_rfl) w1
  obtain ⟨x1, e1, o1⟩ := law18_FenceBack_of_t25 (n := 0) v1
  obtain ⟨rfl, -⟩ := List.cons.inj e1
  obtain ⟨d2, r2, rfl, w2, h3⟩ := wtA_cons h2
  have v2 := wtP_flat (by kernel_rfl) w2
  obtain ⟨x2, e2, o2⟩ := law18_FenceBack_of_t2 (n := 5) v2
  obtain ⟨rfl, -⟩ := List.cons.inj e2
  obtain rfl := wtA_nil h3
  exact (law18_FenceBack_ok (H x0 x1 x2 o0 o1 o2)).mono fun d s h => h.1
end Go.RX.L

namespace Go.RX.L
open Go Go.RX
theorem wS1T {i : Nat} (h : i ≤ 200000) : IntKind.i64.wrap ((i : Int) + 1) = ((i + 1 : Nat) : Int) := by rw [wI64 (by omega) (by omega)]; norm_cast
theorem nltT {l : List Op} {i : Nat} (h : l.length ≤ i) : decide ((i : Int) < (((List.map Op.enc l).length : Nat) : Int)) = false := by simp; omega
theorem greatT {l : List Op} (h : l.length ≤ 150) : law18_Great l = some false := by
  have : decide ((l.length : Int) > 150) = false := by simp; omega
  simp only [law18_Great, List.length_map, this]
theorem greatF {l : List Op} (h : ¬ l.length ≤ 150) : law18_Great l = some true := by
  have : decide ((l.length : Int) > 150) = true := by simp; omega
  simp only [law18_Great, List.length_map, this]
theorem closedT_ok {l : List Entry} {cl : List (List Int)} (hl : cl.length ≤ 90000) (hi : ∀ y ∈ cl, y.length = 3) {f : Int} {known : Plan} {hold : Hold} {begun filled : Int} {c : Config} {index : Int} {w : Bool} {fuse : Int} {d : Bool} {s t : List Int} :
    Target_Closed f known hold begun filled c index w l cl fuse d s t = some cl := by
  have loop : ∀ (j k : Nat), k + j = cl.length → Ev (Target_Closed_step f known hold begun filled c index w l cl fuse d s t) (.s1 (cl.length : Int) (k : Int) (cl.take k)) cl := by
    intro j
    induction j with
    | zero =>
      intro k hk
      refine .done ?_
      have : decide ((k : Int) < (cl.length : Int)) = false := by simp; omega
      simp only [Target_Closed_step, Target_Closed_1, this, cond_false]
      rw [List.take_of_length_le (by omega)]
    | succ j ih =>
      intro k hk
      have hlt : k < cl.length := by omega
      have e1 := sclone_ok (b := cl[k]) (by rw [hi _ (List.getElem_mem hlt)]; decide)
      have lim : decide (((cl.take k).length + 1) * 24 ≤ bytesLim) = true := limOk (by rw [List.length_take]; omega)
      refine .next (s' := .s1 (cl.length : Int) ((k + 1 : Nat) : Int) (cl.take (k + 1))) ?_ (ih (k + 1) (by omega))
      have tk : cl.take (k + 1) = cl.take k ++ [cl[k]] := by rw [List.take_succ_eq_append_getElem hlt]
      simp only [Target_Closed_step, Target_Closed_1, ltB hlt, cond_true, List.length_map, le0, Bool.and_self, Int.toNat_natCast, Nat.zero_add, List.getE hlt, Option.bind_some, e1, lim, wS1T (show k ≤ 200000 by omega), tk]
  refine evf_of (.next (s' := .s1 (cl.length : Int) 0 []) ?_ (by have := loop cl.length 0 (by omega); simpa using this))
  simp only [Target_Closed_step, Target_Closed_0, List.length_map]
theorem sameids_ok {a : List (List Int)} (hl : a.length ≤ 100000) (hs : ∀ y ∈ a, y.length = 3) : ref18_SameIDs a a = some true := by
  have loop : ∀ (j k : Nat), k + j = a.length → Ev (ref18_SameIDs_step a a) (.s1 (k : Int)) true := by
    intro j
    induction j with
    | zero =>
      intro k hk
      have g : decide ((k : Int) < (a.length : Int)) = false := by simp; omega
      exact .done (by simp only [ref18_SameIDs_step, ref18_SameIDs_1, List.length_map, g, cond_false])
    | succ j ih =>
      intro k hk
      have hlt : k < a.length := by omega
      have e := rsame1_ok (a := a[k]) (b := a[k]) (by rw [hs _ (List.getElem_mem hlt)]; decide)
      rw [decide_eq_true rfl] at e
      refine .next (s' := .s1 ((k + 1 : Nat) : Int)) ?_ (ih (k + 1) (by omega))
      simp only [ref18_SameIDs_step, ref18_SameIDs_1, List.length_map, ltB hlt, le0, Bool.and_self, cond_true, cond_false, Int.toNat_natCast, List.getE hlt, Option.bind_some, e, Bool.not_true, wS1T (show k ≤ 200000 by omega)]
  exact evf_of (.next (s' := .s1 0) (by simp [ref18_SameIDs_step, ref18_SameIDs_0]) (loop a.length 0 (by omega)))
theorem samelog_ok {a : List Entry} (hl : a.length ≤ 100000) (hs : ∀ y ∈ a, y.ID.length = 3) : ref18_SameLog a a = some true := by
  have loop : ∀ (j k : Nat), k + j = a.length → Ev (ref18_SameLog_step a a) (.s1 (k : Int)) true := by
    intro j
    induction j with
    | zero =>
      intro k hk
      have g : decide ((k : Int) < (a.length : Int)) = false := by simp; omega
      exact .done (by simp only [ref18_SameLog_step, ref18_SameLog_1, List.length_map, g, cond_false])
    | succ j ih =>
      intro k hk
      have hlt : k < a.length := by omega
      have e := rsame1_ok (a := (a[k]).ID) (b := (a[k]).ID) (by rw [hs _ (List.getElem_mem hlt)]; decide)
      rw [decide_eq_true rfl] at e
      refine .next (s' := .s1 ((k + 1 : Nat) : Int)) ?_ (ih (k + 1) (by omega))
      simp only [ref18_SameLog_step, ref18_SameLog_1, List.length_map, ltB hlt, le0, Bool.and_self, cond_true, cond_false, Int.toNat_natCast, List.getE hlt, Option.bind_some, e, Bool.not_true, bne_self_eq_false, beq_self_eq_true, wS1T (show k ≤ 200000 by omega)]
  exact evf_of (.next (s' := .s1 0) (by simp [ref18_SameLog_step, ref18_SameLog_0]) (loop a.length 0 (by omega)))
theorem cleanT {c : Config} {index : Int} {rs : List Msg} {s : List Int} {i : Nat} (hc : rightC c = true) (ht : c.Tiers.length < 9223372036854775807) (dk : Disk rs [] s) (hs : s.length ≤ 900000) (hr : rs.length ≤ 200) (now : Int) (f : Int) (known : Plan) (hold : Hold) (begun filled : Int) (w : Bool) (l : List Entry) (cl : List (List Int)) (d : Bool) (t : List Int) {fuse : Int} (fu : okFuse fuse) :
    Target_Restart now f known hold begun filled c index w l cl fuse d s t = some (0, (replayT rs).f, zeroC_ c, ⟨0, 0, 0, 0⟩, now, 0, fuse, false, (replayT rs).l, (replayT rs).cl, s, []) := by
  obtain ⟨e0, hcut⟩ := dk.cut
  have hz := polzero_ok ht hc
  have heq := dk.eq
  rw [List.append_nil] at heq
  have ho := jopen (fuse := fuse) (down := d) (t := t) (okFrs dk.ok) hcut dk.jb (by rw [List.append_nil]; unfold log at heq; rw [← heq]; omega) fu
  have hl : frs (rs.map rec1) = s := heq.symm
  rw [hl, List.append_nil, if_pos rfl] at ho
  have m1 : (rs.map rec1).map (·.1) = rs.map (·.Kind) := by simp [rec1]
  have m2 : (rs.map rec1).map (·.2) = rs.map encB := by simp [rec1]
  rw [m1, m2] at ho
  refine evf_of (.next (s' := Target_Restart_S.s1 (rs.map encB) (rs.map (·.Kind)) (rs.length : Int) 0 0 (zeroC_ c) ⟨0, 0, 0, 0⟩ 0 0 fuse false [] [] s []) ?_ (eachT_ok dk.ok (by omega)))
  simp only [Target_Restart_step, Target_Restart_0, hz, ho, Option.bind_some, bne_self_eq_false, cond_false, List.length_map, zeroC_]
theorem fenceBack (c : Config) (l_ : List Op) (now : Int) (hc : c.Ok) (hl : l_.length * 312 ≤ reachBytes ∧ ∀ y ∈ l_, y.Ok) (hn : inK .i64 now) : law18_FenceBack c l_ now = some true := by
  have ht : c.Tiers.length < 9223372036854775807 := by
    obtain ⟨-, -, -, -, -, ⟨h1, -⟩, -⟩ := hc
    exact short h1
  have hnew := new_ok (c := c) (index := 0) ht
  by_cases hr : ¬ rightC c = true
  · rw [if_neg (fun h => hr h.1)] at hnew
    exact evf_of (.next (s' := .s1 true) (by simp only [law18_FenceBack_step, law18_FenceBack_0, head18_ok, hnew, Option.bind_some]) (.done rfl))
  rw [Classical.not_not] at hr
  rw [if_pos ⟨hr, by decide, by have := (rightC_n hr).2.2; omega⟩] at hnew
  refine evf_of (.next (s' := .s2 true (aT c).x.f (aT c).z.known (aT c).z.hold (aT c).z.begun (aT c).z.filled 0 (aT c).well (aT c).x.l (aT c).x.cl (-1) (aT c).down [] []) (by simp only [law18_FenceBack_step, law18_FenceBack_0, head18_ok, hnew, Option.bind_some, aT]) ?_)
  by_cases hg : ¬ l_.length ≤ 150
  · exact .done (by simp only [law18_FenceBack_step, law18_FenceBack_2, greatF hg, Option.bind_some, cond_true])
  rw [Classical.not_not] at hg
  refine .next (s' := .s3 true ((0 : Nat) : Int) (aT c).x.f (aT c).z.known (aT c).z.hold (aT c).z.begun (aT c).z.filled 0 (aT c).well (aT c).x.l (aT c).x.cl (-1) (aT c).down [] []) (by simp only [law18_FenceBack_step, law18_FenceBack_2, greatT hg, Option.bind_some, cond_false]; rfl) ?_
  have loop : ∀ (j i : Nat) (a : TS) (fuse : Int) (s t : List Int), i + j = l_.length → RepT a fuse s t i → Ev (law18_FenceBack_step c l_ now) (.s3 true (i : Int) a.x.f a.z.known a.z.hold a.z.begun a.z.filled 0 a.well a.x.l a.x.cl fuse a.down s t) true := by
    intro j
    induction j with
    | zero =>
      intro i a fuse s t hi h
      refine .done ?_
      cases hd : a.down with
      | true => simp only [law18_FenceBack_step, law18_FenceBack_3, nltT (show l_.length ≤ i by omega), cond_false, Target_Journal, Option.bind_some, Journal_Down, cond_true]
      | false =>
        have ml := h.ml
        have lg := logT_ok (c := c) (index := 0) (l := a.x.l) (fuse := fuse) (s := s) (t := t) (by omega) h.km.len h.km.pay (f := a.x.f) (known := a.z.known) (hold := a.z.hold) (begun := a.z.begun) (filled := a.z.filled) (w := a.well) (cl := a.x.cl) (d := false)
        have cls := closedT_ok (l := a.x.l) (cl := a.x.cl) (by omega) h.km.shut (f := a.x.f) (known := a.z.known) (hold := a.z.hold) (begun := a.z.begun) (filled := a.z.filled) (c := c) (index := 0) (w := a.well) (fuse := fuse) (d := false) (s := s) (t := t)
        obtain ⟨kr, km, up, pd, pn, fu, ⟨J, dk, dj, dp⟩, tl, len, cnt, -, gz⟩ := h
        have hJ := dj hd
        subst hJ
        rw [pn hd] at tl
        have tl : t = [] := tl
        subst tl
        have cr := jcrash (keep := 0) (fuse := fuse) (down := false) (s := s) (t := []) (by simp at len ⊢; omega)
        have hk0 : s ++ kept_ 0 [] = s := by simp [kept_]
        rw [hk0] at cr
        have f0 : okFuse (-1) := by unfold okFuse; omega
        have rst := cleanT (index := 0) (i := i) hr ht dk (by simp at len; omega) (by omega) now a.x.f a.z.known a.z.hold a.z.begun a.z.filled a.well a.x.l a.x.cl true [] f0
        rw [← up hd] at rst
        have lg2 := logT_ok (c := c) (index := 0) (l := a.x.l) (fuse := -1) (s := s) (t := []) (by omega) km.len km.pay (f := a.x.f) (known := zeroC_ c) (hold := ⟨0, 0, 0, 0⟩) (begun := now) (filled := 0) (w := a.well) (cl := a.x.cl) (d := false)
        have cls2 := closedT_ok (l := a.x.l) (cl := a.x.cl) (by omega) km.shut (f := a.x.f) (known := zeroC_ c) (hold := ⟨0, 0, 0, 0⟩) (begun := now) (filled := 0) (c := c) (index := 0) (w := a.well) (fuse := -1) (d := false) (s := s) (t := [])
        have sl := samelog_ok (a := a.x.l) (by omega) km.len
        have si := sameids_ok (a := a.x.cl) (by omega) km.shut
        have tick : Target_Tick 5 a.x.f (zeroC_ c) ⟨0, 0, 0, 0⟩ now 0 c 0 a.well a.x.l a.x.cl (-1) false s [] = some ([], ⟨0, 0, 0, 0⟩) := by
          refine evf_of (.next (s' := .s3 0 true) ?_ (.done rfl))
          have n0 : namesP (zeroC_ c) 0 = false := by simp [namesP, zeroC_]
          simp only [Target_Tick_step, Target_Tick_0, show decide ((5 : Int) < 0) = false from rfl, show decide ((5 : Int) > 1099511627776) = false from rfl, cond_false, Journal_Down, Option.bind_some, names_ok, n0, Bool.not_false]
          rfl
        have z0 : (((zeroC_ c).Epoch : Int) == 0) = true := rfl
        simp only [law18_FenceBack_step, law18_FenceBack_3, nltT (show l_.length ≤ i by omega), cond_false, cond_true, Target_Journal, Option.bind_some, Journal_Down, lg, cls, Target_Fence, cr, rst, bne_self_eq_false, lg2, sl, cls2, si, beq_self_eq_true, Target_Known, z0, tick, List.map_nil, List.length_nil]
        rfl
    | succ j ih =>
      intro i a fuse s t hi h
      have hlt : i < l_.length := by omega
      have w := wS1T (show i ≤ 200000 by omega)
      obtain ⟨out, a', fuse', s', t', he, hrep, hst⟩ := fuzz_ok (index := 0) h (hl.2 _ (List.getElem_mem hlt)) hr ht (by decide) (by omega)
      refine .next (s' := .s3 true ((i + 1 : Nat) : Int) a'.x.f a'.z.known a'.z.hold a'.z.begun a'.z.filled 0 a'.well a'.x.l a'.x.cl fuse' a'.down s' t') ?_ (ih (i + 1) a' fuse' s' t' (by omega) hrep)
      simp only [law18_FenceBack_step, law18_FenceBack_3, List.length_map, ltB hlt, cond_true, Option.bind_some, le0, Bool.and_self, Int.toNat_natCast, List.getE hlt, he, w]
  exact loop l_.length 0 (aT c) (-1) [] [] (by omega) rep_newT
end Go.RX.L
