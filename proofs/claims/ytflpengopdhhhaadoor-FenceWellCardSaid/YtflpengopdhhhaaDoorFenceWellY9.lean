/-
  Words and walks for FenceWell. No condition.
-/
import Derived.Test.YtflpengopdhhhaaDoorFenceWellY8
set_option linter.unusedSectionVars false
set_option linter.unnecessarySimpa false
set_option linter.unusedSimpArgs false
set_option linter.unusedVariables false
set_option maxRecDepth 100000
namespace Go.RX.L
open Go Go.RX Go.Proofs
theorem law18_FenceWell_of_t3 {n : Nat} {ds : List D} (h : wtF Tryd.prog (n + 1) 3 ds) : ∃ x : Int, ds = (eInt .i64) x ∧ inK .i64 x := by
  obtain ⟨m, rfl, o⟩ := wt_int (k := .i64) (by kernel_rfl) h
  exact ⟨m, rfl, o⟩
theorem law18_FenceWell_of_t22 {n : Nat} {ds : List D} (h : wtF Tryd.prog (n + 2) 22 ds) : ∃ x : List Int, ds = (eSl 1 (eInt .i64)) x ∧ (x.length * 8 ≤ reachBytes ∧ ∀ y ∈ x, inK .i64 y) := by
  obtain ⟨rows, rfl, o, w⟩ := wt_slice (n := n + 1) (e := 3) (sz := 1) (by_ := 8) (by kernel_rfl) (by kernel_rfl) (by kernel_rfl) h
  obtain ⟨l, rfl, q⟩ := wt_rows (en := (eInt .i64)) (Ok := fun y => inK .i64 y) (fun r hr => law18_FenceWell_of_t3 (n := n + 0) hr) rows w
  exact ⟨l, rfl, by simpa using o, q⟩
theorem law18_FenceWell_of_t2 {n : Nat} {ds : List D} (h : wtF Tryd.prog (n + 1) 2 ds) : ∃ x : Int, ds = (eInt .i64) x ∧ inK .i64 x := by
  obtain ⟨m, rfl, o⟩ := wt_int (k := .i64) (by kernel_rfl) h
  exact ⟨m, rfl, o⟩
theorem law18_FenceWell_of_t24 {n : Nat} {ds : List D} (h : wtF Tryd.prog (n + 3) 24 ds) : ∃ x : Config, ds = Config.enc x ∧ x.Ok := by
  have h0 := wt_struct (n := n + 2) (ts := [3, 3, 3, 3, 3, 22, 2, 2, 3, 3, 2, 2, 2, 2, 2, 2, 3, 3, 3, 3, 2, 3, 3, 2, 2, 3, 2, 3, 3, 2]) (by kernel_rfl) h
  obtain ⟨a0, b0, rfl, w0, h1⟩ := wtL_cons h0
  obtain ⟨x0, rfl, o0⟩ := law18_FenceWell_of_t3 (n := n + 1) w0
  obtain ⟨a1, b1, rfl, w1, h2⟩ := wtL_cons h1
  obtain ⟨x1, rfl, o1⟩ := law18_FenceWell_of_t3 (n := n + 1) w1
  obtain ⟨a2, b2, rfl, w2, h3⟩ := wtL_cons h2
  obtain ⟨x2, rfl, o2⟩ := law18_FenceWell_of_t3 (n := n + 1) w2
  obtain ⟨a3, b3, rfl, w3, h4⟩ := wtL_cons h3
  obtain ⟨x3, rfl, o3⟩ := law18_FenceWell_of_t3 (n := n + 1) w3
  obtain ⟨a4, b4, rfl, w4, h5⟩ := wtL_cons h4
  obtain ⟨x4, rfl, o4⟩ := law18_FenceWell_of_t3 (n := n + 1) w4
  obtain ⟨a5, b5, rfl, w5, h6⟩ := wtL_cons h5
  obtain ⟨x5, rfl, o5⟩ := law18_FenceWell_of_t22 (n := n + 0) w5
  obtain ⟨a6, b6, rfl, w6, h7⟩ := wtL_cons h6
  obtain ⟨x6, rfl, o6⟩ := law18_FenceWell_of_t2 (n := n + 1) w6
  obtain ⟨a7, b7, rfl, w7, h8⟩ := wtL_cons h7
  obtain ⟨x7, rfl, o7⟩ := law18_FenceWell_of_t2 (n := n + 1) w7
  obtain ⟨a8, b8, rfl, w8, h9⟩ := wtL_cons h8
  obtain ⟨x8, rfl, o8⟩ := law18_FenceWell_of_t3 (n := n + 1) w8
  obtain ⟨a9, b9, rfl, w9, h10⟩ := wtL_cons h9
  obtain ⟨x9, rfl, o9⟩ := law18_FenceWell_of_t3 (n := n + 1) w9
  obtain ⟨a10, b10, rfl, w10, h11⟩ := wtL_cons h10
  obtain ⟨x10, rfl, o10⟩ := law18_FenceWell_of_t2 (n := n + 1) w10
  obtain ⟨a11, b11, rfl, w11, h12⟩ := wtL_cons h11
  obtain ⟨x11, rfl, o11⟩ := law18_FenceWell_of_t2 (n := n + 1) w11
  obtain ⟨a12, b12, rfl, w12, h13⟩ := wtL_cons h12
  obtain ⟨x12, rfl, o12⟩ := law18_FenceWell_of_t2 (n := n + 1) w12
  obtain ⟨a13, b13, rfl, w13, h14⟩ := wtL_cons h13
  obtain ⟨x13, rfl, o13⟩ := law18_FenceWell_of_t2 (n := n + 1) w13
  obtain ⟨a14, b14, rfl, w14, h15⟩ := wtL_cons h14
  obtain ⟨x14, rfl, o14⟩ := law18_FenceWell_of_t2 (n := n + 1) w14
  obtain ⟨a15, b15, rfl, w15, h16⟩ := wtL_cons h15
  obtain ⟨x15, rfl, o15⟩ := law18_FenceWell_of_t2 (n := n + 1) w15
  obtain ⟨a16, b16, rfl, w16, h17⟩ := wtL_cons h16
  obtain ⟨x16, rfl, o16⟩ := law18_FenceWell_of_t3 (n := n + 1) w16
  obtain ⟨a17, b17, rfl, w17, h18⟩ := wtL_cons h17
  obtain ⟨x17, rfl, o17⟩ := law18_FenceWell_of_t3 (n := n + 1) w17
  obtain ⟨a18, b18, rfl, w18, h19⟩ := wtL_cons h18
  obtain ⟨x18, rfl, o18⟩ := law18_FenceWell_of_t3 (n := n + 1) w18
  obtain ⟨a19, b19, rfl, w19, h20⟩ := wtL_cons h19
  obtain ⟨x19, rfl, o19⟩ := law18_FenceWell_of_t3 (n := n + 1) w19
  obtain ⟨a20, b20, rfl, w20, h21⟩ := wtL_cons h20
  obtain ⟨x20, rfl, o20⟩ := law18_FenceWell_of_t2 (n := n + 1) w20
  obtain ⟨a21, b21, rfl, w21, h22⟩ := wtL_cons h21
  obtain ⟨x21, rfl, o21⟩ := law18_FenceWell_of_t3 (n := n + 1) w21
  obtain ⟨a22, b22, rfl, w22, h23⟩ := wtL_cons h22
  obtain ⟨x22, rfl, o22⟩ := law18_FenceWell_of_t3 (n := n + 1) w22
  obtain ⟨a23, b23, rfl, w23, h24⟩ := wtL_cons h23
  obtain ⟨x23, rfl, o23⟩ := law18_FenceWell_of_t2 (n := n + 1) w23
  obtain ⟨a24, b24, rfl, w24, h25⟩ := wtL_cons h24
  obtain ⟨x24, rfl, o24⟩ := law18_FenceWell_of_t2 (n := n + 1) w24
  obtain ⟨a25, b25, rfl, w25, h26⟩ := wtL_cons h25
  obtain ⟨x25, rfl, o25⟩ := law18_FenceWell_of_t3 (n := n + 1) w25
  obtain ⟨a26, b26, rfl, w26, h27⟩ := wtL_cons h26
  obtain ⟨x26, rfl, o26⟩ := law18_FenceWell_of_t2 (n := n + 1) w26
  obtain ⟨a27, b27, rfl, w27, h28⟩ := wtL_cons h27
  obtain ⟨x27, rfl, o27⟩ := law18_FenceWell_of_t3 (n := n + 1) w27
  obtain ⟨a28, b28, rfl, w28, h29⟩ := wtL_cons h28
  obtain ⟨x28, rfl, o28⟩ := law18_FenceWell_of_t3 (n := n + 1) w28
  obtain ⟨a29, b29, rfl, w29, h30⟩ := wtL_cons h29
  obtain ⟨x29, rfl, o29⟩ := law18_FenceWell_of_t2 (n := n + 1) w29
  obtain rfl := wtL_nil h30
  exact ⟨⟨x0, x1, x2, x3, x4, x5, x6, x7, x8, x9, x10, x11, x12, x13, x14, x15, x16, x17, x18, x19, x20, x21, x22, x23, x24, x25, x26, x27, x28, x29⟩, rfl, o0, o1, o2, o3, o4, o5, o6, o7, o8, o9, o10, o11, o12, o13, o14, o15, o16, o17, o18, o19, o20, o21, o22, o23, o24, o25, o26, o27, o28, o29⟩
theorem law18_FenceWell_of_t4 {n : Nat} {ds : List D} (h : wtF Tryd.prog (n + 1) 4 ds) : ∃ x : Bool, ds = eBool x ∧ True := by
  obtain ⟨m, rfl⟩ := wt_bool (by kernel_rfl) h
  exact ⟨m, rfl, trivial⟩
theorem law18_FenceWell_of_t5 {n : Nat} {ds : List D} (h : wtF Tryd.prog (n + 1) 5 ds) : ∃ x : Int, ds = (eInt .u8) x ∧ inK .u8 x := by
  obtain ⟨m, rfl, o⟩ := wt_int (k := .u8) (by kernel_rfl) h
  exact ⟨m, rfl, o⟩
theorem law18_FenceWell_of_t25 {n : Nat} {ds : List D} (h : wtF Tryd.prog (n + 1) 25 ds) : ∃ x : Int, ds = (eInt .u16) x ∧ inK .u16 x := by
  obtain ⟨m, rfl, o⟩ := wt_int (k := .u16) (by kernel_rfl) h
  exact ⟨m, rfl, o⟩
theorem law18_FenceWell_sound (H : ∀ (c : Config) (well : Bool) (from_ : Int) (nonce : Int) (now : Int), c.Ok → True → inK .u8 from_ → inK .i64 nonce → inK .u16 now → law18_FenceWell c well from_ nonce now = some true) : ∀ xs, wtA Tryd.prog Tryd.f3.params.toList xs → Sound E 3 xs [] fun d _ => d = .bool true := by
  intro xs h
  have h0 : wtA Tryd.prog [24, 4, 5, 2, 25] xs := h
  obtain ⟨d0, r0, rfl, w0, h1⟩ := wtA_cons h0
  obtain ⟨c0, rfl, v0⟩ := wtP_agg (by kernel_rfl) w0
  obtain ⟨x0, rfl, o0⟩ := law18_FenceWell_of_t24 (n := 3) v0
  obtain ⟨d1, r1, rfl, w1, h2⟩ := wtA_cons h1
  have v1 := wtP_flat (by kernel_rfl) w1
  obtain ⟨x1, e1, o1⟩ := law18_FenceWell_of_t4 (n := 5) v1
  obtain ⟨rfl, -⟩ := List.cons.inj e1
  obtain ⟨d2, r2, rfl, w2, h3⟩ := wtA_cons h2
  have v2 := wtP_flat (by kernel_rfl) w2
  obtain ⟨x2, e2, o2⟩ := law18_FenceWell_of_t5 (n := 5) v2
  obtain ⟨rfl, -⟩ := List.cons.inj e2
  obtain ⟨d3, r3, rfl, w3, h4⟩ := wtA_cons h3
  have v3 := wtP_flat (by kernel_rfl) w3
  obtain ⟨x3, e3, o3⟩ := law18_FenceWell_of_t2 (n := 5) v3
  obtain ⟨rfl, -⟩ := List.cons.inj e3
  obtain ⟨d4, r4, rfl, w4, h5⟩ := wtA_cons h4
  have v4 := wtP_flat (by kernel_rfl) w4
  obtain ⟨x4, e4, o4⟩ := law18_FenceWell_of_t25 (n := 5) v4
  obtain ⟨rfl, -⟩ := List.cons.inj e4
  obtain rfl := wtA_nil h5
  exact (law18_FenceWell_ok (H x0 x1 x2 x3 x4 o0 o1 o2 o3 o4)).mono fun d s h => h.1
end Go.RX.L

set_option linter.unusedSimpArgs false
set_option linter.unusedVariables false
set_option maxRecDepth 100000
namespace Go.RX.L
open Go Go.RX
theorem fenceWell (c : Config) (well : Bool) (from_ : Int) (nonce : Int) (now : Int) (hc : c.Ok) (_hw : True) (hf : inK .u8 from_) (hn : inK .i64 nonce) (hnow : inK .u16 now) : law18_FenceWell c well from_ nonce now = some true := by
  have ht : c.Tiers.length < 9223372036854775807 := by
    obtain ⟨-, -, -, -, -, ⟨h1, -⟩, -⟩ := hc
    exact short h1
  have hf2 := inU8.1 hf
  have hn2 := inU16.1 hnow
  have wf : IntKind.i64.wrap from_ = from_ := wI64 (by omega) (by omega)
  have wn : IntKind.i64.wrap now = now := wI64 (by omega) (by omega)
  have hnew := new_ok (c := c) (index := 0) ht
  by_cases hr : ¬ rightC c = true
  · rw [if_neg (fun h => hr h.1)] at hnew
    simp only [law18_FenceWell, head18_ok, hnew, Option.bind_some, law18_FenceWell_1]
  rw [Classical.not_not] at hr
  obtain ⟨-, -, h3⟩ := rightC_n hr
  rw [if_pos ⟨hr, by decide, by omega⟩] at hnew
  have nd := node_ok hr (i := 0) (by decide)
  have pb := probe_ok (f := from_) (n := nonce) (now := now) (fence := 0) (known := zeroC_ c) (hold := ⟨0, 0, 0, 0⟩) (begun := 0) (filled := 0) (index := 0) (well := well) (l := []) (cl := []) (s := []) (t := []) (fuse := -1) hr (by decide) hf2 (by omega)
  unfold zeroPl at pb
  have cl0 := clone_ok (b := []) (by simp)
  simp only [law18_FenceWell, head18_ok, hnew, Option.bind_some, law18_FenceWell_2, Target_Flip, wf, wn, pb, Target_Journal, Journal_Synced, cl0]
  cases well with
  | false => simp [law18_FenceWell_3]
  | true => simp [law18_FenceWell_3, wf, nd]
end Go.RX.L
