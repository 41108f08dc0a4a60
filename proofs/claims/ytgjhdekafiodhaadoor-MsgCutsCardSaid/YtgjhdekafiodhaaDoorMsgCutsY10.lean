/-
  Words and walks for MsgCuts. No condition.
-/
import Derived.Test.YtgjhdekafiodhaaDoorMsgCutsY9
set_option linter.unusedSimpArgs false
set_option linter.unusedVariables false
set_option maxRecDepth 100000
namespace Go.RX.L
open Go Go.RX Go.Proofs
theorem law05_MsgCuts_of_t22 {n : Nat} {ds : List D} (h : wtF Tryd.prog (n + 1) 22 ds) : ∃ x : Int, ds = (eInt .i64) x ∧ inK .i64 x := by
  obtain ⟨m, rfl, o⟩ := wt_int (k := .i64) (by kernel_rfl) h
  exact ⟨m, rfl, o⟩
theorem law05_MsgCuts_of_t3 {n : Nat} {ds : List D} (h : wtF Tryd.prog (n + 1) 3 ds) : ∃ x : Int, ds = (eInt .i64) x ∧ inK .i64 x := by
  obtain ⟨m, rfl, o⟩ := wt_int (k := .i64) (by kernel_rfl) h
  exact ⟨m, rfl, o⟩
theorem law05_MsgCuts_of_t2 {n : Nat} {ds : List D} (h : wtF Tryd.prog (n + 1) 2 ds) : ∃ x : Int, ds = (eInt .i64) x ∧ inK .i64 x := by
  obtain ⟨m, rfl, o⟩ := wt_int (k := .i64) (by kernel_rfl) h
  exact ⟨m, rfl, o⟩
theorem law05_MsgCuts_of_t23 {n : Nat} {ds : List D} (h : wtF Tryd.prog (n + 1) 23 ds) : ∃ x : Int, ds = (eInt .u64) x ∧ inK .u64 x := by
  obtain ⟨m, rfl, o⟩ := wt_int (k := .u64) (by kernel_rfl) h
  exact ⟨m, rfl, o⟩
theorem law05_MsgCuts_of_t4 {n : Nat} {ds : List D} (h : wtF Tryd.prog (n + 1) 4 ds) : ∃ x : Bool, ds = eBool x ∧ True := by
  obtain ⟨m, rfl⟩ := wt_bool (by kernel_rfl) h
  exact ⟨m, rfl, trivial⟩
theorem law05_MsgCuts_of_t24 {n : Nat} {ds : List D} (h : wtF Tryd.prog (n + 2) 24 ds) : ∃ x : List Int, ds = (eSl 1 (eInt .i64)) x ∧ (x.length * 8 ≤ reachBytes ∧ ∀ y ∈ x, inK .i64 y) := by
  obtain ⟨rows, rfl, o, w⟩ := wt_slice (n := n + 1) (e := 3) (sz := 1) (by_ := 8) (by kernel_rfl) (by kernel_rfl) (by kernel_rfl) h
  obtain ⟨l, rfl, q⟩ := wt_rows (en := (eInt .i64)) (Ok := fun y => inK .i64 y) (fun r hr => law05_MsgCuts_of_t3 (n := n + 0) hr) rows w
  exact ⟨l, rfl, by simpa using o, q⟩
theorem law05_MsgCuts_of_t25 {n : Nat} {ds : List D} (h : wtF Tryd.prog (n + 2) 25 ds) : ∃ x : List Int, ds = (eSl 1 (eInt .i64)) x ∧ (x.length * 8 ≤ reachBytes ∧ ∀ y ∈ x, inK .i64 y) := by
  obtain ⟨rows, rfl, o, w⟩ := wt_slice (n := n + 1) (e := 2) (sz := 1) (by_ := 8) (by kernel_rfl) (by kernel_rfl) (by kernel_rfl) h
  obtain ⟨l, rfl, q⟩ := wt_rows (en := (eInt .i64)) (Ok := fun y => inK .i64 y) (fun r hr => law05_MsgCuts_of_t2 (n := n + 0) hr) rows w
  exact ⟨l, rfl, by simpa using o, q⟩
theorem law05_MsgCuts_of_t27 {n : Nat} {ds : List D} (h : wtF Tryd.prog (n + 3) 27 ds) : ∃ x : Plan, ds = Plan.enc x ∧ x.Ok := by
  have h0 := wt_struct (n := n + 2) (ts := [2, 3, 3, 3, 3, 2, 2, 2, 23, 23, 24, 25]) (by kernel_rfl) h
  obtain ⟨a0, b0, rfl, w0, h1⟩ := wtL_cons h0
  obtain ⟨x0, rfl, o0⟩ := law05_MsgCuts_of_t2 (n := n + 1) w0
  obtain ⟨a1, b1, rfl, w1, h2⟩ := wtL_cons h1
  obtain ⟨x1, rfl, o1⟩ := law05_MsgCuts_of_t3 (n := n + 1) w1
  obtain ⟨a2, b2, rfl, w2, h3⟩ := wtL_cons h2
  obtain ⟨x2, rfl, o2⟩ := law05_MsgCuts_of_t3 (n := n + 1) w2
  obtain ⟨a3, b3, rfl, w3, h4⟩ := wtL_cons h3
  obtain ⟨x3, rfl, o3⟩ := law05_MsgCuts_of_t3 (n := n + 1) w3
  obtain ⟨a4, b4, rfl, w4, h5⟩ := wtL_cons h4
  obtain ⟨x4, rfl, o4⟩ := law05_MsgCuts_of_t3 (n := n + 1) w4
  obtain ⟨a5, b5, rfl, w5, h6⟩ := wtL_cons h5
  obtain ⟨x5, rfl, o5⟩ := law05_MsgCuts_of_t2 (n := n + 1) w5
  obtain ⟨a6, b6, rfl, w6, h7⟩ := wtL_cons h6
  obtain ⟨x6, rfl, o6⟩ := law05_MsgCuts_of_t2 (n := n + 1) w6
  obtain ⟨a7, b7, rfl, w7, h8⟩ := wtL_cons h7
  obtain ⟨x7, rfl, o7⟩ := law05_MsgCuts_of_t2 (n := n + 1) w7
  obtain ⟨a8, b8, rfl, w8, h9⟩ := wtL_cons h8
  obtain ⟨x8, rfl, o8⟩ := law05_MsgCuts_of_t23 (n := n + 1) w8
  obtain ⟨a9, b9, rfl, w9, h10⟩ := wtL_cons h9
  obtain ⟨x9, rfl, o9⟩ := law05_MsgCuts_of_t23 (n := n + 1) w9
  obtain ⟨a10, b10, rfl, w10, h11⟩ := wtL_cons h10
  obtain ⟨x10, rfl, o10⟩ := law05_MsgCuts_of_t24 (n := n + 0) w10
  obtain ⟨a11, b11, rfl, w11, h12⟩ := wtL_cons h11
  obtain ⟨x11, rfl, o11⟩ := law05_MsgCuts_of_t25 (n := n + 0) w11
  obtain rfl := wtL_nil h12
  exact ⟨⟨x0, x1, x2, x3, x4, x5, x6, x7, x8, x9, x10, x11⟩, rfl, o0, o1, o2, o3, o4, o5, o6, o7, o8, o9, o10, o11⟩
theorem law05_MsgCuts_of_t5 {n : Nat} {ds : List D} (h : wtF Tryd.prog (n + 1) 5 ds) : ∃ x : Int, ds = (eInt .u8) x ∧ inK .u8 x := by
  obtain ⟨m, rfl, o⟩ := wt_int (k := .u8) (by kernel_rfl) h
  exact ⟨m, rfl, o⟩
theorem law05_MsgCuts_of_t28 {n : Nat} {ds : List D} (h : wtF Tryd.prog (n + 2) 28 ds) : ∃ x : List Int, ds = (eSl 1 (eInt .u8)) x ∧ (x.length * 1 ≤ reachBytes ∧ ∀ y ∈ x, inK .u8 y) := by
  obtain ⟨rows, rfl, o, w⟩ := wt_slice (n := n + 1) (e := 5) (sz := 1) (by_ := 1) (by kernel_rfl) (by kernel_rfl) (by kernel_rfl) h
  obtain ⟨l, rfl, q⟩ := wt_rows (en := (eInt .u8)) (Ok := fun y => inK .u8 y) (fun r hr => law05_MsgCuts_of_t5 (n := n + 0) hr) rows w
  exact ⟨l, rfl, by simpa using o, q⟩
theorem law05_MsgCuts_of_t30 {n : Nat} {ds : List D} (h : wtF Tryd.prog (n + 4) 30 ds) : ∃ x : Msg, ds = Msg.enc x ∧ x.Ok := by
  have h0 := wt_struct (n := n + 3) (ts := [22, 3, 3, 2, 2, 2, 2, 2, 23, 3, 4, 27, 25, 28, 28]) (by kernel_rfl) h
  obtain ⟨a0, b0, rfl, w0, h1⟩ := wtL_cons h0
  obtain ⟨x0, rfl, o0⟩ := law05_MsgCuts_of_t22 (n := n + 2) w0
  obtain ⟨a1, b1, rfl, w1, h2⟩ := wtL_cons h1
  obtain ⟨x1, rfl, o1⟩ := law05_MsgCuts_of_t3 (n := n + 2) w1
  obtain ⟨a2, b2, rfl, w2, h3⟩ := wtL_cons h2
  obtain ⟨x2, rfl, o2⟩ := law05_MsgCuts_of_t3 (n := n + 2) w2
  obtain ⟨a3, b3, rfl, w3, h4⟩ := wtL_cons h3
  obtain ⟨x3, rfl, o3⟩ := law05_MsgCuts_of_t2 (n := n + 2) w3
  obtain ⟨a4, b4, rfl, w4, h5⟩ := wtL_cons h4
  obtain ⟨x4, rfl, o4⟩ := law05_MsgCuts_of_t2 (n := n + 2) w4
  obtain ⟨a5, b5, rfl, w5, h6⟩ := wtL_cons h5
  obtain ⟨x5, rfl, o5⟩ := law05_MsgCuts_of_t2 (n := n + 2) w5
  obtain ⟨a6, b6, rfl, w6, h7⟩ := wtL_cons h6
  obtain ⟨x6, rfl, o6⟩ := law05_MsgCuts_of_t2 (n := n + 2) w6
  obtain ⟨a7, b7, rfl, w7, h8⟩ := wtL_cons h7
  obtain ⟨x7, rfl, o7⟩ := law05_MsgCuts_of_t2 (n := n + 2) w7
  obtain ⟨a8, b8, rfl, w8, h9⟩ := wtL_cons h8
  obtain ⟨x8, rfl, o8⟩ := law05_MsgCuts_of_t23 (n := n + 2) w8
  obtain ⟨a9, b9, rfl, w9, h10⟩ := wtL_cons h9
  obtain ⟨x9, rfl, o9⟩ := law05_MsgCuts_of_t3 (n := n + 2) w9
  obtain ⟨a10, b10, rfl, w10, h11⟩ := wtL_cons h10
  obtain ⟨x10, rfl, o10⟩ := law05_MsgCuts_of_t4 (n := n + 2) w10
  obtain ⟨a11, b11, rfl, w11, h12⟩ := wtL_cons h11
  obtain ⟨x11, rfl, o11⟩ := law05_MsgCuts_of_t27 (n := n + 0) w11
  obtain ⟨a12, b12, rfl, w12, h13⟩ := wtL_cons h12
  obtain ⟨x12, rfl, o12⟩ := law05_MsgCuts_of_t25 (n := n + 1) w12
  obtain ⟨a13, b13, rfl, w13, h14⟩ := wtL_cons h13
  obtain ⟨x13, rfl, o13⟩ := law05_MsgCuts_of_t28 (n := n + 1) w13
  obtain ⟨a14, b14, rfl, w14, h15⟩ := wtL_cons h14
  obtain ⟨x14, rfl, o14⟩ := law05_MsgCuts_of_t28 (n := n + 1) w14
  obtain rfl := wtL_nil h15
  exact ⟨⟨x0, x1, x2, x3, x4, x5, x6, x7, x8, x9, x10, x11, x12, x13, x14⟩, rfl, o0, o1, o2, o3, o4, o5, o6, o7, o8, o9, o10, o11, o12, o13, o14⟩
theorem law05_MsgCuts_of_t44 {n : Nat} {ds : List D} (h : wtF Tryd.prog (n + 1) 44 ds) : ∃ x : Int, ds = (eInt .u16) x ∧ inK .u16 x := by
  obtain ⟨m, rfl, o⟩ := wt_int (k := .u16) (by kernel_rfl) h
  exact ⟨m, rfl, o⟩
theorem law05_MsgCuts_sound (H : ∀ (m : Msg) (cut : Int) (more : Int) (by_ : Int), m.Ok → inK .u16 cut → inK .u8 more → inK .u8 by_ → law05_MsgCuts m cut more by_ = some true) : ∀ xs, wtA Tryd.prog Tryd.f6.params.toList xs → Sound E 6 xs [] fun d _ => d = .bool true := by
  intro xs h
  have h0 : wtA Tryd.prog [30, 44, 5, 5] xs := h
  obtain ⟨d0, r0, rfl, w0, h1⟩ := wtA_cons h0
  obtain ⟨c0, rfl, v0⟩ := wtP_agg (by kernel_rfl) w0
  obtain ⟨x0, rfl, o0⟩ := law05_MsgCuts_of_t30 (n := 2) v0
  obtain ⟨d1, r1, rfl, w1, h2⟩ := wtA_cons h1
  have v1 := wtP_flat (by kernel_rfl) w1
  obtain ⟨x1, e1, o1⟩ := law05_MsgCuts_of_t44 (n := 5) v1
  obtain ⟨rfl, -⟩ := List.cons.inj e1
  obtain ⟨d2, r2, rfl, w2, h3⟩ := wtA_cons h2
  have v2 := wtP_flat (by kernel_rfl) w2
  obtain ⟨x2, e2, o2⟩ := law05_MsgCuts_of_t5 (n := 5) v2
  obtain ⟨rfl, -⟩ := List.cons.inj e2
  obtain ⟨d3, r3, rfl, w3, h4⟩ := wtA_cons h3
  have v3 := wtP_flat (by kernel_rfl) w3
  obtain ⟨x3, e3, o3⟩ := law05_MsgCuts_of_t5 (n := 5) v3
  obtain ⟨rfl, -⟩ := List.cons.inj e3
  obtain rfl := wtA_nil h4
  exact (law05_MsgCuts_ok (H x0 x1 x2 x3 o0 o1 o2 o3)).mono fun d s h => h.1
end Go.RX.L

set_option linter.unusedSimpArgs false
set_option linter.unusedVariables false
set_option maxRecDepth 100000
namespace Go.RX.L
open Go Go.RX

theorem msgCuts : ∀ (m : Msg) (cut : Int) (more : Int) (by_ : Int), m.Ok → inK .u16 cut → inK .u8 more → inK .u8 by_ → law05_MsgCuts m cut more by_ = some true := by
  intro m cut more by_ hm hc hx hy
  have hf := hm.fine
  have hc' := inU16.1 hc
  have hx' := inU8.1 hx
  have hy' := inU8.1 hy
  simp only [law05_MsgCuts, head_ok, mput_ok hf, Option.bind_some]
  by_cases r : rightM m = true
  rotate_left
  · have e : putM m = ([], 51) := by rw [putM, if_neg r]
    rw [e]; rfl
  have e : putM m = (encF m.Kind (encB m), 0) := by rw [putM, if_pos r]
  have lb := frame_len hf r
  have bb := frame_bytes hf r
  have g8 : 8 ≤ (encF m.Kind (encB m)).length := by rw [encF_len]; omega
  have hcut := fun j (hj : j < (encF m.Kind (encB m)).length) => getM_cut hf r hj
  have hmore := getM_more hf r more
  have hturn : ∀ (i : Nat) (x : Int), 0 ≤ x ∧ x ≤ 255 → (hi : i < (encF m.Kind (encB m)).length) → (getM ((encF m.Kind (encB m)).set i x)).2 = 0 → (encF m.Kind (encB m))[i] = x := by
    intro i x hx hi hz
    have hbs : Bytes ((encF m.Kind (encB m)).set i x) := fun c hc => by
      rcases List.mem_or_eq_of_mem_set hc with h | rfl
      · exact bb c h
      · exact hx
    obtain ⟨d1, d2, d3⟩ := getM_dec hbs (m := (getM ((encF m.Kind (encB m)).set i x)).1) (by rw [← hz])
    exact encF_turn (kind_in r) (encB_bytes hf) (by have := encB_len hf r; omega) hx hi d3
  have hsame := getM_enc hf r
  rw [e]
  generalize encF m.Kind (encB m) = b at *
  have c1 : decide (((b.length : Nat) : Int) < 8) = false := decide_eq_false (by omega)
  simp only [bne_self_eq_false, cond_false, List.length_map, c1, law05_MsgCuts_1]
  obtain ⟨n, rfl⟩ := Int.eq_ofNat_of_zero_le hc'.1
  have h0 : 0 < b.length := by omega
  have hmod : Int.tmod (IntKind.i64.wrap (n : Int)) ((b.length : Nat) : Int) = ((n % b.length : Nat) : Int) := by
    rw [wI64 (by omega) (by omega)]; rfl
  have hlt : n % b.length < b.length := Nat.mod_lt _ h0
  rw [show (!decide (((b.length : Nat) : Int) = 0)) = true by rw [decide_eq_false (by omega)]; rfl]
  simp only [hmod, cond_true, Int.toNat_natCast, Nat.zero_add, List.drop_zero]
  generalize n % b.length = i at *
  have c2 : (decide (((0 : Nat) : Int) ≤ (i : Int)) && decide ((i : Int) ≤ ((b.length : Nat) : Int))) = true := by simp; omega
  have c3 : decide (b.length * 1 ≤ bytesLim) = true := limOk (by omega)
  have c4 : decide ((b.length + 1) * 1 ≤ bytesLim) = true := limOk (by omega)
  have tb : Bytes (b.take i) := take_in bb i
  have mb : Bytes (b ++ [more]) := fun c hc => by
    rcases List.mem_append.1 hc with h | h
    · exact bb c h
    · simp only [List.mem_cons, List.not_mem_nil, or_false] at h; subst h; exact hx'
  have g1 := mget_ok tb (by rw [List.length_take]; simp only [memB]; omega)
  have g2 := mget_ok mb (by simp only [List.length_append, memB, List.length_cons, List.length_nil]; omega)
  rw [hmore] at g2
  have q1 := hcut i hlt
  simp only [c2, c3, c4, cond_true, g1, g2, Option.bind_some, ixB hlt, List.getE hlt]
  have hbi := bb _ (List.getElem_mem hlt)
  obtain ⟨a, ha⟩ : ∃ a : Nat, b[i] = (a : Int) := ⟨_, (Int.toNat_of_nonneg hbi.1).symm⟩
  obtain ⟨y, rfl⟩ := Int.eq_ofNat_of_zero_le hy'.1
  rw [ha] at hbi
  have hxor : xorI .u8 b[i] (y : Int) = ((a ^^^ y : Nat) : Int) := by rw [ha, xorU8 (by omega) (by omega)]
  have hxl : a ^^^ y < 256 := Nat.xor_lt_two_pow (n := 8) (by omega) (by omega)
  have sb : Bytes (b.set i ((a ^^^ y : Nat) : Int)) := fun c hc => by
    rcases List.mem_or_eq_of_mem_set hc with h | rfl
    · exact bb c h
    · omega
  have g3 := mget_ok sb (by rw [List.length_set]; simp only [memB]; omega)
  rw [hxor, g3]
  rw [show ((getM (b.take i)).2 != 0) = true from bne_iff_ne.2 q1]
  simp only [Option.bind_some, cond_true]
  rw [show ((51 : Int) != 0) = true from rfl, cond_true]
  congr 1
  by_cases hz : y = 0
  · subst hz
    have : b.set i ((a ^^^ 0 : Nat) : Int) = b := by rw [Nat.xor_zero, ← ha, List.set_getElem_self]
    rw [this, hsame]; rfl
  · have : (getM (b.set i ((a ^^^ y : Nat) : Int))).2 ≠ 0 := by
      intro h
      have h1 := hturn i ((a ^^^ y : Nat) : Int) (by omega) hlt h
      rw [ha] at h1
      have h2 : a ^^^ 0 = a ^^^ y := by rw [Nat.xor_zero]; exact Int.ofNat.inj h1
      exact hz (xor_cancel' h2).symm
    rw [beq_eq_false_iff_ne.2 this, beq_eq_false_iff_ne.2 (show ((y : Nat) : Int) ≠ 0 by omega)]; rfl

end Go.RX.L
