/-
  Words and walks for FenceWrites. No condition.
-/
import Derived.Test.YtflpengopdhhhaaDoorFenceWritesY8
set_option linter.unusedSectionVars false
set_option linter.unnecessarySimpa false
set_option linter.unusedSimpArgs false
set_option linter.unusedVariables false
set_option maxRecDepth 100000
namespace Go.RX.L
open Go Go.RX Go.Proofs
theorem law18_FenceWrites_of_t3 {n : Nat} {ds : List D} (h : wtF Tryd.prog (n + 1) 3 ds) : ∃ x : Int, ds = (eInt .i64) x ∧ inK .i64 x := by
  obtain ⟨m, rfl, o⟩ := wt_int (k := .i64) (by kernel_rfl) h
  exact ⟨m, rfl, o⟩
theorem law18_FenceWrites_of_t22 {n : Nat} {ds : List D} (h : wtF Tryd.prog (n + 2) 22 ds) : ∃ x : List Int, ds = (eSl 1 (eInt .i64)) x ∧ (x.length * 8 ≤ reachBytes ∧ ∀ y ∈ x, inK .i64 y) := by
  obtain ⟨rows, rfl, o, w⟩ := wt_slice (n := n + 1) (e := 3) (sz := 1) (by_ := 8) (by kernel_rfl) (by kernel_rfl) (by kernel_rfl) h
  obtain ⟨l, rfl, q⟩ := wt_rows (en := (eInt .i64)) (Ok := fun y => inK .i64 y) (fun r hr => law18_FenceWrites_of_t3 (n := n + 0) hr) rows w
  exact ⟨l, rfl, by simpa using o, q⟩
theorem law18_FenceWrites_of_t2 {n : Nat} {ds : List D} (h : wtF Tryd.prog (n + 1) 2 ds) : ∃ x : Int, ds = (eInt .i64) x ∧ inK .i64 x := by
  obtain ⟨m, rfl, o⟩ := wt_int (k := .i64) (by kernel_rfl) h
  exact ⟨m, rfl, o⟩
theorem law18_FenceWrites_of_t24 {n : Nat} {ds : List D} (h : wtF Tryd.prog (n + 3) 24 ds) : ∃ x : Config, ds = Config.enc x ∧ x.Ok := by
  have h0 := wt_struct (n := n + 2) (ts := [3, 3, 3, 3, 3, 22, 2, 2, 3, 3, 2, 2, 2, 2, 2, 2, 3, 3, 3, 3, 2, 3, 3, 2, 2, 3, 2, 3, 3, 2]) (by kernel_rfl) h
  obtain ⟨a0, b0, rfl, w0, h1⟩ := wtL_cons h0
  obtain ⟨x0, rfl, o0⟩ := law18_FenceWrites_of_t3 (n := n + 1) w0
  obtain ⟨a1, b1, rfl, w1, h2⟩ := wtL_cons h1
  obtain ⟨x1, rfl, o1⟩ := law18_FenceWrites_of_t3 (n := n + 1) w1
  obtain ⟨a2, b2, rfl, w2, h3⟩ := wtL_cons h2
  obtain ⟨x2, rfl, o2⟩ := law18_FenceWrites_of_t3 (n := n + 1) w2
  obtain ⟨a3, b3, rfl, w3, h4⟩ := wtL_cons h3
  obtain ⟨x3, rfl, o3⟩ := law18_FenceWrites_of_t3 (n := n + 1) w3
  obtain ⟨a4, b4, rfl, w4, h5⟩ := wtL_cons h4
  obtain ⟨x4, rfl, o4⟩ := law18_FenceWrites_of_t3 (n := n + 1) w4
  obtain ⟨a5, b5, rfl, w5, h6⟩ := wtL_cons h5
  obtain ⟨x5, rfl, o5⟩ := law18_FenceWrites_of_t22 (n := n + 0) w5
  obtain ⟨a6, b6, rfl, w6, h7⟩ := wtL_cons h6
  obtain ⟨x6, rfl, o6⟩ := law18_FenceWrites_of_t2 (n := n + 1) w6
  obtain ⟨a7, b7, rfl, w7, h8⟩ := wtL_cons h7
  obtain ⟨x7, rfl, o7⟩ := law18_FenceWrites_of_t2 (n := n + 1) w7
  obtain ⟨a8, b8, rfl, w8, h9⟩ := wtL_cons h8
  obtain ⟨x8, rfl, o8⟩ := law18_FenceWrites_of_t3 (n := n + 1) w8
  obtain ⟨a9, b9, rfl, w9, h10⟩ := wtL_cons h9
  obtain ⟨x9, rfl, o9⟩ := law18_FenceWrites_of_t3 (n := n + 1) w9
  obtain ⟨a10, b10, rfl, w10, h11⟩ := wtL_cons h10
  obtain ⟨x10, rfl, o10⟩ := law18_FenceWrites_of_t2 (n := n + 1) w10
  obtain ⟨a11, b11, rfl, w11, h12⟩ := wtL_cons h11
  obtain ⟨x11, rfl, o11⟩ := law18_FenceWrites_of_t2 (n := n + 1) w11
  obtain ⟨a12, b12, rfl, w12, h13⟩ := wtL_cons h12
  obtain ⟨x12, rfl, o12⟩ := law18_FenceWrites_of_t2 (n := n + 1) w12
  obtain ⟨a13, b13, rfl, w13, h14⟩ := wtL_cons h13
  obtain ⟨x13, rfl, o13⟩ := law18_FenceWrites_of_t2 (n := n + 1) w13
  obtain ⟨a14, b14, rfl, w14, h15⟩ := wtL_cons h14
  obtain ⟨x14, rfl, o14⟩ := law18_FenceWrites_of_t2 (n := n + 1) w14
  obtain ⟨a15, b15, rfl, w15, h16⟩ := wtL_cons h15
  obtain ⟨x15, rfl, o15⟩ := law18_FenceWrites_of_t2 (n := n + 1) w15
  obtain ⟨a16, b16, rfl, w16, h17⟩ := wtL_cons h16
  obtain ⟨x16, rfl, o16⟩ := law18_FenceWrites_of_t3 (n := n + 1) w16
  obtain ⟨a17, b17, rfl, w17, h18⟩ := wtL_cons h17
  obtain ⟨x17, rfl, o17⟩ := law18_FenceWrites_of_t3 (n := n + 1) w17
  obtain ⟨a18, b18, rfl, w18, h19⟩ := wtL_cons h18
  obtain ⟨x18, rfl, o18⟩ := law18_FenceWrites_of_t3 (n := n + 1) w18
  obtain ⟨a19, b19, rfl, w19, h20⟩ := wtL_cons h19
  obtain ⟨x19, rfl, o19⟩ := law18_FenceWrites_of_t3 (n := n + 1) w19
  obtain ⟨a20, b20, rfl, w20, h21⟩ := wtL_cons h20
  obtain ⟨x20, rfl, o20⟩ := law18_FenceWrites_of_t2 (n := n + 1) w20
  obtain ⟨a21, b21, rfl, w21, h22⟩ := wtL_cons h21
  obtain ⟨x21, rfl, o21⟩ := law18_FenceWrites_of_t3 (n := n + 1) w21
  obtain ⟨a22, b22, rfl, w22, h23⟩ := wtL_cons h22
  obtain ⟨x22, rfl, o22⟩ := law18_FenceWrites_of_t3 (n := n + 1) w22
  obtain ⟨a23, b23, rfl, w23, h24⟩ := wtL_cons h23
  obtain ⟨x23, rfl, o23⟩ := law18_FenceWrites_of_t2 (n := n + 1) w23
  obtain ⟨a24, b24, rfl, w24, h25⟩ := wtL_cons h24
  obtain ⟨x24, rfl, o24⟩ := law18_FenceWrites_of_t2 (n := n + 1) w24
  obtain ⟨a25, b25, rfl, w25, h26⟩ := wtL_cons h25
  obtain ⟨x25, rfl, o25⟩ := law18_FenceWrites_of_t3 (n := n + 1) w25
  obtain ⟨a26, b26, rfl, w26, h27⟩ := wtL_cons h26
  obtain ⟨x26, rfl, o26⟩ := law18_FenceWrites_of_t2 (n := n + 1) w26
  obtain ⟨a27, b27, rfl, w27, h28⟩ := wtL_cons h27
  obtain ⟨x27, rfl, o27⟩ := law18_FenceWrites_of_t3 (n := n + 1) w27
  obtain ⟨a28, b28, rfl, w28, h29⟩ := wtL_cons h28
  obtain ⟨x28, rfl, o28⟩ := law18_FenceWrites_of_t3 (n := n + 1) w28
  obtain ⟨a29, b29, rfl, w29, h30⟩ := wtL_cons h29
  obtain ⟨x29, rfl, o29⟩ := law18_FenceWrites_of_t2 (n := n + 1) w29
  obtain rfl := wtL_nil h30
  exact ⟨⟨x0, x1, x2, x3, x4, x5, x6, x7, x8, x9, x10, x11, x12, x13, x14, x15, x16, x17, x18, x19, x20, x21, x22, x23, x24, x25, x26, x27, x28, x29⟩, rfl, o0, o1, o2, o3, o4, o5, o6, o7, o8, o9, o10, o11, o12, o13, o14, o15, o16, o17, o18, o19, o20, o21, o22, o23, o24, o25, o26, o27, o28, o29⟩
theorem law18_FenceWrites_of_t5 {n : Nat} {ds : List D} (h : wtF Tryd.prog (n + 1) 5 ds) : ∃ x : Int, ds = (eInt .u8) x ∧ inK .u8 x := by
  obtain ⟨m, rfl, o⟩ := wt_int (k := .u8) (by kernel_rfl) h
  exact ⟨m, rfl, o⟩
theorem law18_FenceWrites_of_t37 {n : Nat} {ds : List D} (h : wtF Tryd.prog (n + 2) 37 ds) : ∃ x : List Int, ds = (eSl 1 (eInt .u8)) x ∧ (x.length * 1 ≤ reachBytes ∧ ∀ y ∈ x, inK .u8 y) := by
  obtain ⟨rows, rfl, o, w⟩ := wt_slice (n := n + 1) (e := 5) (sz := 1) (by_ := 1) (by kernel_rfl) (by kernel_rfl) (by kernel_rfl) h
  obtain ⟨l, rfl, q⟩ := wt_rows (en := (eInt .u8)) (Ok := fun y => inK .u8 y) (fun r hr => law18_FenceWrites_of_t5 (n := n + 0) hr) rows w
  exact ⟨l, rfl, by simpa using o, q⟩
theorem law18_FenceWrites_sound (H : ∀ (c : Config) (n : Int) (payload : List Int), c.Ok → inK .u8 n → (payload.length * 1 ≤ reachBytes ∧ ∀ y ∈ payload, inK .u8 y) → law18_FenceWrites c n payload = some true) : ∀ xs, wtA Tryd.prog Tryd.f4.params.toList xs → Sound E 4 xs [] fun d _ => d = .bool true := by
  intro xs h
  have h0 : wtA Tryd.prog [24, 5, 37] xs := h
  obtain ⟨d0, r0, rfl, w0, h1⟩ := wtA_cons h0
  obtain ⟨c0, rfl, v0⟩ := wtP_agg (by kernel_rfl) w0
  obtain ⟨x0, rfl, o0⟩ := law18_FenceWrites_of_t24 (n := 3) v0
  obtain ⟨d1, r1, rfl, w1, h2⟩ := wtA_cons h1
  have v1 := wtP_flat (by kernel_rfl) w1
  obtain ⟨x1, e1, o1⟩ := law18_FenceWrites_of_t5 (n := 5) v1
  obtain ⟨rfl, -⟩ := List.cons.inj e1
  obtain ⟨d2, r2, rfl, w2, h3⟩ := wtA_cons h2
  have v2 := wtP_flat (by kernel_rfl) w2
  obtain ⟨x2, e2, o2⟩ := law18_FenceWrites_of_t37 (n := 4) v2
  obtain ⟨rfl, -⟩ := List.cons.inj e2
  obtain rfl := wtA_nil h3
  exact (law18_FenceWrites_ok (H x0 x1 x2 o0 o1 o2)).mono fun d s h => h.1
end Go.RX.L

namespace Go.RX.L
open Go Go.RX
theorem wS1T {i : Nat} (h : i ≤ 200000) : IntKind.i64.wrap ((i : Int) + 1) = ((i + 1 : Nat) : Int) := by rw [wI64 (by omega) (by omega)]; norm_cast
theorem closedT_ok {l : List Entry} {cl : List (List Int)} (hl : cl.length ≤ 90000) (hi : ∀ y ∈ cl, y.length = 3) {f : Int} {known : Plan} {hold : Hold} {begun filled : Int} {c : Config} {index : Int} {w : Bool} {fuse : Int} {d : Bool} {s t : List Int} :
    Target_Closed f known hold begun filled c index w l cl fuse d s t = some cl := by
  have loop : ∀ (j k : Nat), k + j = cl.length → Ev (Target_Closed_step f known hold begun filled c index w l cl fuse d s t) (.s1 (cl.length : Int) (k : Int) (cl.take k)) cl := by
    intro j
    induction j with
    | zero =>
      intro k hk
      refine .done ?_
      have : decide ((k : Int) < (cl.length : Int)) = false := by simp; omega
      simp only [Target_Closed_step, Target_Closed_1, this, cond_false]
      rw [List.take_of_length_le (by omega)]
    | succ j ih =>
      intro k hk
      have hlt : k < cl.length := by omega
      have e1 := sclone_ok (b := cl[k]) (by rw [hi _ (List.getElem_mem hlt)]; decide)
      have lim : decide (((cl.take k).length + 1) * 24 ≤ bytesLim) = true := limOk (by rw [List.length_take]; omega)
      refine .next (s' := .s1 (cl.length : Int) ((k + 1 : Nat) : Int) (cl.take (k + 1))) ?_ (ih (k + 1) (by omega))
      have tk : cl.take (k + 1) = cl.take k ++ [cl[k]] := by rw [List.take_succ_eq_append_getElem hlt]
      simp only [Target_Closed_step, Target_Closed_1, ltB hlt, cond_true, List.length_map, le0, Bool.and_self, Int.toNat_natCast, Nat.zero_add, List.getE hlt, Option.bind_some, e1, lim, wS1T (show k ≤ 200000 by omega), tk]
  refine evf_of (.next (s' := .s1 (cl.length : Int) 0 []) ?_ (by have := loop cl.length 0 (by omega); simpa using this))
  simp only [Target_Closed_step, Target_Closed_0, List.length_map]
theorem tickA {c : Config} {index fence : Int} {known : Plan} {hold : Hold} {begun filled : Int} {w : Bool} {l : List Entry} {cl : List (List Int)} {fuse : Int} {s t : List Int} {now : Int} (hc : rightC c = true) (hi : 0 ≤ index ∧ index ≤ 16) (h1 : ¬ now < 0) (h2 : ¬ now > 1099511627776) (h4 : namesP known index = true) (he : ¬ hold.Epoch = known.Epoch) :
    Target_Tick now fence known hold begun filled c index w l cl fuse false s t = some (askL c index known.Epoch now, askP hold known.Epoch now) := by
  have hnames := names_ok known index
  have hac : api_Acceptors c = some (2 * c.F_ + 1) := by
    obtain ⟨g1, g2, g3⟩ := rightC_n hc
    simp only [api_Acceptors]
    rw [wI64 (n := 2 * c.F_) (by omega) (by omega), wI64 (by omega) (by omega)]
  obtain ⟨g1, g2, g3⟩ := rightC_n hc
  have nd := node_ok hc hi
  refine evf_of (.next (s' := .s3 known.Epoch false) ?_ (.next (s' := .s2 known.Epoch false) ?_ (.next (s' := .s1 known.Epoch (2 * c.F_ + 1) 0 (askP hold known.Epoch now) []) ?_ ?_)))
  · simp only [Target_Tick_step, Target_Tick_0, decide_eq_false h1, decide_eq_false h2, cond_false, Journal_Down, Option.bind_some, hnames, h4, Bool.not_true]
  · simp only [Target_Tick_step, Target_Tick_3, cond_false, beqF he]
  · simp only [Target_Tick_step, Target_Tick_2, cond_false, ask_ok, hac, Option.bind_some]
  · have loop : ∀ (j k : Nat), k + j = (2 * c.F_ + 1).toNat → Ev (Target_Tick_step now fence known hold begun filled c index w l cl fuse false s t) (.s1 known.Epoch (2 * c.F_ + 1) (k : Int) (askP hold known.Epoch now) ((List.range k).map fun (k : Nat) => (⟨10, nodeT c index, (k : Int), known.Epoch, 0, 0, now, 0, 0, 1, false, zeroPl, [], [], []⟩ : Msg))) (askL c index known.Epoch now, askP hold known.Epoch now) := by
      intro j
      induction j with
      | zero =>
        intro k hk
        refine .done ?_
        have : decide ((k : Int) < 2 * c.F_ + 1) = false := by simp; omega
        simp only [Target_Tick_step, Target_Tick_1, this, cond_false, askL]
        rw [← hk]; rfl
      | succ j ih =>
        intro k hk
        have : decide ((k : Int) < 2 * c.F_ + 1) = true := by simp; omega
        have lim : decide ((k + 1) * 288 ≤ bytesLim) = true := limOk (by omega)
        have w : IntKind.i64.wrap ((k : Int) + 1) = ((k + 1 : Nat) : Int) := by rw [wI64 (by omega) (by omega)]; norm_cast
        refine .next (s' := .s1 known.Epoch (2 * c.F_ + 1) ((k + 1 : Nat) : Int) (askP hold known.Epoch now) ((List.range (k + 1)).map fun (k : Nat) => (⟨10, nodeT c index, (k : Int), known.Epoch, 0, 0, now, 0, 0, 1, false, zeroPl, [], [], []⟩ : Msg))) ?_ (ih (k + 1) (by omega))
        simp only [Target_Tick_step, Target_Tick_1, this, cond_true, nd, Option.bind_some, List.length_map, List.length_range, lim, w, List.range_succ, List.map_append, List.map_cons, List.map_nil]
        rfl
    have := loop (2 * c.F_ + 1).toNat 0 (by omega)
    simpa using this
/-! ### the plan, the lease -/
def planW (c : Config) : Plan := ⟨1, 0, -1, -1, 100, 0, 0, 0, 0, 0, List.replicate c.Targets.toNat 0, []⟩
theorem planW_rt {c : Config} (hc : rightC c = true) : rightP (planW c) = true := by
  obtain ⟨-, -, h3⟩ := rightC_n hc
  rw [rightP_iff]
  refine ⟨by simp [planW], ?_, by simp [planW], ?_, by simp [planW], by simp [planW], ?_, by simp [planW], ?_, by simp [planW], rfl⟩
  · intro x hx; simp [planW] at hx; omega
  · intro x hx; simp [planW] at hx; omega
  · simp [planW]; omega
  · intro x hx; simp [planW] at hx; omega
theorem planW_fits {c : Config} (hc : rightC c = true) : fitsP c (planW c) = true := by
  obtain ⟨-, -, h3⟩ := rightC_n hc
  obtain ⟨k, hk⟩ := Int.eq_ofNat_of_zero_le (show 0 ≤ c.Targets by omega)
  have hB : 1 ≤ c.B_ := by
    have h := hc
    simp only [rightC, Bool.and_eq_true, btw_iff, List.mem_cons, List.not_mem_nil, or_false, forall_eq_or_imp, forall_eq] at h
    obtain ⟨-, -, -, -, -, -, -, -, -, h9, -⟩ := h
    omega
  have e1 : andNotI .u64 (orI .u64 0 0) (IntKind.u64.wrap (shlI .u64 1 c.Targets - 1)) = 0 := by
    have hk16 : k ≤ 16 := by omega
    have hp : (2 : Nat) ^ k ≤ 2 ^ 16 := Nat.pow_le_pow_right (by decide) hk16
    have hp0 : 0 < (2 : Nat) ^ k := Nat.pow_pos (by decide)
    rw [hk, shlI64 (by omega), show ((0 : Int)) = ((0 : Nat) : Int) from rfl, orI64 (by decide) (by decide)]
    rw [show (((2 ^ k : Nat) : Int) - 1) = ((2 ^ k - 1 : Nat) : Int) by omega, wrapU64 (by omega), andNotI64 (by decide) (by omega)]
    simp
  simp only [fitsP, planW_rt hc, Bool.true_and, Bool.and_eq_true, decide_eq_true_eq]
  refine ⟨by simp [planW]; omega, ?_, by simp only [planW]; exact e1, by simp [planW]; omega⟩
  simp only [planW]; unfold mxI; simp; omega
theorem planW_names (c : Config) : namesP (planW c) 0 = true := rfl
section
variable {c : Config}
theorem dec_ok (hc : rightC c = true) :
    Target_Handle ⟨9, 0, 0, 0, 0, 0, 0, 0, 0, 0, true, planW c, [], [], []⟩ 1 0 (zeroC_ c) ⟨0, 0, 0, 0⟩ 0 0 c 0 true [] [] (-1) false [] [] = some ([], 0, planW c, ⟨0, 0, 0, 0⟩, 0, 0, -1, false, [], [], [], []) := by
  obtain ⟨-, -, h3⟩ := rightC_n hc
  have hs : Shrt (planW c) := ⟨by simp [planW]; omega, by simp [planW]⟩
  have hrm : rightM ⟨9, 0, 0, 0, 0, 0, 0, 0, 0, 0, true, planW c, [], [], []⟩ = true := by
    simp only [rightM, Bool.and_eq_true, decide_eq_true_eq, planB, cond_true]
    exact ⟨by unfold hdM; simp, by unfold txM; simp, planW_rt hc⟩
  have ff := fits_ok (p := planW c) hs (by simp [planW]) (by simp [planW]) hc (index := 0) (fuse := -1) (s := []) (t := []) (fence := 0) (known := zeroC_ c) (hold := ⟨0, 0, 0, 0⟩) (begun := 0) (filled := 0) (well := true) (l := []) (cl := []) (d := false)
  rw [handle_up ⟨hs, inU64.2 (by simp [planW]), inU64.2 (by simp [planW])⟩ hrm (by decide)]
  simp only [Target_Handle_1, cond_false, show ((9 : Int) == 1) = false from rfl, beq_self_eq_true, cond_true, ff, Option.bind_some, planW_fits hc, show decide ((planW c).Epoch > (zeroC_ c).Epoch) = true from rfl, Target_Handle_2]
def holdW (c : Config) (a : Nat) : Hold := ⟨1, 1, ((2 ^ a - 1 : Nat) : Int), if c.F_ < (a : Int) then 1 + c.L_ else 0⟩
def grM (a : Int) : Msg := ⟨11, a, 0, 1, 0, 0, 1, 0, 0, 1, false, zeroPl, [], [], []⟩
theorem fNW (hc : rightC c = true) : (fN c : Int) = c.F_ ∧ lP c = c.L_ := by
  obtain ⟨⟨f1, f2⟩, -⟩ := rightC_n hc
  obtain ⟨-, ⟨l1, l2⟩, -⟩ := rightC_b hc
  refine ⟨?_, by unfold lP mnI mxI; split <;> split <;> omega⟩
  rw [← fN_eq]; unfold mnI mxI; split <;> split <;> omega
theorem cntW : ∀ f < 4, ∀ a < f + 1, decide (f < cnt (2 ^ (a + 1) - 1) (2 * f + 1)) = decide (a = f) ∧ ((2 ^ a - 1) ||| 2 ^ a) = 2 ^ (a + 1) - 1 := by decide
theorem grantW (hc : rightC c = true) {a : Nat} (ha : (a : Int) ≤ c.F_) : grantP (holdW c a) c (grM a) = holdW c (a + 1) := by
  obtain ⟨e1, e2⟩ := fNW hc
  obtain ⟨-, ⟨l1, l2⟩, -⟩ := rightC_b hc
  obtain ⟨⟨f1, f2⟩, -⟩ := rightC_n hc
  obtain ⟨c1, c2⟩ := cntW (fN c) (by omega) a (by omega)
  have hg : goodP (holdW c a) c (grM a) = true := by
    have a1 : ¬ (a : Int) > 2 * (fN c : Int) := by omega
    simp [goodP, holdW, grM]
    exact ⟨decide_eq_false (by omega), by omega⟩
  rw [grantP, if_pos hg]
  simp only [givenP, holdW, grM, Int.toNat_natCast, mostP, c2, c1, e2]
  by_cases h : a = fN c
  · have h1 : c.F_ < ((a + 1 : Nat) : Int) := by omega
    have h2 : ¬ c.F_ < (a : Int) := by omega
    rw [decide_eq_true h, if_pos h1, if_neg h2]
    simp only [cond_true, Hold.mk.injEq, true_and]
    unfold mxI; split <;> omega
  · have h1 : ¬ c.F_ < ((a + 1 : Nat) : Int) := by omega
    have h2 : ¬ c.F_ < (a : Int) := by omega
    rw [decide_eq_false h, if_neg h1, if_neg h2]
    rfl
theorem holdW_u (hc : rightC c = true) {a : Nat} (ha : (a : Int) ≤ c.F_ + 1) : inK .u64 (holdW c a).Grants := by
  obtain ⟨⟨f1, f2⟩, -⟩ := rightC_n hc
  have : (2 : Nat) ^ a ≤ 2 ^ 4 := Nat.pow_le_pow_right (by decide) (by omega)
  exact inU64.2 (by simp only [holdW]; omega)
theorem lease_h (hc : rightC c = true) {a : Nat} (ha : (a : Int) ≤ c.F_) :
    Target_Handle (grM a) 1 0 (planW c) (holdW c a) 0 0 c 0 true [] [] (-1) false [] [] = some ([], 0, planW c, holdW c (a + 1), 0, 0, -1, false, [], [], [], []) := by
  obtain ⟨⟨f1, f2⟩, -⟩ := rightC_n hc
  have hg := grant_ok (holdW c a) c (grM a) (holdW_u hc (by omega))
  have hr : rightM (grM a) = true := zeroRight (by decide) (by omega) (by decide) (by decide)
  rw [handle_up (m := grM a) (zeroShm ..) hr (by decide)]
  simp only [Target_Handle_1, cond_false, show (grM a).Kind = 11 from rfl, show (grM a).Code = 1 from rfl, show ((11 : Int) == 1) = false from rfl, show ((11 : Int) == 9) = false from rfl, show ((11 : Int) == 12) = false from rfl, beq_self_eq_true, cond_true, hg, Option.bind_some, grantW hc ha]
theorem liveW (hc : rightC c = true) : liveP (holdW c (c.F_ + 1).toNat) 1 1 = true := by
  obtain ⟨⟨f1, f2⟩, -⟩ := rightC_n hc
  obtain ⟨-, ⟨l1, l2⟩, -⟩ := rightC_b hc
  have : c.F_ < (((c.F_ + 1).toNat : Nat) : Int) := by omega
  simp only [liveP, holdW, if_pos this, Bool.and_eq_true, decide_eq_true_eq, true_and]
  omega
/-! ### requests -/
def idW (i : Nat) : List Int := [0, 1, (i : Int)]
def entW (pl : List Int) (i : Nat) : Entry := ⟨idW i, 1, pl⟩
def wrM (pl : List Int) (i : Nat) : Msg := ⟨14, 9, 0, 1, 0, 0, 0, 0, 0, 0, false, zeroPl, idW i, [], pl⟩
def lW (pl : List Int) (cap k : Nat) : List Entry := (List.range (min k cap)).map (entW pl)
def cW (cap k : Nat) : List (List Int) := (List.range (k - cap)).map fun j => idW (cap + j)
theorem idW_inj {i j : Nat} (h : idW i = idW j) : i = j := by
  have : (i : Int) = (j : Int) := by simpa [idW] using h
  omega
theorem lW_mem {pl : List Int} {cap k : Nat} {e : Entry} : e ∈ lW pl cap k ↔ ∃ i, i < k ∧ i < cap ∧ e = entW pl i := by
  simp only [lW, List.mem_map, List.mem_range]
  constructor
  · rintro ⟨i, h, rfl⟩; exact ⟨i, by omega, by omega, rfl⟩
  · rintro ⟨i, h1, h2, rfl⟩; exact ⟨i, by omega, rfl⟩
theorem cW_mem {cap k : Nat} {x : List Int} : x ∈ cW cap k ↔ ∃ i, i < k ∧ cap ≤ i ∧ x = idW i := by
  simp only [cW, List.mem_map, List.mem_range]
  constructor
  · rintro ⟨i, h, rfl⟩; exact ⟨cap + i, by omega, by omega, rfl⟩
  · rintro ⟨i, h1, h2, rfl⟩; exact ⟨i - cap, by omega, by rw [Nat.add_sub_cancel' h2]⟩
theorem lW_lt {pl : List Int} {cap k : Nat} (h : k < cap) : lW pl cap (k + 1) = lW pl cap k ++ [entW pl k] := by
  simp only [lW, show min (k + 1) cap = k + 1 by omega, show min k cap = k by omega, List.range_succ, List.map_append, List.map_cons, List.map_nil]
theorem lW_ge {pl : List Int} {cap k : Nat} (h : cap ≤ k) : lW pl cap (k + 1) = lW pl cap k := by
  simp only [lW, show min (k + 1) cap = cap by omega, show min k cap = cap by omega]
theorem cW_ge {cap k : Nat} (h : cap ≤ k) : cW cap (k + 1) = cW cap k ++ [idW k] := by
  simp only [cW, show k + 1 - cap = k - cap + 1 by omega, List.range_succ, List.map_append, List.map_cons, List.map_nil, Nat.add_sub_cancel' h]
theorem cW_lt {cap k : Nat} (h : k < cap) : cW cap (k + 1) = cW cap k := by
  simp only [cW, show k + 1 - cap = 0 by omega, show k - cap = 0 by omega]
theorem lW_len (pl : List Int) (cap k : Nat) : (lW pl cap k).length = min k cap := by simp [lW]
theorem cW_len (cap k : Nat) : (cW cap k).length = k - cap := by simp [cW]
theorem wrM_r {pl : List Int} {i : Nat} (hp : pl.length ≤ 1024) : rightM (wrM pl i) = true := by
  simp only [rightM, Bool.and_eq_true, decide_eq_true_eq, planB, wrM, cond_false]
  exact ⟨by unfold hdM; simp, by unfold txM; simp [idW, hp], by rw [sameP_iff]⟩
theorem wrM_f {pl : List Int} {i : Nat} (hi : i ≤ 12) (hb : Bytes pl) : FineM (wrM pl i) := by
  refine ⟨⟨⟨by simp [wrM, zeroPl], by simp [wrM, zeroPl]⟩, inU64.2 (by simp [wrM, zeroPl]), inU64.2 (by simp [wrM, zeroPl])⟩, zeroFine, ?_, by simp [wrM], ?_, fun x hx => by simp [wrM] at hx, hb⟩
  · intro x hx
    simp only [wrM, List.mem_cons, List.not_mem_nil, or_false] at hx
    rcases hx with rfl | rfl | rfl | rfl | rfl <;> exact inI64.2 (by decide)
  · intro x hx
    simp only [wrM, idW, List.mem_cons, List.not_mem_nil, or_false] at hx
    rcases hx with rfl | rfl | rfl <;> exact inI64.2 (by omega)
/-- A state behind so many requests. -/
structure WI (c : Config) (k : Nat) (fence : Int) (b fi : Int) (s : List Int) : Prop where
  f : fence ≤ 1
  r : ∃ b', roomB c ⟨planW c, holdW c (c.F_ + 1).toNat, b, fi⟩ 1 = (b', ((min k c.Cap.toNat : Nat) : Int)) ∧ (b' = 1 ∨ b' = 0 ∧ 1 < c.Span)
  s : s.length ≤ 4408 * k
theorem capW (hc : rightC c = true) : 1 ≤ c.Cap ∧ c.Cap ≤ 1000 ∧ 1 ≤ c.Span ∧ c.Span ≤ 1048576 := by
  have h := hc
  simp only [rightC, Bool.and_eq_true, btw_iff, List.mem_cons, List.not_mem_nil, or_false, forall_eq_or_imp, forall_eq] at h
  obtain ⟨-, -, -, -, -, -, h7, -, -, -, -, -, -, h14, -⟩ := h
  omega
theorem roomW (hc : rightC c = true) {k : Plan} {h : Hold} {b fi : Int} (hb : b = 1 ∨ b = 0 ∧ 1 < c.Span) : roomB c ⟨k, h, b, fi⟩ 1 = (b, fi) := by
  have := capW hc
  unfold roomB
  rw [if_neg]
  rcases hb with rfl | ⟨rfl, h⟩ <;> rw [wI64 (by simp) (by simp)] <;> simp only <;> omega
theorem wi0 (hc : rightC c = true) : WI c 0 0 0 0 [] := by
  have := capW hc
  refine ⟨by decide, ?_, by simp⟩
  unfold roomB
  rw [wI64 (by simp) (by simp)]
  simp only
  by_cases h : (1 : Int) - 0 ≥ c.Span
  · exact ⟨1, by rw [if_pos h]; simp, .inl rfl⟩
  · exact ⟨0, by rw [if_neg h]; simp, .inr ⟨rfl, by omega⟩⟩
def codeW (c : Config) (i : Nat) : Int := if (i : Int) < c.Cap then 0 else 1
def outW (c : Config) (pl : List Int) (i : Nat) : List Msg := [repW c 0 (wrM pl i) 1 (codeW c i)]
theorem new_w (hc : rightC c = true) {pl : List Int} (hp : pl.length ≤ 1024) (hb : Bytes pl) {k : Nat} (hk : k < 12) {fence b fi : Int} {s : List Int} (h : WI c k fence b fi s) :
    ∃ f' b' fi' s', Target_Handle (wrM pl k) 1 fence (planW c) (holdW c (c.F_ + 1).toNat) b fi c 0 true (lW pl c.Cap.toNat k) (cW c.Cap.toNat k) (-1) false s [] = some (outW c pl k, f', planW c, holdW c (c.F_ + 1).toNat, b', fi', -1, false, lW pl c.Cap.toNat (k + 1), cW c.Cap.toNat (k + 1), s', []) ∧ WI c (k + 1) f' b' fi' s' := by
  obtain ⟨hf, ⟨b', hr, hb'⟩, hs⟩ := h
  have hcap := capW hc
  have hfm := wrM_f (pl := pl) (i := k) (by omega) hb
  have hrm := wrM_r (pl := pl) (i := k) hp
  obtain ⟨A, hA, hw⟩ := write_ok (fence := fence) (c := c) (index := 0) (well := true) (l := lW pl c.Cap.toNat k) (cl := cW c.Cap.toNat k) (fuse := -1) (s := s) (z := ⟨planW c, holdW c (c.F_ + 1).toNat, b, fi⟩) (m := wrM pl k) (now := 1) hc (by decide) hfm hrm (by unfold okFuse; omega) (by omega) (by rw [lW_len]; omega) (by rw [cW_len]; omega)
    (fun e he => by obtain ⟨i, -, -, rfl⟩ := lW_mem.1 he; rfl) (fun e he => by obtain ⟨i, -, -, rfl⟩ := cW_mem.1 he; rfl)
  rw [handle_up hfm.sh hrm (by decide)]
  have hk' : (wrM pl k).Kind = 14 := rfl
  have hno : ∀ e ∈ lW pl c.Cap.toNat k, e.ID ≠ (wrM pl k).ID := fun e he h => by
    obtain ⟨i, h1, h2, rfl⟩ := lW_mem.1 he
    have := idW_inj (show idW i = idW k from h); omega
  have hnc : ¬ (wrM pl k).ID ∈ cW c.Cap.toNat k := fun h => by
    obtain ⟨i, h1, h2, h3⟩ := cW_mem.1 h
    have := idW_inj (show idW k = idW i from h3); omega
  have hlen : ∀ m : Msg, okRec m → (log [m]).length ≤ 4408 := fun m h => log_lenT h
  simp only [Target_Handle_1, cond_false, hk', show ((14 : Int) == 1) = false from rfl, show ((14 : Int) == 9) = false from rfl, show ((14 : Int) == 12) = false from rfl, show ((14 : Int) == 11) = false from rfl, beq_self_eq_true, cond_true, hw, Option.bind_some]
  have ef : eff (-1) false = some (-1) := rfl
  cases hA with
  | short h => exact absurd rfl h
  | had e h1 h2 h3 => exact absurd h3 (hno e h2)
  | shut h1 h2 h3 => exact absurd h3 hnc
  | late h1 h2 h3 h4 =>
    rcases h4 with h4 | h4
    · exact absurd h4 (by simp [wrM, planW])
    · have := liveW hc
      have h5 := h4.2
      simp only [wrM] at h5
      rw [this] at h5; cases h5
  | write h1 h2 h3 h4 h5 h6 h7 h8 =>
    rw [hr] at h8
    simp only at h8
    have hlt : k < c.Cap.toNat := by omega
    have hmn : min k c.Cap.toNat = k := by omega
    have ek : ¬ ((recW (wrM pl k)).Kind = 19) := by simp [recW]
    have ek2 : (recW (wrM pl k)).Kind = 14 := rfl
    simp only [runT, ef, hr, takeT, if_neg ek, if_pos ek2]
    refine ⟨mxI fence 1, b', IntKind.i64.wrap (((min k c.Cap.toNat : Nat) : Int) + 1), s ++ log [recW (wrM pl k)], ?_, ?_, ⟨b', ?_, hb'⟩, ?_⟩
    · rw [lW_lt hlt, cW_lt hlt, outW, codeW, if_pos (show (k : Int) < c.Cap by omega)]
      rfl
    · unfold mxI; split <;> omega
    · rw [roomW hc hb', hmn, wI64 (by omega) (by omega), show min (k + 1) c.Cap.toNat = k + 1 by omega]; simp
    · have := hlen (recW (wrM pl k)) (recW_ok hfm hrm)
      simp only [List.length_append]; omega
  | full h1 h2 h3 h4 h5 h6 h7 h8 =>
    rw [hr] at h8
    simp only at h8
    have hge : c.Cap.toNat ≤ k := by omega
    have ek : ¬ ((recC (wrM pl k)).Kind = 19) := by simp [recC]
    have ek2 : ¬ ((recC (wrM pl k)).Kind = 14) := by simp [recC]
    have ek3 : (recC (wrM pl k)).Kind = 18 := rfl
    simp only [runT, ef, hr, takeT, if_neg ek, if_neg ek2, if_pos ek3]
    refine ⟨fence, b', ((min k c.Cap.toNat : Nat) : Int), s ++ log [recC (wrM pl k)], ?_, hf, ⟨b', ?_, hb'⟩, ?_⟩
    · rw [lW_ge hge, cW_ge hge, outW, codeW, if_neg (show ¬ (k : Int) < c.Cap by omega)]
      rfl
    · rw [roomW hc hb', show min k c.Cap.toNat = min (k + 1) c.Cap.toNat by omega]
    · have := hlen (recC (wrM pl k)) (recC_ok hfm hrm)
      simp only [List.length_append]; omega
  | close h1 h2 h3 h4 h5 => exact absurd ⟨rfl, planW_names c, hf⟩ h5
theorem old_w (hc : rightC c = true) {pl : List Int} (hp : pl.length ≤ 1024) (hb : Bytes pl) {k n : Nat} (hk : k < n) (hn : n < 12) {fence b fi : Int} {s : List Int} (h : WI c n fence b fi s) :
    Target_Handle (wrM pl k) 1 fence (planW c) (holdW c (c.F_ + 1).toNat) b fi c 0 true (lW pl c.Cap.toNat n) (cW c.Cap.toNat n) (-1) false s [] = some (outW c pl k, fence, planW c, holdW c (c.F_ + 1).toNat, b, fi, -1, false, lW pl c.Cap.toNat n, cW c.Cap.toNat n, s, []) := by
  obtain ⟨hf, ⟨b', hr, hb'⟩, hs⟩ := h
  have hcap := capW hc
  have hfm := wrM_f (pl := pl) (i := k) (by omega) hb
  have hrm := wrM_r (pl := pl) (i := k) hp
  obtain ⟨A, hA, hw⟩ := write_ok (fence := fence) (c := c) (index := 0) (well := true) (l := lW pl c.Cap.toNat n) (cl := cW c.Cap.toNat n) (fuse := -1) (s := s) (z := ⟨planW c, holdW c (c.F_ + 1).toNat, b, fi⟩) (m := wrM pl k) (now := 1) hc (by decide) hfm hrm (by unfold okFuse; omega) (by omega) (by rw [lW_len]; omega) (by rw [cW_len]; omega)
    (fun e he => by obtain ⟨i, -, -, rfl⟩ := lW_mem.1 he; rfl) (fun e he => by obtain ⟨i, -, -, rfl⟩ := cW_mem.1 he; rfl)
  rw [handle_up hfm.sh hrm (by decide)]
  have hk' : (wrM pl k).Kind = 14 := rfl
  simp only [Target_Handle_1, cond_false, hk', show ((14 : Int) == 1) = false from rfl, show ((14 : Int) == 9) = false from rfl, show ((14 : Int) == 12) = false from rfl, show ((14 : Int) == 11) = false from rfl, beq_self_eq_true, cond_true, hw, Option.bind_some]
  have out : ∀ {Q : Prop}, (∀ e ∈ lW pl c.Cap.toNat n, e.ID ≠ (wrM pl k).ID) → ¬ (wrM pl k).ID ∈ cW c.Cap.toNat n → Q := fun h1 h2 => by
    by_cases h : k < c.Cap.toNat
    · exact absurd rfl (h1 (entW pl k) (lW_mem.2 ⟨k, hk, h, rfl⟩))
    · exact absurd (cW_mem.2 ⟨k, hk, by omega, rfl⟩) h2
  cases hA with
  | short h => exact absurd rfl h
  | had e h1 h2 h3 =>
    obtain ⟨i, g1, g2, rfl⟩ := lW_mem.1 h2
    obtain rfl := idW_inj (show idW i = idW k from h3)
    simp only [runT, outW, codeW, if_pos (show (i : Int) < c.Cap by omega), entW]
  | shut h1 h2 h3 =>
    obtain ⟨i, g1, g2, g3⟩ := cW_mem.1 h3
    obtain rfl := idW_inj (show idW k = idW i from g3)
    simp only [runT, outW, codeW, if_neg (show ¬ (k : Int) < c.Cap by omega)]
    rfl
  | late h1 h2 h3 h4 => exact out h2 h3
  | write h1 h2 h3 h4 h5 h6 h7 h8 => exact out h2 h3
  | full h1 h2 h3 h4 h5 h6 h7 h8 => exact out h2 h3
  | close h1 h2 h3 h4 h5 => exact out h2 h3
end
theorem fenceWrites (c : Config) (n : Int) (payload : List Int) (hc : c.Ok) (hn : inK .u8 n) (hpl : payload.length * 1 ≤ reachBytes ∧ ∀ y ∈ payload, inK .u8 y) : law18_FenceWrites c n payload = some true := by
  have ht : c.Tiers.length < 9223372036854775807 := by
    obtain ⟨-, -, -, -, -, ⟨h1, -⟩, -⟩ := hc
    exact short h1
  have hnew := new_ok (c := c) (index := 0) ht
  by_cases hr : ¬ rightC c = true
  · rw [if_neg (fun h => hr h.1)] at hnew
    exact evf_of (.next (s' := .s1 true) (by simp only [law18_FenceWrites_step, law18_FenceWrites_0, head18_ok, hnew, Option.bind_some]) (.next (s' := .s3 true) rfl (.done rfl)))
  rw [Classical.not_not] at hr
  obtain ⟨⟨g1, g2⟩, ⟨g3, g4⟩, ⟨g5, g6⟩⟩ := rightC_n hr
  have hcap := capW hr
  rw [if_pos ⟨hr, by decide, by omega⟩] at hnew
  refine evf_of (.next (s' := .s2 true 0 (zeroC_ c) ⟨0, 0, 0, 0⟩ 0 0 0 true [] [] (-1) false [] []) (by simp only [law18_FenceWrites_step, law18_FenceWrites_0, head18_ok, hnew, Option.bind_some]) ?_)
  have s4 : ∀ x : Nat, Ev (law18_FenceWrites_step c n payload) (.s4 true true 0 (zeroC_ c) ⟨0, 0, 0, 0⟩ 0 0 0 true [] [] (-1) false [] []) true := fun x => .done rfl
  by_cases h1 : ((payload.length : Nat) : Int) > 1024
  · refine .next (s' := .s4 true true 0 (zeroC_ c) ⟨0, 0, 0, 0⟩ 0 0 0 true [] [] (-1) false [] []) ?_ (s4 0)
    simp only [law18_FenceWrites_step, law18_FenceWrites_2, List.length_map, decide_eq_true h1, cond_true]
  by_cases h2 : c.L_ < 4
  · refine .next (s' := .s4 true true 0 (zeroC_ c) ⟨0, 0, 0, 0⟩ 0 0 0 true [] [] (-1) false [] []) ?_ (s4 0)
    simp only [law18_FenceWrites_step, law18_FenceWrites_2, List.length_map, decide_eq_false h1, cond_false, decide_eq_true h2]
  refine .next (s' := .s4 true false 0 (zeroC_ c) ⟨0, 0, 0, 0⟩ 0 0 0 true [] [] (-1) false [] []) (by simp only [law18_FenceWrites_step, law18_FenceWrites_2, List.length_map, decide_eq_false h1, cond_false, decide_eq_false h2]) ?_
  have hp : payload.length ≤ 1024 := by omega
  have hb : Bytes payload := fun x hx => inU8.1 (hpl.2 x hx)
  have hd := dec_ok hr
  have htk := tickA (c := c) (index := 0) (fence := 0) (known := planW c) (hold := ⟨0, 0, 0, 0⟩) (begun := 0) (filled := 0) (w := true) (l := []) (cl := []) (fuse := -1) (s := []) (t := []) (now := 1) hr (by decide) (by decide) (by decide) (planW_names c) (by simp [planW])
  have hz : askP ⟨0, 0, 0, 0⟩ (planW c).Epoch 1 = holdW c 0 := by
    have : ¬ c.F_ < ((0 : Nat) : Int) := by omega
    simp [askP, holdW, planW, this]
    omega
  rw [hz] at htk
  have em : (decide ((0 : Int) ≤ c.Targets) && (decide ((c.Targets : Int) ≤ c.Targets) && (decide ((c.Targets : Int) ≤ 9223372036854775807) && decide (c.Targets.toNat * 8 ≤ bytesLim)))) = true := by
    have l : decide (c.Targets.toNat * 8 ≤ bytesLim) = true := limOk (by omega)
    simp only [l, Bool.and_eq_true, decide_eq_true_eq]
    exact ⟨by omega, Int.le_refl _, by omega, trivial⟩
  refine .next (s' := .s5 true ((0 : Nat) : Int) 0 (planW c) (holdW c 0) 0 0 0 true [] [] (-1) false [] []) ?_ ?_
  · unfold planW at hd
    unfold planW at htk
    simp only [law18_FenceWrites_step, law18_FenceWrites_4, cond_false, em, cond_true, hd, Option.bind_some, htk]
    rfl
  -- grants
  have grants : ∀ (j a : Nat), a + j = (c.F_ + 1).toNat → Ev (law18_FenceWrites_step c n payload) (.s6 true 0 0 (planW c) (holdW c (c.F_ + 1).toNat) 0 0 0 true [] [] (-1) false [] []) true → Ev (law18_FenceWrites_step c n payload) (.s5 true (a : Int) 0 (planW c) (holdW c a) 0 0 0 true [] [] (-1) false [] []) true := by
    intro j
    induction j with
    | zero =>
      intro a ha hk
      obtain rfl : a = (c.F_ + 1).toNat := by omega
      refine .next (s' := .s6 true 0 0 (planW c) (holdW c (c.F_ + 1).toNat) 0 0 0 true [] [] (-1) false [] []) ?_ hk
      have : ¬ (((c.F_ + 1).toNat : Nat) : Int) ≤ c.F_ := by omega
      simp only [law18_FenceWrites_step, law18_FenceWrites_5, decide_eq_false this, cond_false]
    | succ j ih =>
      intro a ha hk
      have hle : (a : Int) ≤ c.F_ := by omega
      refine .next (s' := .s5 true ((a + 1 : Nat) : Int) 0 (planW c) (holdW c (a + 1)) 0 0 0 true [] [] (-1) false [] []) ?_ (ih (a + 1) (by omega) hk)
      have hl := lease_h hr hle
      unfold grM zeroPl at hl
      simp only [law18_FenceWrites_step, law18_FenceWrites_5, decide_eq_true hle, cond_true, hl, Option.bind_some, wS1T (show a ≤ 200000 by omega)]
  refine grants (c.F_ + 1).toNat 0 (by omega) ?_
  -- requests
  obtain ⟨n0, hn0⟩ := Int.eq_ofNat_of_zero_le (show 0 ≤ n from (inU8.1 hn).1)
  have hn2 := inU8.1 hn
  have em : IntKind.i64.wrap (Int.tmod n 12) = ((n0 % 12 : Nat) : Int) := by
    have : Int.tmod n 12 = ((n0 % 12 : Nat) : Int) := by rw [hn0]; rfl
    rw [this, wI64 (by omega) (by omega)]
  have hN : n0 % 12 < 12 := Nat.mod_lt _ (by decide)
  generalize n0 % 12 = N at em hN
  have reply : ∀ i, outW c payload i = [⟨15, nodeT c 0, 9, 1, 0, 0, 0, 0, 0, codeW c i, false, zeroPl, idW i, [], []⟩] := fun i => rfl
  have code : ∀ i : Nat, (((codeW c i : Int) == 0) == decide ((i : Int) < c.Cap)) = true := fun i => by
    unfold codeW
    by_cases h : (i : Int) < c.Cap <;> simp [h]
  have step7 : ∀ (tw : Int) (i : Nat) (f f' b b' fi fi' : Int) (l l' : List Entry) (cl cl' : List (List Int)) (s s' : List Int), i < N →
      Target_Handle (wrM payload i) 1 f (planW c) (holdW c (c.F_ + 1).toNat) b fi c 0 true l cl (-1) false s [] = some (outW c payload i, f', planW c, holdW c (c.F_ + 1).toNat, b', fi', -1, false, l', cl', s', []) →
      Ev (law18_FenceWrites_step c n payload) (.s7 true tw ((i + 1 : Nat) : Int) f' (planW c) (holdW c (c.F_ + 1).toNat) b' fi' 0 true l' cl' (-1) false s' []) true →
      Ev (law18_FenceWrites_step c n payload) (.s7 true tw (i : Int) f (planW c) (holdW c (c.F_ + 1).toNat) b fi 0 true l cl (-1) false s []) true := fun tw i f f' b b' fi fi' l l' cl cl' s s' hi hh hk => by
    refine .next ?_ hk
    unfold wrM idW zeroPl at hh
    have : decide ((i : Int) < ((N : Nat) : Int)) = true := decide_eq_true (by omega)
    simp only [law18_FenceWrites_step, law18_FenceWrites_7, em, this, cond_true, hh, Option.bind_some, reply, List.length_map, List.length_cons, List.length_nil, List.getElem?_cons_zero, code, Bool.not_true, cond_false, wS1T (show i ≤ 200000 by omega)]
    rfl
  have end7 : ∀ (tw : Int) (f b fi : Int) (l : List Entry) (cl : List (List Int)) (s : List Int),
      Ev (law18_FenceWrites_step c n payload) (.s6 true (IntKind.i64.wrap (tw + 1)) f (planW c) (holdW c (c.F_ + 1).toNat) b fi 0 true l cl (-1) false s []) true →
      Ev (law18_FenceWrites_step c n payload) (.s7 true tw (N : Int) f (planW c) (holdW c (c.F_ + 1).toNat) b fi 0 true l cl (-1) false s []) true := fun tw f b fi l cl s hk => by
    refine .next ?_ hk
    have : decide ((N : Int) < ((N : Nat) : Int)) = false := decide_eq_false (by omega)
    simp only [law18_FenceWrites_step, law18_FenceWrites_7, em, this, cond_false]
  have beg6 : ∀ (tw : Int) (f b fi : Int) (l : List Entry) (cl : List (List Int)) (s : List Int), tw < 2 →
      Ev (law18_FenceWrites_step c n payload) (.s7 true tw ((0 : Nat) : Int) f (planW c) (holdW c (c.F_ + 1).toNat) b fi 0 true l cl (-1) false s []) true →
      Ev (law18_FenceWrites_step c n payload) (.s6 true tw f (planW c) (holdW c (c.F_ + 1).toNat) b fi 0 true l cl (-1) false s []) true := fun tw f b fi l cl s h hk => by
    refine .next ?_ hk
    simp only [law18_FenceWrites_step, law18_FenceWrites_6, decide_eq_true h, cond_true]
    rfl
  -- what is there at last
  have last : ∀ (f b fi : Int) (s : List Int), Ev (law18_FenceWrites_step c n payload) (.s6 true 2 f (planW c) (holdW c (c.F_ + 1).toNat) b fi 0 true (lW payload c.Cap.toNat N) (cW c.Cap.toNat N) (-1) false s []) true := fun f b fi s => by
    have lg := logT_ok (c := c) (index := 0) (l := lW payload c.Cap.toNat N) (fuse := -1) (s := s) (t := []) (by rw [lW_len]; omega) (fun e he => by obtain ⟨i, -, -, rfl⟩ := lW_mem.1 he; rfl) (fun e he => by obtain ⟨i, -, -, rfl⟩ := lW_mem.1 he; exact hp) (f := f) (known := planW c) (hold := holdW c (c.F_ + 1).toNat) (begun := b) (filled := fi) (w := true) (cl := cW c.Cap.toNat N) (d := false)
    have cls := closedT_ok (c := c) (index := 0) (l := lW payload c.Cap.toNat N) (cl := cW c.Cap.toNat N) (fuse := -1) (s := s) (t := []) (by rw [cW_len]; omega) (fun e he => by obtain ⟨i, -, -, rfl⟩ := cW_mem.1 he; rfl) (f := f) (known := planW c) (hold := holdW c (c.F_ + 1).toNat) (begun := b) (filled := fi) (w := true) (d := false)
    refine .next (s' := .s8 true (lW payload c.Cap.toNat N) false) ?_ (.next (s' := .s9 true (lW payload c.Cap.toNat N) ((0 : Nat) : Int)) rfl ?_)
    · have e1 : (((min N c.Cap.toNat : Nat) : Int) != mnI ((N : Nat) : Int) c.Cap) = false := by
        refine bneF ?_
        unfold mnI; split <;> omega
      have e2 : (((N - c.Cap.toNat : Nat) : Int) != IntKind.i64.wrap (((N : Nat) : Int) - ((min N c.Cap.toNat : Nat) : Int))) = false := by
        rw [wI64 (by omega) (by omega)]
        exact bneF (by omega)
      simp only [law18_FenceWrites_step, law18_FenceWrites_6, show decide ((2 : Int) < 2) = false from rfl, cond_false, lg, cls, Option.bind_some, List.length_map, lW_len, cW_len, em, e1, e2]
    · have loop : ∀ (j k : Nat), k + j = (lW payload c.Cap.toNat N).length → Ev (law18_FenceWrites_step c n payload) (.s9 true (lW payload c.Cap.toNat N) (k : Int)) true := by
        intro j
        induction j with
        | zero =>
          intro k hk
          refine .done ?_
          have : decide ((k : Int) < ((lW payload c.Cap.toNat N).length : Int)) = false := decide_eq_false (by omega)
          simp only [law18_FenceWrites_step, law18_FenceWrites_9, List.length_map, this, cond_false]
        | succ j ih =>
          intro k hk
          have hlt : k < (lW payload c.Cap.toNat N).length := by omega
          refine .next (s' := .s9 true (lW payload c.Cap.toNat N) ((k + 1 : Nat) : Int)) ?_ (ih (k + 1) (by omega))
          have hl := lW_len payload c.Cap.toNat N
          have ge : (lW payload c.Cap.toNat N)[k] = entW payload k := by simp [lW]
          simp only [law18_FenceWrites_step, law18_FenceWrites_9, List.length_map, ltB hlt, le0, Bool.and_self, cond_true, Int.toNat_natCast, List.getE hlt, Option.bind_some, ge, entW, idW, bne_self_eq_false, cond_false, List.length_cons, List.length_nil, List.getElem?_cons_succ, List.getElem?_cons_zero, beq_self_eq_true, Bool.not_true, wS1T (show k ≤ 200000 by omega)]
          rfl
      exact loop (lW payload c.Cap.toNat N).length 0 (by omega)
  -- twice
  have second : ∀ (f b fi : Int) (s : List Int), WI c N f b fi s → Ev (law18_FenceWrites_step c n payload) (.s6 true 1 f (planW c) (holdW c (c.F_ + 1).toNat) b fi 0 true (lW payload c.Cap.toNat N) (cW c.Cap.toNat N) (-1) false s []) true := fun f b fi s hw => by
    refine beg6 1 f b fi _ _ s (by decide) ?_
    have loop : ∀ (j k : Nat), k + j = N → Ev (law18_FenceWrites_step c n payload) (.s7 true 1 (k : Int) f (planW c) (holdW c (c.F_ + 1).toNat) b fi 0 true (lW payload c.Cap.toNat N) (cW c.Cap.toNat N) (-1) false s []) true := by
      intro j
      induction j with
      | zero =>
        intro k hk
        obtain rfl : k = N := by omega
        exact end7 1 f b fi _ _ s (last f b fi s)
      | succ j ih =>
        intro k hk
        exact step7 1 k f f b b fi fi _ _ _ _ s s (by omega) (old_w hr hp hb (by omega) hN hw) (ih (k + 1) (by omega))
    exact loop N 0 (by omega)
  have first : ∀ (j k : Nat) (f b fi : Int) (s : List Int), k + j = N → WI c k f b fi s → Ev (law18_FenceWrites_step c n payload) (.s7 true 0 (k : Int) f (planW c) (holdW c (c.F_ + 1).toNat) b fi 0 true (lW payload c.Cap.toNat k) (cW c.Cap.toNat k) (-1) false s []) true := by
    intro j
    induction j with
    | zero =>
      intro k f b fi s hk hw
      obtain rfl : k = N := by omega
      exact end7 0 f b fi _ _ s (second f b fi s hw)
    | succ j ih =>
      intro k f b fi s hk hw
      obtain ⟨f', b', fi', s', h1, h2⟩ := new_w hr hp hb (by omega) hw
      exact step7 0 k f f' b b' fi fi' _ _ _ _ s s' (by omega) h1 (ih (k + 1) f' b' fi' s' (by omega) h2)
  refine beg6 0 0 0 0 _ _ [] (by decide) ?_
  have := first N 0 0 0 0 [] (by omega) (wi0 hr)
  simpa [lW, cW] using this
end Go.RX.L
