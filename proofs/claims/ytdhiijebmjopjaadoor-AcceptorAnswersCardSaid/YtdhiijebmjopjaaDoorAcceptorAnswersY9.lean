/-
  Words and walks for AcceptorAnswers. No condition.
-/
import Derived.Test.YtdhiijebmjopjaaDoorAcceptorAnswersY8
set_option linter.unusedSectionVars false
set_option linter.unnecessarySimpa false
set_option linter.unusedSimpArgs false
set_option linter.unusedVariables false
set_option maxRecDepth 100000
set_option maxHeartbeats 4000000
namespace Go.RX.L
open Go Go.RX Go.Proofs
attribute [local irreducible] FinQ
noncomputable def law15_head_c := codeAt (bodyOf Tryd.f9)
noncomputable def law15_head_e (y : Bool) : D × Sto := (.bool y, [])
abbrev law15_head_W := AOk E (Cx.of Tryd.f9 false 0) law15_head_e
noncomputable def law15_head_3M (c : Config) : M := ⟨[.code (law15_head_c [1, 1, 1, 0, 1]), .code (law15_head_c [1, 1, 1, 1])], [(1, .ptr 0 0 0), (2, .nilp), (20, .bool true)], [some ⟨30, false, [[.int .i64 c.F_, .int .i64 c.Deciders, .int .i64 c.Targets, .int .i64 c.Routers, .int .i64 c.Observers, .sl false 1 (List.map (eInt .i64) c.Tiers), .int .i64 c.Every, .int .i64 c.Wait, .int .i64 c.Rise, .int .i64 c.Fall, .int .i64 c.Fresh, .int .i64 c.L_, .int .i64 c.M_, .int .i64 c.Dwell, .int .i64 c.D_, .int .i64 c.W_, .int .i64 c.B_, .int .i64 c.Hit, .int .i64 c.Suppress, .int .i64 c.Reuse, .int .i64 c.Half, .int .i64 c.First, .int .i64 c.Step, .int .i64 c.StepTime, .int .i64 c.S_, .int .i64 c.Cap, .int .i64 c.Span, .int .i64 c.Room, .int .i64 c.Tries, .int .i64 c.Retry]]⟩]⟩
noncomputable def law15_head_3 (c : Config) : Option Bool := (some false)
theorem law15_head_3_ok {c} : law15_head_W (law15_head_3M c) (law15_head_3 c) := by
 intro r h; unfold law15_head_3 at h
 exact zu 7 h
noncomputable def law15_head_1M (c : Config) : M := ⟨[.code (law15_head_c [1, 1, 1])], [(1, .ptr 0 0 0), (2, .nilp)], [some ⟨30, false, [[.int .i64 c.F_, .int .i64 c.Deciders, .int .i64 c.Targets, .int .i64 c.Routers, .int .i64 c.Observers, .sl false 1 (List.map (eInt .i64) c.Tiers), .int .i64 c.Every, .int .i64 c.Wait, .int .i64 c.Rise, .int .i64 c.Fall, .int .i64 c.Fresh, .int .i64 c.L_, .int .i64 c.M_, .int .i64 c.Dwell, .int .i64 c.D_, .int .i64 c.W_, .int .i64 c.B_, .int .i64 c.Hit, .int .i64 c.Suppress, .int .i64 c.Reuse, .int .i64 c.Half, .int .i64 c.First, .int .i64 c.Step, .int .i64 c.StepTime, .int .i64 c.S_, .int .i64 c.Cap, .int .i64 c.Span, .int .i64 c.Room, .int .i64 c.Tries, .int .i64 c.Retry]]⟩]⟩
noncomputable def law15_head_1 (c : Config) : Option Bool := (law15_head_3 c)
theorem law15_head_1_ok {c} : law15_head_W (law15_head_1M c) (law15_head_1 c) := by
 intro r h; unfold law15_head_1 at h
 exact zg 24 (law15_head_3_ok h)
noncomputable def law15_head_4M (t20 : Bool) (c : Config) (kept : keptT) (c2 : Config) (node : Int) (fuse : Int) (down : Bool) (b3 : List Int) (b4 : List Int) : M := ⟨[.code (law15_head_c [1, 1, 1, 0, 1]), .code (law15_head_c [1, 1, 1, 1])], [(1, .ptr 0 0 0), (2, .ptr 1 0 0), (20, .bool t20)], [some ⟨30, false, [[.int .i64 c.F_, .int .i64 c.Deciders, .int .i64 c.Targets, .int .i64 c.Routers, .int .i64 c.Observers, .sl false 1 (List.map (eInt .i64) c.Tiers), .int .i64 c.Every, .int .i64 c.Wait, .int .i64 c.Rise, .int .i64 c.Fall, .int .i64 c.Fresh, .int .i64 c.L_, .int .i64 c.M_, .int .i64 c.Dwell, .int .i64 c.D_, .int .i64 c.W_, .int .i64 c.B_, .int .i64 c.Hit, .int .i64 c.Suppress, .int .i64 c.Reuse, .int .i64 c.Half, .int .i64 c.First, .int .i64 c.Step, .int .i64 c.StepTime, .int .i64 c.S_, .int .i64 c.Cap, .int .i64 c.Span, .int .i64 c.Room, .int .i64 c.Tries, .int .i64 c.Retry]]⟩, some ⟨67, true, [[.int .i64 kept.epoch, .int .i64 kept.known.Epoch, .int .i64 kept.known.Target, .int .i64 kept.known.Prev, .int .i64 kept.known.Spill, .int .i64 kept.known.Percent, .int .i64 kept.known.Stamp, .int .i64 kept.known.Since, .int .i64 kept.known.Ramped, .int .u64 kept.known.Up, .int .u64 kept.known.Sup, .sl false 1 (List.map (eInt .i64) kept.known.Pen), .sl false 1 (List.map (eInt .i64) kept.known.Changes), .int .i64 kept.promised, .int .i64 kept.accepted, .int .i64 kept.plan.Epoch, .int .i64 kept.plan.Target, .int .i64 kept.plan.Prev, .int .i64 kept.plan.Spill, .int .i64 kept.plan.Percent, .int .i64 kept.plan.Stamp, .int .i64 kept.plan.Since, .int .i64 kept.plan.Ramped, .int .u64 kept.plan.Up, .int .u64 kept.plan.Sup, .sl false 1 (List.map (eInt .i64) kept.plan.Pen), .sl false 1 (List.map (eInt .i64) kept.plan.Changes), .int .i64 kept.writes.low, .int .i64 kept.writes.high, .int .i64 kept.writes.at_, .int .i64 kept.wish, .int .i64 kept.wishAt, .bool kept.lead.is_, .int .i64 kept.lead.who, .int .i64 kept.lead.at_, .int .i64 c2.F_, .int .i64 c2.Deciders, .int .i64 c2.Targets, .int .i64 c2.Routers, .int .i64 c2.Observers, .sl false 1 (List.map (eInt .i64) c2.Tiers), .int .i64 c2.Every, .int .i64 c2.Wait, .int .i64 c2.Rise, .int .i64 c2.Fall, .int .i64 c2.Fresh, .int .i64 c2.L_, .int .i64 c2.M_, .int .i64 c2.Dwell, .int .i64 c2.D_, .int .i64 c2.W_, .int .i64 c2.B_, .int .i64 c2.Hit, .int .i64 c2.Suppress, .int .i64 c2.Reuse, .int .i64 c2.Half, .int .i64 c2.First, .int .i64 c2.Step, .int .i64 c2.StepTime, .int .i64 c2.S_, .int .i64 c2.Cap, .int .i64 c2.Span, .int .i64 c2.Room, .int .i64 c2.Tries, .int .i64 c2.Retry, .int .i64 node, .ptr 2 0 0]]⟩, some ⟨4, true, [[.msl 3 0 ((List.map (eInt .u8) b3).length) ((List.map (eInt .u8) b3).length) false, .msl 4 0 ((List.map (eInt .u8) b4).length) ((List.map (eInt .u8) b4).length) false, .int .i64 fuse, .bool down]]⟩, some ⟨1, false, (List.map (eInt .u8) b3)⟩, some ⟨1, false, (List.map (eInt .u8) b4)⟩]⟩
noncomputable def law15_head_4 (t20 : Bool) (c : Config) (kept : keptT) (c2 : Config) (node : Int) (fuse : Int) (down : Bool) (b3 : List Int) (b4 : List Int) : Option Bool := (bif t20 then (some false) else ((ref13_Zero c).bind fun y2 => ((Acceptor_Handle (⟨4, 9, 1, 1, 16, 0, 0, 0, 0, 0, true, y2, [], [], []⟩ : Msg) 5 kept c2 node fuse down b3 b4).bind fun y3 => ((Acceptor_Handle (⟨4, 9, 1, 1, 16, 0, 0, 0, 0, 0, true, y2, [], [], []⟩ : Msg) 5 y3.2.1 c2 node y3.2.2.1 y3.2.2.2.1 y3.2.2.2.2.1 y3.2.2.2.2.2).bind fun y4 => (bif (((((List.map Msg.enc y3.1).length : Nat) : Int) : Int) == 1) then (bif (decide ((0 : Int) < (((List.map Msg.enc y3.1).length : Nat) : Int))) then (((y3.1)[0]?).bind fun y7 => (bif ((y7.Kind : Int) == 5) then (bif (decide ((0 : Int) < (((List.map Msg.enc y3.1).length : Nat) : Int))) then (((y3.1)[0]?).bind fun y11 => (bif ((y11.To : Int) == 9) then (bif (((((List.map Msg.enc y4.1).length : Nat) : Int) : Int) == 1) then (bif (decide ((0 : Int) < (((List.map Msg.enc y4.1).length : Nat) : Int))) then (((y4.1)[0]?).bind fun y16 => (some ((y16.Kind : Int) == 6))) else none) else (some false)) else (some false))) else none) else (some false))) else none) else (some false))))))
theorem law15_head_4_ok {t20 c kept c2 node fuse down b3 b4} : law15_head_W (law15_head_4M t20 c kept c2 node fuse down b3 b4) (law15_head_4 t20 c kept c2 node fuse down b3 b4) := by
 intro r h; unfold law15_head_4 at h
 refine zs 1 h (fun h => ?_) fun h => ?_
 ·
  exact zu 5 h
 refine zc 6 [] h (fun _ => ref13_Zero_ok) fun y2 h => ?_
 refine zc 12 [some 1, some 1, some 1] h (fun _ => Acceptor_Handle_ok) fun y3 h => ?_
 refine zc 8 [some 1, some 1, some 1] h (fun _ => Acceptor_Handle_ok) fun y4 h => ?_
 refine zs 9 h (fun h => ?_) fun h => ?_
 ·
  refine zn 2 h fun h => ?_
  refine zr 4 Msg.enc h fun y7 h => ?_
  refine zs 6 h (fun h => ?_) fun h => ?_
  ·
   refine zn 2 h fun h => ?_
   refine zr 4 Msg.enc h fun y11 h => ?_
   refine zs 6 h (fun h => ?_) fun h => ?_
   ·
    refine zs 8 h (fun h => ?_) fun h => ?_
    ·
     refine zn 2 h fun h => ?_
     refine zr 4 Msg.enc h fun y16 h => ?_
     exact zu 7 h
    exact zu 13 h
   exact zu 22 h
  exact zu 35 h
 exact zu 48 h
noncomputable def law15_head_2M (c : Config) (kept : keptT) (c2 : Config) (node : Int) (fuse : Int) (down : Bool) (b3 : List Int) (b4 : List Int) : M := ⟨[.code (law15_head_c [1, 1, 1])], [(1, .ptr 0 0 0), (2, .ptr 1 0 0)], [some ⟨30, false, [[.int .i64 c.F_, .int .i64 c.Deciders, .int .i64 c.Targets, .int .i64 c.Routers, .int .i64 c.Observers, .sl false 1 (List.map (eInt .i64) c.Tiers), .int .i64 c.Every, .int .i64 c.Wait, .int .i64 c.Rise, .int .i64 c.Fall, .int .i64 c.Fresh, .int .i64 c.L_, .int .i64 c.M_, .int .i64 c.Dwell, .int .i64 c.D_, .int .i64 c.W_, .int .i64 c.B_, .int .i64 c.Hit, .int .i64 c.Suppress, .int .i64 c.Reuse, .int .i64 c.Half, .int .i64 c.First, .int .i64 c.Step, .int .i64 c.StepTime, .int .i64 c.S_, .int .i64 c.Cap, .int .i64 c.Span, .int .i64 c.Room, .int .i64 c.Tries, .int .i64 c.Retry]]⟩, some ⟨67, true, [[.int .i64 kept.epoch, .int .i64 kept.known.Epoch, .int .i64 kept.known.Target, .int .i64 kept.known.Prev, .int .i64 kept.known.Spill, .int .i64 kept.known.Percent, .int .i64 kept.known.Stamp, .int .i64 kept.known.Since, .int .i64 kept.known.Ramped, .int .u64 kept.known.Up, .int .u64 kept.known.Sup, .sl false 1 (List.map (eInt .i64) kept.known.Pen), .sl false 1 (List.map (eInt .i64) kept.known.Changes), .int .i64 kept.promised, .int .i64 kept.accepted, .int .i64 kept.plan.Epoch, .int .i64 kept.plan.Target, .int .i64 kept.plan.Prev, .int .i64 kept.plan.Spill, .int .i64 kept.plan.Percent, .int .i64 kept.plan.Stamp, .int .i64 kept.plan.Since, .int .i64 kept.plan.Ramped, .int .u64 kept.plan.Up, .int .u64 kept.plan.Sup, .sl false 1 (List.map (eInt .i64) kept.plan.Pen), .sl false 1 (List.map (eInt .i64) kept.plan.Changes), .int .i64 kept.writes.low, .int .i64 kept.writes.high, .int .i64 kept.writes.at_, .int .i64 kept.wish, .int .i64 kept.wishAt, .bool kept.lead.is_, .int .i64 kept.lead.who, .int .i64 kept.lead.at_, .int .i64 c2.F_, .int .i64 c2.Deciders, .int .i64 c2.Targets, .int .i64 c2.Routers, .int .i64 c2.Observers, .sl false 1 (List.map (eInt .i64) c2.Tiers), .int .i64 c2.Every, .int .i64 c2.Wait, .int .i64 c2.Rise, .int .i64 c2.Fall, .int .i64 c2.Fresh, .int .i64 c2.L_, .int .i64 c2.M_, .int .i64 c2.Dwell, .int .i64 c2.D_, .int .i64 c2.W_, .int .i64 c2.B_, .int .i64 c2.Hit, .int .i64 c2.Suppress, .int .i64 c2.Reuse, .int .i64 c2.Half, .int .i64 c2.First, .int .i64 c2.Step, .int .i64 c2.StepTime, .int .i64 c2.S_, .int .i64 c2.Cap, .int .i64 c2.Span, .int .i64 c2.Room, .int .i64 c2.Tries, .int .i64 c2.Retry, .int .i64 node, .ptr 2 0 0]]⟩, some ⟨4, true, [[.msl 3 0 ((List.map (eInt .u8) b3).length) ((List.map (eInt .u8) b3).length) false, .msl 4 0 ((List.map (eInt .u8) b4).length) ((List.map (eInt .u8) b4).length) false, .int .i64 fuse, .bool down]]⟩, some ⟨1, false, (List.map (eInt .u8) b3)⟩, some ⟨1, false, (List.map (eInt .u8) b4)⟩]⟩
noncomputable def law15_head_2 (c : Config) (kept : keptT) (c2 : Config) (node : Int) (fuse : Int) (down : Bool) (b3 : List Int) (b4 : List Int) : Option Bool := ((acceptor_New (⟨0, 0, 0, 0, 0, [], 0, 0, 0, 0, 0, 0, 0, 0, 0, 0, 0, 0, 0, 0, 0, 0, 0, 0, 0, 0, 0, 0, 0, 0⟩ : Config) 1).bind fun y1 => match y1 with | .r0 => ((Acceptor_Journal kept c2 node fuse down b3 b4).bind fun y2 => (law15_head_4 false c kept c2 node fuse down b3 b4)) | .r1 y1a0 y1a1 y1a2 y1a3 y1a4 => (law15_head_4 true c kept c2 node fuse down b3 b4))
theorem law15_head_2_ok {c kept c2 node fuse down b3 b4} : law15_head_W (law15_head_2M c kept c2 node fuse down b3 b4) (law15_head_2 c kept c2 node fuse down b3 b4) := by
 intro r h; unfold law15_head_2 at h
 refine zc 10 [some 1] h (fun _ => acceptor_New_ok) fun y1 h => ?_
 cases y1 with
 | r0 =>
  dsimp only at h
  refine zc 9 [] h (fun _ => Acceptor_Journal_ok) fun y2 h => ?_
  exact zg 5 (law15_head_4_ok h)
 | r1 y1a0 y1a1 y1a2 y1a3 y1a4 =>
  dsimp only at h
  exact zg 14 (law15_head_4_ok h)
noncomputable def law15_head  : Option Bool := ((law13_Plain ).bind fun y1 => ((acceptor_New y1 1).bind fun y2 => match y2 with | .r0 => (law15_head_1 y1) | .r1 y2a0 y2a1 y2a2 y2a3 y2a4 => (law15_head_2 y1 y2a0 y1 1 y2a1 y2a2 y2a3 y2a4)))
theorem law15_head_ok  {r : Bool} (h : law15_head = some r) : Sound E 9 [] [] (Rs law15_head_e r) := so (fn := Tryd.f9) (k := false) (m := 0) h <| by
 intro r h; unfold law15_head at h
 refine zc 7 [] h (fun _ => law13_Plain_ok) fun y1 h => ?_
 refine zc 10 [] h (fun _ => acceptor_New_ok) fun y2 h => ?_
 cases y2 with
 | r0 =>
  dsimp only at h
  exact zg 2 (law15_head_1_ok h)
 | r1 y2a0 y2a1 y2a2 y2a3 y2a4 =>
  dsimp only at h
  exact zg 2 (law15_head_2_ok h)
end Go.RX.L

set_option linter.unusedSimpArgs false
set_option linter.unusedVariables false
set_option maxRecDepth 100000
set_option maxHeartbeats 4000000
namespace Go.RX.L
open Go Go.RX Go.Proofs
attribute [local irreducible] FinQ
end Go.RX.L

set_option linter.unusedSimpArgs false
set_option linter.unusedVariables false
set_option maxRecDepth 100000
set_option maxHeartbeats 4000000
namespace Go.RX.L
open Go Go.RX Go.Proofs
attribute [local irreducible] FinQ
noncomputable def law15_Great_e (y : Bool) : D × Sto := (.bool y, [])
noncomputable def law15_Great (l_ : List Op) : Option Bool := (some (decide (((((List.map Op.enc l_).length : Nat) : Int) : Int) > 150)))
theorem law15_Great_ok {l_ : List Op} {r : Bool} (h : law15_Great l_ = some r) : Sound E 11 [.sl false 29 (List.map Op.enc l_)] [] (Rs law15_Great_e r) := so (fn := Tryd.f11) (k := false) (m := 0) h <| by
 intro r h; unfold law15_Great at h
 exact zu 12 h
end Go.RX.L

set_option linter.unusedSimpArgs false
set_option linter.unusedVariables false
set_option maxRecDepth 100000
namespace Go.RX.L
open Go Go.RX

/-! ### the document's config -/
theorem rin_t {n lo hi : Int} (h : lo ≤ n ∧ n ≤ hi) : ref13_in n lo hi = some true := by
  have a : decide (n ≥ lo) = true := decide_eq_true h.1
  have b : decide (n ≤ hi) = true := decide_eq_true h.2
  simp only [ref13_in, a, b, cond_true]
theorem rspan_t {n : Int} (h : 1 ≤ n ∧ n ≤ 1048576) : ref13_span n = some true := by
  have a : decide (n ≥ 1) = true := decide_eq_true h.1
  have b : decide (n ≤ 1048576) = true := decide_eq_true h.2
  simp only [ref13_span, a, b, cond_true]
theorem ref13_ok {c : Config} (ht : c.Tiers.length < 9223372036854775807) (h : rightC c = true) : ref13_Right c = some true := by
  simp only [rightC, Bool.and_eq_true, btw_iff, List.mem_cons, List.not_mem_nil, or_false, forall_eq_or_imp, forall_eq, decide_eq_true_eq] at h
  obtain ⟨h1, ⟨h2, h3⟩, h4, h5, h6, h7, ⟨h8, h9, h10, h11, h12, h13, h14, h15, h16, h17, h18, h19⟩, h20, ⟨h21, h22, h23, h24⟩, h25, h26, h27, h28, h29, h30, h31⟩ := h
  have e1 : (((((List.map (eInt .i64) c.Tiers).length : Nat) : Int) : Int) != c.Targets) = false := by rw [List.length_map, h6]; simp
  refine evf_of (.next (s' := ref13_Right_S.s1 false) ?_ (.next (s' := ref13_Right_S.s2 0) rfl ?_))
  · simp only [ref13_Right_step, ref13_Right_0, rin_t h1, rin_t h2, rin_t h3, rin_t h4, rin_t h5, Option.bind_some, Bool.not_true, cond_false, e1]
  · have tail : Ev (ref13_Right_step c) (.s3 false) true := by
      refine .next (s' := ref13_Right_S.s4 false) ?_ (.done ?_)
      · simp only [ref13_Right_step, ref13_Right_3, rin_t h21, rin_t h22, rin_t h25, rin_t h26, rin_t h27, rin_t h28, Option.bind_some, Bool.not_true, cond_false]
      · simp only [ref13_Right_step, ref13_Right_4, rin_t h23, rin_t h24, rin_t h29, rin_t h30, rin_t h31, Option.bind_some, cond_true, cond_false]
    have m1 : decide (c.M_ < 0) = false := decide_eq_false (by omega)
    have m2 : decide (c.M_ > 1048576) = false := decide_eq_false (by omega)
    have loop : ∀ (j i : Nat), i + j = c.Tiers.length → Ev (ref13_Right_step c) (.s2 (i : Int)) true := by
      intro j
      induction j with
      | zero =>
        intro i hi
        refine .next (s' := ref13_Right_S.s3 false) ?_ tail
        have : decide ((i : Int) < (c.Tiers.length : Int)) = false := by simp; omega
        simp only [ref13_Right_step, ref13_Right_2, List.length_map, this, cond_false, rspan_t h8, rspan_t h9, rspan_t h10, rspan_t h11, rspan_t h12, rspan_t h13, rspan_t h14, rspan_t h15, rspan_t h16, rspan_t h17, rspan_t h18, rspan_t h19, Option.bind_some, Bool.not_true, m1, m2]
      | succ j ih =>
        intro i hi
        have hlt : i < c.Tiers.length := by omega
        refine .next (s' := ref13_Right_S.s2 ((i + 1 : Nat) : Int)) ?_ (ih (i + 1) (by omega))
        have hx := h7 _ (List.getElem_mem hlt)
        have w : IntKind.i64.wrap ((i : Int) + 1) = ((i + 1 : Nat) : Int) := by rw [wI64 (by omega) (by omega)]; norm_cast
        simp only [ref13_Right_step, ref13_Right_2, List.length_map, ltB hlt, cond_true, le0, Bool.and_self, Int.toNat_natCast, List.getE hlt, Option.bind_some, rin_t hx, Bool.not_true, cond_false, w]
    exact loop c.Tiers.length 0 (by omega)
theorem rzero_ok {c : Config} (ht : c.Tiers.length < 9223372036854775807) (h : rightC c = true) : ref13_Zero c = some (kept0 c).known := by
  have := polzero_ok ht h
  obtain ⟨⟨h1, h2⟩, -⟩ := rightC_b h
  have l : decide (c.Targets.toNat * 8 ≤ bytesLim) = true := limOk (by omega)
  have e : (decide ((0 : Int) ≤ c.Targets) && (decide ((c.Targets : Int) ≤ c.Targets) && (decide ((c.Targets : Int) ≤ 9223372036854775807) && decide (c.Targets.toNat * 8 ≤ bytesLim)))) = true := by
    simp only [l, Bool.and_eq_true, decide_eq_true_eq]
    exact ⟨by omega, Int.le_refl _, by omega, trivial⟩
  simp only [ref13_Zero, ref13_ok ht h, Option.bind_some, Bool.not_true, cond_false, e, cond_true, kept0]

/-! ### what is answered -/
section
variable {c : Config} {node : Int} {a a' : AS} {m : Msg} {now : Int} {out : List Msg}

theorem hnil (h : HStep c node a m now [] a') : a' = a ∨ (a.down = false ∧ a'.down = true ∧ a'.rs = a.rs ∧ a'.k = a.k) ∨ (a.down = false ∧ a'.down = false ∧ a'.rs = a.rs ∧ a'.pend = none ∧ ∃ w v, a'.k = ⟨a.k.epoch, a.k.known, a.k.promised, a.k.accepted, a.k.plan, a.k.writes, w, v, a.k.lead⟩) := by
  generalize ho : ([] : List Msg) = o at h
  have eta : ∀ k : keptT, k = ⟨k.epoch, k.known, k.promised, k.accepted, k.plan, k.writes, k.wish, k.wishAt, k.lead⟩ := fun k => rfl
  cases h with
  | off h => exact .inl rfl
  | lost p hd hv ha hp => exact .inr (.inl ⟨hd, rfl, rfl, rfl⟩)
  | say hd hv ha =>
    subst ho
    refine .inr (.inr ⟨hd, rfl, rfl, rfl, ?_⟩)
    have key : ∀ {x : List Msg} {p q : keptT}, Act.say x p = Act.say [] q → (x = [] → q = p) := fun h _ => by cases h; rfl
    have non : ∀ {x : Msg} {p q : keptT}, Act.say [x] p = Act.say [] q → False := fun h => by cases h
    unfold act at ha
    split at ha
    · unfold prepA at ha
      split at ha
      · rw [key ha rfl]; exact ⟨_, _, eta _⟩
      · split at ha
        · exact (non ha).elim
        · split at ha
          · split at ha
            · rw [key ha rfl]; exact ⟨_, _, rfl⟩
            · cases ha
          · split at ha
            · exact (non ha).elim
            · cases ha
    · split at ha
      · unfold accA at ha
        split at ha
        · rw [key ha rfl]; exact ⟨_, _, eta _⟩
        · split at ha
          · exact (non ha).elim
          · split at ha
            · exact (non ha).elim
            · split at ha
              · rw [key ha rfl]; exact ⟨_, _, eta _⟩
              · cases ha
      · split at ha
        · unfold grA at ha
          split at ha
          · split at ha
            · rw [key ha rfl]; exact ⟨_, _, eta _⟩
            · split at ha
              · exact (non ha).elim
              · cases ha
          · split at ha
            · split at ha
              · exact (non ha).elim
              · split at ha
                · rw [key ha rfl]; exact ⟨_, _, eta _⟩
                · cases ha
            · rw [key ha rfl]; exact ⟨_, _, eta _⟩
        · rw [key ha rfl]; exact ⟨_, _, eta _⟩
  | @kept r out post hd hv ha =>
    exfalso
    unfold act at ha
    split at ha
    · unfold prepA at ha
      split at ha
      · cases ha
      · split at ha
        · cases ha
        · split at ha
          · split at ha
            · cases ha
            · cases ha; cases ho
          · split at ha
            · cases ha
            · cases ha; cases ho
    · split at ha
      · unfold accA at ha
        split at ha
        · cases ha
        · split at ha
          · cases ha
          · split at ha
            · cases ha
            · split at ha
              · cases ha
              · cases ha; cases ho
      · split at ha
        · unfold grA at ha
          split at ha
          · split at ha
            · cases ha
            · split at ha
              · cases ha
              · cases ha; cases ho
          · split at ha
            · split at ha
              · cases ha
              · split at ha
                · cases ha
                · cases ha; cases ho
            · cases ha
        · cases ha

/-- Something is. -/
inductive Said (c : Config) (node : Int) (a : AS) (m : Msg) (now : Int) : Msg → AS → Prop
  | dec : (m.Kind = 4 ∨ m.Kind = 7) → Said c node a m now (dec_ node a.k m) ⟨a.rs, none, a.k, false⟩
  | nack : (m.Kind = 4 ∨ m.Kind = 7) → m.Epoch = a.k.epoch → Said c node a m now (nack_ node a.k m) ⟨a.rs, none, a.k, false⟩
  | prom (p : Plan) : m.Kind = 4 → 1 ≤ m.Epoch → 1 ≤ m.Ballot → m.HasPlan = true → ((a.k.epoch < m.Epoch ∧ p = m.Plan ∧ ¬ (a.k.writes.low ≠ 0 ∧ a.k.writes.low < m.Epoch ∧ earlyB c a.k.writes.at_ now = true ∧ m.Code ≠ 1)) ∨ (m.Epoch = a.k.epoch ∧ a.k.promised < m.Ballot ∧ p = a.k.known)) →
      Said c node a m now (prom_ node m (takeK a.k (recP m p))) ⟨a.rs ++ [recP m p], none, takeK a.k (recP m p), false⟩
  | acc : m.Kind = 7 → m.Epoch = a.k.epoch → m.Ballot = a.k.promised → 1 ≤ m.Ballot → m.HasPlan = true → m.Plan.Epoch = m.Epoch → ¬ c.S_ < IntKind.i64.wrap (m.Plan.Stamp - now) →
      Said c node a m now (acc_ node m) ⟨a.rs ++ [recA m], none, takeK a.k (recA m), false⟩
  | write (k' : keptT) (rs' : List Msg) : m.Kind = 10 → m.Code = 1 → a.k.epoch ≤ m.Epoch → 1 ≤ m.Epoch → ((hasS a.k.writes m.Epoch ∧ k' = a.k ∧ rs' = a.rs) ∨ (¬ hasS a.k.writes m.Epoch ∧ k' = takeK a.k (recL m) ∧ rs' = a.rs ++ [recL m])) →
      Said c node a m now (lease_ node m) ⟨rs', none, atW now k', false⟩
  | lead (k' : keptT) (rs' : List Msg) : m.Kind = 10 → m.Code = 2 → ((a.k.lead.is_ = true ∧ a.k.lead.who = m.From ∧ k' = a.k ∧ rs' = a.rs) ∨ (¬ (a.k.lead.is_ = true ∧ a.k.lead.who = m.From) ∧ ¬ (a.k.lead.is_ = true ∧ earlyB c a.k.lead.at_ now = true) ∧ k' = takeK a.k (recL m) ∧ rs' = a.rs ++ [recL m])) →
      Said c node a m now (lease_ node m) ⟨rs', none, toL m.From now k', false⟩

theorem hsaid (h : HStep c node a m now out a') : (out = [] ∧ HStep c node a m now [] a') ∨ ∃ y, out = [y] ∧ a.down = false ∧ hval m now ∧ Said c node a m now y a' := by
  have h0 := h
  cases h with
  | off h => exact .inl ⟨rfl, h0⟩
  | lost p hd hv ha hp => exact .inl ⟨rfl, h0⟩
  | @say out k' hd hv ha =>
    have key : ∀ {x : List Msg} {p : keptT}, Act.say x p = Act.say out k' → out = x ∧ k' = p := fun h => by cases h; exact ⟨rfl, rfl⟩
    unfold act at ha
    split at ha
    · rename_i h4
      unfold prepA at ha
      split at ha
      · obtain ⟨rfl, rfl⟩ := key ha; exact .inl ⟨rfl, h0⟩
      · split at ha
        · obtain ⟨rfl, rfl⟩ := key ha; exact .inr ⟨_, rfl, hd, hv, .dec (.inl h4)⟩
        · split at ha
          · split at ha
            · obtain ⟨rfl, rfl⟩ := key ha; exact .inl ⟨rfl, h0⟩
            · cases ha
          · split at ha
            · obtain ⟨rfl, rfl⟩ := key ha; exact .inr ⟨_, rfl, hd, hv, .nack (.inl h4) (by omega)⟩
            · cases ha
    · split at ha
      · rename_i h7
        unfold accA at ha
        split at ha
        · obtain ⟨rfl, rfl⟩ := key ha; exact .inl ⟨rfl, h0⟩
        · rename_i h1
          split at ha
          · obtain ⟨rfl, rfl⟩ := key ha; exact .inr ⟨_, rfl, hd, hv, .dec (.inr h7)⟩
          · split at ha
            · obtain ⟨rfl, rfl⟩ := key ha
              simp only [not_or] at h1
              exact .inr ⟨_, rfl, hd, hv, .nack (.inr h7) (by omega)⟩
            · split at ha
              · obtain ⟨rfl, rfl⟩ := key ha; exact .inl ⟨rfl, h0⟩
              · cases ha
      · split at ha
        · rename_i h10
          unfold grA at ha
          split at ha
          · rename_i hc
            split at ha
            · obtain ⟨rfl, rfl⟩ := key ha; exact .inl ⟨rfl, h0⟩
            · rename_i h2
              simp only [not_or, mxI] at h2
              split at ha
              · rename_i hh
                obtain ⟨rfl, rfl⟩ := key ha
                exact .inr ⟨_, rfl, hd, hv, .write _ _ h10 hc (by split at h2 <;> omega) (by split at h2 <;> omega) (.inl ⟨hh, rfl, rfl⟩)⟩
              · cases ha
          · split at ha
            · rename_i hc
              split at ha
              · rename_i hh
                obtain ⟨rfl, rfl⟩ := key ha
                exact .inr ⟨_, rfl, hd, hv, .lead _ _ h10 hc (.inl ⟨hh.1, hh.2, rfl, rfl⟩)⟩
              · split at ha
                · obtain ⟨rfl, rfl⟩ := key ha; exact .inl ⟨rfl, h0⟩
                · cases ha
            · obtain ⟨rfl, rfl⟩ := key ha; exact .inl ⟨rfl, h0⟩
        · obtain ⟨rfl, rfl⟩ := key ha; exact .inl ⟨rfl, h0⟩
  | @kept r out post hd hv ha =>
    right
    unfold act at ha
    split at ha
    · rename_i h4
      unfold prepA at ha
      split at ha
      · cases ha
      · rename_i h1
        simp only [not_or, mn_lt1, Bool.not_eq_false] at h1
        split at ha
        · cases ha
        · split at ha
          · rename_i h3
            split at ha
            · cases ha
            · rename_i h5
              simp only [Act.note.injEq] at ha
              obtain ⟨rfl, rfl, rfl⟩ := ha
              exact ⟨_, rfl, hd, hv, .prom _ h4 (by omega) (by omega) h1.2.1 (.inl ⟨h3, rfl, h5⟩)⟩
          · split at ha
            · cases ha
            · simp only [Act.note.injEq] at ha
              obtain ⟨rfl, rfl, rfl⟩ := ha
              exact ⟨_, rfl, hd, hv, .prom _ h4 (by omega) (by omega) h1.2.1 (.inr ⟨by omega, by omega, rfl⟩)⟩
    · split at ha
      · rename_i h7
        unfold accA at ha
        split at ha
        · cases ha
        · rename_i h1
          simp only [not_or, mn_lt1, Bool.not_eq_false, ne_eq, Classical.not_not] at h1
          split at ha
          · cases ha
          · split at ha
            · cases ha
            · split at ha
              · cases ha
              · rename_i h5
                simp only [not_or] at h5
                simp only [Act.note.injEq] at ha
                obtain ⟨rfl, rfl, rfl⟩ := ha
                exact ⟨_, rfl, hd, hv, .acc h7 (by omega) (by omega) (by omega) h1.2.1 h1.2.2.1 h5.2⟩
      · split at ha
        · rename_i h10
          unfold grA at ha
          split at ha
          · rename_i hc
            split at ha
            · cases ha
            · rename_i h2
              simp only [not_or, mxI] at h2
              split at ha
              · cases ha
              · rename_i hh
                simp only [Act.note.injEq] at ha
                obtain ⟨rfl, rfl, rfl⟩ := ha
                exact ⟨_, rfl, hd, hv, .write _ _ h10 hc (by split at h2 <;> omega) (by split at h2 <;> omega) (.inr ⟨hh, rfl, rfl⟩)⟩
          · split at ha
            · rename_i hc
              split at ha
              · cases ha
              · rename_i hh
                split at ha
                · cases ha
                · rename_i hh2
                  simp only [Act.note.injEq] at ha
                  obtain ⟨rfl, rfl, rfl⟩ := ha
                  exact ⟨_, rfl, hd, hv, .lead _ _ h10 hc (.inr ⟨hh, hh2, rfl, rfl⟩)⟩
            · cases ha
        · cases ha
end

/-! ### the live question -/
def plainC : Config := ⟨1, 2, 2, 1, 3, [1, 0], 5, 3, 2, 2, 20, 20, 5, 10, 3, 50, 3, 1000, 1500, 700, 30, 20, 40, 5, 10, 5, 10, 4, 3, 5⟩
theorem plainC_r : rightC plainC = true := by decide +kernel
def zeroC : Config := ⟨0, 0, 0, 0, 0, [], 0, 0, 0, 0, 0, 0, 0, 0, 0, 0, 0, 0, 0, 0, 0, 0, 0, 0, 0, 0, 0, 0, 0, 0⟩
theorem zeroC_r : rightC zeroC = false := by decide +kernel

theorem ask_ok {c : Config} (h : rightC c = true) {from_ to_ b : Int} (hf : 0 ≤ from_ ∧ from_ ≤ 255) (ht : 0 ≤ to_ ∧ to_ ≤ 255) (hb : inK .i64 b) (kd : Int) (hk : kd = 4 ∨ kd = 7) {p : Plan} (hp : PlOk p) : okRec ⟨kd, from_, to_, 1, b, 0, 0, 0, 0, 0, true, p, [], [], []⟩ := by
  refine ⟨⟨⟨hp.f.s, hp.u1, hp.u2⟩, hp.f, ?_, by simp, fun x hx => by simp at hx, fun x hx => by simp at hx, fun x hx => by simp at hx⟩, ?_⟩
  · intro x hx
    simp only [List.mem_cons, List.not_mem_nil, or_false] at hx
    rcases hx with rfl | rfl | rfl | rfl | rfl <;> first | assumption | exact inI64.2 (by decide)
  · simp only [rightM, Bool.and_eq_true, decide_eq_true_eq, planB, cond_true, hp.r, and_true]
    exact ⟨by unfold hdM; simp only; omega, by unfold txM; simp⟩

theorem head15_ok : law15_head = some true := by
  have hr := plainC_r
  have ht : plainC.Tiers.length < 9223372036854775807 := by decide
  have hz := rzero_ok ht hr
  have hp := (kept0_ok hr).known
  have n1 := new_ok (c := plainC) (node := 1) ht
  have n2 := new_ok (c := zeroC) (node := 1) (by decide)
  rw [if_pos ⟨hr, by decide, by decide⟩] at n1
  rw [if_neg (by rw [zeroC_r]; simp)] at n2
  have hm := ask_ok hr (from_ := 9) (to_ := 1) (b := 16) (by decide) (by decide) (inI64.2 (by decide)) 4 (.inl rfl) hp
  have v : hval ⟨4, 9, 1, 1, 16, 0, 0, 0, 0, 0, true, (kept0 plainC).known, [], [], []⟩ 5 := ⟨hm.2, by decide, by decide⟩
  have f0 : okFuse (-1) := by unfold okFuse; omega
  have h1 := handle_on (c := plainC) (node := 1) (k := kept0 plainC) (fuse := -1) (s := []) hm.1 v hp f0 (by simp)
  have a1 : act plainC 1 (kept0 plainC) ⟨4, 9, 1, 1, 16, 0, 0, 0, 0, 0, true, (kept0 plainC).known, [], [], []⟩ 5 = .note (recP ⟨4, 9, 1, 1, 16, 0, 0, 0, 0, 0, true, (kept0 plainC).known, [], [], []⟩ (kept0 plainC).known) (fun k1 => [prom_ 1 ⟨4, 9, 1, 1, 16, 0, 0, 0, 0, 0, true, (kept0 plainC).known, [], [], []⟩ k1]) id := by
    simp [act, prepA, mnI, kept0, wI64]
  rw [a1] at h1
  simp only [runA, eff, fd] at h1
  simp only [Bool.false_eq_true, false_or, show ¬ ((-1 : Int) = 0) by decide, if_false, show ¬ (0 < (-1 : Int)) by decide, List.nil_append, id] at h1
  have hr1 := recPl 1 16 (inI64.2 (by decide)) (inI64.2 (by decide)) 5 (.inl rfl) hp
  have hl := log_len hr1
  have h2 := handle_on (c := plainC) (node := 1) (k := takeK (kept0 plainC) (recP ⟨4, 9, 1, 1, 16, 0, 0, 0, 0, 0, true, (kept0 plainC).known, [], [], []⟩ (kept0 plainC).known)) (fuse := -1) (s := log [recP ⟨4, 9, 1, 1, 16, 0, 0, 0, 0, 0, true, (kept0 plainC).known, [], [], []⟩ (kept0 plainC).known]) hm.1 v (by simp [takeK, recP, kept0] at hp ⊢; exact hp) f0 (by have : (log [recP ⟨4, 9, 1, 1, 16, 0, 0, 0, 0, 0, true, (kept0 plainC).known, [], [], []⟩ (kept0 plainC).known]).length ≤ 4408 := hl; omega)
  have a2 : act plainC 1 (takeK (kept0 plainC) (recP ⟨4, 9, 1, 1, 16, 0, 0, 0, 0, 0, true, (kept0 plainC).known, [], [], []⟩ (kept0 plainC).known)) ⟨4, 9, 1, 1, 16, 0, 0, 0, 0, 0, true, (kept0 plainC).known, [], [], []⟩ 5 = .say [nack_ 1 (takeK (kept0 plainC) (recP ⟨4, 9, 1, 1, 16, 0, 0, 0, 0, 0, true, (kept0 plainC).known, [], [], []⟩ (kept0 plainC).known)) ⟨4, 9, 1, 1, 16, 0, 0, 0, 0, 0, true, (kept0 plainC).known, [], [], []⟩] (takeK (kept0 plainC) (recP ⟨4, 9, 1, 1, 16, 0, 0, 0, 0, 0, true, (kept0 plainC).known, [], [], []⟩ (kept0 plainC).known)) := by
    simp [act, prepA, mnI, kept0, wI64, takeK, recP]
  rw [a2] at h2
  simp only [runA] at h2
  have pl : law13_Plain = some plainC := rfl
  simp only [law15_head, pl, Option.bind_some, n1, law15_head_2]
  rw [show (⟨0, 0, 0, 0, 0, [], 0, 0, 0, 0, 0, 0, 0, 0, 0, 0, 0, 0, 0, 0, 0, 0, 0, 0, 0, 0, 0, 0, 0, 0⟩ : Config) = zeroC from rfl, n2]
  simp only [Option.bind_some, Acceptor_Journal, law15_head_4, cond_false, hz, h1, h2, List.length_map, List.length_cons, List.length_nil, prom_, nack_]
  rfl
theorem great_ok (l : List Op) : law15_Great l = some (decide ((l.length : Int) > 150)) := by simp [law15_Great]
end Go.RX.L

set_option linter.unusedSimpArgs false
set_option linter.unusedVariables false
set_option maxRecDepth 100000
namespace Go.RX.L
open Go Go.RX
theorem cfg_len {c : Config} (h : c.Ok) : c.Tiers.length < 9223372036854775807 := by
  obtain ⟨-, -, -, -, -, ⟨h1, -⟩, -⟩ := h
  exact short h1
theorem b10 : ((1 : Int) == 0) = false := rfl
theorem b20 : ((2 : Int) == 0) = false := rfl
theorem b21 : ((2 : Int) == 1) = false := rfl
theorem wS1 {i : Nat} (h : i ≤ 150) : IntKind.i64.wrap ((i : Int) + 1) = ((i + 1 : Nat) : Int) := by rw [wI64 (by omega) (by omega)]; norm_cast
theorem nlt {l : List Op} {i : Nat} (h : l.length ≤ i) : decide ((i : Int) < (((List.map Op.enc l).length : Nat) : Int)) = false := by simp; omega
theorem olt {l : List Op} {i : Nat} (h : i < l.length) : decide ((i : Int) < (((List.map Op.enc l).length : Nat) : Int)) = true := by simp; omega
theorem great_b {l : List Op} : decide ((l.length : Int) > 150) = !decide (l.length ≤ 150) := by
  by_cases h : l.length ≤ 150
  · simp [h]; omega
  · simp [h]; omega
theorem Rep.mono {c : Config} {a : AS} {fuse : Int} {s t : List Int} {n m : Nat} (h : Rep c a fuse s t n) (hm : n ≤ m) : Rep c a fuse s t m := ⟨h.ok, h.fu, h.dk, h.tl, Nat.le_trans h.len hm⟩

def lexle (e b : Int) (k : keptT) : Prop := e < k.epoch ∨ (e = k.epoch ∧ b ≤ k.promised)
theorem lexle.take {e b : Int} {k : keptT} (h : lexle e b k) {m : Msg} (hm : fits k m) : lexle e b (takeK k m) := by
  unfold lexle at *
  rcases hm with ⟨a1, a2, a3, a4, a5⟩ | ⟨a1, a2, a3, a4, a5, a6⟩ | ⟨a1, a2⟩
  · unfold takeK
    rw [if_pos a1]
    split
    · simp only; omega
    · simp only; omega
  · unfold takeK
    rw [if_neg (by omega), if_pos a1]
    simp only; omega
  · unfold takeK
    rw [if_neg (by omega), if_neg (by omega), if_pos a1]
    split <;> exact h
end Go.RX.L

set_option linter.unusedSimpArgs false
set_option linter.unusedVariables false
set_option maxRecDepth 100000
set_option maxHeartbeats 4000000
namespace Go.RX.L
open Go Go.RX Go.Proofs
attribute [local irreducible] FinQ
noncomputable def law15_AcceptorAnswers_c := codeAt (bodyOf Tryd.f3)
noncomputable def law15_AcceptorAnswers_e (y : Bool) : D × Sto := (.bool y, [])
inductive law15_AcceptorAnswers_S where
 | s0
 | s1 (up : Bool)
 | s2 (up : Bool) (kept : keptT) (node2 : Int) (fuse : Int) (down : Bool) (b2 : List Int) (b3 : List Int)
 | s3 (up : Bool) (i : Int) (kept : keptT) (node2 : Int) (fuse : Int) (down : Bool) (b2 : List Int) (b3 : List Int)
 | s4 (up : Bool) (i : Int) (fine : Bool) (kept : keptT) (node2 : Int) (m : Msg) (fuse : Int) (down : Bool) (b3 : List Int) (b4 : List Int)
noncomputable def law15_AcceptorAnswers_M (c : Config) (node : Int) (l_ : List Op) : law15_AcceptorAnswers_S → M
 | .s0 => startM Tryd.f3 [.agg [.int .i64 c.F_, .int .i64 c.Deciders, .int .i64 c.Targets, .int .i64 c.Routers, .int .i64 c.Observers, .sl false 1 (List.map (eInt .i64) c.Tiers), .int .i64 c.Every, .int .i64 c.Wait, .int .i64 c.Rise, .int .i64 c.Fall, .int .i64 c.Fresh, .int .i64 c.L_, .int .i64 c.M_, .int .i64 c.Dwell, .int .i64 c.D_, .int .i64 c.W_, .int .i64 c.B_, .int .i64 c.Hit, .int .i64 c.Suppress, .int .i64 c.Reuse, .int .i64 c.Half, .int .i64 c.First, .int .i64 c.Step, .int .i64 c.StepTime, .int .i64 c.S_, .int .i64 c.Cap, .int .i64 c.Span, .int .i64 c.Room, .int .i64 c.Tries, .int .i64 c.Retry], .int .u8 node, .sl false 29 (List.map Op.enc l_)] []
 | .s1 up => ⟨[.code (law15_AcceptorAnswers_c [1, 1, 1])], [(1, .int .u8 node), (2, .sl false 29 (List.map Op.enc l_)), (7, .bool up), (8, .nilp)], []⟩
 | .s2 up kept node2 fuse down b2 b3 => ⟨[.code (law15_AcceptorAnswers_c [1, 1, 1])], [(1, .int .u8 node), (2, .sl false 29 (List.map Op.enc l_)), (7, .bool up), (8, .ptr 0 0 0)], [some ⟨67, true, [[.int .i64 kept.epoch, .int .i64 kept.known.Epoch, .int .i64 kept.known.Target, .int .i64 kept.known.Prev, .int .i64 kept.known.Spill, .int .i64 kept.known.Percent, .int .i64 kept.known.Stamp, .int .i64 kept.known.Since, .int .i64 kept.known.Ramped, .int .u64 kept.known.Up, .int .u64 kept.known.Sup, .sl false 1 (List.map (eInt .i64) kept.known.Pen), .sl false 1 (List.map (eInt .i64) kept.known.Changes), .int .i64 kept.promised, .int .i64 kept.accepted, .int .i64 kept.plan.Epoch, .int .i64 kept.plan.Target, .int .i64 kept.plan.Prev, .int .i64 kept.plan.Spill, .int .i64 kept.plan.Percent, .int .i64 kept.plan.Stamp, .int .i64 kept.plan.Since, .int .i64 kept.plan.Ramped, .int .u64 kept.plan.Up, .int .u64 kept.plan.Sup, .sl false 1 (List.map (eInt .i64) kept.plan.Pen), .sl false 1 (List.map (eInt .i64) kept.plan.Changes), .int .i64 kept.writes.low, .int .i64 kept.writes.high, .int .i64 kept.writes.at_, .int .i64 kept.wish, .int .i64 kept.wishAt, .bool kept.lead.is_, .int .i64 kept.lead.who, .int .i64 kept.lead.at_, .int .i64 c.F_, .int .i64 c.Deciders, .int .i64 c.Targets, .int .i64 c.Routers, .int .i64 c.Observers, .sl false 1 (List.map (eInt .i64) c.Tiers), .int .i64 c.Every, .int .i64 c.Wait, .int .i64 c.Rise, .int .i64 c.Fall, .int .i64 c.Fresh, .int .i64 c.L_, .int .i64 c.M_, .int .i64 c.Dwell, .int .i64 c.D_, .int .i64 c.W_, .int .i64 c.B_, .int .i64 c.Hit, .int .i64 c.Suppress, .int .i64 c.Reuse, .int .i64 c.Half, .int .i64 c.First, .int .i64 c.Step, .int .i64 c.StepTime, .int .i64 c.S_, .int .i64 c.Cap, .int .i64 c.Span, .int .i64 c.Room, .int .i64 c.Tries, .int .i64 c.Retry, .int .i64 node2, .ptr 1 0 0]]⟩, some ⟨4, true, [[.msl 2 0 ((List.map (eInt .u8) b2).length) ((List.map (eInt .u8) b2).length) false, .msl 3 0 ((List.map (eInt .u8) b3).length) ((List.map (eInt .u8) b3).length) false, .int .i64 fuse, .bool down]]⟩, some ⟨1, false, (List.map (eInt .u8) b2)⟩, some ⟨1, false, (List.map (eInt .u8) b3)⟩]⟩
 | .s3 up i kept node2 fuse down b2 b3 => ⟨[.lpc (law15_AcceptorAnswers_c [1, 1, 1, 1, 0, 1, 0, 0]) 902, .blk 0, .code (law15_AcceptorAnswers_c [1, 1, 1, 1, 1])], [(1, .int .u8 node), (2, .sl false 29 (List.map Op.enc l_)), (7, .bool up), (8, .ptr 0 0 0), (9, .int .i64 i)], [some ⟨67, true, [[.int .i64 kept.epoch, .int .i64 kept.known.Epoch, .int .i64 kept.known.Target, .int .i64 kept.known.Prev, .int .i64 kept.known.Spill, .int .i64 kept.known.Percent, .int .i64 kept.known.Stamp, .int .i64 kept.known.Since, .int .i64 kept.known.Ramped, .int .u64 kept.known.Up, .int .u64 kept.known.Sup, .sl false 1 (List.map (eInt .i64) kept.known.Pen), .sl false 1 (List.map (eInt .i64) kept.known.Changes), .int .i64 kept.promised, .int .i64 kept.accepted, .int .i64 kept.plan.Epoch, .int .i64 kept.plan.Target, .int .i64 kept.plan.Prev, .int .i64 kept.plan.Spill, .int .i64 kept.plan.Percent, .int .i64 kept.plan.Stamp, .int .i64 kept.plan.Since, .int .i64 kept.plan.Ramped, .int .u64 kept.plan.Up, .int .u64 kept.plan.Sup, .sl false 1 (List.map (eInt .i64) kept.plan.Pen), .sl false 1 (List.map (eInt .i64) kept.plan.Changes), .int .i64 kept.writes.low, .int .i64 kept.writes.high, .int .i64 kept.writes.at_, .int .i64 kept.wish, .int .i64 kept.wishAt, .bool kept.lead.is_, .int .i64 kept.lead.who, .int .i64 kept.lead.at_, .int .i64 c.F_, .int .i64 c.Deciders, .int .i64 c.Targets, .int .i64 c.Routers, .int .i64 c.Observers, .sl false 1 (List.map (eInt .i64) c.Tiers), .int .i64 c.Every, .int .i64 c.Wait, .int .i64 c.Rise, .int .i64 c.Fall, .int .i64 c.Fresh, .int .i64 c.L_, .int .i64 c.M_, .int .i64 c.Dwell, .int .i64 c.D_, .int .i64 c.W_, .int .i64 c.B_, .int .i64 c.Hit, .int .i64 c.Suppress, .int .i64 c.Reuse, .int .i64 c.Half, .int .i64 c.First, .int .i64 c.Step, .int .i64 c.StepTime, .int .i64 c.S_, .int .i64 c.Cap, .int .i64 c.Span, .int .i64 c.Room, .int .i64 c.Tries, .int .i64 c.Retry, .int .i64 node2, .ptr 1 0 0]]⟩, some ⟨4, true, [[.msl 2 0 ((List.map (eInt .u8) b2).length) ((List.map (eInt .u8) b2).length) false, .msl 3 0 ((List.map (eInt .u8) b3).length) ((List.map (eInt .u8) b3).length) false, .int .i64 fuse, .bool down]]⟩, some ⟨1, false, (List.map (eInt .u8) b2)⟩, some ⟨1, false, (List.map (eInt .u8) b3)⟩]⟩
 | .s4 up i fine kept node2 m fuse down b3 b4 => ⟨[.code (law15_AcceptorAnswers_c [1, 1, 1, 1, 0, 1, 0, 0, 1, 0, 0, 1, 1, 1, 1, 1, 1]), .blk 1, .code (law15_AcceptorAnswers_c [1, 1, 1, 1, 0, 1, 0, 0, 1, 1]), .lp (law15_AcceptorAnswers_c [1, 1, 1, 1, 0, 1, 0, 0]) 902, .blk 0, .code (law15_AcceptorAnswers_c [1, 1, 1, 1, 1])], [(1, .int .u8 node), (2, .sl false 29 (List.map Op.enc l_)), (7, .bool up), (8, .ptr 0 0 0), (9, .int .i64 i), (11, .ptr 1 0 0), (12, .bool fine)], [some ⟨67, true, [[.int .i64 kept.epoch, .int .i64 kept.known.Epoch, .int .i64 kept.known.Target, .int .i64 kept.known.Prev, .int .i64 kept.known.Spill, .int .i64 kept.known.Percent, .int .i64 kept.known.Stamp, .int .i64 kept.known.Since, .int .i64 kept.known.Ramped, .int .u64 kept.known.Up, .int .u64 kept.known.Sup, .sl false 1 (List.map (eInt .i64) kept.known.Pen), .sl false 1 (List.map (eInt .i64) kept.known.Changes), .int .i64 kept.promised, .int .i64 kept.accepted, .int .i64 kept.plan.Epoch, .int .i64 kept.plan.Target, .int .i64 kept.plan.Prev, .int .i64 kept.plan.Spill, .int .i64 kept.plan.Percent, .int .i64 kept.plan.Stamp, .int .i64 kept.plan.Since, .int .i64 kept.plan.Ramped, .int .u64 kept.plan.Up, .int .u64 kept.plan.Sup, .sl false 1 (List.map (eInt .i64) kept.plan.Pen), .sl false 1 (List.map (eInt .i64) kept.plan.Changes), .int .i64 kept.writes.low, .int .i64 kept.writes.high, .int .i64 kept.writes.at_, .int .i64 kept.wish, .int .i64 kept.wishAt, .bool kept.lead.is_, .int .i64 kept.lead.who, .int .i64 kept.lead.at_, .int .i64 c.F_, .int .i64 c.Deciders, .int .i64 c.Targets, .int .i64 c.Routers, .int .i64 c.Observers, .sl false 1 (List.map (eInt .i64) c.Tiers), .int .i64 c.Every, .int .i64 c.Wait, .int .i64 c.Rise, .int .i64 c.Fall, .int .i64 c.Fresh, .int .i64 c.L_, .int .i64 c.M_, .int .i64 c.Dwell, .int .i64 c.D_, .int .i64 c.W_, .int .i64 c.B_, .int .i64 c.Hit, .int .i64 c.Suppress, .int .i64 c.Reuse, .int .i64 c.Half, .int .i64 c.First, .int .i64 c.Step, .int .i64 c.StepTime, .int .i64 c.S_, .int .i64 c.Cap, .int .i64 c.Span, .int .i64 c.Room, .int .i64 c.Tries, .int .i64 c.Retry, .int .i64 node2, .ptr 2 0 0]]⟩, some ⟨26, false, [[.int .i64 m.Kind, .int .i64 m.From, .int .i64 m.To, .int .i64 m.Epoch, .int .i64 m.Ballot, .int .i64 m.Accepted, .int .i64 m.Nonce, .int .i64 m.Time, .int .u64 m.Up, .int .i64 m.Code, .bool m.HasPlan, .int .i64 m.Plan.Epoch, .int .i64 m.Plan.Target, .int .i64 m.Plan.Prev, .int .i64 m.Plan.Spill, .int .i64 m.Plan.Percent, .int .i64 m.Plan.Stamp, .int .i64 m.Plan.Since, .int .i64 m.Plan.Ramped, .int .u64 m.Plan.Up, .int .u64 m.Plan.Sup, .sl false 1 (List.map (eInt .i64) m.Plan.Pen), .sl false 1 (List.map (eInt .i64) m.Plan.Changes), .sl false 1 (List.map (eInt .i64) m.ID), .sl false 1 (List.map (eInt .u8) m.Session), .sl false 1 (List.map (eInt .u8) m.Payload)]]⟩, some ⟨4, true, [[.msl 3 0 ((List.map (eInt .u8) b3).length) ((List.map (eInt .u8) b3).length) false, .msl 4 0 ((List.map (eInt .u8) b4).length) ((List.map (eInt .u8) b4).length) false, .int .i64 fuse, .bool down]]⟩, some ⟨1, false, (List.map (eInt .u8) b3)⟩, some ⟨1, false, (List.map (eInt .u8) b4)⟩]⟩
abbrev law15_AcceptorAnswers_W (c : Config) (node : Int) (l_ : List Op) := SOk E (Cx.of Tryd.f3 false 0) law15_AcceptorAnswers_e (law15_AcceptorAnswers_M c node l_)
noncomputable def law15_AcceptorAnswers_0 (c : Config) (node : Int) (l_ : List Op) : Option (law15_AcceptorAnswers_S ⊕ Bool) := ((law15_head ).bind fun y1 => ((acceptor_New c (IntKind.i64.wrap (node))).bind fun y2 => match y2 with | .r0 => (some (.inl (.s1 y1))) | .r1 y2a0 y2a1 y2a2 y2a3 y2a4 => (some (.inl (.s2 y1 y2a0 (IntKind.i64.wrap (node)) y2a1 y2a2 y2a3 y2a4)))))
noncomputable def law15_AcceptorAnswers_1 (c : Config) (node : Int) (l_ : List Op) (up : Bool) : Option (law15_AcceptorAnswers_S ⊕ Bool) := (some (.inr up))
noncomputable def law15_AcceptorAnswers_2 (c : Config) (node : Int) (l_ : List Op) (up : Bool) (kept : keptT) (node2 : Int) (fuse : Int) (down : Bool) (b2 : List Int) (b3 : List Int) : Option (law15_AcceptorAnswers_S ⊕ Bool) := ((law15_Great l_).bind fun y1 => (bif y1 then (some (.inr up)) else (some (.inl (.s3 up 0 kept node2 fuse down b2 b3)))))
noncomputable def law15_AcceptorAnswers_3 (c : Config) (node : Int) (l_ : List Op) (up : Bool) (i : Int) (kept : keptT) (node2 : Int) (fuse : Int) (down : Bool) (b2 : List Int) (b3 : List Int) : Option (law15_AcceptorAnswers_S ⊕ Bool) := (bif (decide ((i : Int) < (((List.map Op.enc l_).length : Nat) : Int))) then (bif ((decide ((0 : Int) ≤ i)) && (decide ((i : Int) < (((List.map Op.enc l_).length : Nat) : Int)))) then (((l_)[i.toNat]?).bind fun y3 => (bif ((decide ((0 : Int) ≤ i)) && (decide ((i : Int) < (((List.map Op.enc l_).length : Nat) : Int)))) then (((l_)[i.toNat]?).bind fun y6 => ((Acceptor_Handle y3.M_ y6.Now kept c node2 fuse down b2 b3).bind fun y8 => (bif (decide (((((List.map Msg.enc y8.1).length : Nat) : Int) : Int) > 1)) then (some (.inr false)) else (bif (((((List.map Msg.enc y8.1).length : Nat) : Int) : Int) == 0) then (some (.inl (.s3 up (IntKind.i64.wrap (i + 1)) y8.2.1 node2 y8.2.2.1 y8.2.2.2.1 y8.2.2.2.2.1 y8.2.2.2.2.2))) else (bif (decide ((0 : Int) < (((List.map Msg.enc y8.1).length : Nat) : Int))) then (((y8.1)[0]?).bind fun y12 => (bif ((decide ((0 : Int) ≤ i)) && (decide ((i : Int) < (((List.map Op.enc l_).length : Nat) : Int)))) then (((l_)[i.toNat]?).bind fun y15 => (bif ((y15.M_.Kind : Int) == 4) then (bif ((y12.Kind : Int) == 9) then (some (.inl (.s4 up i true y8.2.1 node2 y12 y8.2.2.1 y8.2.2.2.1 y8.2.2.2.2.1 y8.2.2.2.2.2))) else (bif ((y12.Kind : Int) == 5) then (some (.inl (.s4 up i true y8.2.1 node2 y12 y8.2.2.1 y8.2.2.2.1 y8.2.2.2.2.1 y8.2.2.2.2.2))) else (some (.inl (.s4 up i ((y12.Kind : Int) == 6) y8.2.1 node2 y12 y8.2.2.1 y8.2.2.2.1 y8.2.2.2.2.1 y8.2.2.2.2.2))))) else (bif ((y15.M_.Kind : Int) == 7) then (bif ((y12.Kind : Int) == 9) then (some (.inl (.s4 up i true y8.2.1 node2 y12 y8.2.2.1 y8.2.2.2.1 y8.2.2.2.2.1 y8.2.2.2.2.2))) else (bif ((y12.Kind : Int) == 8) then (some (.inl (.s4 up i true y8.2.1 node2 y12 y8.2.2.1 y8.2.2.2.1 y8.2.2.2.2.1 y8.2.2.2.2.2))) else (some (.inl (.s4 up i ((y12.Kind : Int) == 6) y8.2.1 node2 y12 y8.2.2.1 y8.2.2.2.1 y8.2.2.2.2.1 y8.2.2.2.2.2))))) else (bif ((y15.M_.Kind : Int) == 10) then (bif ((y12.Kind : Int) == 11) then (bif ((decide ((0 : Int) ≤ i)) && (decide ((i : Int) < (((List.map Op.enc l_).length : Nat) : Int)))) then (((l_)[i.toNat]?).bind fun y26 => (bif ((y12.Nonce : Int) == y26.M_.Nonce) then (bif ((decide ((0 : Int) ≤ i)) && (decide ((i : Int) < (((List.map Op.enc l_).length : Nat) : Int)))) then (((l_)[i.toNat]?).bind fun y30 => (bif ((y12.Code : Int) == y30.M_.Code) then (bif ((decide ((0 : Int) ≤ i)) && (decide ((i : Int) < (((List.map Op.enc l_).length : Nat) : Int)))) then (((l_)[i.toNat]?).bind fun y34 => (some (.inl (.s4 up i ((y12.Epoch : Int) == y34.M_.Epoch) y8.2.1 node2 y12 y8.2.2.1 y8.2.2.2.1 y8.2.2.2.2.1 y8.2.2.2.2.2)))) else none) else (some (.inl (.s4 up i false y8.2.1 node2 y12 y8.2.2.1 y8.2.2.2.1 y8.2.2.2.2.1 y8.2.2.2.2.2))))) else none) else (some (.inl (.s4 up i false y8.2.1 node2 y12 y8.2.2.1 y8.2.2.2.1 y8.2.2.2.2.1 y8.2.2.2.2.2))))) else none) else (some (.inl (.s4 up i false y8.2.1 node2 y12 y8.2.2.1 y8.2.2.2.1 y8.2.2.2.2.1 y8.2.2.2.2.2)))) else (some (.inl (.s4 up i false y8.2.1 node2 y12 y8.2.2.1 y8.2.2.2.1 y8.2.2.2.2.1 y8.2.2.2.2.2))))))) else none)) else none))))) else none)) else none) else (some (.inr up)))
noncomputable def law15_AcceptorAnswers_4 (c : Config) (node : Int) (l_ : List Op) (up : Bool) (i : Int) (fine : Bool) (kept : keptT) (node2 : Int) (m : Msg) (fuse : Int) (down : Bool) (b3 : List Int) (b4 : List Int) : Option (law15_AcceptorAnswers_S ⊕ Bool) := (bif (!fine) then (some (.inr false)) else (bif ((m.From : Int) != (IntKind.i64.wrap (node))) then (some (.inr false)) else (bif ((decide ((0 : Int) ≤ i)) && (decide ((i : Int) < (((List.map Op.enc l_).length : Nat) : Int)))) then (((l_)[i.toNat]?).bind fun y4 => (bif ((m.To : Int) != y4.M_.From) then (some (.inr false)) else ((ref05_Right m).bind fun y7 => (bif (!y7) then (some (.inr false)) else (some (.inl (.s3 up (IntKind.i64.wrap (i + 1)) kept node2 fuse down b3 b4))))))) else none)))
noncomputable def law15_AcceptorAnswers_step (c : Config) (node : Int) (l_ : List Op) : law15_AcceptorAnswers_S → Option (law15_AcceptorAnswers_S ⊕ Bool)
 | .s0 => law15_AcceptorAnswers_0 c node l_
 | .s1 up => law15_AcceptorAnswers_1 c node l_ up
 | .s2 up kept node2 fuse down b2 b3 => law15_AcceptorAnswers_2 c node l_ up kept node2 fuse down b2 b3
 | .s3 up i kept node2 fuse down b2 b3 => law15_AcceptorAnswers_3 c node l_ up i kept node2 fuse down b2 b3
 | .s4 up i fine kept node2 m fuse down b3 b4 => law15_AcceptorAnswers_4 c node l_ up i fine kept node2 m fuse down b3 b4
theorem law15_AcceptorAnswers_0_ok {c node l_} : law15_AcceptorAnswers_W c node l_ .s0 (law15_AcceptorAnswers_0 c node l_) := by
 intro r x h ha; unfold law15_AcceptorAnswers_0 at h
 refine zc 8 [] h (fun _ => law15_head_ok) fun y1 h => ?_
 refine zc 9 [] h (fun _ => acceptor_New_ok) fun y2 h => ?_
 cases y2 with
 | r0 =>
  dsimp only at h
  exact zk 2 h ha
 | r1 y2a0 y2a1 y2a2 y2a3 y2a4 =>
  dsimp only at h
  exact zk 2 h ha
theorem law15_AcceptorAnswers_1_ok {c node l_ up} : law15_AcceptorAnswers_W c node l_ (.s1 up) (law15_AcceptorAnswers_1 c node l_ up) := by
 intro r x h ha; unfold law15_AcceptorAnswers_1 at h
 exact zt 21 h ha
theorem law15_AcceptorAnswers_2_ok {c node l_ up kept node2 fuse down b2 b3} : law15_AcceptorAnswers_W c node l_ (.s2 up kept node2 fuse down b2 b3) (law15_AcceptorAnswers_2 c node l_ up kept node2 fuse down b2 b3) := by
 intro r x h ha; unfold law15_AcceptorAnswers_2 at h
 refine zc 10 [] h (fun _ => law15_Great_ok) fun y1 h => ?_
 refine zs 4 h (fun h => ?_) fun h => ?_
 ·
  exact zt 6 h ha
 exact zj 9 h ha
theorem law15_AcceptorAnswers_3_ok {c node l_ up i kept node2 fuse down b2 b3} : law15_AcceptorAnswers_W c node l_ (.s3 up i kept node2 fuse down b2 b3) (law15_AcceptorAnswers_3 c node l_ up i kept node2 fuse down b2 b3) := by
 intro r x h ha; unfold law15_AcceptorAnswers_3 at h
 refine zs 10 h (fun h => ?_) fun h => ?_
 ·
  refine zn 5 h fun h => ?_
  refine zr 0 Op.enc h fun y3 h => ?_
  refine zn 0 h fun h => ?_
  refine zr 0 Op.enc h fun y6 h => ?_
  refine zc 0 [] h (fun _ => Acceptor_Handle_ok) fun y8 h => ?_
  refine zs 8 h (fun h => ?_) fun h => ?_
  ·
   exact zt 5 h ha
  refine zs 9 h (fun h => ?_) fun h => ?_
  ·
   exact zj 7 h ha
  refine zn 5 h fun h => ?_
  refine zr 1 Msg.enc h fun y12 h => ?_
  refine zn 19 h fun h => ?_
  refine zr 3 Op.enc h fun y15 h => ?_
  refine zs 8 h (fun h => ?_) fun h => ?_
  ·
   refine zs 4 h (fun h => ?_) fun h => ?_
   ·
    exact zk 18 h ha
   refine zs 9 h (fun h => ?_) fun h => ?_
   ·
    exact zk 9 h ha
   exact zk 10 h ha
  refine zs 6 h (fun h => ?_) fun h => ?_
  ·
   refine zs 4 h (fun h => ?_) fun h => ?_
   ·
    exact zk 18 h ha
   refine zs 9 h (fun h => ?_) fun h => ?_
   ·
    exact zk 9 h ha
   exact zk 10 h ha
  refine zs 6 h (fun h => ?_) fun h => ?_
  ·
   refine zs 2 h (fun h => ?_) fun h => ?_
   ·
    refine zn 5 h fun h => ?_
    refine zr 3 Op.enc h fun y26 h => ?_
    refine zs 2 h (fun h => ?_) fun h => ?_
    ·
     refine zn 5 h fun h => ?_
     refine zr 3 Op.enc h fun y30 h => ?_
     refine zs 2 h (fun h => ?_) fun h => ?_
     ·
      refine zn 5 h fun h => ?_
      refine zr 3 Op.enc h fun y34 h => ?_
      exact zk 3 h ha
     exact zk 10 h ha
    exact zk 20 h ha
   exact zk 30 h ha
  exact zk 4 h ha
 exact zt 7 h ha
theorem law15_AcceptorAnswers_4_ok {c node l_ up i fine kept node2 m fuse down b3 b4} : law15_AcceptorAnswers_W c node l_ (.s4 up i fine kept node2 m fuse down b3 b4) (law15_AcceptorAnswers_4 c node l_ up i fine kept node2 m fuse down b3 b4) := by
 intro r x h ha; unfold law15_AcceptorAnswers_4 at h
 refine zs 2 h (fun h => ?_) fun h => ?_
 ·
  exact zt 26 h ha
 refine zs 6 h (fun h => ?_) fun h => ?_
 ·
  exact zt 20 h ha
 refine zn 5 h fun h => ?_
 refine zr 3 Op.enc h fun y4 h => ?_
 refine zs 2 h (fun h => ?_) fun h => ?_
 ·
  exact zt 10 h ha
 refine zd 2 [] h (fun _ => ref05_Right_ok) fun y7 h => ?_
 refine zs 3 h (fun h => ?_) fun h => ?_
 ·
  exact zt 5 h ha
 exact zj 8 h ha
noncomputable def law15_AcceptorAnswers (c : Config) (node : Int) (l_ : List Op) : Option Bool := evf (law15_AcceptorAnswers_step c node l_) (.s0)
theorem law15_AcceptorAnswers_ok {c : Config} {node : Int} {l_ : List Op} {r : Bool} (h : law15_AcceptorAnswers c node l_ = some r) : Sound E 3 [.agg [.int .i64 c.F_, .int .i64 c.Deciders, .int .i64 c.Targets, .int .i64 c.Routers, .int .i64 c.Observers, .sl false 1 (List.map (eInt .i64) c.Tiers), .int .i64 c.Every, .int .i64 c.Wait, .int .i64 c.Rise, .int .i64 c.Fall, .int .i64 c.Fresh, .int .i64 c.L_, .int .i64 c.M_, .int .i64 c.Dwell, .int .i64 c.D_, .int .i64 c.W_, .int .i64 c.B_, .int .i64 c.Hit, .int .i64 c.Suppress, .int .i64 c.Reuse, .int .i64 c.Half, .int .i64 c.First, .int .i64 c.Step, .int .i64 c.StepTime, .int .i64 c.S_, .int .i64 c.Cap, .int .i64 c.Span, .int .i64 c.Room, .int .i64 c.Tries, .int .i64 c.Retry], .int .u8 node, .sl false 29 (List.map Op.enc l_)] [] (Rs law15_AcceptorAnswers_e r) := sc (fn := Tryd.f3) (k := false) (m := 0) (stM := (law15_AcceptorAnswers_M c node l_)) h fun s => by
 cases s with
 | s0 => exact law15_AcceptorAnswers_0_ok
 | s1 => exact law15_AcceptorAnswers_1_ok
 | s2 => exact law15_AcceptorAnswers_2_ok
 | s3 => exact law15_AcceptorAnswers_3_ok
 | s4 => exact law15_AcceptorAnswers_4_ok
end Go.RX.L

set_option linter.unusedSimpArgs false
set_option linter.unusedVariables false
set_option maxRecDepth 100000
namespace Go.RX.L
open Go Go.RX Go.Proofs
theorem law15_AcceptorAnswers_of_t3 {n : Nat} {ds : List D} (h : wtF Tryd.prog (n + 1) 3 ds) : ∃ x : Int, ds = (eInt .i64) x ∧ inK .i64 x := by
  obtain ⟨m, rfl, o⟩ := wt_int (k := .i64) (by kernel_rfl) h
  exact ⟨m, rfl, o⟩
theorem law15_AcceptorAnswers_of_t22 {n : Nat} {ds : List D} (h : wtF Tryd.prog (n + 2) 22 ds) : ∃ x : List Int, ds = (eSl 1 (eInt .i64)) x ∧ (x.length * 8 ≤ reachBytes ∧ ∀ y ∈ x, inK .i64 y) := by
  obtain ⟨rows, rfl, o, w⟩ := wt_slice (n := n + 1) (e := 3) (sz := 1) (by_ := 8) (by kernel_rfl) (by kernel_rfl) (by kernel_rfl) h
  obtain ⟨l, rfl, q⟩ := wt_rows (en := (eInt .i64)) (Ok := fun y => inK .i64 y) (fun r hr => law15_AcceptorAnswers_of_t3 (n := n + 0) hr) rows w
  exact ⟨l, rfl, by simpa using o, q⟩
theorem law15_AcceptorAnswers_of_t2 {n : Nat} {ds : List D} (h : wtF Tryd.prog (n + 1) 2 ds) : ∃ x : Int, ds = (eInt .i64) x ∧ inK .i64 x := by
  obtain ⟨m, rfl, o⟩ := wt_int (k := .i64) (by kernel_rfl) h
  exact ⟨m, rfl, o⟩
theorem law15_AcceptorAnswers_of_t24 {n : Nat} {ds : List D} (h : wtF Tryd.prog (n + 3) 24 ds) : ∃ x : Config, ds = Config.enc x ∧ x.Ok := by
  have h0 := wt_struct (n := n + 2) (ts := [3, 3, 3, 3, 3, 22, 2, 2, 3, 3, 2, 2, 2, 2, 2, 2, 3, 3, 3, 3, 2, 3, 3, 2, 2, 3, 2, 3, 3, 2]) (by kernel_rfl) h
  obtain ⟨a0, b0, rfl, w0, h1⟩ := wtL_cons h0
  obtain ⟨x0, rfl, o0⟩ := law15_AcceptorAnswers_of_t3 (n := n + 1) w0
  obtain ⟨a1, b1, rfl, w1, h2⟩ := wtL_cons h1
  obtain ⟨x1, rfl, o1⟩ := law15_AcceptorAnswers_of_t3 (n := n + 1) w1
  obtain ⟨a2, b2, rfl, w2, h3⟩ := wtL_cons h2
  obtain ⟨x2, rfl, o2⟩ := law15_AcceptorAnswers_of_t3 (n := n + 1) w2
  obtain ⟨a3, b3, rfl, w3, h4⟩ := wtL_cons h3
  obtain ⟨x3, rfl, o3⟩ := law15_AcceptorAnswers_of_t3 (n := n + 1) w3
  obtain ⟨a4, b4, rfl, w4, h5⟩ := wtL_cons h4
  obtain ⟨x4, rfl, o4⟩ := law15_AcceptorAnswers_of_t3 (n := n + 1) w4
  obtain ⟨a5, b5, rfl, w5, h6⟩ := wtL_cons h5
  obtain ⟨x5, rfl, o5⟩ := law15_AcceptorAnswers_of_t22 (n := n + 0) w5
  obtain ⟨a6, b6, rfl, w6, h7⟩ := wtL_cons h6
  obtain ⟨x6, rfl, o6⟩ := law15_AcceptorAnswers_of_t2 (n := n + 1) w6
  obtain ⟨a7, b7, rfl, w7, h8⟩ := wtL_cons h7
  obtain ⟨x7, rfl, o7⟩ := law15_AcceptorAnswers_of_t2 (n := n + 1) w7
  obtain ⟨a8, b8, rfl, w8, h9⟩ := wtL_cons h8
  obtain ⟨x8, rfl, o8⟩ := law15_AcceptorAnswers_of_t3 (n := n + 1) w8
  obtain ⟨a9, b9, rfl, w9, h10⟩ := wtL_cons h9
  obtain ⟨x9, rfl, o9⟩ := law15_AcceptorAnswers_of_t3 (n := n + 1) w9
  obtain ⟨a10, b10, rfl, w10, h11⟩ := wtL_cons h10
  obtain ⟨x10, rfl, o10⟩ := law15_AcceptorAnswers_of_t2 (n := n + 1) w10
  obtain ⟨a11, b11, rfl, w11, h12⟩ := wtL_cons h11
  obtain ⟨x11, rfl, o11⟩ := law15_AcceptorAnswers_of_t2 (n := n + 1) w11
  obtain ⟨a12, b12, rfl, w12, h13⟩ := wtL_cons h12
  obtain ⟨x12, rfl, o12⟩ := law15_AcceptorAnswers_of_t2 (n := n + 1) w12
  obtain ⟨a13, b13, rfl, w13, h14⟩ := wtL_cons h13
  obtain ⟨x13, rfl, o13⟩ := law15_AcceptorAnswers_of_t2 (n := n + 1) w13
  obtain ⟨a14, b14, rfl, w14, h15⟩ := wtL_cons h14
  obtain ⟨x14, rfl, o14⟩ := law15_AcceptorAnswers_of_t2 (n := n + 1) w14
  obtain ⟨a15, b15, rfl, w15, h16⟩ := wtL_cons h15
  obtain ⟨x15, rfl, o15⟩ := law15_AcceptorAnswers_of_t2 (n := n + 1) w15
  obtain ⟨a16, b16, rfl, w16, h17⟩ := wtL_cons h16
  obtain ⟨x16, rfl, o16⟩ := law15_AcceptorAnswers_of_t3 (n := n + 1) w16
  obtain ⟨a17, b17, rfl, w17, h18⟩ := wtL_cons h17
  obtain ⟨x17, rfl, o17⟩ := law15_AcceptorAnswers_of_t3 (n := n + 1) w17
  obtain ⟨a18, b18, rfl, w18, h19⟩ := wtL_cons h18
  obtain ⟨x18, rfl, o18⟩ := law15_AcceptorAnswers_of_t3 (n := n + 1) w18
  obtain ⟨a19, b19, rfl, w19, h20⟩ := wtL_cons h19
  obtain ⟨x19, rfl, o19⟩ := law15_AcceptorAnswers_of_t3 (n := n + 1) w19
  obtain ⟨a20, b20, rfl, w20, h21⟩ := wtL_cons h20
  obtain ⟨x20, rfl, o20⟩ := law15_AcceptorAnswers_of_t2 (n := n + 1) w20
  obtain ⟨a21, b21, rfl, w21, h22⟩ := wtL_cons h21
  obtain ⟨x21, rfl, o21⟩ := law15_AcceptorAnswers_of_t3 (n := n + 1) w21
  obtain ⟨a22, b22, rfl, w22, h23⟩ := wtL_cons h22
  obtain ⟨x22, rfl, o22⟩ := law15_AcceptorAnswers_of_t3 (n := n + 1) w22
  obtain ⟨a23, b23, rfl, w23, h24⟩ := wtL_cons h23
  obtain ⟨x23, rfl, o23⟩ := law15_AcceptorAnswers_of_t2 (n := n + 1) w23
  obtain ⟨a24, b24, rfl, w24, h25⟩ := wtL_cons h24
  obtain ⟨x24, rfl, o24⟩ := law15_AcceptorAnswers_of_t2 (n := n + 1) w24
  obtain ⟨a25, b25, rfl, w25, h26⟩ := wtL_cons h25
  obtain ⟨x25, rfl, o25⟩ := law15_AcceptorAnswers_of_t3 (n := n + 1) w25
  obtain ⟨a26, b26, rfl, w26, h27⟩ := wtL_cons h26
  obtain ⟨x26, rfl, o26⟩ := law15_AcceptorAnswers_of_t2 (n := n + 1) w26
  obtain ⟨a27, b27, rfl, w27, h28⟩ := wtL_cons h27
  obtain ⟨x27, rfl, o27⟩ := law15_AcceptorAnswers_of_t3 (n := n + 1) w27
  obtain ⟨a28, b28, rfl, w28, h29⟩ := wtL_cons h28
  obtain ⟨x28, rfl, o28⟩ := law15_AcceptorAnswers_of_t3 (n := n + 1) w28
  obtain ⟨a29, b29, rfl, w29, h30⟩ := wtL_cons h29
  obtain ⟨x29, rfl, o29⟩ := law15_AcceptorAnswers_of_t2 (n := n + 1) w29
  obtain rfl := wtL_nil h30
  exact ⟨⟨x0, x1, x2, x3, x4, x5, x6, x7, x8, x9, x10, x11, x12, x13, x14, x15, x16, x17, x18, x19, x20, x21, x22, x23, x24, x25, x26, x27, x28, x29⟩, rfl, o0, o1, o2, o3, o4, o5, o6, o7, o8, o9, o10, o11, o12, o13, o14, o15, o16, o17, o18, o19, o20, o21, o22, o23, o24, o25, o26, o27, o28, o29⟩
theorem law15_AcceptorAnswers_of_t5 {n : Nat} {ds : List D} (h : wtF Tryd.prog (n + 1) 5 ds) : ∃ x : Int, ds = (eInt .u8) x ∧ inK .u8 x := by
  obtain ⟨m, rfl, o⟩ := wt_int (k := .u8) (by kernel_rfl) h
  exact ⟨m, rfl, o⟩
theorem law15_AcceptorAnswers_of_t32 {n : Nat} {ds : List D} (h : wtF Tryd.prog (n + 1) 32 ds) : ∃ x : Int, ds = (eInt .i64) x ∧ inK .i64 x := by
  obtain ⟨m, rfl, o⟩ := wt_int (k := .i64) (by kernel_rfl) h
  exact ⟨m, rfl, o⟩
theorem law15_AcceptorAnswers_of_t33 {n : Nat} {ds : List D} (h : wtF Tryd.prog (n + 1) 33 ds) : ∃ x : Int, ds = (eInt .u64) x ∧ inK .u64 x := by
  obtain ⟨m, rfl, o⟩ := wt_int (k := .u64) (by kernel_rfl) h
  exact ⟨m, rfl, o⟩
theorem law15_AcceptorAnswers_of_t4 {n : Nat} {ds : List D} (h : wtF Tryd.prog (n + 1) 4 ds) : ∃ x : Bool, ds = eBool x ∧ True := by
  obtain ⟨m, rfl⟩ := wt_bool (by kernel_rfl) h
  exact ⟨m, rfl, trivial⟩
theorem law15_AcceptorAnswers_of_t34 {n : Nat} {ds : List D} (h : wtF Tryd.prog (n + 2) 34 ds) : ∃ x : List Int, ds = (eSl 1 (eInt .i64)) x ∧ (x.length * 8 ≤ reachBytes ∧ ∀ y ∈ x, inK .i64 y) := by
  obtain ⟨rows, rfl, o, w⟩ := wt_slice (n := n + 1) (e := 2) (sz := 1) (by_ := 8) (by kernel_rfl) (by kernel_rfl) (by kernel_rfl) h
  obtain ⟨l, rfl, q⟩ := wt_rows (en := (eInt .i64)) (Ok := fun y => inK .i64 y) (fun r hr => law15_AcceptorAnswers_of_t2 (n := n + 0) hr) rows w
  exact ⟨l, rfl, by simpa using o, q⟩
theorem law15_AcceptorAnswers_of_t36 {n : Nat} {ds : List D} (h : wtF Tryd.prog (n + 3) 36 ds) : ∃ x : Plan, ds = Plan.enc x ∧ x.Ok := by
  have h0 := wt_struct (n := n + 2) (ts := [2, 3, 3, 3, 3, 2, 2, 2, 33, 33, 22, 34]) (by kernel_rfl) h
  obtain ⟨a0, b0, rfl, w0, h1⟩ := wtL_cons h0
  obtain ⟨x0, rfl, o0⟩ := law15_AcceptorAnswers_of_t2 (n := n + 1) w0
  obtain ⟨a1, b1, rfl, w1, h2⟩ := wtL_cons h1
  obtain ⟨x1, rfl, o1⟩ := law15_AcceptorAnswers_of_t3 (n := n + 1) w1
  obtain ⟨a2, b2, rfl, w2, h3⟩ := wtL_cons h2
  obtain ⟨x2, rfl, o2⟩ := law15_AcceptorAnswers_of_t3 (n := n + 1) w2
  obtain ⟨a3, b3, rfl, w3, h4⟩ := wtL_cons h3
  obtain ⟨x3, rfl, o3⟩ := law15_AcceptorAnswers_of_t3 (n := n + 1) w3
  obtain ⟨a4, b4, rfl, w4, h5⟩ := wtL_cons h4
  obtain ⟨x4, rfl, o4⟩ := law15_AcceptorAnswers_of_t3 (n := n + 1) w4
  obtain ⟨a5, b5, rfl, w5, h6⟩ := wtL_cons h5
  obtain ⟨x5, rfl, o5⟩ := law15_AcceptorAnswers_of_t2 (n := n + 1) w5
  obtain ⟨a6, b6, rfl, w6, h7⟩ := wtL_cons h6
  obtain ⟨x6, rfl, o6⟩ := law15_AcceptorAnswers_of_t2 (n := n + 1) w6
  obtain ⟨a7, b7, rfl, w7, h8⟩ := wtL_cons h7
  obtain ⟨x7, rfl, o7⟩ := law15_AcceptorAnswers_of_t2 (n := n + 1) w7
  obtain ⟨a8, b8, rfl, w8, h9⟩ := wtL_cons h8
  obtain ⟨x8, rfl, o8⟩ := law15_AcceptorAnswers_of_t33 (n := n + 1) w8
  obtain ⟨a9, b9, rfl, w9, h10⟩ := wtL_cons h9
  obtain ⟨x9, rfl, o9⟩ := law15_AcceptorAnswers_of_t33 (n := n + 1) w9
  obtain ⟨a10, b10, rfl, w10, h11⟩ := wtL_cons h10
  obtain ⟨x10, rfl, o10⟩ := law15_AcceptorAnswers_of_t22 (n := n + 0) w10
  obtain ⟨a11, b11, rfl, w11, h12⟩ := wtL_cons h11
  obtain ⟨x11, rfl, o11⟩ := law15_AcceptorAnswers_of_t34 (n := n + 0) w11
  obtain rfl := wtL_nil h12
  exact ⟨⟨x0, x1, x2, x3, x4, x5, x6, x7, x8, x9, x10, x11⟩, rfl, o0, o1, o2, o3, o4, o5, o6, o7, o8, o9, o10, o11⟩
theorem law15_AcceptorAnswers_of_t37 {n : Nat} {ds : List D} (h : wtF Tryd.prog (n + 2) 37 ds) : ∃ x : List Int, ds = (eSl 1 (eInt .u8)) x ∧ (x.length * 1 ≤ reachBytes ∧ ∀ y ∈ x, inK .u8 y) := by
  obtain ⟨rows, rfl, o, w⟩ := wt_slice (n := n + 1) (e := 5) (sz := 1) (by_ := 1) (by kernel_rfl) (by kernel_rfl) (by kernel_rfl) h
  obtain ⟨l, rfl, q⟩ := wt_rows (en := (eInt .u8)) (Ok := fun y => inK .u8 y) (fun r hr => law15_AcceptorAnswers_of_t5 (n := n + 0) hr) rows w
  exact ⟨l, rfl, by simpa using o, q⟩
theorem law15_AcceptorAnswers_of_t39 {n : Nat} {ds : List D} (h : wtF Tryd.prog (n + 4) 39 ds) : ∃ x : Msg, ds = Msg.enc x ∧ x.Ok := by
  have h0 := wt_struct (n := n + 3) (ts := [32, 3, 3, 2, 2, 2, 2, 2, 33, 3, 4, 36, 34, 37, 37]) (by kernel_rfl) h
  obtain ⟨a0, b0, rfl, w0, h1⟩ := wtL_cons h0
  obtain ⟨x0, rfl, o0⟩ := law15_AcceptorAnswers_of_t32 (n := n + 2) w0
  obtain ⟨a1, b1, rfl, w1, h2⟩ := wtL_cons h1
  obtain ⟨x1, rfl, o1⟩ := law15_AcceptorAnswers_of_t3 (n := n + 2) w1
  obtain ⟨a2, b2, rfl, w2, h3⟩ := wtL_cons h2
  obtain ⟨x2, rfl, o2⟩ := law15_AcceptorAnswers_of_t3 (n := n + 2) w2
  obtain ⟨a3, b3, rfl, w3, h4⟩ := wtL_cons h3
  obtain ⟨x3, rfl, o3⟩ := law15_AcceptorAnswers_of_t2 (n := n + 2) w3
  obtain ⟨a4, b4, rfl, w4, h5⟩ := wtL_cons h4
  obtain ⟨x4, rfl, o4⟩ := law15_AcceptorAnswers_of_t2 (n := n + 2) w4
  obtain ⟨a5, b5, rfl, w5, h6⟩ := wtL_cons h5
  obtain ⟨x5, rfl, o5⟩ := law15_AcceptorAnswers_of_t2 (n := n + 2) w5
  obtain ⟨a6, b6, rfl, w6, h7⟩ := wtL_cons h6
  obtain ⟨x6, rfl, o6⟩ := law15_AcceptorAnswers_of_t2 (n := n + 2) w6
  obtain ⟨a7, b7, rfl, w7, h8⟩ := wtL_cons h7
  obtain ⟨x7, rfl, o7⟩ := law15_AcceptorAnswers_of_t2 (n := n + 2) w7
  obtain ⟨a8, b8, rfl, w8, h9⟩ := wtL_cons h8
  obtain ⟨x8, rfl, o8⟩ := law15_AcceptorAnswers_of_t33 (n := n + 2) w8
  obtain ⟨a9, b9, rfl, w9, h10⟩ := wtL_cons h9
  obtain ⟨x9, rfl, o9⟩ := law15_AcceptorAnswers_of_t3 (n := n + 2) w9
  obtain ⟨a10, b10, rfl, w10, h11⟩ := wtL_cons h10
  obtain ⟨x10, rfl, o10⟩ := law15_AcceptorAnswers_of_t4 (n := n + 2) w10
  obtain ⟨a11, b11, rfl, w11, h12⟩ := wtL_cons h11
  obtain ⟨x11, rfl, o11⟩ := law15_AcceptorAnswers_of_t36 (n := n + 0) w11
  obtain ⟨a12, b12, rfl, w12, h13⟩ := wtL_cons h12
  obtain ⟨x12, rfl, o12⟩ := law15_AcceptorAnswers_of_t34 (n := n + 1) w12
  obtain ⟨a13, b13, rfl, w13, h14⟩ := wtL_cons h13
  obtain ⟨x13, rfl, o13⟩ := law15_AcceptorAnswers_of_t37 (n := n + 1) w13
  obtain ⟨a14, b14, rfl, w14, h15⟩ := wtL_cons h14
  obtain ⟨x14, rfl, o14⟩ := law15_AcceptorAnswers_of_t37 (n := n + 1) w14
  obtain rfl := wtL_nil h15
  exact ⟨⟨x0, x1, x2, x3, x4, x5, x6, x7, x8, x9, x10, x11, x12, x13, x14⟩, rfl, o0, o1, o2, o3, o4, o5, o6, o7, o8, o9, o10, o11, o12, o13, o14⟩
theorem law15_AcceptorAnswers_of_t41 {n : Nat} {ds : List D} (h : wtF Tryd.prog (n + 5) 41 ds) : ∃ x : Op, ds = Op.enc x ∧ x.Ok := by
  have h0 := wt_struct (n := n + 4) (ts := [3, 39, 2, 3]) (by kernel_rfl) h
  obtain ⟨a0, b0, rfl, w0, h1⟩ := wtL_cons h0
  obtain ⟨x0, rfl, o0⟩ := law15_AcceptorAnswers_of_t3 (n := n + 3) w0
  obtain ⟨a1, b1, rfl, w1, h2⟩ := wtL_cons h1
  obtain ⟨x1, rfl, o1⟩ := law15_AcceptorAnswers_of_t39 (n := n + 0) w1
  obtain ⟨a2, b2, rfl, w2, h3⟩ := wtL_cons h2
  obtain ⟨x2, rfl, o2⟩ := law15_AcceptorAnswers_of_t2 (n := n + 3) w2
  obtain ⟨a3, b3, rfl, w3, h4⟩ := wtL_cons h3
  obtain ⟨x3, rfl, o3⟩ := law15_AcceptorAnswers_of_t3 (n := n + 3) w3
  obtain rfl := wtL_nil h4
  exact ⟨⟨x0, x1, x2, x3⟩, rfl, o0, o1, o2, o3⟩
theorem law15_AcceptorAnswers_of_t25 {n : Nat} {ds : List D} (h : wtF Tryd.prog (n + 6) 25 ds) : ∃ x : List Op, ds = (eSl 29 Op.enc) x ∧ (x.length * 312 ≤ reachBytes ∧ ∀ y ∈ x, y.Ok) := by
  obtain ⟨rows, rfl, o, w⟩ := wt_slice (n := n + 5) (e := 41) (sz := 29) (by_ := 312) (by kernel_rfl) (by kernel_rfl) (by kernel_rfl) h
  obtain ⟨l, rfl, q⟩ := wt_rows (en := Op.enc) (Ok := fun y => y.Ok) (fun r hr => law15_AcceptorAnswers_of_t41 (n := n + 0) hr) rows w
  exact ⟨l, rfl, by simpa using o, q⟩
theorem law15_AcceptorAnswers_sound (H : ∀ (c : Config) (node : Int) (l_ : List Op), c.Ok → inK .u8 node → (l_.length * 312 ≤ reachBytes ∧ ∀ y ∈ l_, y.Ok) → law15_AcceptorAnswers c node l_ = some true) : ∀ xs, wtA Tryd.prog Tryd.f3.params.toList xs → Sound E 3 xs [] fun d _ => d = .bool true := by
  intro xs h
  have h0 : wtA Tryd.prog [24, 5, 25] xs := h
  obtain ⟨d0, r0, rfl, w0, h1⟩ := wtA_cons h0
  obtain ⟨c0, rfl, v0⟩ := wtP_agg (by kernel_rfl) w0
  obtain ⟨x0, rfl, o0⟩ := law15_AcceptorAnswers_of_t24 (n := 3) v0
  obtain ⟨d1, r1, rfl, w1, h2⟩ := wtA_cons h1
  have v1 := wtP_flat (by kernel_rfl) w1
  obtain ⟨x1, e1, o1⟩ := law15_AcceptorAnswers_of_t5 (n := 5) v1
  obtain ⟨rfl, -⟩ := List.cons.inj e1
  obtain ⟨d2, r2, rfl, w2, h3⟩ := wtA_cons h2
  have v2 := wtP_flat (by kernel_rfl) w2
  obtain ⟨x2, e2, o2⟩ := law15_AcceptorAnswers_of_t25 (n := 0) v2
  obtain ⟨rfl, -⟩ := List.cons.inj e2
  obtain rfl := wtA_nil h3
  exact (law15_AcceptorAnswers_ok (H x0 x1 x2 o0 o1 o2)).mono fun d s h => h.1
end Go.RX.L

set_option linter.unusedSimpArgs false
set_option linter.unusedVariables false
set_option maxRecDepth 100000
namespace Go.RX.L
open Go Go.RX

theorem right_pl {kd f t e b ac n ti code : Int} (hk : 1 ≤ kd ∧ kd ≤ 19) (hf : 0 ≤ f ∧ f ≤ 255) (ht : 0 ≤ t ∧ t ≤ 255) (hc : 0 ≤ code ∧ code ≤ 1000) {p : Plan} (hp : PlOk p) : ref05_Right ⟨kd, f, t, e, b, ac, n, ti, 0, code, true, p, [], [], []⟩ = some true := by
  rw [rmright_ok ⟨hp.f.s, hp.u1, hp.u2⟩]
  congr 1
  simp only [rightM, Bool.and_eq_true, decide_eq_true_eq, planB, cond_true, hp.r, and_true]
  exact ⟨by unfold hdM; simp only; omega, by unfold txM; simp⟩
theorem right_no {kd f t e b ac n ti code : Int} (hk : 1 ≤ kd ∧ kd ≤ 19) (hf : 0 ≤ f ∧ f ≤ 255) (ht : 0 ≤ t ∧ t ≤ 255) (hc : 0 ≤ code ∧ code ≤ 1000) : ref05_Right ⟨kd, f, t, e, b, ac, n, ti, 0, code, false, zeroPl, [], [], []⟩ = some true := by
  rw [rmright_ok ⟨zeroPlOk.f.s, zeroPlOk.u1, zeroPlOk.u2⟩]
  congr 1
  simp only [rightM, Bool.and_eq_true, decide_eq_true_eq, planB, cond_false]
  refine ⟨?_, by unfold txM; simp, by rw [sameP_iff]⟩
  unfold hdM; simp only; omega
def ZP (k : keptT) : Prop := k.accepted = 0 → k.plan = zeroPl
theorem ZP.prom {k : keptT} (h : ZP k) {m : Msg} {p : Plan} : ZP (takeK k (recP m p)) := by
  unfold takeK recP ZP
  simp only [if_true]
  split
  · exact h
  · intro _; rfl
theorem from_in {m : Msg} {now : Int} (h : hval m now) : (0 ≤ m.From ∧ m.From ≤ 255) ∧ (0 ≤ m.Code ∧ m.Code ≤ 1000) := by
  obtain ⟨hr, -⟩ := h
  have hd : hdM m := by simp only [rightM, Bool.and_eq_true, decide_eq_true_eq] at hr; exact hr.1
  unfold hdM at hd
  omega

/-- What may be answered. -/
structure Ans (node : Int) (m y : Msg) : Prop where
  kind : y.Kind = 9 ∧ (m.Kind = 4 ∨ m.Kind = 7) ∨ m.Kind = 4 ∧ (y.Kind = 5 ∨ y.Kind = 6) ∨ m.Kind = 7 ∧ (y.Kind = 8 ∨ y.Kind = 6) ∨ m.Kind = 10 ∧ y.Kind = 11 ∧ y.Nonce = m.Nonce ∧ y.Code = m.Code ∧ y.Epoch = m.Epoch
  fr : y.From = node
  to : y.To = m.From
  right : ref05_Right y = some true
theorem said_ans {c : Config} {node : Int} {a a' : AS} {m y : Msg} {now : Int} (hn : 0 ≤ node ∧ node ≤ 255) (hv : hval m now) (hk : KOk a.k) (hz : ZP a.k) (h : Said c node a m now y a') : Ans node m y ∧ ZP a'.k := by
  obtain ⟨hf, hc⟩ := from_in hv
  cases h with
  | dec h => exact ⟨⟨.inl ⟨rfl, h⟩, rfl, rfl, right_pl (by decide) hn hf (by decide) hk.known⟩, hz⟩
  | nack h e => exact ⟨⟨by rcases h with h | h; exact .inr (.inl ⟨h, .inr rfl⟩); exact .inr (.inr (.inl ⟨h, .inr rfl⟩)), rfl, rfl, right_no (by decide) hn hf (by decide)⟩, hz⟩
  | prom p h4 h1 h2 h3 h5 =>
    have hz' := hz.prom (m := m) (p := p)
    refine ⟨⟨.inr (.inl ⟨h4, .inl rfl⟩), rfl, rfl, ?_⟩, hz'⟩
    have kp : PlOk (takeK a.k (recP m p)).plan := by
      unfold takeK recP
      simp only [if_true]
      split
      · exact hk.plan
      · exact zeroPlOk
    unfold prom_
    by_cases h : (takeK a.k (recP m p)).accepted = 0
    · rw [hz' h, h]
      exact right_no (by decide) hn hf (by decide)
    · have : ((takeK a.k (recP m p)).accepted != 0) = true := bneT h
      rw [this]
      exact right_pl (by decide) hn hf (by decide) kp
  | acc h7 h1 h2 h3 h4 h5 h6 =>
    refine ⟨⟨.inr (.inr (.inl ⟨h7, .inl rfl⟩)), rfl, rfl, right_no (by decide) hn hf (by decide)⟩, ?_⟩
    unfold ZP takeK recA
    simp only [show ¬ ((8 : Int) = 5) by decide, if_false, if_true]
    intro h; omega
  | write k' rs' h10 hc1 h1 h2 h3 =>
    refine ⟨⟨.inr (.inr (.inr ⟨h10, rfl, rfl, rfl, rfl⟩)), rfl, rfl, right_no (by decide) hn hf hc⟩, ?_⟩
    rcases h3 with ⟨-, rfl, rfl⟩ | ⟨-, rfl, rfl⟩
    · exact hz
    · unfold ZP atW takeK recL
      simp only [show ¬ ((11 : Int) = 5) by decide, show ¬ ((11 : Int) = 8) by decide, if_false, if_true, hc1, show ¬ ((1 : Int) = 2) by decide]
      exact hz
  | lead k' rs' h10 hc1 h3 =>
    refine ⟨⟨.inr (.inr (.inr ⟨h10, rfl, rfl, rfl, rfl⟩)), rfl, rfl, right_no (by decide) hn hf hc⟩, ?_⟩
    rcases h3 with ⟨-, -, rfl, rfl⟩ | ⟨-, -, rfl, rfl⟩
    · exact hz
    · unfold ZP toL takeK recL
      simp only [show ¬ ((11 : Int) = 5) by decide, show ¬ ((11 : Int) = 8) by decide, if_false, if_true, hc1]
      exact hz
theorem nil_zp {c : Config} {node : Int} {a a' : AS} {m : Msg} {now : Int} (hz : ZP a.k) (h : HStep c node a m now [] a') : ZP a'.k := by
  rcases hnil h with rfl | ⟨-, -, -, hk⟩ | ⟨-, -, -, -, w, v, hk⟩
  · exact hz
  · rw [hk]; exact hz
  · rw [hk]; exact hz
theorem acceptorAnswers (c : Config) (node : Int) (l_ : List Op) (hc : c.Ok) (hn : inK .u8 node) (hl : l_.length * 312 ≤ reachBytes ∧ ∀ y ∈ l_, y.Ok) : law15_AcceptorAnswers c node l_ = some true := by
  have ht := cfg_len hc
  have hn2 : 0 ≤ node ∧ node ≤ 255 := inU8.1 hn
  have wn : IntKind.i64.wrap node = node := wI64 (by omega) (by omega)
  have hnew := new_ok (c := c) (node := node) ht
  by_cases hr : ¬ rightC c = true
  · rw [if_neg (fun h => hr h.1)] at hnew
    exact evf_of (.next (s' := .s1 true) (by simp only [law15_AcceptorAnswers_step, law15_AcceptorAnswers_0, head15_ok, wn, hnew, Option.bind_some]) (.done rfl))
  rw [Classical.not_not] at hr
  rw [if_pos ⟨hr, hn2⟩] at hnew
  refine evf_of (.next (s' := .s2 true (kept0 c) node (-1) false [] []) (by simp only [law15_AcceptorAnswers_step, law15_AcceptorAnswers_0, head15_ok, wn, hnew, Option.bind_some]) ?_)
  by_cases hg : ¬ l_.length ≤ 150
  · exact .done (by simp only [law15_AcceptorAnswers_step, law15_AcceptorAnswers_2, great_ok, great_b, Option.bind_some, hg, decide_false, Bool.not_false, cond_true])
  rw [Classical.not_not] at hg
  refine .next (s' := .s3 true ((0 : Nat) : Int) (kept0 c) node (-1) false [] []) (by simp only [law15_AcceptorAnswers_step, law15_AcceptorAnswers_2, great_ok, great_b, Option.bind_some, hg, decide_true, Bool.not_true, cond_false]; rfl) ?_
  have loop : ∀ (j i : Nat) (a : AS) (fuse : Int) (s t : List Int), i + j = l_.length → Rep c a fuse s t (4408 * i) → ZP a.k → Ev (law15_AcceptorAnswers_step c node l_) (.s3 true (i : Int) a.k node fuse a.down s t) true := by
    intro j
    induction j with
    | zero =>
      intro i a fuse s t hi h hz
      exact .done (by simp only [law15_AcceptorAnswers_step, law15_AcceptorAnswers_3, nlt (show l_.length ≤ i by omega), cond_false])
    | succ j ih =>
      intro i a fuse s t hi h hz
      have hlt : i < l_.length := by omega
      have o := hl.2 _ (List.getElem_mem hlt)
      obtain ⟨-, om, -, oN⟩ := o
      have fm := om.fine
      have w := wS1 (show i ≤ 150 by omega)
      obtain ⟨out, a', fuse', s', t', he, hrep, hst⟩ := rep_handle (node := node) (now := (l_[i]).Now) h fm (by omega)
      have rest := fun hz' => ih (i + 1) a' fuse' s' t' (by omega) (hrep.mono (by omega)) hz'
      rcases hsaid hst with ⟨rfl, h2⟩ | ⟨y, rfl, hd, hv, hs⟩
      · refine .next (s' := .s3 true ((i + 1 : Nat) : Int) a'.k node fuse' a'.down s' t') ?_ (rest (nil_zp hz h2))
        simp only [law15_AcceptorAnswers_step, law15_AcceptorAnswers_3, olt hlt, cond_true, le0, Bool.and_self, Int.toNat_natCast, List.getE hlt, Option.bind_some, he, w, List.map_nil, List.length_nil]
        rfl
      · obtain ⟨⟨hkd, hfr, hto, hrt⟩, hz'⟩ := said_ans hn2 hv ((h.ok.up hd).kok h.ok.r) hz hs
        refine .next (s' := .s4 true (i : Int) true a'.k node y fuse' a'.down s' t') ?_ (.next (s' := .s3 true ((i + 1 : Nat) : Int) a'.k node fuse' a'.down s' t') ?_ (rest hz'))
        · simp only [law15_AcceptorAnswers_step, law15_AcceptorAnswers_3, olt hlt, cond_true, cond_false, le0, Bool.and_self, Int.toNat_natCast, List.getE hlt, Option.bind_some, he, w, List.map_cons, List.map_nil, List.length_cons, List.length_nil, List.getElem?_cons_zero]
          rcases hkd with ⟨h1, h2 | h2⟩ | ⟨h1, h2 | h2⟩ | ⟨h1, h2 | h2⟩ | ⟨h1, h2, h3, h4, h5⟩
          · simp [h1, h2]
          · simp [h1, h2]
          · simp [h1, h2]
          · simp [h1, h2]
          · simp [h1, h2]
          · simp [h1, h2]
          · simp [h1, h2, h3, h4, h5]
        · simp only [law15_AcceptorAnswers_step, law15_AcceptorAnswers_4, olt hlt, cond_true, cond_false, le0, Bool.and_self, Int.toNat_natCast, List.getE hlt, Option.bind_some, w, wn, hfr, hto, hrt, Bool.not_true, bne_self_eq_false]
  exact loop l_.length 0 (a0 c) (-1) [] [] (by omega) (rep_new hr) (fun _ => rfl)
end Go.RX.L
