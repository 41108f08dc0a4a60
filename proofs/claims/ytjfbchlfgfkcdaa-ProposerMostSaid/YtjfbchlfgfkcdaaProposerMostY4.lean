/-
  Words and walks for ProposerMost. No condition.
-/
import Derived.Test.YtjfbchlfgfkcdaaProposerMostY3
set_option linter.unusedSimpArgs false
set_option linter.unusedVariables false
set_option maxRecDepth 100000
set_option maxHeartbeats 4000000
namespace Go.RX.L
open Go Go.RX Go.Proofs
def law16_ProposerMost_Q (y : Bool) (d : D) (s : Sto) : Prop := d = D.bool y ∧ s = []
inductive law16_ProposerMost_S where
  | s0 (c : Config) (a : Int) (b : Int)
  | s1 (a : Int) (b : Int) (up : Bool) (both : Int) (any : Bool) (i : Int) (c : Config)
noncomputable def law16_ProposerMost_M : law16_ProposerMost_S → M
  | .s0 c a b => ⟨[.code (bodyOf Try.f4)], [(0, D.agg [D.int .i64 c.F_, D.int .i64 c.Deciders, D.int .i64 c.Targets, D.int .i64 c.Routers, D.int .i64 c.Observers, D.sl false 1 (List.map (eInt .i64) c.Tiers), D.int .i64 c.Every, D.int .i64 c.Wait, D.int .i64 c.Rise, D.int .i64 c.Fall, D.int .i64 c.Fresh, D.int .i64 c.L_, D.int .i64 c.M_, D.int .i64 c.Dwell, D.int .i64 c.D_, D.int .i64 c.W_, D.int .i64 c.B_, D.int .i64 c.Hit, D.int .i64 c.Suppress, D.int .i64 c.Reuse, D.int .i64 c.Half, D.int .i64 c.First, D.int .i64 c.Step, D.int .i64 c.StepTime, D.int .i64 c.S_, D.int .i64 c.Cap, D.int .i64 c.Span, D.int .i64 c.Room, D.int .i64 c.Tries, D.int .i64 c.Retry]), (1, D.int .u64 a), (2, D.int .u64 b)], []⟩
  | .s1 a b up both any i c => { td := [It.lpc (codeAt (bodyOf Try.f4) [1, 1, 1, 1, 0, 1, 0, 0]) 1934, It.blk 0, It.code (codeAt (bodyOf Try.f4) [1, 1, 1, 1, 1])], fr := [(1, D.int .u64 a), (2, D.int .u64 b), (3, D.ptr 0 0 0), (7, D.bool up), (8, D.int .u64 both), (9, D.bool any), (10, D.int .i64 i)], st := [some { sz := 30, deep := false, rows := [[D.int .i64 c.F_, D.int .i64 c.Deciders, D.int .i64 c.Targets, D.int .i64 c.Routers, D.int .i64 c.Observers, D.sl false 1 (List.map (eInt .i64) c.Tiers), D.int .i64 c.Every, D.int .i64 c.Wait, D.int .i64 c.Rise, D.int .i64 c.Fall, D.int .i64 c.Fresh, D.int .i64 c.L_, D.int .i64 c.M_, D.int .i64 c.Dwell, D.int .i64 c.D_, D.int .i64 c.W_, D.int .i64 c.B_, D.int .i64 c.Hit, D.int .i64 c.Suppress, D.int .i64 c.Reuse, D.int .i64 c.Half, D.int .i64 c.First, D.int .i64 c.Step, D.int .i64 c.StepTime, D.int .i64 c.S_, D.int .i64 c.Cap, D.int .i64 c.Span, D.int .i64 c.Room, D.int .i64 c.Tries, D.int .i64 c.Retry]] }] }
noncomputable def law16_ProposerMost_0 (c : Config) (a : Int) (b : Int) : Option (law16_ProposerMost_S ⊕ Bool) := ((law16_head ).bind fun y1 => (some (.inl (.s1 a b y1 (andI .u64 a b) false 0 c))))
noncomputable def law16_ProposerMost_1 (a : Int) (b : Int) (up : Bool) (both : Int) (any : Bool) (i : Int) (c : Config) : Option (law16_ProposerMost_S ⊕ Bool) := (bif (decide ((i : Int) ≤ (IntKind.i64.wrap ((2 : Int) * (mnI (mxI c.F_ 0) 3))))) then (bif any then (some (.inl (.s1 a b up both true (IntKind.i64.wrap (i + 1)) c))) else (bif (!decide ((i : Int) < 0)) then (some (.inl (.s1 a b up both (((andI .u64 (shrI .u64 both i) 1) : Int) == 1) (IntKind.i64.wrap (i + 1)) c))) else none)) else (bif up then ((proposer_Most c a).bind fun y5 => (bif (!y5) then ((proposer_Most c a).bind fun y7 => (bif (!y7) then (some (.inr true)) else ((proposer_Most c (orI .u64 a b)).bind fun y9 => (some (.inr y9))))) else ((proposer_Most c b).bind fun y10 => (bif (!y10) then ((proposer_Most c a).bind fun y12 => (bif (!y12) then (some (.inr true)) else ((proposer_Most c (orI .u64 a b)).bind fun y14 => (some (.inr y14))))) else (bif any then ((proposer_Most c a).bind fun y16 => (bif (!y16) then (some (.inr true)) else ((proposer_Most c (orI .u64 a b)).bind fun y18 => (some (.inr y18))))) else (some (.inr false))))))) else (some (.inr false))))
noncomputable def law16_ProposerMost_step : law16_ProposerMost_S → Option (law16_ProposerMost_S ⊕ Bool)
  | .s0 c a b => law16_ProposerMost_0 c a b
  | .s1 a b up both any i c => law16_ProposerMost_1 a b up both any i c
theorem law16_ProposerMost_0_ok {c : Config} {a : Int} {b : Int} {r : Bool} {x : law16_ProposerMost_S ⊕ Bool} (h : law16_ProposerMost_0 c a b = some x) (ha : After E ⟨Try.f4, false, 0⟩ law16_ProposerMost_Q law16_ProposerMost_M r x) : FinQ E ⟨Try.f4, false, 0⟩ (QW (law16_ProposerMost_Q r)) (.go (law16_ProposerMost_M (.s0 c a b))) := by
  unfold law16_ProposerMost_0 at h
  refine adv_ok hm 8 _ ?_
  have ok1 := fun (y : Bool) (hy : law16_head  = some y) => law16_head_ok hy
  refine p_callE [] (args1 := []) (args := []) (fun y1 => D.bool y1) (fun y1 => []) h (by kernel_rfl) ⟨rfl, rfl⟩ ok1 (fun y1 h1 h => ?_)
  refine adv_ok hm 21 _ ?_
  obtain rfl := Option.some.inj h
  exact r_to (q' := .go (law16_ProposerMost_M (.s1 a b y1 (andI .u64 a b) false 0 c))) (by kernel_rfl) ha
theorem law16_ProposerMost_1_ok {a : Int} {b : Int} {up : Bool} {both : Int} {any : Bool} {i : Int} {c : Config} {r : Bool} {x : law16_ProposerMost_S ⊕ Bool} (h : law16_ProposerMost_1 a b up both any i c = some x) (ha : After E ⟨Try.f4, false, 0⟩ law16_ProposerMost_Q law16_ProposerMost_M r x) : FinQ E ⟨Try.f4, false, 0⟩ (QW (law16_ProposerMost_Q r)) (.go (law16_ProposerMost_M (.s1 a b up both any i c))) := by
  unfold law16_ProposerMost_1 at h
  refine adv_ok hm 14 _ ?_
  refine p_split h (by kernel_rfl) (fun h1 h => ?_) (fun h1 h => ?_)
  · -- true
    refine adv_ok hm 7 _ ?_
    refine p_split h (by kernel_rfl) (fun h2 h => ?_) (fun h2 h => ?_)
    · -- true
      refine adv_ok hm 19 _ ?_
      obtain rfl := Option.some.inj h
      exact r_to (q' := .go (law16_ProposerMost_M (.s1 a b up both true (IntKind.i64.wrap (i + 1)) c))) (by kernel_rfl) ha
    · -- false
      refine adv_ok hm 4 _ ?_
      refine p_need h (by kernel_rfl) (fun h3 h => ?_)
      refine adv_ok hm 15 _ ?_
      obtain rfl := Option.some.inj h
      exact r_to (q' := .go (law16_ProposerMost_M (.s1 a b up both (((andI .u64 (shrI .u64 both i) 1) : Int) == 1) (IntKind.i64.wrap (i + 1)) c))) (by kernel_rfl) ha
  · -- false
    refine adv_ok hm 6 _ ?_
    refine p_split h (by kernel_rfl) (fun h4 h => ?_) (fun h4 h => ?_)
    · -- true
      refine adv_ok hm 5 _ ?_
      have ok5 := fun (y : Bool) (hy : proposer_Most c a = some y) => proposer_Most_ok hy
      refine p_callE [] (args1 := [D.agg [D.int .i64 c.F_, D.int .i64 c.Deciders, D.int .i64 c.Targets, D.int .i64 c.Routers, D.int .i64 c.Observers, D.sl false 1 (List.map (eInt .i64) c.Tiers), D.int .i64 c.Every, D.int .i64 c.Wait, D.int .i64 c.Rise, D.int .i64 c.Fall, D.int .i64 c.Fresh, D.int .i64 c.L_, D.int .i64 c.M_, D.int .i64 c.Dwell, D.int .i64 c.D_, D.int .i64 c.W_, D.int .i64 c.B_, D.int .i64 c.Hit, D.int .i64 c.Suppress, D.int .i64 c.Reuse, D.int .i64 c.Half, D.int .i64 c.First, D.int .i64 c.Step, D.int .i64 c.StepTime, D.int .i64 c.S_, D.int .i64 c.Cap, D.int .i64 c.Span, D.int .i64 c.Room, D.int .i64 c.Tries, D.int .i64 c.Retry], D.int .u64 a]) (args := [D.agg [D.int .i64 c.F_, D.int .i64 c.Deciders, D.int .i64 c.Targets, D.int .i64 c.Routers, D.int .i64 c.Observers, D.sl false 1 (List.map (eInt .i64) c.Tiers), D.int .i64 c.Every, D.int .i64 c.Wait, D.int .i64 c.Rise, D.int .i64 c.Fall, D.int .i64 c.Fresh, D.int .i64 c.L_, D.int .i64 c.M_, D.int .i64 c.Dwell, D.int .i64 c.D_, D.int .i64 c.W_, D.int .i64 c.B_, D.int .i64 c.Hit, D.int .i64 c.Suppress, D.int .i64 c.Reuse, D.int .i64 c.Half, D.int .i64 c.First, D.int .i64 c.Step, D.int .i64 c.StepTime, D.int .i64 c.S_, D.int .i64 c.Cap, D.int .i64 c.Span, D.int .i64 c.Room, D.int .i64 c.Tries, D.int .i64 c.Retry], D.int .u64 a]) (fun y5 => D.bool y5) (fun y5 => []) h (by kernel_rfl) ⟨rfl, rfl⟩ ok5 (fun y5 h5 h => ?_)
      refine adv_ok hm 5 _ ?_
      refine p_split h (by kernel_rfl) (fun h6 h => ?_) (fun h6 h => ?_)
      · -- true
        refine adv_ok hm 26 _ ?_
        have ok7 := fun (y : Bool) (hy : proposer_Most c a = some y) => proposer_Most_ok hy
        refine p_callE [] (args1 := [D.agg [D.int .i64 c.F_, D.int .i64 c.Deciders, D.int .i64 c.Targets, D.int .i64 c.Routers, D.int .i64 c.Observers, D.sl false 1 (List.map (eInt .i64) c.Tiers), D.int .i64 c.Every, D.int .i64 c.Wait, D.int .i64 c.Rise, D.int .i64 c.Fall, D.int .i64 c.Fresh, D.int .i64 c.L_, D.int .i64 c.M_, D.int .i64 c.Dwell, D.int .i64 c.D_, D.int .i64 c.W_, D.int .i64 c.B_, D.int .i64 c.Hit, D.int .i64 c.Suppress, D.int .i64 c.Reuse, D.int .i64 c.Half, D.int .i64 c.First, D.int .i64 c.Step, D.int .i64 c.StepTime, D.int .i64 c.S_, D.int .i64 c.Cap, D.int .i64 c.Span, D.int .i64 c.Room, D.int .i64 c.Tries, D.int .i64 c.Retry], D.int .u64 a]) (args := [D.agg [D.int .i64 c.F_, D.int .i64 c.Deciders, D.int .i64 c.Targets, D.int .i64 c.Routers, D.int .i64 c.Observers, D.sl false 1 (List.map (eInt .i64) c.Tiers), D.int .i64 c.Every, D.int .i64 c.Wait, D.int .i64 c.Rise, D.int .i64 c.Fall, D.int .i64 c.Fresh, D.int .i64 c.L_, D.int .i64 c.M_, D.int .i64 c.Dwell, D.int .i64 c.D_, D.int .i64 c.W_, D.int .i64 c.B_, D.int .i64 c.Hit, D.int .i64 c.Suppress, D.int .i64 c.Reuse, D.int .i64 c.Half, D.int .i64 c.First, D.int .i64 c.Step, D.int .i64 c.StepTime, D.int .i64 c.S_, D.int .i64 c.Cap, D.int .i64 c.Span, D.int .i64 c.Room, D.int .i64 c.Tries, D.int .i64 c.Retry], D.int .u64 a]) (fun y7 => D.bool y7) (fun y7 => []) h (by kernel_rfl) ⟨rfl, rfl⟩ ok7 (fun y7 h7 h => ?_)
        refine adv_ok hm 5 _ ?_
        refine p_split h (by kernel_rfl) (fun h8 h => ?_) (fun h8 h => ?_)
        · -- true
          refine adv_ok hm 16 _ ?_
          obtain rfl := Option.some.inj h
          have hv := ha
          simp only [After] at hv
          subst hv
          exact r_retF [] (d := D.bool true) (s := []) (by kernel_rfl) ⟨rfl, rfl⟩
        · -- false
          refine adv_ok hm 9 _ ?_
          have ok9 := fun (y : Bool) (hy : proposer_Most c (orI .u64 a b) = some y) => proposer_Most_ok hy
          refine p_callE [] (args1 := [D.agg [D.int .i64 c.F_, D.int .i64 c.Deciders, D.int .i64 c.Targets, D.int .i64 c.Routers, D.int .i64 c.Observers, D.sl false 1 (List.map (eInt .i64) c.Tiers), D.int .i64 c.Every, D.int .i64 c.Wait, D.int .i64 c.Rise, D.int .i64 c.Fall, D.int .i64 c.Fresh, D.int .i64 c.L_, D.int .i64 c.M_, D.int .i64 c.Dwell, D.int .i64 c.D_, D.int .i64 c.W_, D.int .i64 c.B_, D.int .i64 c.Hit, D.int .i64 c.Suppress, D.int .i64 c.Reuse, D.int .i64 c.Half, D.int .i64 c.First, D.int .i64 c.Step, D.int .i64 c.StepTime, D.int .i64 c.S_, D.int .i64 c.Cap, D.int .i64 c.Span, D.int .i64 c.Room, D.int .i64 c.Tries, D.int .i64 c.Retry], D.int .u64 (orI .u64 a b)]) (args := [D.agg [D.int .i64 c.F_, D.int .i64 c.Deciders, D.int .i64 c.Targets, D.int .i64 c.Routers, D.int .i64 c.Observers, D.sl false 1 (List.map (eInt .i64) c.Tiers), D.int .i64 c.Every, D.int .i64 c.Wait, D.int .i64 c.Rise, D.int .i64 c.Fall, D.int .i64 c.Fresh, D.int .i64 c.L_, D.int .i64 c.M_, D.int .i64 c.Dwell, D.int .i64 c.D_, D.int .i64 c.W_, D.int .i64 c.B_, D.int .i64 c.Hit, D.int .i64 c.Suppress, D.int .i64 c.Reuse, D.int .i64 c.Half, D.int .i64 c.First, D.int .i64 c.Step, D.int .i64 c.StepTime, D.int .i64 c.S_, D.int .i64 c.Cap, D.int .i64 c.Span, D.int .i64 c.Room, D.int .i64 c.Tries, D.int .i64 c.Retry], D.int .u64 (orI .u64 a b)]) (fun y9 => D.bool y9) (fun y9 => []) h (by kernel_rfl) ⟨rfl, rfl⟩ ok9 (fun y9 h9 h => ?_)
          refine adv_ok hm 8 _ ?_
          obtain rfl := Option.some.inj h
          have hv := ha
          simp only [After] at hv
          subst hv
          exact r_retF [] (d := D.bool y9) (s := []) (by kernel_rfl) ⟨rfl, rfl⟩
      · -- false
        refine adv_ok hm 5 _ ?_
        have ok10 := fun (y : Bool) (hy : proposer_Most c b = some y) => proposer_Most_ok hy
        refine p_callE [] (args1 := [D.agg [D.int .i64 c.F_, D.int .i64 c.Deciders, D.int .i64 c.Targets, D.int .i64 c.Routers, D.int .i64 c.Observers, D.sl false 1 (List.map (eInt .i64) c.Tiers), D.int .i64 c.Every, D.int .i64 c.Wait, D.int .i64 c.Rise, D.int .i64 c.Fall, D.int .i64 c.Fresh, D.int .i64 c.L_, D.int .i64 c.M_, D.int .i64 c.Dwell, D.int .i64 c.D_, D.int .i64 c.W_, D.int .i64 c.B_, D.int .i64 c.Hit, D.int .i64 c.Suppress, D.int .i64 c.Reuse, D.int .i64 c.Half, D.int .i64 c.First, D.int .i64 c.Step, D.int .i64 c.StepTime, D.int .i64 c.S_, D.int .i64 c.Cap, D.int .i64 c.Span, D.int .i64 c.Room, D.int .i64 c.Tries, D.int .i64 c.Retry], D.int .u64 b]) (args := [D.agg [D.int .i64 c.F_, D.int .i64 c.Deciders, D.int .i64 c.Targets, D.int .i64 c.Routers, D.int .i64 c.Observers, D.sl false 1 (List.map (eInt .i64) c.Tiers), D.int .i64 c.Every, D.int .i64 c.Wait, D.int .i64 c.Rise, D.int .i64 c.Fall, D.int .i64 c.Fresh, D.int .i64 c.L_, D.int .i64 c.M_, D.int .i64 c.Dwell, D.int .i64 c.D_, D.int .i64 c.W_, D.int .i64 c.B_, D.int .i64 c.Hit, D.int .i64 c.Suppress, D.int .i64 c.Reuse, D.int .i64 c.Half, D.int .i64 c.First, D.int .i64 c.Step, D.int .i64 c.StepTime, D.int .i64 c.S_, D.int .i64 c.Cap, D.int .i64 c.Span, D.int .i64 c.Room, D.int .i64 c.Tries, D.int .i64 c.Retry], D.int .u64 b]) (fun y10 => D.bool y10) (fun y10 => []) h (by kernel_rfl) ⟨rfl, rfl⟩ ok10 (fun y10 h10 h => ?_)
        refine adv_ok hm 8 _ ?_
        refine p_split h (by kernel_rfl) (fun h11 h => ?_) (fun h11 h => ?_)
        · -- true
          refine adv_ok hm 13 _ ?_
          have ok12 := fun (y : Bool) (hy : proposer_Most c a = some y) => proposer_Most_ok hy
          refine p_callE [] (args1 := [D.agg [D.int .i64 c.F_, D.int .i64 c.Deciders, D.int .i64 c.Targets, D.int .i64 c.Routers, D.int .i64 c.Observers, D.sl false 1 (List.map (eInt .i64) c.Tiers), D.int .i64 c.Every, D.int .i64 c.Wait, D.int .i64 c.Rise, D.int .i64 c.Fall, D.int .i64 c.Fresh, D.int .i64 c.L_, D.int .i64 c.M_, D.int .i64 c.Dwell, D.int .i64 c.D_, D.int .i64 c.W_, D.int .i64 c.B_, D.int .i64 c.Hit, D.int .i64 c.Suppress, D.int .i64 c.Reuse, D.int .i64 c.Half, D.int .i64 c.First, D.int .i64 c.Step, D.int .i64 c.StepTime, D.int .i64 c.S_, D.int .i64 c.Cap, D.int .i64 c.Span, D.int .i64 c.Room, D.int .i64 c.Tries, D.int .i64 c.Retry], D.int .u64 a]) (args := [D.agg [D.int .i64 c.F_, D.int .i64 c.Deciders, D.int .i64 c.Targets, D.int .i64 c.Routers, D.int .i64 c.Observers, D.sl false 1 (List.map (eInt .i64) c.Tiers), D.int .i64 c.Every, D.int .i64 c.Wait, D.int .i64 c.Rise, D.int .i64 c.Fall, D.int .i64 c.Fresh, D.int .i64 c.L_, D.int .i64 c.M_, D.int .i64 c.Dwell, D.int .i64 c.D_, D.int .i64 c.W_, D.int .i64 c.B_, D.int .i64 c.Hit, D.int .i64 c.Suppress, D.int .i64 c.Reuse, D.int .i64 c.Half, D.int .i64 c.First, D.int .i64 c.Step, D.int .i64 c.StepTime, D.int .i64 c.S_, D.int .i64 c.Cap, D.int .i64 c.Span, D.int .i64 c.Room, D.int .i64 c.Tries, D.int .i64 c.Retry], D.int .u64 a]) (fun y12 => D.bool y12) (fun y12 => []) h (by kernel_rfl) ⟨rfl, rfl⟩ ok12 (fun y12 h12 h => ?_)
          refine adv_ok hm 5 _ ?_
          refine p_split h (by kernel_rfl) (fun h13 h => ?_) (fun h13 h => ?_)
          · -- true
            refine adv_ok hm 16 _ ?_
            obtain rfl := Option.some.inj h
            have hv := ha
            simp only [After] at hv
            subst hv
            exact r_retF [] (d := D.bool true) (s := []) (by kernel_rfl) ⟨rfl, rfl⟩
          · -- false
            refine adv_ok hm 9 _ ?_
            have ok14 := fun (y : Bool) (hy : proposer_Most c (orI .u64 a b) = some y) => proposer_Most_ok hy
            refine p_callE [] (args1 := [D.agg [D.int .i64 c.F_, D.int .i64 c.Deciders, D.int .i64 c.Targets, D.int .i64 c.Routers, D.int .i64 c.Observers, D.sl false 1 (List.map (eInt .i64) c.Tiers), D.int .i64 c.Every, D.int .i64 c.Wait, D.int .i64 c.Rise, D.int .i64 c.Fall, D.int .i64 c.Fresh, D.int .i64 c.L_, D.int .i64 c.M_, D.int .i64 c.Dwell, D.int .i64 c.D_, D.int .i64 c.W_, D.int .i64 c.B_, D.int .i64 c.Hit, D.int .i64 c.Suppress, D.int .i64 c.Reuse, D.int .i64 c.Half, D.int .i64 c.First, D.int .i64 c.Step, D.int .i64 c.StepTime, D.int .i64 c.S_, D.int .i64 c.Cap, D.int .i64 c.Span, D.int .i64 c.Room, D.int .i64 c.Tries, D.int .i64 c.Retry], D.int .u64 (orI .u64 a b)]) (args := [D.agg [D.int .i64 c.F_, D.int .i64 c.Deciders, D.int .i64 c.Targets, D.int .i64 c.Routers, D.int .i64 c.Observers, D.sl false 1 (List.map (eInt .i64) c.Tiers), D.int .i64 c.Every, D.int .i64 c.Wait, D.int .i64 c.Rise, D.int .i64 c.Fall, D.int .i64 c.Fresh, D.int .i64 c.L_, D.int .i64 c.M_, D.int .i64 c.Dwell, D.int .i64 c.D_, D.int .i64 c.W_, D.int .i64 c.B_, D.int .i64 c.Hit, D.int .i64 c.Suppress, D.int .i64 c.Reuse, D.int .i64 c.Half, D.int .i64 c.First, D.int .i64 c.Step, D.int .i64 c.StepTime, D.int .i64 c.S_, D.int .i64 c.Cap, D.int .i64 c.Span, D.int .i64 c.Room, D.int .i64 c.Tries, D.int .i64 c.Retry], D.int .u64 (orI .u64 a b)]) (fun y14 => D.bool y14) (fun y14 => []) h (by kernel_rfl) ⟨rfl, rfl⟩ ok14 (fun y14 h14 h => ?_)
            refine adv_ok hm 8 _ ?_
            obtain rfl := Option.some.inj h
            have hv := ha
            simp only [After] at hv
            subst hv
            exact r_retF [] (d := D.bool y14) (s := []) (by kernel_rfl) ⟨rfl, rfl⟩
        · -- false
          refine adv_ok hm 7 _ ?_
          refine p_split h (by kernel_rfl) (fun h15 h => ?_) (fun h15 h => ?_)
          · -- true
            refine adv_ok hm 5 _ ?_
            have ok16 := fun (y : Bool) (hy : proposer_Most c a = some y) => proposer_Most_ok hy
            refine p_callE [] (args1 := [D.agg [D.int .i64 c.F_, D.int .i64 c.Deciders, D.int .i64 c.Targets, D.int .i64 c.Routers, D.int .i64 c.Observers, D.sl false 1 (List.map (eInt .i64) c.Tiers), D.int .i64 c.Every, D.int .i64 c.Wait, D.int .i64 c.Rise, D.int .i64 c.Fall, D.int .i64 c.Fresh, D.int .i64 c.L_, D.int .i64 c.M_, D.int .i64 c.Dwell, D.int .i64 c.D_, D.int .i64 c.W_, D.int .i64 c.B_, D.int .i64 c.Hit, D.int .i64 c.Suppress, D.int .i64 c.Reuse, D.int .i64 c.Half, D.int .i64 c.First, D.int .i64 c.Step, D.int .i64 c.StepTime, D.int .i64 c.S_, D.int .i64 c.Cap, D.int .i64 c.Span, D.int .i64 c.Room, D.int .i64 c.Tries, D.int .i64 c.Retry], D.int .u64 a]) (args := [D.agg [D.int .i64 c.F_, D.int .i64 c.Deciders, D.int .i64 c.Targets, D.int .i64 c.Routers, D.int .i64 c.Observers, D.sl false 1 (List.map (eInt .i64) c.Tiers), D.int .i64 c.Every, D.int .i64 c.Wait, D.int .i64 c.Rise, D.int .i64 c.Fall, D.int .i64 c.Fresh, D.int .i64 c.L_, D.int .i64 c.M_, D.int .i64 c.Dwell, D.int .i64 c.D_, D.int .i64 c.W_, D.int .i64 c.B_, D.int .i64 c.Hit, D.int .i64 c.Suppress, D.int .i64 c.Reuse, D.int .i64 c.Half, D.int .i64 c.First, D.int .i64 c.Step, D.int .i64 c.StepTime, D.int .i64 c.S_, D.int .i64 c.Cap, D.int .i64 c.Span, D.int .i64 c.Room, D.int .i64 c.Tries, D.int .i64 c.Retry], D.int .u64 a]) (fun y16 => D.bool y16) (fun y16 => []) h (by kernel_rfl) ⟨rfl, rfl⟩ ok16 (fun y16 h16 h => ?_)
            refine adv_ok hm 5 _ ?_
            refine p_split h (by kernel_rfl) (fun h17 h => ?_) (fun h17 h => ?_)
            · -- true
              refine adv_ok hm 16 _ ?_
              obtain rfl := Option.some.inj h
              have hv := ha
              simp only [After] at hv
              subst hv
              exact r_retF [] (d := D.bool true) (s := []) (by kernel_rfl) ⟨rfl, rfl⟩
            · -- false
              refine adv_ok hm 9 _ ?_
              have ok18 := fun (y : Bool) (hy : proposer_Most c (orI .u64 a b) = some y) => proposer_Most_ok hy
              refine p_callE [] (args1 := [D.agg [D.int .i64 c.F_, D.int .i64 c.Deciders, D.int .i64 c.Targets, D.int .i64 c.Routers, D.int .i64 c.Observers, D.sl false 1 (List.map (eInt .i64) c.Tiers), D.int .i64 c.Every, D.int .i64 c.Wait, D.int .i64 c.Rise, D.int .i64 c.Fall, D.int .i64 c.Fresh, D.int .i64 c.L_, D.int .i64 c.M_, D.int .i64 c.Dwell, D.int .i64 c.D_, D.int .i64 c.W_, D.int .i64 c.B_, D.int .i64 c.Hit, D.int .i64 c.Suppress, D.int .i64 c.Reuse, D.int .i64 c.Half, D.int .i64 c.First, D.int .i64 c.Step, D.int .i64 c.StepTime, D.int .i64 c.S_, D.int .i64 c.Cap, D.int .i64 c.Span, D.int .i64 c.Room, D.int .i64 c.Tries, D.int .i64 c.Retry], D.int .u64 (orI .u64 a b)]) (args := [D.agg [D.int .i64 c.F_, D.int .i64 c.Deciders, D.int .i64 c.Targets, D.int .i64 c.Routers, D.int .i64 c.Observers, D.sl false 1 (List.map (eInt .i64) c.Tiers), D.int .i64 c.Every, D.int .i64 c.Wait, D.int .i64 c.Rise, D.int .i64 c.Fall, D.int .i64 c.Fresh, D.int .i64 c.L_, D.int .i64 c.M_, D.int .i64 c.Dwell, D.int .i64 c.D_, D.int .i64 c.W_, D.int .i64 c.B_, D.int .i64 c.Hit, D.int .i64 c.Suppress, D.int .i64 c.Reuse, D.int .i64 c.Half, D.int .i64 c.First, D.int .i64 c.Step, D.int .i64 c.StepTime, D.int .i64 c.S_, D.int .i64 c.Cap, D.int .i64 c.Span, D.int .i64 c.Room, D.int .i64 c.Tries, D.int .i64 c.Retry], D.int .u64 (orI .u64 a b)]) (fun y18 => D.bool y18) (fun y18 => []) h (by kernel_rfl) ⟨rfl, rfl⟩ ok18 (fun y18 h18 h => ?_)
              refine adv_ok hm 8 _ ?_
              obtain rfl := Option.some.inj h
              have hv := ha
              simp only [After] at hv
              subst hv
              exact r_retF [] (d := D.bool y18) (s := []) (by kernel_rfl) ⟨rfl, rfl⟩
          · -- false
            refine adv_ok hm 20 _ ?_
            obtain rfl := Option.some.inj h
            have hv := ha
            simp only [After] at hv
            subst hv
            exact r_retF [] (d := D.bool false) (s := []) (by kernel_rfl) ⟨rfl, rfl⟩
    · -- false
      refine adv_ok hm 44 _ ?_
      obtain rfl := Option.some.inj h
      have hv := ha
      simp only [After] at hv
      subst hv
      exact r_retF [] (d := D.bool false) (s := []) (by kernel_rfl) ⟨rfl, rfl⟩
theorem law16_ProposerMost_ev {c : Config} {a : Int} {b : Int} {r : Bool} (h : Ev law16_ProposerMost_step (.s0 c a b) r) : Sound E 4 [D.agg [D.int .i64 c.F_, D.int .i64 c.Deciders, D.int .i64 c.Targets, D.int .i64 c.Routers, D.int .i64 c.Observers, D.sl false 1 (List.map (eInt .i64) c.Tiers), D.int .i64 c.Every, D.int .i64 c.Wait, D.int .i64 c.Rise, D.int .i64 c.Fall, D.int .i64 c.Fresh, D.int .i64 c.L_, D.int .i64 c.M_, D.int .i64 c.Dwell, D.int .i64 c.D_, D.int .i64 c.W_, D.int .i64 c.B_, D.int .i64 c.Hit, D.int .i64 c.Suppress, D.int .i64 c.Reuse, D.int .i64 c.Half, D.int .i64 c.First, D.int .i64 c.Step, D.int .i64 c.StepTime, D.int .i64 c.S_, D.int .i64 c.Cap, D.int .i64 c.Span, D.int .i64 c.Room, D.int .i64 c.Tries, D.int .i64 c.Retry], D.int .u64 a, D.int .u64 b] [] (law16_ProposerMost_Q r) :=
  sound_ofW (m := law16_ProposerMost_M (.s0 c a b)) (fn := Try.f4) (by kernel_rfl) (by kernel_rfl) (ev_run (C := ⟨Try.f4, false, 0⟩) (fun s x r hs ha => by
    cases s with
    | s0 => exact law16_ProposerMost_0_ok hs ha
    | s1 => exact law16_ProposerMost_1_ok hs ha) h)
noncomputable def law16_ProposerMost (c : Config) (a : Int) (b : Int) : Option Bool := evf law16_ProposerMost_step (.s0 c a b)
theorem law16_ProposerMost_ok {c : Config} {a : Int} {b : Int} {r : Bool} (h : law16_ProposerMost c a b = some r) : Sound E 4 [D.agg [D.int .i64 c.F_, D.int .i64 c.Deciders, D.int .i64 c.Targets, D.int .i64 c.Routers, D.int .i64 c.Observers, D.sl false 1 (List.map (eInt .i64) c.Tiers), D.int .i64 c.Every, D.int .i64 c.Wait, D.int .i64 c.Rise, D.int .i64 c.Fall, D.int .i64 c.Fresh, D.int .i64 c.L_, D.int .i64 c.M_, D.int .i64 c.Dwell, D.int .i64 c.D_, D.int .i64 c.W_, D.int .i64 c.B_, D.int .i64 c.Hit, D.int .i64 c.Suppress, D.int .i64 c.Reuse, D.int .i64 c.Half, D.int .i64 c.First, D.int .i64 c.Step, D.int .i64 c.StepTime, D.int .i64 c.S_, D.int .i64 c.Cap, D.int .i64 c.Span, D.int .i64 c.Room, D.int .i64 c.Tries, D.int .i64 c.Retry], D.int .u64 a, D.int .u64 b] [] (law16_ProposerMost_Q r) := law16_ProposerMost_ev (evf_ev h)
end Go.RX.L

set_option linter.unusedSimpArgs false
set_option linter.unusedVariables false
set_option maxRecDepth 100000
namespace Go.RX.L
open Go Go.RX Go.Proofs
theorem law16_ProposerMost_of_t3 {n : Nat} {ds : List D} (h : wtF Try.prog (n + 1) 3 ds) : ∃ x : Int, ds = (eInt .i64) x ∧ inK .i64 x := by
  obtain ⟨m, rfl, o⟩ := wt_int (k := .i64) (by kernel_rfl) h
  exact ⟨m, rfl, o⟩
theorem law16_ProposerMost_of_t22 {n : Nat} {ds : List D} (h : wtF Try.prog (n + 2) 22 ds) : ∃ x : List Int, ds = (eSl 1 (eInt .i64)) x ∧ (x.length * 8 ≤ reachBytes ∧ ∀ y ∈ x, inK .i64 y) := by
  obtain ⟨rows, rfl, o, w⟩ := wt_slice (n := n + 1) (e := 3) (sz := 1) (by_ := 8) (by kernel_rfl) (by kernel_rfl) (by kernel_rfl) h
  obtain ⟨l, rfl, q⟩ := wt_rows (en := (eInt .i64)) (Ok := fun y => inK .i64 y) (fun r hr => law16_ProposerMost_of_t3 (n := n + 0) hr) rows w
  exact ⟨l, rfl, by simpa using o, q⟩
theorem law16_ProposerMost_of_t2 {n : Nat} {ds : List D} (h : wtF Try.prog (n + 1) 2 ds) : ∃ x : Int, ds = (eInt .i64) x ∧ inK .i64 x := by
  obtain ⟨m, rfl, o⟩ := wt_int (k := .i64) (by kernel_rfl) h
  exact ⟨m, rfl, o⟩
theorem law16_ProposerMost_of_t24 {n : Nat} {ds : List D} (h : wtF Try.prog (n + 3) 24 ds) : ∃ x : Config, ds = Config.enc x ∧ x.Ok := by
  have h0 := wt_struct (n := n + 2) (ts := [3, 3, 3, 3, 3, 22, 2, 2, 3, 3, 2, 2, 2, 2, 2, 2, 3, 3, 3, 3, 2, 3, 3, 2, 2, 3, 2, 3, 3, 2]) (by kernel_rfl) h
  obtain ⟨a0, b0, rfl, w0, h1⟩ := wtL_cons h0
  obtain ⟨x0, rfl, o0⟩ := law16_ProposerMost_of_t3 (n := n + 1) w0
  obtain ⟨a1, b1, rfl, w1, h2⟩ := wtL_cons h1
  obtain ⟨x1, rfl, o1⟩ := law16_ProposerMost_of_t3 (n := n + 1) w1
  obtain ⟨a2, b2, rfl, w2, h3⟩ := wtL_cons h2
  obtain ⟨x2, rfl, o2⟩ := law16_ProposerMost_of_t3 (n := n + 1) w2
  obtain ⟨a3, b3, rfl, w3, h4⟩ := wtL_cons h3
  obtain ⟨x3, rfl, o3⟩ := law16_ProposerMost_of_t3 (n := n + 1) w3
  obtain ⟨a4, b4, rfl, w4, h5⟩ := wtL_cons h4
  obtain ⟨x4, rfl, o4⟩ := law16_ProposerMost_of_t3 (n := n + 1) w4
  obtain ⟨a5, b5, rfl, w5, h6⟩ := wtL_cons h5
  obtain ⟨x5, rfl, o5⟩ := law16_ProposerMost_of_t22 (n := n + 0) w5
  obtain ⟨a6, b6, rfl, w6, h7⟩ := wtL_cons h6
  obtain ⟨x6, rfl, o6⟩ := law16_ProposerMost_of_t2 (n := n + 1) w6
  obtain ⟨a7, b7, rfl, w7, h8⟩ := wtL_cons h7
  obtain ⟨x7, rfl, o7⟩ := law16_ProposerMost_of_t2 (n := n + 1) w7
  obtain ⟨a8, b8, rfl, w8, h9⟩ := wtL_cons h8
  obtain ⟨x8, rfl, o8⟩ := law16_ProposerMost_of_t3 (n := n + 1) w8
  obtain ⟨a9, b9, rfl, w9, h10⟩ := wtL_cons h9
  obtain ⟨x9, rfl, o9⟩ := law16_ProposerMost_of_t3 (n := n + 1) w9
  obtain ⟨a10, b10, rfl, w10, h11⟩ := wtL_cons h10
  obtain ⟨x10, rfl, o10⟩ := law16_ProposerMost_of_t2 (n := n + 1) w10
  obtain ⟨a11, b11, rfl, w11, h12⟩ := wtL_cons h11
  obtain ⟨x11, rfl, o11⟩ := law16_ProposerMost_of_t2 (n := n + 1) w11
  obtain ⟨a12, b12, rfl, w12, h13⟩ := wtL_cons h12
  obtain ⟨x12, rfl, o12⟩ := law16_ProposerMost_of_t2 (n := n + 1) w12
  obtain ⟨a13, b13, rfl, w13, h14⟩ := wtL_cons h13
  obtain ⟨x13, rfl, o13⟩ := law16_ProposerMost_of_t2 (n := n + 1) w13
  obtain ⟨a14, b14, rfl, w14, h15⟩ := wtL_cons h14
  obtain ⟨x14, rfl, o14⟩ := law16_ProposerMost_of_t2 (n := n + 1) w14
  obtain ⟨a15, b15, rfl, w15, h16⟩ := wtL_cons h15
  obtain ⟨x15, rfl, o15⟩ := law16_ProposerMost_of_t2 (n := n + 1) w15
  obtain ⟨a16, b16, rfl, w16, h17⟩ := wtL_cons h16
  obtain ⟨x16, rfl, o16⟩ := law16_ProposerMost_of_t3 (n := n + 1) w16
  obtain ⟨a17, b17, rfl, w17, h18⟩ := wtL_cons h17
  obtain ⟨x17, rfl, o17⟩ := law16_ProposerMost_of_t3 (n := n + 1) w17
  obtain ⟨a18, b18, rfl, w18, h19⟩ := wtL_cons h18
  obtain ⟨x18, rfl, o18⟩ := law16_ProposerMost_of_t3 (n := n + 1) w18
  obtain ⟨a19, b19, rfl, w19, h20⟩ := wtL_cons h19
  obtain ⟨x19, rfl, o19⟩ := law16_ProposerMost_of_t3 (n := n + 1) w19
  obtain ⟨a20, b20, rfl, w20, h21⟩ := wtL_cons h20
  obtain ⟨x20, rfl, o20⟩ := law16_ProposerMost_of_t2 (n := n + 1) w20
  obtain ⟨a21, b21, rfl, w21, h22⟩ := wtL_cons h21
  obtain ⟨x21, rfl, o21⟩ := law16_ProposerMost_of_t3 (n := n + 1) w21
  obtain ⟨a22, b22, rfl, w22, h23⟩ := wtL_cons h22
  obtain ⟨x22, rfl, o22⟩ := law16_ProposerMost_of_t3 (n := n + 1) w22
  obtain ⟨a23, b23, rfl, w23, h24⟩ := wtL_cons h23
  obtain ⟨x23, rfl, o23⟩ := law16_ProposerMost_of_t2 (n := n + 1) w23
  obtain ⟨a24, b24, rfl, w24, h25⟩ := wtL_cons h24
  obtain ⟨x24, rfl, o24⟩ := law16_ProposerMost_of_t2 (n := n + 1) w24
  obtain ⟨a25, b25, rfl, w25, h26⟩ := wtL_cons h25
  obtain ⟨x25, rfl, o25⟩ := law16_ProposerMost_of_t3 (n := n + 1) w25
  obtain ⟨a26, b26, rfl, w26, h27⟩ := wtL_cons h26
  obtain ⟨x26, rfl, o26⟩ := law16_ProposerMost_of_t2 (n := n + 1) w26
  obtain ⟨a27, b27, rfl, w27, h28⟩ := wtL_cons h27
  obtain ⟨x27, rfl, o27⟩ := law16_ProposerMost_of_t3 (n := n + 1) w27
  obtain ⟨a28, b28, rfl, w28, h29⟩ := wtL_cons h28
  obtain ⟨x28, rfl, o28⟩ := law16_ProposerMost_of_t3 (n := n + 1) w28
  obtain ⟨a29, b29, rfl, w29, h30⟩ := wtL_cons h29
  obtain ⟨x29, rfl, o29⟩ := law16_ProposerMost_of_t2 (n := n + 1) w29
  obtain rfl := wtL_nil h30
  exact ⟨⟨x0, x1, x2, x3, x4, x5, x6, x7, x8, x9, x10, x11, x12, x13, x14, x15, x16, x17, x18, x19, x20, x21, x22, x23, x24, x25, x26, x27, x28, x29⟩, rfl, o0, o1, o2, o3, o4, o5, o6, o7, o8, o9, o10, o11, o12, o13, o14, o15, o16, o17, o18, o19, o20, o21, o22, o23, o24, o25, o26, o27, o28, o29⟩
theorem law16_ProposerMost_of_t25 {n : Nat} {ds : List D} (h : wtF Try.prog (n + 1) 25 ds) : ∃ x : Int, ds = (eInt .u64) x ∧ inK .u64 x := by
  obtain ⟨m, rfl, o⟩ := wt_int (k := .u64) (by kernel_rfl) h
  exact ⟨m, rfl, o⟩
theorem law16_ProposerMost_sound (H : ∀ (c : Config) (a : Int) (b : Int), c.Ok → inK .u64 a → inK .u64 b → law16_ProposerMost c a b = some true) : ∀ xs, wtA Try.prog Try.f4.params.toList xs → Sound E 4 xs [] fun d _ => d = .bool true := by
  intro xs h
  have h0 : wtA Try.prog [24, 25, 25] xs := h
  obtain ⟨d0, r0, rfl, w0, h1⟩ := wtA_cons h0
  obtain ⟨c0, rfl, v0⟩ := wtP_agg (by kernel_rfl) w0
  obtain ⟨x0, rfl, o0⟩ := law16_ProposerMost_of_t24 (n := 3) v0
  obtain ⟨d1, r1, rfl, w1, h2⟩ := wtA_cons h1
  have v1 := wtP_flat (by kernel_rfl) w1
  obtain ⟨x1, e1, o1⟩ := law16_ProposerMost_of_t25 (n := 5) v1
  obtain ⟨rfl, -⟩ := List.cons.inj e1
  obtain ⟨d2, r2, rfl, w2, h3⟩ := wtA_cons h2
  have v2 := wtP_flat (by kernel_rfl) w2
  obtain ⟨x2, e2, o2⟩ := law16_ProposerMost_of_t25 (n := 5) v2
  obtain ⟨rfl, -⟩ := List.cons.inj e2
  obtain rfl := wtA_nil h3
  exact (law16_ProposerMost_ok (H x0 x1 x2 o0 o1 o2)).mono fun d s h => h.1
end Go.RX.L

set_option linter.unusedSimpArgs false
set_option linter.unusedVariables false
namespace Go.RX.L
open Go Go.RX

theorem cnt_le (g : Nat) : ∀ n, cnt g n ≤ n
  | 0 => by simp [cnt]
  | n + 1 => by have := cnt_le g n; unfold cnt; split <;> omega
theorem cnt_and (a b : Nat) : ∀ n, cnt a n + cnt b n ≤ n + cnt (a &&& b) n
  | 0 => by simp [cnt]
  | n + 1 => by
    have := cnt_and a b n
    unfold cnt
    rw [Nat.testBit_and]
    cases a.testBit n <;> cases b.testBit n <;> simp <;> omega
theorem cnt_or (a b : Nat) : ∀ n, cnt a n ≤ cnt (a ||| b) n
  | 0 => by simp [cnt]
  | n + 1 => by
    have := cnt_or a b n
    unfold cnt
    rw [Nat.testBit_or]
    cases a.testBit n <;> cases b.testBit n <;> simp <;> omega
theorem cnt_none {g : Nat} : ∀ n, (∀ i, i < n → g.testBit i = false) → cnt g n = 0
  | 0, _ => rfl
  | n + 1, h => by unfold cnt; rw [cnt_none n (fun i hi => h i (by omega)), h n (by omega)]; rfl

theorem most_meet {c : Config} {a b : Nat} (ha : mostP c a = true) (hb : mostP c b = true) : ∃ i, i < 2 * fN c + 1 ∧ (a &&& b).testBit i = true := by
  rcases Classical.em (∃ i, i < 2 * fN c + 1 ∧ (a &&& b).testBit i = true) with h | h
  · exact h
  · exfalso
    have := cnt_none (g := a &&& b) (2 * fN c + 1) (fun i hi => by
      cases hb : (a &&& b).testBit i with
      | false => rfl
      | true => exact absurd ⟨i, hi, hb⟩ h)
    have h2 := cnt_and a b (2 * fN c + 1)
    simp only [mostP, decide_eq_true_eq] at ha hb
    omega

theorem proposerMost (c : Config) (a b : Int) (_ : c.Ok) (ha : inK .u64 a) (hb : inK .u64 b) : law16_ProposerMost c a b = some true := by
  have ha' := inU64.1 ha
  have hb' := inU64.1 hb
  obtain ⟨x, rfl⟩ := Int.eq_ofNat_of_zero_le ha'.1
  obtain ⟨y, rfl⟩ := Int.eq_ofNat_of_zero_le hb'.1
  have hx : x < 18446744073709551616 := by omega
  have hy : y < 18446744073709551616 := by omega
  have hf := fN_le c
  have e2 : IntKind.i64.wrap ((2 : Int) * (fN c : Int)) = 2 * (fN c : Int) := wI64 (by omega) (by omega)
  have hxy : x &&& y < 18446744073709551616 := Nat.lt_of_le_of_lt Nat.and_le_left hx
  have ho : x ||| y < 18446744073709551616 := Nat.or_lt_two_pow (n := 64) (by omega) (by omega)
  have loop : ∀ (j k : Nat) (t : Bool), k + j = 2 * fN c + 1 → (t = false → ∀ i, i < k → (x &&& y).testBit i = false) → Ev law16_ProposerMost_step (.s1 x y true ((x &&& y : Nat) : Int) t k c) true := by
    intro j
    induction j with
    | zero =>
      intro k t hk ht
      have : k = 2 * fN c + 1 := by omega
      subst this
      refine .done ?_
      simp only [law16_ProposerMost_step, law16_ProposerMost_1, fN_eq, e2]
      rw [decide_eq_false (show ¬ ((2 * fN c + 1 : Nat) : Int) ≤ 2 * (fN c : Int) by omega), orI64 hx hy]
      simp only [cond_false, cond_true]
      rw [most_ok c hx, most_ok c hy, most_ok c ho]
      simp only [Option.bind_some]
      cases m1 : mostP c x with
      | false => rfl
      | true =>
        have m3 : mostP c (x ||| y) = true := by
          have := cnt_or x y (2 * fN c + 1)
          simp only [mostP, decide_eq_true_eq] at m1 ⊢
          omega
        cases m2 : mostP c y with
        | false => simp [m3]
        | true =>
          cases t with
          | true => simp [m3]
          | false =>
            obtain ⟨i, h1, h2⟩ := most_meet m1 m2
            rw [ht rfl i h1] at h2; cases h2
    | succ j ih =>
      intro k t hk ht
      have w1 : IntKind.i64.wrap ((k : Int) + 1) = ((k + 1 : Nat) : Int) := by rw [wI64 (by omega) (by omega)]; rfl
      have hb := bitI64 (a := x &&& y) (k := k) hxy (by omega)
      have st : law16_ProposerMost_step (.s1 x y true ((x &&& y : Nat) : Int) t k c) = some (.inl (.s1 x y true ((x &&& y : Nat) : Int) (t || (x &&& y).testBit k) ((k + 1 : Nat) : Int) c)) := by
        simp only [law16_ProposerMost_step, law16_ProposerMost_1, fN_eq, e2, w1, nn0, hb]
        rw [decide_eq_true (show (k : Int) ≤ 2 * (fN c : Int) by omega)]
        cases t with
        | true => rfl
        | false => cases (x &&& y).testBit k <;> rfl
      refine .next st (ih (k + 1) _ (by omega) fun h i hi => ?_)
      simp only [Bool.or_eq_false_iff] at h
      rcases Nat.lt_or_ge i k with h1 | h1
      · exact ht h.1 i h1
      · have : i = k := by omega
        subst this; exact h.2
  refine evf_of (.next (s' := .s1 x y true ((x &&& y : Nat) : Int) false (0 : Nat) c) ?_ (loop (2 * fN c + 1) 0 false (by omega) (fun _ i hi => by omega)))
  simp only [law16_ProposerMost_step, law16_ProposerMost_0, head_ok, Option.bind_some, andI64 hx hy]
  rfl
end Go.RX.L
