/-
  Words and walks for TallyMore. No condition.
-/
import Derived.Test.YthooiaebbikjiaaYHTally
set_option linter.unusedSimpArgs false
set_option linter.unusedVariables false
set_option maxRecDepth 100000
set_option maxHeartbeats 4000000
namespace Go.RX.L
open Go Go.RX Go.Proofs
def slices_Clone_Q (y : List Vote) (d : D) (s : Sto) : Prop := d = D.msl 0 0 ((List.map Vote.enc y).length) ((List.map Vote.enc y).length) false ∧ s = [some { sz := 3, deep := false, rows := (List.map Vote.enc y) }]
noncomputable def slices_Clone (s_ : List Vote) : Option (List Vote) := (bif (decide ((0 + (List.map Vote.enc s_).length) * 24 ≤ bytesLim)) then (some s_) else none)
theorem slices_Clone_ok {s_ : List Vote} {r : List Vote} (h : slices_Clone s_ = some r) : Sound E 16 [D.sl false 3 (List.map Vote.enc s_)] [] (slices_Clone_Q r) := by
  refine sound_ofW (m := ⟨[.code (bodyOf Try.f16)], [(0, D.sl false 3 (List.map Vote.enc s_))], []⟩) (fn := Try.f16) (by kernel_rfl) (by kernel_rfl) ?_
  show FinQ E ⟨Try.f16, true, 0⟩ (QW (slices_Clone_Q r)) _
  unfold slices_Clone at h
  refine adv_ok hm 9 _ ?_
  refine r_any (List.isEmpty (List.map Vote.enc s_)) (by kernel_rfl) ?_ (fun h1 => ?_)
  · -- it is not nil
    refine adv_ok hm 9 _ ?_
    refine p_need h (by kernel_rfl) (fun h2 h => ?_)
    refine adv_ok hm 1 _ ?_
    refine r_rows (List.map Vote.enc s_) (List.map Vote.enc s_) (by kernel_rfl) (rfl) ?_
    refine adv_ok hm 3 _ ?_
    obtain rfl := Option.some.inj h
    exact r_retF [] (d := D.msl 0 0 ((List.map Vote.enc s_).length) ((List.map Vote.enc s_).length) false) (s := [some { sz := 3, deep := false, rows := (List.map Vote.enc s_) }]) (by kernel_rfl) ⟨rfl, rfl⟩
  · -- nil
    obtain rfl : s_ = [] := by simpa using h1
    simp [bytesLim] at h
    subst h
    refine adv_ok hm 8 _ ?_
    exact r_retF [.mat 0 3] (d := D.msl 0 0 0 0 false) (s := [some { sz := 3, deep := false, rows := [] }]) (by kernel_rfl) ⟨rfl, rfl⟩
end Go.RX.L

set_option linter.unusedSimpArgs false
set_option linter.unusedVariables false
set_option maxRecDepth 100000
set_option maxHeartbeats 4000000
namespace Go.RX.L
open Go Go.RX Go.Proofs
def tally_by_1_Q (y : Bool) (d : D) (s : Sto) : Prop := d = D.bool y ∧ s = []
noncomputable def tally_by_1 (v : Vote) (t : Int) : Option Bool := (some ((v.Observer : Int) == t))
theorem tally_by_1_ok {v : Vote} {t : Int} {r : Bool} (h : tally_by_1 v t = some r) : Sound E 22 [D.agg [D.int .i64 v.Observer, D.int .u64 v.Up, D.int .i64 v.At], D.iptr 1 [[D.int .i64 t]] 0 0] [] (tally_by_1_Q r) := by
  refine sound_ofW (m := ⟨[.code (bodyOf Try.f22)], [(0, D.agg [D.int .i64 v.Observer, D.int .u64 v.Up, D.int .i64 v.At]), (1, D.iptr 1 [[D.int .i64 t]] 0 0)], []⟩) (fn := Try.f22) (by kernel_rfl) (by kernel_rfl) ?_
  show FinQ E ⟨Try.f22, false, 0⟩ (QW (tally_by_1_Q r)) _
  unfold tally_by_1 at h
  refine adv_ok hm 16 _ ?_
  obtain rfl := Option.some.inj h
  exact r_retF [] (d := D.bool ((v.Observer : Int) == t)) (s := []) (by kernel_rfl) ⟨rfl, rfl⟩
end Go.RX.L

set_option linter.unusedSimpArgs false
set_option linter.unusedVariables false
set_option maxRecDepth 100000
set_option maxHeartbeats 4000000
namespace Go.RX.L
open Go Go.RX Go.Proofs
def slices_IndexFunc__by_1_Q (y : Int) (d : D) (s : Sto) : Prop := d = D.int .i64 y ∧ s = []
inductive slices_IndexFunc__by_1_S where
  | s0 (s_ : List Vote) (f : Int)
  | s1 (s_ : List Vote) (f : Int) (t7 : Int) (t8 : Int)
noncomputable def slices_IndexFunc__by_1_M : slices_IndexFunc__by_1_S → M
  | .s0 s_ f => ⟨[.code (bodyOf Try.f17)], [(0, D.sl false 3 (List.map Vote.enc s_)), (1, D.fn 22 [] [D.iptr 1 [[D.int .i64 f]] 0 0])], []⟩
  | .s1 s_ f t7 t8 => { td := [It.lpc (codeAt (bodyOf Try.f17) [1, 0, 1, 0, 0]) 387, It.blk 0, It.code (codeAt (bodyOf Try.f17) [1, 1])], fr := [(0, D.sl false 3 (List.map Vote.enc s_)), (1, D.fn 22 [] [D.iptr 1 [[D.int .i64 f]] 0 0]), (7, D.int .i64 t7), (8, D.int .i64 t8)], st := [] }
noncomputable def slices_IndexFunc__by_1_0 (s_ : List Vote) (f : Int) : Option (slices_IndexFunc__by_1_S ⊕ Int) := (some (.inl (.s1 s_ f (((List.map Vote.enc s_).length : Nat) : Int) 0)))
noncomputable def slices_IndexFunc__by_1_1 (s_ : List Vote) (f : Int) (t7 : Int) (t8 : Int) : Option (slices_IndexFunc__by_1_S ⊕ Int) := (bif (decide ((t8 : Int) < t7)) then (bif ((decide ((0 : Int) ≤ t8)) && (decide ((t8 : Int) < (((List.map Vote.enc s_).length : Nat) : Int)))) then (((s_)[t8.toNat]?).bind fun y3 => ((tally_by_1 y3 f).bind fun y5 => (bif y5 then (some (.inr t8)) else (some (.inl (.s1 s_ f t7 (IntKind.i64.wrap (t8 + 1)))))))) else none) else (some (.inr (-1))))
noncomputable def slices_IndexFunc__by_1_step : slices_IndexFunc__by_1_S → Option (slices_IndexFunc__by_1_S ⊕ Int)
  | .s0 s_ f => slices_IndexFunc__by_1_0 s_ f
  | .s1 s_ f t7 t8 => slices_IndexFunc__by_1_1 s_ f t7 t8
theorem slices_IndexFunc__by_1_0_ok {s_ : List Vote} {f : Int} {r : Int} {x : slices_IndexFunc__by_1_S ⊕ Int} (h : slices_IndexFunc__by_1_0 s_ f = some x) (ha : After E ⟨Try.f17, false, 0⟩ slices_IndexFunc__by_1_Q slices_IndexFunc__by_1_M r x) : FinQ E ⟨Try.f17, false, 0⟩ (QW (slices_IndexFunc__by_1_Q r)) (.go (slices_IndexFunc__by_1_M (.s0 s_ f))) := by
  unfold slices_IndexFunc__by_1_0 at h
  refine adv_ok hm 14 _ ?_
  obtain rfl := Option.some.inj h
  exact r_to (q' := .go (slices_IndexFunc__by_1_M (.s1 s_ f (((List.map Vote.enc s_).length : Nat) : Int) 0))) (by kernel_rfl) ha
theorem slices_IndexFunc__by_1_1_ok {s_ : List Vote} {f : Int} {t7 : Int} {t8 : Int} {r : Int} {x : slices_IndexFunc__by_1_S ⊕ Int} (h : slices_IndexFunc__by_1_1 s_ f t7 t8 = some x) (ha : After E ⟨Try.f17, false, 0⟩ slices_IndexFunc__by_1_Q slices_IndexFunc__by_1_M r x) : FinQ E ⟨Try.f17, false, 0⟩ (QW (slices_IndexFunc__by_1_Q r)) (.go (slices_IndexFunc__by_1_M (.s1 s_ f t7 t8))) := by
  unfold slices_IndexFunc__by_1_1 at h
  refine adv_ok hm 7 _ ?_
  refine p_split h (by kernel_rfl) (fun h1 h => ?_) (fun h1 h => ?_)
  · -- true
    refine adv_ok hm 14 _ ?_
    refine p_need h (by kernel_rfl) (fun h2 h => ?_)
    refine adv_ok hm 1 _ ?_
    refine p_row (((List.map Vote.enc s_))[t8.toNat]?) Vote.enc h (by kernel_rfl) List.getElem?_map (fun y3 h4 h => ?_)
    refine adv_ok hm 1 _ ?_
    have ok5 := fun (y : Bool) (hy : tally_by_1 y3 f = some y) => tally_by_1_ok hy
    refine p_callE [] (args1 := [D.agg [D.int .i64 y3.Observer, D.int .u64 y3.Up, D.int .i64 y3.At], D.iptr 1 [[D.int .i64 f]] 0 0]) (args := [D.agg [D.int .i64 y3.Observer, D.int .u64 y3.Up, D.int .i64 y3.At], D.iptr 1 [[D.int .i64 f]] 0 0]) (fun y5 => D.bool y5) (fun y5 => []) h (by kernel_rfl) ⟨rfl, rfl⟩ ok5 (fun y5 h5 h => ?_)
    refine adv_ok hm 2 _ ?_
    refine p_split h (by kernel_rfl) (fun h6 h => ?_) (fun h6 h => ?_)
    · -- true
      refine adv_ok hm 6 _ ?_
      obtain rfl := Option.some.inj h
      have hv := ha
      simp only [After] at hv
      subst hv
      exact r_retF [] (d := D.int .i64 t8) (s := []) (by kernel_rfl) ⟨rfl, rfl⟩
    · -- false
      refine adv_ok hm 7 _ ?_
      obtain rfl := Option.some.inj h
      exact r_to (q' := .go (slices_IndexFunc__by_1_M (.s1 s_ f t7 (IntKind.i64.wrap (t8 + 1))))) (by kernel_rfl) ha
  · -- false
    refine adv_ok hm 6 _ ?_
    obtain rfl := Option.some.inj h
    have hv := ha
    simp only [After] at hv
    subst hv
    exact r_retF [] (d := D.int .i64 (-1)) (s := []) (by kernel_rfl) ⟨rfl, rfl⟩
theorem slices_IndexFunc__by_1_ev {s_ : List Vote} {f : Int} {r : Int} (h : Ev slices_IndexFunc__by_1_step (.s0 s_ f) r) : Sound E 17 [D.sl false 3 (List.map Vote.enc s_), D.fn 22 [] [D.iptr 1 [[D.int .i64 f]] 0 0]] [] (slices_IndexFunc__by_1_Q r) :=
  sound_ofW (m := slices_IndexFunc__by_1_M (.s0 s_ f)) (fn := Try.f17) (by kernel_rfl) (by kernel_rfl) (ev_run (C := ⟨Try.f17, false, 0⟩) (fun s x r hs ha => by
    cases s with
    | s0 => exact slices_IndexFunc__by_1_0_ok hs ha
    | s1 => exact slices_IndexFunc__by_1_1_ok hs ha) h)
noncomputable def slices_IndexFunc__by_1 (s_ : List Vote) (f : Int) : Option Int := evf slices_IndexFunc__by_1_step (.s0 s_ f)
theorem slices_IndexFunc__by_1_ok {s_ : List Vote} {f : Int} {r : Int} (h : slices_IndexFunc__by_1 s_ f = some r) : Sound E 17 [D.sl false 3 (List.map Vote.enc s_), D.fn 22 [] [D.iptr 1 [[D.int .i64 f]] 0 0]] [] (slices_IndexFunc__by_1_Q r) := slices_IndexFunc__by_1_ev (evf_ev h)
end Go.RX.L

set_option linter.unusedSimpArgs false
set_option linter.unusedVariables false
set_option maxRecDepth 100000
set_option maxHeartbeats 4000000
namespace Go.RX.L
open Go Go.RX Go.Proofs
def tally_by_Q (y : Int) (d : D) (s : Sto) : Prop := d = D.fn 22 [] [D.iptr 1 [[D.int .i64 y]] 0 0] ∧ s = []
noncomputable def tally_by (observer : Int) : Option Int := (some observer)
theorem tally_by_ok {observer : Int} {r : Int} (h : tally_by observer = some r) : Sound E 18 [D.int .i64 observer] [] (tally_by_Q r) := by
  refine sound_ofW (m := ⟨[.code (bodyOf Try.f18)], [(0, D.int .i64 observer)], []⟩) (fn := Try.f18) (by kernel_rfl) (by kernel_rfl) ?_
  show FinQ E ⟨Try.f18, false, 0⟩ (QW (tally_by_Q r)) _
  unfold tally_by at h
  refine adv_ok hm 11 _ ?_
  obtain rfl := Option.some.inj h
  exact r_retF [] (d := D.fn 22 [] [D.iptr 1 [[D.int .i64 observer]] 0 0]) (s := []) (by kernel_rfl) ⟨rfl, rfl⟩
end Go.RX.L

set_option linter.unusedSimpArgs false
set_option linter.unusedVariables false
set_option maxRecDepth 100000
set_option maxHeartbeats 4000000
namespace Go.RX.L
open Go Go.RX Go.Proofs
def tally_Put_Q (y : List Vote) (d : D) (s : Sto) : Prop := d = D.sl false 3 (List.map Vote.enc y) ∧ s = []
noncomputable def tally_Put (l : List Vote) (v : Vote) : Option (List Vote) := ((slices_Clone l).bind fun y1 => ((tally_by v.Observer).bind fun y2 => ((slices_IndexFunc__by_1 y1 y2).bind fun y3 => (bif (decide ((y3 : Int) ≥ 0)) then (bif ((decide ((0 : Int) ≤ y3)) && (decide ((y3 : Int) < (((List.map Vote.enc y1).length : Nat) : Int)))) then (((y1)[(0 + y3.toNat)]?).bind fun y6 => (some (List.set y1 (0 + y3.toNat) v))) else none) else (bif (decide (((List.map Vote.enc y1).length + 1) * 24 ≤ bytesLim)) then (some (y1 ++ [v])) else none)))))
theorem tally_Put_ok {l : List Vote} {v : Vote} {r : List Vote} (h : tally_Put l v = some r) : Sound E 11 [D.sl false 3 (List.map Vote.enc l), D.agg [D.int .i64 v.Observer, D.int .u64 v.Up, D.int .i64 v.At]] [] (tally_Put_Q r) := by
  refine sound_ofW (m := ⟨[.code (bodyOf Try.f11)], [(0, D.sl false 3 (List.map Vote.enc l)), (1, D.agg [D.int .i64 v.Observer, D.int .u64 v.Up, D.int .i64 v.At])], []⟩) (fn := Try.f11) (by kernel_rfl) (by kernel_rfl) ?_
  show FinQ E ⟨Try.f11, false, 0⟩ (QW (tally_Put_Q r)) _
  unfold tally_Put at h
  refine adv_ok hm 9 _ ?_
  have ok1 := fun (y : List Vote) (hy : slices_Clone l = some y) => slices_Clone_ok hy
  refine p_callE [] (args1 := [D.sl false 3 (List.map Vote.enc l)]) (args := [D.sl false 3 (List.map Vote.enc l)]) (fun y1 => D.msl 0 0 ((List.map Vote.enc y1).length) ((List.map Vote.enc y1).length) false) (fun y1 => [some { sz := 3, deep := false, rows := (List.map Vote.enc y1) }]) h (by kernel_rfl) ⟨rfl, rfl⟩ ok1 (fun y1 h1 h => ?_)
  refine adv_ok hm 10 _ ?_
  have ok2 := fun (y : Int) (hy : tally_by v.Observer = some y) => tally_by_ok hy
  refine p_callE [] (args1 := [D.int .i64 v.Observer]) (args := [D.int .i64 v.Observer]) (fun y2 => D.fn 22 [] [D.iptr 1 [[D.int .i64 y2]] 0 0]) (fun y2 => []) h (by kernel_rfl) ⟨rfl, rfl⟩ ok2 (fun y2 h2 h => ?_)
  refine adv_ok hm 1 _ ?_
  refine r_needT (b := (Nat.ble (0 + (List.map Vote.enc y1).length) ((List.map Vote.enc y1).length))) (by kernel_rfl) (ble_full _) ?_
  have ok3 := fun (y : Int) (hy : slices_IndexFunc__by_1 y1 y2 = some y) => slices_IndexFunc__by_1_ok hy
  refine p_callE [] (args1 := [D.sl false 3 (List.take ((List.map Vote.enc y1).length) (List.drop 0 (List.map Vote.enc y1))), D.fn 22 [] [D.iptr 1 [[D.int .i64 y2]] 0 0]]) (args := [D.sl false 3 (List.map Vote.enc y1), D.fn 22 [] [D.iptr 1 [[D.int .i64 y2]] 0 0]]) (fun y3 => D.int .i64 y3) (fun y3 => []) h (by kernel_rfl) ⟨by simp [List.take_of_length_le], rfl⟩ ok3 (fun y3 h3 h => ?_)
  refine adv_ok hm 8 _ ?_
  refine p_split h (by kernel_rfl) (fun h4 h => ?_) (fun h4 h => ?_)
  · -- true
    refine adv_ok hm 7 _ ?_
    refine p_need h (by kernel_rfl) (fun h5 h => ?_)
    refine adv_ok hm 1 _ ?_
    refine p_row (((List.map Vote.enc y1))[(0 + y3.toNat)]?) Vote.enc h (by kernel_rfl) List.getElem?_map (fun y6 h7 h => ?_)
    refine r_rows (List.set (List.map Vote.enc y1) (0 + y3.toNat) (Vote.enc v)) (List.map Vote.enc (List.set y1 (0 + y3.toNat) v)) (by kernel_rfl) (rows_set _ _ _ _) ?_
    refine adv_ok hm 7 _ ?_
    refine r_needT (b := (Nat.ble (0 + (List.map Vote.enc y1).length) ((List.map Vote.enc (List.set y1 (0 + y3.toNat) v)).length))) (by kernel_rfl) (by simp) ?_
    obtain rfl := Option.some.inj h
    exact r_retE [] (d1 := D.sl false 3 (List.take ((List.map Vote.enc y1).length) (List.drop 0 (List.map Vote.enc (List.set y1 (0 + y3.toNat) v))))) (d := D.sl false 3 (List.map Vote.enc (List.set y1 (0 + y3.toNat) v))) (s1 := []) (s := []) (by kernel_rfl) ⟨by simp [List.take_of_length_le], rfl⟩ ⟨rfl, rfl⟩
  · -- false
    refine adv_ok hm 9 _ ?_
    refine p_need h (by kernel_rfl) (fun h8 h => ?_)
    refine r_needT (b := (Nat.ble (0 + (List.map Vote.enc y1).length) ((List.map Vote.enc y1).length))) (by kernel_rfl) (ble_full _) ?_
    refine r_rows (List.take ((List.map Vote.enc y1).length) (List.drop 0 (List.map Vote.enc y1)) ++ (List.map Vote.enc ([v]))) (List.map Vote.enc (y1 ++ [v])) (by kernel_rfl) (rows_app _ _ _) ?_
    refine adv_ok hm 3 _ ?_
    refine r_needT (b := (Nat.ble (0 + (List.map Vote.enc (y1 ++ [v])).length) ((List.map Vote.enc (y1 ++ [v])).length))) (by kernel_rfl) (ble_full _) ?_
    obtain rfl := Option.some.inj h
    exact r_retE [] (d1 := D.sl false 3 (List.take ((List.map Vote.enc (y1 ++ [v])).length) (List.drop 0 (List.map Vote.enc (y1 ++ [v]))))) (d := D.sl false 3 (List.map Vote.enc (y1 ++ [v]))) (s1 := []) (s := []) (by kernel_rfl) ⟨by simp [List.take_of_length_le], rfl⟩ ⟨rfl, rfl⟩
end Go.RX.L

set_option linter.unusedSimpArgs false
set_option linter.unusedVariables false
set_option maxRecDepth 100000
set_option maxHeartbeats 4000000
namespace Go.RX.L
open Go Go.RX Go.Proofs
def law11_head_Q (y : Bool) (d : D) (s : Sto) : Prop := d = D.bool y ∧ s = []
noncomputable def law11_head  : Option Bool := ((tally_Put ([]) (⟨0, 3, 0⟩ : Vote)).bind fun y1 => ((tally_Put y1 (⟨1, 1, 0⟩ : Vote)).bind fun y2 => (bif (((((List.map Vote.enc y2).length : Nat) : Int) : Int) == 2) then ((tally_Tally y2 3 0 5).bind fun y4 => (bif ((y4 : Int) == 1) then ((tally_Tally y2 3 9 5).bind fun y6 => (some ((y6 : Int) == 0))) else (some false))) else (some false))))
theorem law11_head_ok  {r : Bool} (h : law11_head = some r) : Sound E 9 [] [] (law11_head_Q r) := by
  refine sound_ofW (m := ⟨[.code (bodyOf Try.f9)], [], []⟩) (fn := Try.f9) (by kernel_rfl) (by kernel_rfl) ?_
  show FinQ E ⟨Try.f9, false, 0⟩ (QW (law11_head_Q r)) _
  unfold law11_head at h
  refine adv_ok hm 8 _ ?_
  have ok1 := fun (y : List Vote) (hy : tally_Put ([]) (⟨0, 3, 0⟩ : Vote) = some y) => tally_Put_ok hy
  refine p_callE [some 3] (args1 := [D.sl false 3 [], D.agg [D.int .i64 0, D.int .u64 3, D.int .i64 0]]) (args := [D.sl false 3 [], D.agg [D.int .i64 0, D.int .u64 3, D.int .i64 0]]) (fun y1 => D.sl false 3 (List.map Vote.enc y1)) (fun y1 => []) h (by kernel_rfl) ⟨rfl, rfl⟩ ok1 (fun y1 h1 h => ?_)
  refine adv_ok hm 2 _ ?_
  have ok2 := fun (y : List Vote) (hy : tally_Put y1 (⟨1, 1, 0⟩ : Vote) = some y) => tally_Put_ok hy
  refine p_callE [] (args1 := [D.sl false 3 (List.map Vote.enc y1), D.agg [D.int .i64 1, D.int .u64 1, D.int .i64 0]]) (args := [D.sl false 3 (List.map Vote.enc y1), D.agg [D.int .i64 1, D.int .u64 1, D.int .i64 0]]) (fun y2 => D.sl false 3 (List.map Vote.enc y2)) (fun y2 => []) h (by kernel_rfl) ⟨rfl, rfl⟩ ok2 (fun y2 h2 h => ?_)
  refine adv_ok hm 9 _ ?_
  refine p_split h (by kernel_rfl) (fun h3 h => ?_) (fun h3 h => ?_)
  · -- true
    refine adv_ok hm 2 _ ?_
    have ok4 := fun (y : Int) (hy : tally_Tally y2 3 0 5 = some y) => tally_Tally_ok hy
    refine p_callE [] (args1 := [D.sl false 3 (List.map Vote.enc y2), D.int .i64 3, D.int .i64 0, D.int .i64 5]) (args := [D.sl false 3 (List.map Vote.enc y2), D.int .i64 3, D.int .i64 0, D.int .i64 5]) (fun y4 => D.int .u64 y4) (fun y4 => []) h (by kernel_rfl) ⟨rfl, rfl⟩ ok4 (fun y4 h4 h => ?_)
    refine adv_ok hm 6 _ ?_
    refine p_split h (by kernel_rfl) (fun h5 h => ?_) (fun h5 h => ?_)
    · -- true
      refine adv_ok hm 2 _ ?_
      have ok6 := fun (y : Int) (hy : tally_Tally y2 3 9 5 = some y) => tally_Tally_ok hy
      refine p_callE [] (args1 := [D.sl false 3 (List.map Vote.enc y2), D.int .i64 3, D.int .i64 9, D.int .i64 5]) (args := [D.sl false 3 (List.map Vote.enc y2), D.int .i64 3, D.int .i64 9, D.int .i64 5]) (fun y6 => D.int .u64 y6) (fun y6 => []) h (by kernel_rfl) ⟨rfl, rfl⟩ ok6 (fun y6 h6 h => ?_)
      refine adv_ok hm 7 _ ?_
      obtain rfl := Option.some.inj h
      exact r_retF [] (d := D.bool ((y6 : Int) == 0)) (s := []) (by kernel_rfl) ⟨rfl, rfl⟩
    · -- false
      refine adv_ok hm 9 _ ?_
      obtain rfl := Option.some.inj h
      exact r_retF [] (d := D.bool false) (s := []) (by kernel_rfl) ⟨rfl, rfl⟩
  · -- false
    refine adv_ok hm 18 _ ?_
    obtain rfl := Option.some.inj h
    exact r_retF [] (d := D.bool false) (s := []) (by kernel_rfl) ⟨rfl, rfl⟩
end Go.RX.L

set_option linter.unusedSimpArgs false
set_option linter.unusedVariables false
namespace Go.RX.L
open Go Go.RX

theorem ixf_loop (l : List Vote) (n : Int) (hl : l.length ≤ 300000) : ∀ (j k : Nat), k + j = l.length → Ev slices_IndexFunc__by_1_step (.s1 l n (l.length : Nat) (k : Nat)) (idxP (l.drop k) n k) := by
  intro j
  induction j with
  | zero =>
    intro k hk
    refine .done ?_
    have : l.drop k = [] := List.drop_eq_nil_of_le (by omega)
    simp [slices_IndexFunc__by_1_step, slices_IndexFunc__by_1_1, this, idxP, show ¬ (k : Int) < l.length by omega]
  | succ j ih =>
    intro k hk
    have hlt : k < l.length := by omega
    rw [List.drop_eq_getElem_cons hlt, idxP]
    by_cases he : l[k].Observer = n
    · rw [if_pos he]
      refine .done ?_
      simp [slices_IndexFunc__by_1_step, slices_IndexFunc__by_1_1, hlt, tally_by_1, he]
    · rw [if_neg he]
      refine .next (s' := .s1 l n (l.length : Nat) ((k + 1 : Nat) : Int)) ?_ (ih (k + 1) (by omega))
      have hw : IntKind.i64.wrap ((k : Int) + 1) = k + 1 := wI64 (by omega) (by omega)
      have hb : (l[k].Observer == n) = false := by simpa using he
      simp [slices_IndexFunc__by_1_step, slices_IndexFunc__by_1_1, hlt, tally_by_1, hb, hw]

theorem ixf (l : List Vote) (n : Int) (hl : l.length ≤ 300000) : slices_IndexFunc__by_1 l n = some (idxP l n 0) :=
  evf_of (.next (s' := .s1 l n (l.length : Nat) ((0 : Nat) : Int)) (by simp [slices_IndexFunc__by_1_step, slices_IndexFunc__by_1_0]) (by simpa using ixf_loop l n hl l.length 0 (by omega)))

/-- Votes, with one more. -/
def putP (l : List Vote) (v : Vote) : List Vote := match l with
  | [] => [v]
  | x :: r => if x.Observer = v.Observer then v :: r else x :: putP r v

theorem idx_put (v : Vote) : ∀ (l : List Vote) (i : Nat), (idxP l v.Observer i = -1 ∧ putP l v = l ++ [v] ∧ ∀ x ∈ l, x.Observer ≠ v.Observer) ∨ ∃ j : Nat, j < l.length ∧ idxP l v.Observer i = i + j ∧ putP l v = l.set j v
  | [], i => .inl ⟨rfl, rfl, fun x h => by simp at h⟩
  | x :: r, i => by
    by_cases h : x.Observer = v.Observer
    · exact .inr ⟨0, by simp, by simp [idxP, h], by simp [putP, h]⟩
    · rcases idx_put v r (i + 1) with ⟨h1, h2, h3⟩ | ⟨j, h1, h2, h3⟩
      · exact .inl ⟨by simp only [idxP, if_neg h]; exact_mod_cast h1, by simp [putP, h, h2], fun y hy => by rcases List.mem_cons.1 hy with rfl | hy; exact h; exact h3 y hy⟩
      · refine .inr ⟨j + 1, by simp; omega, ?_, by simp [putP, h, h3]⟩
        simp only [idxP, if_neg h]
        have : ((i + 1 : Nat) : Int) = (i : Int) + 1 := by omega
        rw [← this, h2]; omega

theorem put_len (l : List Vote) (v : Vote) : (putP l v).length = l.length ∨ (putP l v).length = l.length + 1 := by
  induction l with
  | nil => exact .inr rfl
  | cons x r ih => unfold putP; split <;> simp; simpa using ih

theorem put_ok (l : List Vote) (v : Vote) (hl : l.length ≤ 300000) : tally_Put l v = some (putP l v) := by
  unfold tally_Put slices_Clone tally_by
  rw [show decide ((0 + (List.map Vote.enc l).length) * 24 ≤ bytesLim) = true from limOk (by simp; omega)]
  simp only [cond_true, Option.bind_some, ixf l v.Observer hl]
  rcases idx_put v l 0 with ⟨h1, h2, -⟩ | ⟨j, hj, h1, h2⟩
  · simp only [Int.natCast_zero] at h1
    rw [h1, h2, show decide (((List.map Vote.enc l).length + 1) * 24 ≤ bytesLim) = true from limOk (by simp; omega)]
    simp
  · simp only [Int.natCast_zero, Int.zero_add] at h1
    rw [h1, h2]
    simp [hj]

theorem put_mem {l : List Vote} {v x : Vote} (h : x ∈ putP l v) : x ∈ l ∨ x = v := by
  induction l with
  | nil => simp [putP] at h; exact .inr h
  | cons y r ih =>
    unfold putP at h
    split at h
    · rcases List.mem_cons.1 h with rfl | h
      · exact .inr rfl
      · exact .inl (by simp [h])
    · rcases List.mem_cons.1 h with rfl | h
      · exact .inl (by simp)
      · rcases ih h with h | h
        · exact .inl (by simp [h])
        · exact .inr h

theorem tal_ok {l : List Vote} {o n f : Int} (hl : l.length ≤ 300000) (hv : ∀ v ∈ l, VOk v) (ho : o ≤ 9223372036854775807) : tally_Tally l o n f = some (tallyP l o n f : Int) := by
  unfold tally_Tally
  rw [if_pos ⟨by unfold lim; omega, hv, ho⟩]

theorem head_ok : law11_head = some true := by
  have p1 : putP [] (⟨0, 3, 0⟩ : Vote) = [⟨0, 3, 0⟩] := rfl
  have p2 : putP [⟨0, 3, 0⟩] (⟨1, 1, 0⟩ : Vote) = [⟨0, 3, 0⟩, ⟨1, 1, 0⟩] := rfl
  have hv : ∀ v ∈ ([⟨0, 3, 0⟩, ⟨1, 1, 0⟩] : List Vote), VOk v := fun v hv => by
    simp at hv
    rcases hv with rfl | rfl <;> exact ⟨by decide, by decide, by decide⟩
  unfold law11_head
  rw [put_ok _ _ (by simp)]
  simp only [Option.bind_some, p1]
  rw [put_ok _ _ (by simp)]
  simp only [Option.bind_some, p2]
  rw [tal_ok (by simp) hv (by omega), tal_ok (by simp) hv (by omega), show tallyP [⟨0, 3, 0⟩, ⟨1, 1, 0⟩] 3 0 5 = 1 by decide, show tallyP [⟨0, 3, 0⟩, ⟨1, 1, 0⟩] 3 9 5 = 0 by decide]
  rfl

end Go.RX.L

set_option linter.unusedSimpArgs false
set_option linter.unusedVariables false
namespace Go.RX.L
open Go Go.RX

def firstV (l : List Vote) (k : Int) : Option Vote := l.find? (fun v => v.Observer == k)
def freshB (v : Vote) (n f : Int) : Bool := timeB v.At && (!(decide (v.At > n)) && !(decide (v.At < n - f)))
/-- What an observer adds to a bit. -/
def con (l : List Vote) (n f : Int) (b : Nat) (k : Int) : Int := match firstV l k with | some v => if freshB v n f then bitN v.Up b else 0 | none => 0
def sumI (g : Nat → Int) : Nat → Int
  | 0 => 0
  | k + 1 => sumI g k + g k

theorem idx_spec (k : Int) : ∀ (l : List Vote) (i : Int), (idxP l k i = -1 ∧ firstV l k = none ∧ ∀ v ∈ l, v.Observer ≠ k) ∨ ∃ (j : Nat) (v : Vote), l[j]? = some v ∧ idxP l k i = i + j ∧ v.Observer = k ∧ firstV l k = some v ∧ ∀ (j' : Nat) (u : Vote), j' < j → l[j']? = some u → u.Observer ≠ k
  | [], i => .inl ⟨rfl, rfl, fun v h => by simp at h⟩
  | x :: r, i => by
    by_cases h : x.Observer = k
    · exact .inr ⟨0, x, rfl, by simp [idxP, h], h, by simp [firstV, h], fun j' u hj => by omega⟩
    · have hb : (x.Observer == k) = false := by simpa using h
      rcases idx_spec k r (i + 1) with ⟨h1, h2, h3⟩ | ⟨j, v, h1, h2, h3, h4, h5⟩
      · refine .inl ⟨by simp only [idxP, if_neg h]; exact h1, by simpa [firstV, List.find?_cons, hb] using h2, fun v hv => ?_⟩
        rcases List.mem_cons.1 hv with rfl | hv
        · exact h
        · exact h3 v hv
      · refine .inr ⟨j + 1, v, by simpa using h1, by simp only [idxP, if_neg h, h2]; omega, h3, by simpa [firstV, List.find?_cons, hb] using h4, fun j' u hj hu => ?_⟩
        cases j' with
        | zero => simp at hu; subst hu; exact h
        | succ j' => exact h5 j' u (by omega) (by simpa using hu)

theorem sumI_add (g h : Nat → Int) (n : Nat) : sumI (fun k => g k + h k) n = sumI g n + sumI h n := by
  induction n with
  | zero => rfl
  | succ n ih => simp only [sumI, ih]; omega
theorem sumI_congr {g h : Nat → Int} {n : Nat} (e : ∀ k, k < n → g k = h k) : sumI g n = sumI h n := by
  induction n with
  | zero => rfl
  | succ n ih => rw [sumI, sumI, ih fun k hk => e k (by omega), e n (by omega)]
theorem sumI_le {g h : Nat → Int} {n : Nat} (e : ∀ k, k < n → g k ≤ h k) : sumI g n ≤ sumI h n := by
  induction n with
  | zero => exact Int.le_refl _
  | succ n ih => rw [sumI, sumI]; have := ih fun k hk => e k (by omega); have := e n (by omega); omega
theorem sumI_const (c : Int) (n : Nat) : sumI (fun _ => c) n = n * c := by
  induction n with
  | zero => simp [sumI]
  | succ n ih => rw [sumI, ih]; push_cast; rw [Int.add_mul]; omega
theorem sumI_one (c : Int) (i : Nat) (n : Nat) : sumI (fun k => if k = i then c else 0) n = if i < n then c else 0 := by
  induction n with
  | zero => rfl
  | succ n ih =>
    rw [sumI, ih]
    by_cases h : n = i
    · subst h; simp
    · by_cases h2 : i < n
      · simp [h, h2, show i < n + 1 by omega]
      · simp [h, h2, show ¬ i < n + 1 by omega]

/-- What the first i votes come to is what the observers, whose first votes these are, add. -/
theorem cnt_sum (l : List Vote) (o : Nat) (n f : Int) (b : Nat) : ∀ i, cntB l o n f b i = sumI (fun k => if 0 ≤ idxP l k 0 ∧ idxP l k 0 < i then con l n f b k else 0) o
  | 0 => by
    rw [cntB, sumI_congr (h := fun _ => 0) (fun k _ => by rw [if_neg (by omega)]), sumI_const]; simp
  | i + 1 => by
    rw [cntB, cnt_sum l o n f b i]
    cases hg : l[i]? with
    | none =>
      simp only [Int.add_zero]
      refine sumI_congr fun k _ => ?_
      have hlen : l.length ≤ i := by rw [List.getElem?_eq_none_iff] at hg; exact hg
      rcases idx_spec k l 0 with ⟨h1, -⟩ | ⟨j, v, h1, h2, -⟩
      · rw [h1]; simp
      · have := (List.getElem?_eq_some_iff.1 h1).1
        rw [h2]
        have e1 : (0 : Int) ≤ 0 + j ∧ 0 + (j : Int) < i := by omega
        have e2 : (0 : Int) ≤ 0 + j ∧ 0 + (j : Int) < (i + 1 : Nat) := by omega
        rw [if_pos e1, if_pos e2]
    | some v =>
      simp only
      -- the observer of this vote
      rcases idx_spec v.Observer l 0 with ⟨-, -, h3⟩ | ⟨j, u, h1, h2, h3, h4, h5⟩
      · exact absurd rfl (h3 v (List.mem_of_getElem? hg))
      have hji : j ≤ i := by
        rcases Nat.lt_or_ge i j with h | h
        · exact absurd rfl (h5 i v h hg)
        · exact h
      have other : ∀ k : Nat, (k : Int) ≠ v.Observer → ((0 ≤ idxP l k 0 ∧ idxP l k 0 < (i + 1 : Nat)) ↔ (0 ≤ idxP l k 0 ∧ idxP l k 0 < i)) := fun k hk => by
        rcases idx_spec k l 0 with ⟨e1, -⟩ | ⟨j', u', e1, e2, e3, -⟩
        · rw [e1]; omega
        · rw [e2]
          have : j' ≠ i := fun e => by
            subst e
            rw [hg] at e1
            simp only [Option.some.injEq] at e1
            subst e1; exact hk e3.symm
          omega
      by_cases hlt : j < i
      · -- not the first one
        have hv : validB l o n f i v = false := by
          unfold validB
          rw [h2]
          simp [show (j : Int) < i by omega]
        rw [hv]
        simp only [Bool.false_eq_true, if_false, Int.add_zero]
        refine sumI_congr fun k _ => ?_
        by_cases hk : (k : Int) = v.Observer
        · rw [hk, h2, if_pos (by omega), if_pos (by omega)]
        · by_cases hc : 0 ≤ idxP l k 0 ∧ idxP l k 0 < i
          · rw [if_pos hc, if_pos ((other k hk).2 hc)]
          · rw [if_neg hc, if_neg fun h => hc ((other k hk).1 h)]
      · have hje : j = i := by omega
        subst hje
        obtain rfl : u = v := by rw [hg] at h1; exact (Option.some.inj h1).symm
        by_cases hin : 0 ≤ u.Observer ∧ u.Observer < o
        · obtain ⟨w, hw⟩ := Int.eq_ofNat_of_zero_le hin.1
          have hwo : w < o := by omega
          have hval : (if validB l o n f j u then bitN u.Up b else 0) = con l n f b w := by
            unfold con
            rw [← hw, h4]
            unfold validB freshB
            rw [h2]
            simp [show ¬ u.Observer < 0 by omega, show ¬ (o : Int) ≤ u.Observer by omega]
          rw [hval]
          have : sumI (fun k => if 0 ≤ idxP l k 0 ∧ idxP l k 0 < (j + 1 : Nat) then con l n f b k else 0) o = sumI (fun k => (if 0 ≤ idxP l k 0 ∧ idxP l k 0 < j then con l n f b k else 0) + (if k = w then con l n f b w else 0)) o := by
            refine sumI_congr fun k _ => ?_
            by_cases hk : k = w
            · subst hk
              have hk' : (k : Int) = u.Observer := hw.symm
              rw [hk', h2, if_pos (by omega), if_neg (by omega), if_pos rfl]; omega
            · have hk' : (k : Int) ≠ u.Observer := by omega
              rw [if_neg hk, Int.add_zero]
              by_cases hc : 0 ≤ idxP l k 0 ∧ idxP l k 0 < j
              · rw [if_pos hc, if_pos ((other k hk').2 hc)]
              · rw [if_neg hc, if_neg fun h => hc ((other k hk').1 h)]
          rw [this, sumI_add, sumI_one, if_pos hwo]
        · have hv : validB l o n f j u = false := by
            unfold validB
            by_cases h : u.Observer < 0
            · simp [h]
            · simp [show (o : Int) ≤ u.Observer by omega]
          rw [hv]
          simp only [Bool.false_eq_true, if_false, Int.add_zero]
          refine sumI_congr fun k hk => ?_
          have hk' : (k : Int) ≠ u.Observer := by omega
          by_cases hc : 0 ≤ idxP l k 0 ∧ idxP l k 0 < j
          · rw [if_pos hc, if_pos ((other k hk').2 hc)]
          · rw [if_neg hc, if_neg fun h => hc ((other k hk').1 h)]

theorem cnt_all (l : List Vote) (o : Nat) (n f : Int) (b : Nat) : cntB l o n f b l.length = sumI (fun k => con l n f b k) o := by
  rw [cnt_sum]
  refine sumI_congr fun k _ => ?_
  rcases idx_spec k l 0 with ⟨h1, h2, -⟩ | ⟨j, v, h1, h2, -⟩
  · rw [if_neg (by omega), con, h2]
  · have := (List.getElem?_eq_some_iff.1 h1).1
    rw [if_pos (by omega)]

theorem con_01 (l : List Vote) (n f : Int) (b : Nat) (k : Int) : 0 ≤ con l n f b k ∧ con l n f b k ≤ 1 := by
  unfold con
  split
  · split
    · exact bitN_01 _ _
    · omega
  · omega

theorem eq_bits {p : Nat → Bool} {m : Nat} (hm : m < 18446744073709551616) (h : ∀ j, j < 64 → p j = m.testBit j) : upTo p 64 = m := by
  refine Nat.eq_of_testBit_eq fun j => ?_
  rw [upTo_bit]
  by_cases hj : j < 64
  · simp [hj, h j hj]
  · have : m < 2 ^ j := Nat.lt_of_lt_of_le hm (show 2 ^ 64 ≤ 2 ^ j from Nat.pow_le_pow_right (by decide) (by omega))
    rw [Nat.testBit_lt_two_pow this]
    simp [hj]

theorem tally_bit (l : List Vote) {o : Nat} {n f : Int} (ho : 1 ≤ o) (hn : timeB n = true) (hf : timeB f = true) (j : Nat) (hj : j < 64) :
    (tallyP l o n f).testBit j = decide (sumI (fun k => con l n f j k) o > o - sumI (fun k => con l n f j k) o) := by
  unfold tallyP
  rw [if_pos (by simp [hn, hf]; omega), upTo_bit, cnt_all]
  simp [hj]
theorem tally_lt (l : List Vote) (o n f : Int) : tallyP l o n f < 18446744073709551616 := by
  unfold tallyP
  split
  · exact upTo_lt _ 64
  · decide

/-- Votes that are put in are the observer's first ones. -/
theorem first_put (l : List Vote) (v : Vote) (k : Int) : firstV (putP l v) k = if v.Observer = k then some v else firstV l k := by
  induction l with
  | nil => unfold putP firstV; by_cases h : v.Observer = k <;> simp [h]
  | cons x r ih =>
    unfold putP
    by_cases h : x.Observer = v.Observer
    · rw [if_pos h]
      unfold firstV
      by_cases hk : v.Observer = k
      · simp [hk]
      · have : (x.Observer == k) = false := by simp; omega
        have h2 : (v.Observer == k) = false := by simpa using hk
        simp [List.find?_cons, this, h2, hk]
    · rw [if_neg h]
      unfold firstV at ih ⊢
      by_cases hx : x.Observer = k
      · have : ¬ v.Observer = k := by omega
        simp [hx, this]
      · have h2 : (x.Observer == k) = false := by simpa using hx
        simp only [List.find?_cons, h2]
        exact ih

end Go.RX.L

set_option linter.unusedSimpArgs false
set_option linter.unusedVariables false
set_option maxRecDepth 100000
set_option maxHeartbeats 4000000
namespace Go.RX.L
open Go Go.RX Go.Proofs
def ref11_time_Q (y : Bool) (d : D) (s : Sto) : Prop := d = D.bool y ∧ s = []
noncomputable def ref11_time (n : Int) : Option Bool := (bif (decide ((n : Int) ≥ 0)) then (some (decide ((n : Int) ≤ 1099511627776))) else (some false))
theorem ref11_time_ok {n : Int} {r : Bool} (h : ref11_time n = some r) : Sound E 21 [D.int .i64 n] [] (ref11_time_Q r) := by
  refine sound_ofW (m := ⟨[.code (bodyOf Try.f21)], [(0, D.int .i64 n)], []⟩) (fn := Try.f21) (by kernel_rfl) (by kernel_rfl) ?_
  show FinQ E ⟨Try.f21, false, 0⟩ (QW (ref11_time_Q r)) _
  unfold ref11_time at h
  refine adv_ok hm 10 _ ?_
  refine p_split h (by kernel_rfl) (fun h1 h => ?_) (fun h1 h => ?_)
  · -- true
    refine adv_ok hm 7 _ ?_
    obtain rfl := Option.some.inj h
    exact r_retF [] (d := D.bool (decide ((n : Int) ≤ 1099511627776))) (s := []) (by kernel_rfl) ⟨rfl, rfl⟩
  · -- false
    refine adv_ok hm 7 _ ?_
    obtain rfl := Option.some.inj h
    exact r_retF [] (d := D.bool false) (s := []) (by kernel_rfl) ⟨rfl, rfl⟩
end Go.RX.L

set_option linter.unusedSimpArgs false
set_option linter.unusedVariables false
set_option maxRecDepth 100000
set_option maxHeartbeats 4000000
namespace Go.RX.L
open Go Go.RX Go.Proofs
def ref11_Fresh_Q (y : Bool) (d : D) (s : Sto) : Prop := d = D.bool y ∧ s = []
noncomputable def ref11_Fresh_1M (now : Int) (fresh : Int) (t33 : Bool) (v : Vote) : M := { td := [It.code (codeAt (bodyOf Try.f15) [1, 0, 1]), It.code (codeAt (bodyOf Try.f15) [1, 1])], fr := [(2, D.int .i64 now), (3, D.int .i64 fresh), (4, D.ptr 0 0 0), (33, D.bool t33)], st := [some { sz := 3, deep := false, rows := [[D.int .i64 v.Observer, D.int .u64 v.Up, D.int .i64 v.At]] }] }
noncomputable def ref11_Fresh_1 (now : Int) (fresh : Int) (t33 : Bool) (v : Vote) : Option Bool := (bif t33 then (some false) else (bif (decide ((now : Int) ≥ v.At)) then (some (decide ((v.At : Int) ≥ (IntKind.i64.wrap (now - fresh))))) else (some false)))
theorem ref11_Fresh_1_ok {now : Int} {fresh : Int} {t33 : Bool} {v : Vote} {r : Bool} (h : ref11_Fresh_1 now fresh t33 v = some r) : FinQ E ⟨Try.f15, false, 0⟩ (QW (ref11_Fresh_Q r)) (.go (ref11_Fresh_1M now fresh t33 v)) := by
  unfold ref11_Fresh_1 at h
  refine adv_ok hm 1 _ ?_
  refine p_split h (by kernel_rfl) (fun h1 h => ?_) (fun h1 h => ?_)
  · -- true
    refine adv_ok hm 5 _ ?_
    obtain rfl := Option.some.inj h
    exact r_retF [] (d := D.bool false) (s := []) (by kernel_rfl) ⟨rfl, rfl⟩
  · -- false
    refine adv_ok hm 10 _ ?_
    refine p_split h (by kernel_rfl) (fun h2 h => ?_) (fun h2 h => ?_)
    · -- true
      refine adv_ok hm 16 _ ?_
      obtain rfl := Option.some.inj h
      exact r_retF [] (d := D.bool (decide ((v.At : Int) ≥ (IntKind.i64.wrap (now - fresh))))) (s := []) (by kernel_rfl) ⟨rfl, rfl⟩
    · -- false
      refine adv_ok hm 15 _ ?_
      obtain rfl := Option.some.inj h
      exact r_retF [] (d := D.bool false) (s := []) (by kernel_rfl) ⟨rfl, rfl⟩
noncomputable def ref11_Fresh (v : Vote) (observers : Int) (now : Int) (fresh : Int) : Option Bool := ((ref11_time v.At).bind fun y1 => (bif (!y1) then (ref11_Fresh_1 now fresh true v) else ((ref11_time now).bind fun y3 => (bif (!y3) then (ref11_Fresh_1 now fresh true v) else ((ref11_time fresh).bind fun y5 => (bif (!y5) then (ref11_Fresh_1 now fresh true v) else (bif (decide ((v.Observer : Int) < 0)) then (ref11_Fresh_1 now fresh true v) else (ref11_Fresh_1 now fresh (decide ((v.Observer : Int) ≥ observers)) v))))))))
theorem ref11_Fresh_ok {v : Vote} {observers : Int} {now : Int} {fresh : Int} {r : Bool} (h : ref11_Fresh v observers now fresh = some r) : Sound E 15 [D.agg [D.int .i64 v.Observer, D.int .u64 v.Up, D.int .i64 v.At], D.int .i64 observers, D.int .i64 now, D.int .i64 fresh] [] (ref11_Fresh_Q r) := by
  refine sound_ofW (m := ⟨[.code (bodyOf Try.f15)], [(0, D.agg [D.int .i64 v.Observer, D.int .u64 v.Up, D.int .i64 v.At]), (1, D.int .i64 observers), (2, D.int .i64 now), (3, D.int .i64 fresh)], []⟩) (fn := Try.f15) (by kernel_rfl) (by kernel_rfl) ?_
  show FinQ E ⟨Try.f15, false, 0⟩ (QW (ref11_Fresh_Q r)) _
  unfold ref11_Fresh at h
  refine adv_ok hm 12 _ ?_
  have ok1 := fun (y : Bool) (hy : ref11_time v.At = some y) => ref11_time_ok hy
  refine p_callE [] (args1 := [D.int .i64 v.At]) (args := [D.int .i64 v.At]) (fun y1 => D.bool y1) (fun y1 => []) h (by kernel_rfl) ⟨rfl, rfl⟩ ok1 (fun y1 h1 h => ?_)
  refine adv_ok hm 3 _ ?_
  refine p_split h (by kernel_rfl) (fun h2 h => ?_) (fun h2 h => ?_)
  · -- true
    refine adv_ok hm 36 _ ?_
    exact r_cut 8589934620 [] (m' := (ref11_Fresh_1M now fresh true v)) (by kernel_rfl) (ref11_Fresh_1_ok h)
  · -- false
    refine adv_ok hm 2 _ ?_
    have ok3 := fun (y : Bool) (hy : ref11_time now = some y) => ref11_time_ok hy
    refine p_callE [] (args1 := [D.int .i64 now]) (args := [D.int .i64 now]) (fun y3 => D.bool y3) (fun y3 => []) h (by kernel_rfl) ⟨rfl, rfl⟩ ok3 (fun y3 h3 h => ?_)
    refine adv_ok hm 6 _ ?_
    refine p_split h (by kernel_rfl) (fun h4 h => ?_) (fun h4 h => ?_)
    · -- true
      refine adv_ok hm 27 _ ?_
      exact r_cut 8589934620 [] (m' := (ref11_Fresh_1M now fresh true v)) (by kernel_rfl) (ref11_Fresh_1_ok h)
    · -- false
      refine adv_ok hm 2 _ ?_
      have ok5 := fun (y : Bool) (hy : ref11_time fresh = some y) => ref11_time_ok hy
      refine p_callE [] (args1 := [D.int .i64 fresh]) (args := [D.int .i64 fresh]) (fun y5 => D.bool y5) (fun y5 => []) h (by kernel_rfl) ⟨rfl, rfl⟩ ok5 (fun y5 h5 h => ?_)
      refine adv_ok hm 6 _ ?_
      refine p_split h (by kernel_rfl) (fun h6 h => ?_) (fun h6 h => ?_)
      · -- true
        refine adv_ok hm 18 _ ?_
        exact r_cut 8589934620 [] (m' := (ref11_Fresh_1M now fresh true v)) (by kernel_rfl) (ref11_Fresh_1_ok h)
      · -- false
        refine adv_ok hm 9 _ ?_
        refine p_split h (by kernel_rfl) (fun h7 h => ?_) (fun h7 h => ?_)
        · -- true
          refine adv_ok hm 9 _ ?_
          exact r_cut 8589934620 [] (m' := (ref11_Fresh_1M now fresh true v)) (by kernel_rfl) (ref11_Fresh_1_ok h)
        · -- false
          refine adv_ok hm 10 _ ?_
          exact r_cut 8589934620 [] (m' := (ref11_Fresh_1M now fresh (decide ((v.Observer : Int) ≥ observers)) v)) (by kernel_rfl) (ref11_Fresh_1_ok h)
end Go.RX.L

set_option linter.unusedSimpArgs false
set_option linter.unusedVariables false
set_option maxRecDepth 100000
set_option maxHeartbeats 4000000
namespace Go.RX.L
open Go Go.RX Go.Proofs
def law11_TallyMost_Q (y : Bool) (d : D) (s : Sto) : Prop := d = D.bool y ∧ s = []
inductive law11_TallyMost_S where
  | s0 (l : List Vote) (observers : Int) (now : Int) (fresh : Int) (a : Int) (b : Int)
  | s1 (l : List Vote) (observers : Int) (now : Int) (fresh : Int) (up : Bool) (x_ : Int) (y_ : Int) (t44 : Bool)
  | s2 (l : List Vote) (observers : Int) (now : Int) (fresh : Int) (up : Bool) (x_ : Int) (y_ : Int) (i : Int)
  | s3 (l : List Vote) (observers : Int) (now : Int) (fresh : Int) (up : Bool) (x_ : Int) (y_ : Int) (i : Int) (t80 : Bool)
noncomputable def law11_TallyMost_M : law11_TallyMost_S → M
  | .s0 l observers now fresh a b => ⟨[.code (bodyOf Try.f4)], [(0, D.sl false 3 (List.map Vote.enc l)), (1, D.int .u8 observers), (2, D.int .i64 now), (3, D.int .i64 fresh), (4, D.int .u8 a), (5, D.int .u8 b)], []⟩
  | .s1 l observers now fresh up x_ y_ t44 => { td := [It.code (codeAt (bodyOf Try.f4) [1, 1, 1, 1, 1, 1, 0, 1]), It.code (codeAt (bodyOf Try.f4) [1, 1, 1, 1, 1, 1, 1])], fr := [(0, D.sl false 3 (List.map Vote.enc l)), (1, D.int .u8 observers), (2, D.int .i64 now), (3, D.int .i64 fresh), (13, D.bool up), (15, D.int .u64 x_), (16, D.int .u64 y_), (44, D.bool t44)], st := [] }
  | .s2 l observers now fresh up x_ y_ i => { td := [It.lpc (codeAt (bodyOf Try.f4) [1, 1, 1, 1, 1, 1, 1, 0, 1, 0, 0]) 237583, It.blk 0, It.code (codeAt (bodyOf Try.f4) [1, 1, 1, 1, 1, 1, 1, 1])], fr := [(0, D.sl false 3 (List.map Vote.enc l)), (1, D.int .u8 observers), (2, D.int .i64 now), (3, D.int .i64 fresh), (13, D.bool up), (15, D.int .u64 x_), (16, D.int .u64 y_), (17, D.int .i64 i)], st := [] }
  | .s3 l observers now fresh up x_ y_ i t80 => { td := [It.code (codeAt (bodyOf Try.f4) [1, 1, 1, 1, 1, 1, 1, 0, 1, 0, 0, 1, 0, 0, 1]), It.blk 1, It.code (codeAt (bodyOf Try.f4) [1, 1, 1, 1, 1, 1, 1, 0, 1, 0, 0, 1, 1]), It.lp (codeAt (bodyOf Try.f4) [1, 1, 1, 1, 1, 1, 1, 0, 1, 0, 0]) 237583, It.blk 0, It.code (codeAt (bodyOf Try.f4) [1, 1, 1, 1, 1, 1, 1, 1])], fr := [(0, D.sl false 3 (List.map Vote.enc l)), (1, D.int .u8 observers), (2, D.int .i64 now), (3, D.int .i64 fresh), (13, D.bool up), (15, D.int .u64 x_), (16, D.int .u64 y_), (17, D.int .i64 i), (80, D.bool t80)], st := [] }
noncomputable def law11_TallyMost_0 (l : List Vote) (observers : Int) (now : Int) (fresh : Int) (a : Int) (b : Int) : Option (law11_TallyMost_S ⊕ Bool) := ((law11_head ).bind fun y1 => (bif (decide (((((List.map Vote.enc l).length : Nat) : Int) : Int) > 300)) then (some (.inr y1)) else ((tally_Tally l (IntKind.i64.wrap (observers)) now fresh).bind fun y3 => (bif (!decide (((Int.tmod a 64) : Int) < 0)) then (bif (!decide (((Int.tmod b 64) : Int) < 0)) then (bif (((andI .u64 y3 (shlI .u64 1 (Int.tmod a 64))) : Int) == 0) then (some (.inl (.s1 l observers now fresh y1 (shlI .u64 1 (Int.tmod a 64)) (shlI .u64 1 (Int.tmod b 64)) true))) else (some (.inl (.s1 l observers now fresh y1 (shlI .u64 1 (Int.tmod a 64)) (shlI .u64 1 (Int.tmod b 64)) (((andI .u64 y3 (shlI .u64 1 (Int.tmod b 64))) : Int) == 0))))) else none) else none))))
noncomputable def law11_TallyMost_1 (l : List Vote) (observers : Int) (now : Int) (fresh : Int) (up : Bool) (x_ : Int) (y_ : Int) (t44 : Bool) : Option (law11_TallyMost_S ⊕ Bool) := (bif t44 then (some (.inr up)) else (some (.inl (.s2 l observers now fresh up x_ y_ 0))))
noncomputable def law11_TallyMost_2 (l : List Vote) (observers : Int) (now : Int) (fresh : Int) (up : Bool) (x_ : Int) (y_ : Int) (i : Int) : Option (law11_TallyMost_S ⊕ Bool) := (bif (decide ((i : Int) < (((List.map Vote.enc l).length : Nat) : Int))) then (bif ((decide ((0 : Int) ≤ i)) && (decide ((i : Int) < (((List.map Vote.enc l).length : Nat) : Int)))) then (((l)[i.toNat]?).bind fun y3 => (bif (((andI .u64 y3.Up x_) : Int) != 0) then (bif ((decide ((0 : Int) ≤ i)) && (decide ((i : Int) < (((List.map Vote.enc l).length : Nat) : Int)))) then (((l)[i.toNat]?).bind fun y7 => (bif (((andI .u64 y7.Up y_) : Int) != 0) then (bif ((decide ((0 : Int) ≤ i)) && (decide ((i : Int) < (((List.map Vote.enc l).length : Nat) : Int)))) then (((l)[i.toNat]?).bind fun y11 => ((ref11_Fresh y11 (IntKind.i64.wrap (observers)) now fresh).bind fun y13 => (some (.inl (.s3 l observers now fresh up x_ y_ i y13))))) else none) else (some (.inl (.s3 l observers now fresh up x_ y_ i false))))) else none) else (some (.inl (.s3 l observers now fresh up x_ y_ i false))))) else none) else (some (.inr false)))
noncomputable def law11_TallyMost_3 (l : List Vote) (observers : Int) (now : Int) (fresh : Int) (up : Bool) (x_ : Int) (y_ : Int) (i : Int) (t80 : Bool) : Option (law11_TallyMost_S ⊕ Bool) := (bif t80 then (some (.inr up)) else (some (.inl (.s2 l observers now fresh up x_ y_ (IntKind.i64.wrap (i + 1))))))
noncomputable def law11_TallyMost_step : law11_TallyMost_S → Option (law11_TallyMost_S ⊕ Bool)
  | .s0 l observers now fresh a b => law11_TallyMost_0 l observers now fresh a b
  | .s1 l observers now fresh up x_ y_ t44 => law11_TallyMost_1 l observers now fresh up x_ y_ t44
  | .s2 l observers now fresh up x_ y_ i => law11_TallyMost_2 l observers now fresh up x_ y_ i
  | .s3 l observers now fresh up x_ y_ i t80 => law11_TallyMost_3 l observers now fresh up x_ y_ i t80
theorem law11_TallyMost_0_ok {l : List Vote} {observers : Int} {now : Int} {fresh : Int} {a : Int} {b : Int} {r : Bool} {x : law11_TallyMost_S ⊕ Bool} (h : law11_TallyMost_0 l observers now fresh a b = some x) (ha : After E ⟨Try.f4, false, 0⟩ law11_TallyMost_Q law11_TallyMost_M r x) : FinQ E ⟨Try.f4, false, 0⟩ (QW (law11_TallyMost_Q r)) (.go (law11_TallyMost_M (.s0 l observers now fresh a b))) := by
  unfold law11_TallyMost_0 at h
  refine adv_ok hm 7 _ ?_
  have ok1 := fun (y : Bool) (hy : law11_head  = some y) => law11_head_ok hy
  refine p_callE [] (args1 := []) (args := []) (fun y1 => D.bool y1) (fun y1 => []) h (by kernel_rfl) ⟨rfl, rfl⟩ ok1 (fun y1 h1 h => ?_)
  refine adv_ok hm 10 _ ?_
  refine p_split h (by kernel_rfl) (fun h2 h => ?_) (fun h2 h => ?_)
  · -- true
    refine adv_ok hm 6 _ ?_
    obtain rfl := Option.some.inj h
    have hv := ha
    simp only [After] at hv
    subst hv
    exact r_retF [] (d := D.bool y1) (s := []) (by kernel_rfl) ⟨rfl, rfl⟩
  · -- false
    refine adv_ok hm 9 _ ?_
    have ok3 := fun (y : Int) (hy : tally_Tally l (IntKind.i64.wrap (observers)) now fresh = some y) => tally_Tally_ok hy
    refine p_callE [] (args1 := [D.sl false 3 (List.map Vote.enc l), D.int .i64 (IntKind.i64.wrap (observers)), D.int .i64 now, D.int .i64 fresh]) (args := [D.sl false 3 (List.map Vote.enc l), D.int .i64 (IntKind.i64.wrap (observers)), D.int .i64 now, D.int .i64 fresh]) (fun y3 => D.int .u64 y3) (fun y3 => []) h (by kernel_rfl) ⟨rfl, rfl⟩ ok3 (fun y3 h3 h => ?_)
    refine adv_ok hm 8 _ ?_
    refine p_need h (by kernel_rfl) (fun h4 h => ?_)
    refine adv_ok hm 8 _ ?_
    refine p_need h (by kernel_rfl) (fun h5 h => ?_)
    refine adv_ok hm 11 _ ?_
    refine p_split h (by kernel_rfl) (fun h6 h => ?_) (fun h6 h => ?_)
    · -- true
      refine adv_ok hm 9 _ ?_
      obtain rfl := Option.some.inj h
      exact r_cut 17592186150927 [] (m' := (law11_TallyMost_M (.s1 l observers now fresh y1 (shlI .u64 1 (Int.tmod a 64)) (shlI .u64 1 (Int.tmod b 64)) true))) (by kernel_rfl) ha
    · -- false
      refine adv_ok hm 9 _ ?_
      obtain rfl := Option.some.inj h
      exact r_cut 17592186150927 [] (m' := (law11_TallyMost_M (.s1 l observers now fresh y1 (shlI .u64 1 (Int.tmod a 64)) (shlI .u64 1 (Int.tmod b 64)) (((andI .u64 y3 (shlI .u64 1 (Int.tmod b 64))) : Int) == 0)))) (by kernel_rfl) ha
theorem law11_TallyMost_1_ok {l : List Vote} {observers : Int} {now : Int} {fresh : Int} {up : Bool} {x_ : Int} {y_ : Int} {t44 : Bool} {r : Bool} {x : law11_TallyMost_S ⊕ Bool} (h : law11_TallyMost_1 l observers now fresh up x_ y_ t44 = some x) (ha : After E ⟨Try.f4, false, 0⟩ law11_TallyMost_Q law11_TallyMost_M r x) : FinQ E ⟨Try.f4, false, 0⟩ (QW (law11_TallyMost_Q r)) (.go (law11_TallyMost_M (.s1 l observers now fresh up x_ y_ t44))) := by
  unfold law11_TallyMost_1 at h
  refine adv_ok hm 1 _ ?_
  refine p_split h (by kernel_rfl) (fun h1 h => ?_) (fun h1 h => ?_)
  · -- true
    refine adv_ok hm 6 _ ?_
    obtain rfl := Option.some.inj h
    have hv := ha
    simp only [After] at hv
    subst hv
    exact r_retF [] (d := D.bool up) (s := []) (by kernel_rfl) ⟨rfl, rfl⟩
  · -- false
    refine adv_ok hm 9 _ ?_
    obtain rfl := Option.some.inj h
    exact r_to (q' := .go (law11_TallyMost_M (.s2 l observers now fresh up x_ y_ 0))) (by kernel_rfl) ha
theorem law11_TallyMost_2_ok {l : List Vote} {observers : Int} {now : Int} {fresh : Int} {up : Bool} {x_ : Int} {y_ : Int} {i : Int} {r : Bool} {x : law11_TallyMost_S ⊕ Bool} (h : law11_TallyMost_2 l observers now fresh up x_ y_ i = some x) (ha : After E ⟨Try.f4, false, 0⟩ law11_TallyMost_Q law11_TallyMost_M r x) : FinQ E ⟨Try.f4, false, 0⟩ (QW (law11_TallyMost_Q r)) (.go (law11_TallyMost_M (.s2 l observers now fresh up x_ y_ i))) := by
  unfold law11_TallyMost_2 at h
  refine adv_ok hm 10 _ ?_
  refine p_split h (by kernel_rfl) (fun h1 h => ?_) (fun h1 h => ?_)
  · -- true
    refine adv_ok hm 8 _ ?_
    refine p_need h (by kernel_rfl) (fun h2 h => ?_)
    refine adv_ok hm 2 _ ?_
    refine p_row (((List.map Vote.enc l))[i.toNat]?) Vote.enc h (by kernel_rfl) List.getElem?_map (fun y3 h4 h => ?_)
    refine adv_ok hm 5 _ ?_
    refine p_split h (by kernel_rfl) (fun h5 h => ?_) (fun h5 h => ?_)
    · -- true
      refine adv_ok hm 4 _ ?_
      refine p_need h (by kernel_rfl) (fun h6 h => ?_)
      refine adv_ok hm 4 _ ?_
      refine p_row (((List.map Vote.enc l))[i.toNat]?) Vote.enc h (by kernel_rfl) List.getElem?_map (fun y7 h8 h => ?_)
      refine adv_ok hm 10 _ ?_
      refine p_split h (by kernel_rfl) (fun h9 h => ?_) (fun h9 h => ?_)
      · -- true
        refine adv_ok hm 4 _ ?_
        refine p_need h (by kernel_rfl) (fun h10 h => ?_)
        refine adv_ok hm 2 _ ?_
        refine p_row (((List.map Vote.enc l))[i.toNat]?) Vote.enc h (by kernel_rfl) List.getElem?_map (fun y11 h12 h => ?_)
        refine adv_ok hm 10 _ ?_
        have ok13 := fun (y : Bool) (hy : ref11_Fresh y11 (IntKind.i64.wrap (observers)) now fresh = some y) => ref11_Fresh_ok hy
        refine p_callE [] (args1 := [D.agg [D.int .i64 y11.Observer, D.int .u64 y11.Up, D.int .i64 y11.At], D.int .i64 (IntKind.i64.wrap (observers)), D.int .i64 now, D.int .i64 fresh]) (args := [D.agg [D.int .i64 y11.Observer, D.int .u64 y11.Up, D.int .i64 y11.At], D.int .i64 (IntKind.i64.wrap (observers)), D.int .i64 now, D.int .i64 fresh]) (fun y13 => D.bool y13) (fun y13 => []) h (by kernel_rfl) ⟨rfl, rfl⟩ ok13 (fun y13 h13 h => ?_)
        refine adv_ok hm 3 _ ?_
        obtain rfl := Option.some.inj h
        exact r_cut 1208925819614629174943759 [] (m' := (law11_TallyMost_M (.s3 l observers now fresh up x_ y_ i y13))) (by kernel_rfl) ha
      · -- false
        refine adv_ok hm 19 _ ?_
        obtain rfl := Option.some.inj h
        exact r_cut 1208925819614629174943759 [] (m' := (law11_TallyMost_M (.s3 l observers now fresh up x_ y_ i false))) (by kernel_rfl) ha
    · -- false
      refine adv_ok hm 38 _ ?_
      obtain rfl := Option.some.inj h
      exact r_cut 1208925819614629174943759 [] (m' := (law11_TallyMost_M (.s3 l observers now fresh up x_ y_ i false))) (by kernel_rfl) ha
  · -- false
    refine adv_ok hm 6 _ ?_
    obtain rfl := Option.some.inj h
    have hv := ha
    simp only [After] at hv
    subst hv
    exact r_retF [] (d := D.bool false) (s := []) (by kernel_rfl) ⟨rfl, rfl⟩
theorem law11_TallyMost_3_ok {l : List Vote} {observers : Int} {now : Int} {fresh : Int} {up : Bool} {x_ : Int} {y_ : Int} {i : Int} {t80 : Bool} {r : Bool} {x : law11_TallyMost_S ⊕ Bool} (h : law11_TallyMost_3 l observers now fresh up x_ y_ i t80 = some x) (ha : After E ⟨Try.f4, false, 0⟩ law11_TallyMost_Q law11_TallyMost_M r x) : FinQ E ⟨Try.f4, false, 0⟩ (QW (law11_TallyMost_Q r)) (.go (law11_TallyMost_M (.s3 l observers now fresh up x_ y_ i t80))) := by
  unfold law11_TallyMost_3 at h
  refine adv_ok hm 1 _ ?_
  refine p_split h (by kernel_rfl) (fun h1 h => ?_) (fun h1 h => ?_)
  · -- true
    refine adv_ok hm 6 _ ?_
    obtain rfl := Option.some.inj h
    have hv := ha
    simp only [After] at hv
    subst hv
    exact r_retF [] (d := D.bool up) (s := []) (by kernel_rfl) ⟨rfl, rfl⟩
  · -- false
    refine adv_ok hm 8 _ ?_
    obtain rfl := Option.some.inj h
    exact r_to (q' := .go (law11_TallyMost_M (.s2 l observers now fresh up x_ y_ (IntKind.i64.wrap (i + 1))))) (by kernel_rfl) ha
theorem law11_TallyMost_ev {l : List Vote} {observers : Int} {now : Int} {fresh : Int} {a : Int} {b : Int} {r : Bool} (h : Ev law11_TallyMost_step (.s0 l observers now fresh a b) r) : Sound E 4 [D.sl false 3 (List.map Vote.enc l), D.int .u8 observers, D.int .i64 now, D.int .i64 fresh, D.int .u8 a, D.int .u8 b] [] (law11_TallyMost_Q r) :=
  sound_ofW (m := law11_TallyMost_M (.s0 l observers now fresh a b)) (fn := Try.f4) (by kernel_rfl) (by kernel_rfl) (ev_run (C := ⟨Try.f4, false, 0⟩) (fun s x r hs ha => by
    cases s with
    | s0 => exact law11_TallyMost_0_ok hs ha
    | s1 => exact law11_TallyMost_1_ok hs ha
    | s2 => exact law11_TallyMost_2_ok hs ha
    | s3 => exact law11_TallyMost_3_ok hs ha) h)
noncomputable def law11_TallyMost (l : List Vote) (observers : Int) (now : Int) (fresh : Int) (a : Int) (b : Int) : Option Bool := evf law11_TallyMost_step (.s0 l observers now fresh a b)
theorem law11_TallyMost_ok {l : List Vote} {observers : Int} {now : Int} {fresh : Int} {a : Int} {b : Int} {r : Bool} (h : law11_TallyMost l observers now fresh a b = some r) : Sound E 4 [D.sl false 3 (List.map Vote.enc l), D.int .u8 observers, D.int .i64 now, D.int .i64 fresh, D.int .u8 a, D.int .u8 b] [] (law11_TallyMost_Q r) := law11_TallyMost_ev (evf_ev h)
end Go.RX.L

set_option linter.unusedSimpArgs false
set_option linter.unusedVariables false
set_option maxRecDepth 100000
namespace Go.RX.L
open Go Go.RX Go.Proofs
theorem law11_TallyMost_of_t3 {n : Nat} {ds : List D} (h : wtF Try.prog (n + 1) 3 ds) : ∃ x : Int, ds = (eInt .i64) x ∧ inK .i64 x := by
  obtain ⟨m, rfl, o⟩ := wt_int (k := .i64) (by kernel_rfl) h
  exact ⟨m, rfl, o⟩
theorem law11_TallyMost_of_t23 {n : Nat} {ds : List D} (h : wtF Try.prog (n + 1) 23 ds) : ∃ x : Int, ds = (eInt .u64) x ∧ inK .u64 x := by
  obtain ⟨m, rfl, o⟩ := wt_int (k := .u64) (by kernel_rfl) h
  exact ⟨m, rfl, o⟩
theorem law11_TallyMost_of_t2 {n : Nat} {ds : List D} (h : wtF Try.prog (n + 1) 2 ds) : ∃ x : Int, ds = (eInt .i64) x ∧ inK .i64 x := by
  obtain ⟨m, rfl, o⟩ := wt_int (k := .i64) (by kernel_rfl) h
  exact ⟨m, rfl, o⟩
theorem law11_TallyMost_of_t25 {n : Nat} {ds : List D} (h : wtF Try.prog (n + 2) 25 ds) : ∃ x : Vote, ds = Vote.enc x ∧ x.Ok := by
  have h0 := wt_struct (n := n + 1) (ts := [3, 23, 2]) (by kernel_rfl) h
  obtain ⟨a0, b0, rfl, w0, h1⟩ := wtL_cons h0
  obtain ⟨x0, rfl, o0⟩ := law11_TallyMost_of_t3 (n := n + 0) w0
  obtain ⟨a1, b1, rfl, w1, h2⟩ := wtL_cons h1
  obtain ⟨x1, rfl, o1⟩ := law11_TallyMost_of_t23 (n := n + 0) w1
  obtain ⟨a2, b2, rfl, w2, h3⟩ := wtL_cons h2
  obtain ⟨x2, rfl, o2⟩ := law11_TallyMost_of_t2 (n := n + 0) w2
  obtain rfl := wtL_nil h3
  exact ⟨⟨x0, x1, x2⟩, rfl, o0, o1, o2⟩
theorem law11_TallyMost_of_t22 {n : Nat} {ds : List D} (h : wtF Try.prog (n + 3) 22 ds) : ∃ x : List Vote, ds = (eSl 3 Vote.enc) x ∧ (x.length * 24 ≤ reachBytes ∧ ∀ y ∈ x, y.Ok) := by
  obtain ⟨rows, rfl, o, w⟩ := wt_slice (n := n + 2) (e := 25) (sz := 3) (by_ := 24) (by kernel_rfl) (by kernel_rfl) (by kernel_rfl) h
  obtain ⟨l, rfl, q⟩ := wt_rows (en := Vote.enc) (Ok := fun y => y.Ok) (fun r hr => law11_TallyMost_of_t25 (n := n + 0) hr) rows w
  exact ⟨l, rfl, by simpa using o, q⟩
theorem law11_TallyMost_of_t5 {n : Nat} {ds : List D} (h : wtF Try.prog (n + 1) 5 ds) : ∃ x : Int, ds = (eInt .u8) x ∧ inK .u8 x := by
  obtain ⟨m, rfl, o⟩ := wt_int (k := .u8) (by kernel_rfl) h
  exact ⟨m, rfl, o⟩
theorem law11_TallyMost_sound (H : ∀ (l : List Vote) (observers : Int) (now : Int) (fresh : Int) (a : Int) (b : Int), (l.length * 24 ≤ reachBytes ∧ ∀ y ∈ l, y.Ok) → inK .u8 observers → inK .i64 now → inK .i64 fresh → inK .u8 a → inK .u8 b → law11_TallyMost l observers now fresh a b = some true) : ∀ xs, wtA Try.prog Try.f4.params.toList xs → Sound E 4 xs [] fun d _ => d = .bool true := by
  intro xs h
  have h0 : wtA Try.prog [22, 5, 2, 2, 5, 5] xs := h
  obtain ⟨d0, r0, rfl, w0, h1⟩ := wtA_cons h0
  have v0 := wtP_flat (by kernel_rfl) w0
  obtain ⟨x0, e0, o0⟩ := law11_TallyMost_of_t22 (n := 3) v0
  obtain ⟨rfl, -⟩ := List.cons.inj e0
  obtain ⟨d1, r1, rfl, w1, h2⟩ := wtA_cons h1
  have v1 := wtP_flat (by kernel_rfl) w1
  obtain ⟨x1, e1, o1⟩ := law11_TallyMost_of_t5 (n := 5) v1
  obtain ⟨rfl, -⟩ := List.cons.inj e1
  obtain ⟨d2, r2, rfl, w2, h3⟩ := wtA_cons h2
  have v2 := wtP_flat (by kernel_rfl) w2
  obtain ⟨x2, e2, o2⟩ := law11_TallyMost_of_t2 (n := 5) v2
  obtain ⟨rfl, -⟩ := List.cons.inj e2
  obtain ⟨d3, r3, rfl, w3, h4⟩ := wtA_cons h3
  have v3 := wtP_flat (by kernel_rfl) w3
  obtain ⟨x3, e3, o3⟩ := law11_TallyMost_of_t2 (n := 5) v3
  obtain ⟨rfl, -⟩ := List.cons.inj e3
  obtain ⟨d4, r4, rfl, w4, h5⟩ := wtA_cons h4
  have v4 := wtP_flat (by kernel_rfl) w4
  obtain ⟨x4, e4, o4⟩ := law11_TallyMost_of_t5 (n := 5) v4
  obtain ⟨rfl, -⟩ := List.cons.inj e4
  obtain ⟨d5, r5, rfl, w5, h6⟩ := wtA_cons h5
  have v5 := wtP_flat (by kernel_rfl) w5
  obtain ⟨x5, e5, o5⟩ := law11_TallyMost_of_t5 (n := 5) v5
  obtain ⟨rfl, -⟩ := List.cons.inj e5
  obtain rfl := wtA_nil h6
  exact (law11_TallyMost_ok (H x0 x1 x2 x3 x4 x5 o0 o1 o2 o3 o4 o5)).mono fun d s h => h.1
end Go.RX.L

set_option linter.unusedSimpArgs false
set_option linter.unusedVariables false
namespace Go.RX.L
open Go Go.RX

theorem rtime (n : Int) : ref11_time n = some (timeB n) := by
  unfold ref11_time timeB
  by_cases h : n ≥ 0 <;> simp [h]

def freshR (v : Vote) (o n f : Int) : Bool := timeB v.At && (timeB n && (timeB f && (!(decide (v.Observer < 0)) && (!(decide (v.Observer ≥ o)) && (decide (n ≥ v.At) && decide (v.At ≥ n - f))))))

theorem fresh_ok (v : Vote) (o n f : Int) : ref11_Fresh v o n f = some (freshR v o n f) := by
  unfold ref11_Fresh ref11_Fresh_1 freshR
  simp only [rtime, Option.bind_some]
  cases h1 : timeB v.At with
  | false => rfl
  | true =>
    cases h2 : timeB n with
    | false => rfl
    | true =>
      cases h3 : timeB f with
      | false => rfl
      | true =>
        simp [timeB] at h1 h2 h3
        have hw : IntKind.i64.wrap (n - f) = n - f := wI64 (by omega) (by omega)
        rw [hw]
        by_cases h4 : v.Observer < 0
        · simp [h4]
        · by_cases h5 : v.Observer ≥ o
          · simp [h4, h5]
          · by_cases h6 : n ≥ v.At <;> simp [h4, h5, h6]

theorem sumI_two {g h : Nat → Int} {n : Nat} (e : sumI g n + sumI h n > n) : ∃ k, k < n ∧ g k + h k > 1 := by
  rcases Classical.em (∃ k, k < n ∧ g k + h k > 1) with x | x
  · exact x
  · exfalso
    have := sumI_le (g := fun k => g k + h k) (h := fun _ => 1) (n := n) (fun k hk => by
      rcases Int.lt_or_le 1 (g k + h k) with y | y
      · exact absurd ⟨k, hk, y⟩ x
      · exact y)
    rw [sumI_add, sumI_const] at this
    omega

theorem most_loop {l : List Vote} {o n f : Int} {a b : Nat} (hl : l.length ≤ 300) (hv : ∀ v ∈ l, VOk v) (ha : a < 64) (hb : b < 64) (ho : 0 ≤ o ∧ o ≤ 255) {j : Nat} {v : Vote} (hj : l[j]? = some v) (hva : v.Up.toNat.testBit a = true) (hvb : v.Up.toNat.testBit b = true) (hf : freshR v o n f = true) :
    ∀ (m k : Nat), k + m = j → Ev law11_TallyMost_step (.s2 l o n f true (shlI .u64 1 a) (shlI .u64 1 b) k) true := by
  have hjl := (List.getElem?_eq_some_iff.1 hj).1
  have ew : IntKind.i64.wrap o = o := wI64 (by omega) (by omega)
  have bit : ∀ (u : Vote) (c : Nat), VOk u → c < 64 → (andI .u64 u.Up (shlI .u64 1 c) != 0) = u.Up.toNat.testBit c := fun u c hu hc => by
    have hu' := hu.up
    have e : u.Up = ((u.Up.toNat : Nat) : Int) := (Int.toNat_of_nonneg hu'.1).symm
    have hp : (2 : Nat) ^ c ≤ 2 ^ 63 := Nat.pow_le_pow_right (by decide) (by omega)
    rw [shlI64 hc]
    rw [e, andI64 (by omega) (by omega)]
    simp only [Int.toNat_natCast]
    cases ht : u.Up.toNat.testBit c with
    | false => rw [and_pow_eq.2 ht]; rfl
    | true =>
      have : ¬ (u.Up.toNat &&& 2 ^ c = 0) := fun h => by rw [and_pow_eq.1 h] at ht; cases ht
      simp [this]
  intro m
  induction m with
  | zero =>
    intro k hk
    obtain rfl : k = j := by omega
    have e1 := bit v a (hv v (List.mem_of_getElem? hj)) ha
    have e2 := bit v b (hv v (List.mem_of_getElem? hj)) hb
    refine .next (s' := .s3 l o n f true (shlI .u64 1 a) (shlI .u64 1 b) k true) ?_ (.done rfl)
    have hk' : l[k] = v := by rw [List.getElem?_eq_getElem hjl] at hj; exact Option.some.inj hj
    simp [law11_TallyMost_step, law11_TallyMost_2, hjl, hk', e1, e2, hva, hvb, fresh_ok, hf, ew]
  | succ m ih =>
    intro k hk
    have hkl : k < l.length := by omega
    have hw : IntKind.i64.wrap ((k : Int) + 1) = ((k + 1 : Nat) : Int) := by rw [wI64 (by omega) (by omega)]; rfl
    have e1 := bit l[k] a (hv _ (List.getElem_mem hkl)) ha
    have e2 := bit l[k] b (hv _ (List.getElem_mem hkl)) hb
    have go : ∀ t : Bool, law11_TallyMost_step (.s2 l o n f true (shlI .u64 1 a) (shlI .u64 1 b) k) = some (.inl (.s3 l o n f true (shlI .u64 1 a) (shlI .u64 1 b) k t)) → Ev law11_TallyMost_step (.s2 l o n f true (shlI .u64 1 a) (shlI .u64 1 b) k) true := fun t h => by
      refine .next h ?_
      cases t with
      | true => exact .done rfl
      | false => exact .next (s' := .s2 l o n f true (shlI .u64 1 a) (shlI .u64 1 b) ((k + 1 : Nat) : Int)) (by simp only [law11_TallyMost_step, law11_TallyMost_3, hw]; rfl) (ih (k + 1) (by omega))
    cases t1 : l[k].Up.toNat.testBit a with
    | false => exact go false (by simp [law11_TallyMost_step, law11_TallyMost_2, hkl, e1, t1])
    | true =>
      cases t2 : l[k].Up.toNat.testBit b with
      | false => exact go false (by simp [law11_TallyMost_step, law11_TallyMost_2, hkl, e1, t1, e2, t2])
      | true => exact go (freshR l[k] o n f) (by simp [law11_TallyMost_step, law11_TallyMost_2, hkl, e1, t1, e2, t2, fresh_ok, ew])

theorem votes_ok {l : List Vote} (h : ∀ y ∈ l, y.Ok) : ∀ v ∈ l, VOk v := fun v hv => ⟨(h v hv).1, (h v hv).2.1, (h v hv).2.2⟩

theorem tally_guard {l : List Vote} {o n f : Int} {j : Nat} (h : (tallyP l o n f).testBit j = true) : timeB n = true ∧ timeB f = true ∧ 1 ≤ o := by
  unfold tallyP at h
  split at h
  · rename_i hc
    simp only [Bool.and_eq_true, Bool.not_eq_true', decide_eq_false_iff_not] at hc
    exact ⟨hc.1, hc.2.1, by omega⟩
  · simp at h

theorem tallyMost : ∀ (l : List Vote) (observers now fresh a b : Int), (l.length * 24 ≤ reachBytes ∧ ∀ y ∈ l, y.Ok) → inK .u8 observers → inK .i64 now → inK .i64 fresh → inK .u8 a → inK .u8 b → law11_TallyMost l observers now fresh a b = some true := by
  intro l o n f a b hl ho hn hf ha hb
  have hv := votes_ok hl.2
  have ho' := inU8.1 ho
  have ha' := inU8.1 ha
  have hb' := inU8.1 hb
  by_cases hlen : l.length > 300
  · refine evf_of (.done ?_)
    simp only [law11_TallyMost_step, law11_TallyMost_0, head_ok]
    simp [show (300 : Int) < l.length by omega]
  have ew : IntKind.i64.wrap o = o := wI64 (by omega) (by omega)
  obtain ⟨x, hx⟩ := Int.eq_ofNat_of_zero_le (show 0 ≤ Int.tmod a 64 by rw [Int.tmod_eq_emod_of_nonneg ha'.1]; omega)
  obtain ⟨y, hy⟩ := Int.eq_ofNat_of_zero_le (show 0 ≤ Int.tmod b 64 by rw [Int.tmod_eq_emod_of_nonneg hb'.1]; omega)
  have hx64 : x < 64 := by rw [Int.tmod_eq_emod_of_nonneg ha'.1] at hx; omega
  have hy64 : y < 64 := by rw [Int.tmod_eq_emod_of_nonneg hb'.1] at hy; omega
  have hT := tally_lt l o n f
  have bit : ∀ c : Nat, c < 64 → (andI .u64 (tallyP l o n f : Nat) (shlI .u64 1 c) == 0) = !((tallyP l o n f).testBit c) := fun c hc => by
    have hp : (2 : Nat) ^ c ≤ 2 ^ 63 := Nat.pow_le_pow_right (by decide) (by omega)
    rw [shlI64 hc, andI64 (by omega) (by omega)]
    cases ht : (tallyP l o n f).testBit c with
    | false => rw [and_pow_eq.2 ht]; rfl
    | true =>
      have : ¬ (tallyP l o n f &&& 2 ^ c = 0) := fun h => by rw [and_pow_eq.1 h] at ht; cases ht
      simp; omega
  have s0 : law11_TallyMost_step (.s0 l o n f a b) = some (.inl (.s1 l o n f true (shlI .u64 1 x) (shlI .u64 1 y) (!((tallyP l o n f).testBit x) || !((tallyP l o n f).testBit y)))) := by
    simp only [law11_TallyMost_step, law11_TallyMost_0, head_ok, Option.bind_some, ew, tal_ok (show l.length ≤ 300000 by omega) hv (show o ≤ 9223372036854775807 by omega), hx, hy, bit x hx64, bit y hy64]
    cases (tallyP l o n f).testBit x <;> simp [show ¬ (300 : Int) < l.length by omega, show ¬ ((x : Int) < 0) by omega, show ¬ ((y : Int) < 0) by omega]
  refine evf_of (.next s0 ?_)
  cases hbx : (tallyP l o n f).testBit x with
  | false => exact .done rfl
  | true =>
    cases hby : (tallyP l o n f).testBit y with
    | false => exact .done rfl
    | true =>
      obtain ⟨tn, tf, o1⟩ := tally_guard hbx
      obtain ⟨p, hp⟩ := Int.eq_ofNat_of_zero_le (show 0 ≤ o by omega)
      subst hp
      have c1 := hbx
      have c2 := hby
      rw [tally_bit l (by omega) tn tf x hx64] at c1
      rw [tally_bit l (by omega) tn tf y hy64] at c2
      simp only [decide_eq_true_eq] at c1 c2
      obtain ⟨k, hk, hkk⟩ := sumI_two (g := fun k => con l n f x k) (h := fun k => con l n f y k) (n := p) (by omega)
      have k1 := con_01 l n f x k
      have k2 := con_01 l n f y k
      -- the observer's first vote
      rcases idx_spec k l 0 with ⟨-, h2, -⟩ | ⟨j, v, h1, h2, h3, h4, h5⟩
      · exfalso; simp only [con, h2] at hkk; omega
      · simp only [con, h4] at hkk
        have hfr : freshB v n f = true := by
          cases hq : freshB v n f with
          | true => rfl
          | false => rw [hq] at hkk; simp at hkk
        rw [hfr] at hkk
        simp only [if_true] at hkk
        have hva : v.Up.toNat.testBit x = true := by
          cases hq : v.Up.toNat.testBit x with
          | true => rfl
          | false => have := bitN_01 v.Up y; unfold bitN at hkk this; rw [hq] at hkk; simp only [Bool.false_eq_true, if_false] at hkk; omega
        have hvb : v.Up.toNat.testBit y = true := by
          cases hq : v.Up.toNat.testBit y with
          | true => rfl
          | false => have := bitN_01 v.Up x; unfold bitN at hkk this; rw [hq] at hkk; simp only [Bool.false_eq_true, if_false] at hkk; omega
        have hR : freshR v p n f = true := by
          unfold freshB at hfr
          simp only [Bool.and_eq_true, Bool.not_eq_true', decide_eq_false_iff_not] at hfr
          unfold freshR
          rw [tn, tf, hfr.1]
          simp; omega
        exact .next (s' := .s2 l p n f true (shlI .u64 1 x) (shlI .u64 1 y) ((0 : Nat) : Int)) rfl (most_loop (by omega) hv hx64 hy64 (by omega) h1 hva hvb hR j 0 (by omega))

end Go.RX.L

set_option linter.unusedSimpArgs false
set_option linter.unusedVariables false
set_option maxRecDepth 100000
set_option maxHeartbeats 4000000
namespace Go.RX.L
open Go Go.RX Go.Proofs
def law11_TallyMore_Q (y : Bool) (d : D) (s : Sto) : Prop := d = D.bool y ∧ s = []
noncomputable def law11_TallyMore_1M (l : List Vote) (now : Int) (fresh : Int) (who : Int) (up : Bool) (n : Int) (t45 : Bool) : M := { td := [It.code (codeAt (bodyOf Try.f5) [1, 1, 1, 0, 1]), It.code (codeAt (bodyOf Try.f5) [1, 1, 1, 1])], fr := [(0, D.sl false 3 (List.map Vote.enc l)), (2, D.int .i64 now), (3, D.int .i64 fresh), (4, D.int .u8 who), (13, D.bool up), (14, D.int .i64 n), (45, D.bool t45)], st := [] }
noncomputable def law11_TallyMore_1 (l : List Vote) (now : Int) (fresh : Int) (who : Int) (up : Bool) (n : Int) (t45 : Bool) : Option Bool := (bif t45 then (some up) else ((tally_Tally l n now fresh).bind fun y2 => (bif (!decide ((n : Int) = 0)) then ((tally_Put l (⟨(Int.tmod (IntKind.i64.wrap (who)) n), 18446744073709551615, now⟩ : Vote)).bind fun y4 => ((tally_Tally y4 n now fresh).bind fun y5 => ((tally_Put l (⟨(Int.tmod (IntKind.i64.wrap (who)) n), 0, now⟩ : Vote)).bind fun y6 => ((tally_Tally y6 n now fresh).bind fun y7 => (bif (decide ((0 + (List.map Vote.enc l).length) * 24 ≤ bytesLim)) then (bif (decide (((List.map Vote.enc l).length + 1) * 24 ≤ bytesLim)) then ((tally_Tally (l ++ [(⟨n, 18446744073709551615, now⟩ : Vote)]) n now fresh).bind fun y10 => (bif up then (bif (((andNotI .u64 y2 y5) : Int) == 0) then (bif (((andNotI .u64 y7 y2) : Int) == 0) then (some ((y10 : Int) == y2)) else (some false)) else (some false)) else (some false))) else none) else none))))) else none)))
theorem law11_TallyMore_1_ok {l : List Vote} {now : Int} {fresh : Int} {who : Int} {up : Bool} {n : Int} {t45 : Bool} {r : Bool} (h : law11_TallyMore_1 l now fresh who up n t45 = some r) : FinQ E ⟨Try.f5, false, 0⟩ (QW (law11_TallyMore_Q r)) (.go (law11_TallyMore_1M l now fresh who up n t45)) := by
  unfold law11_TallyMore_1 at h
  refine adv_ok hm 1 _ ?_
  refine p_split h (by kernel_rfl) (fun h1 h => ?_) (fun h1 h => ?_)
  · -- true
    refine adv_ok hm 6 _ ?_
    obtain rfl := Option.some.inj h
    exact r_retF [] (d := D.bool up) (s := []) (by kernel_rfl) ⟨rfl, rfl⟩
  · -- false
    refine adv_ok hm 8 _ ?_
    have ok2 := fun (y : Int) (hy : tally_Tally l n now fresh = some y) => tally_Tally_ok hy
    refine p_callE [] (args1 := [D.sl false 3 (List.map Vote.enc l), D.int .i64 n, D.int .i64 now, D.int .i64 fresh]) (args := [D.sl false 3 (List.map Vote.enc l), D.int .i64 n, D.int .i64 now, D.int .i64 fresh]) (fun y2 => D.int .u64 y2) (fun y2 => []) h (by kernel_rfl) ⟨rfl, rfl⟩ ok2 (fun y2 h2 h => ?_)
    refine adv_ok hm 8 _ ?_
    refine p_need h (by kernel_rfl) (fun h3 h => ?_)
    refine adv_ok hm 9 _ ?_
    have ok4 := fun (y : List Vote) (hy : tally_Put l (⟨(Int.tmod (IntKind.i64.wrap (who)) n), 18446744073709551615, now⟩ : Vote) = some y) => tally_Put_ok hy
    refine p_callE [] (args1 := [D.sl false 3 (List.map Vote.enc l), D.agg [D.int .i64 (Int.tmod (IntKind.i64.wrap (who)) n), D.int .u64 18446744073709551615, D.int .i64 now]]) (args := [D.sl false 3 (List.map Vote.enc l), D.agg [D.int .i64 (Int.tmod (IntKind.i64.wrap (who)) n), D.int .u64 18446744073709551615, D.int .i64 now]]) (fun y4 => D.sl false 3 (List.map Vote.enc y4)) (fun y4 => []) h (by kernel_rfl) ⟨rfl, rfl⟩ ok4 (fun y4 h4 h => ?_)
    refine adv_ok hm 4 _ ?_
    have ok5 := fun (y : Int) (hy : tally_Tally y4 n now fresh = some y) => tally_Tally_ok hy
    refine p_callE [] (args1 := [D.sl false 3 (List.map Vote.enc y4), D.int .i64 n, D.int .i64 now, D.int .i64 fresh]) (args := [D.sl false 3 (List.map Vote.enc y4), D.int .i64 n, D.int .i64 now, D.int .i64 fresh]) (fun y5 => D.int .u64 y5) (fun y5 => []) h (by kernel_rfl) ⟨rfl, rfl⟩ ok5 (fun y5 h5 h => ?_)
    refine adv_ok hm 9 _ ?_
    have ok6 := fun (y : List Vote) (hy : tally_Put l (⟨(Int.tmod (IntKind.i64.wrap (who)) n), 0, now⟩ : Vote) = some y) => tally_Put_ok hy
    refine p_callE [] (args1 := [D.sl false 3 (List.map Vote.enc l), D.agg [D.int .i64 (Int.tmod (IntKind.i64.wrap (who)) n), D.int .u64 0, D.int .i64 now]]) (args := [D.sl false 3 (List.map Vote.enc l), D.agg [D.int .i64 (Int.tmod (IntKind.i64.wrap (who)) n), D.int .u64 0, D.int .i64 now]]) (fun y6 => D.sl false 3 (List.map Vote.enc y6)) (fun y6 => []) h (by kernel_rfl) ⟨rfl, rfl⟩ ok6 (fun y6 h6 h => ?_)
    refine adv_ok hm 4 _ ?_
    have ok7 := fun (y : Int) (hy : tally_Tally y6 n now fresh = some y) => tally_Tally_ok hy
    refine p_callE [] (args1 := [D.sl false 3 (List.map Vote.enc y6), D.int .i64 n, D.int .i64 now, D.int .i64 fresh]) (args := [D.sl false 3 (List.map Vote.enc y6), D.int .i64 n, D.int .i64 now, D.int .i64 fresh]) (fun y7 => D.int .u64 y7) (fun y7 => []) h (by kernel_rfl) ⟨rfl, rfl⟩ ok7 (fun y7 h7 h => ?_)
    refine adv_ok hm 7 _ ?_
    refine p_need h (by kernel_rfl) (fun h8 h => ?_)
    refine adv_ok hm 1 _ ?_
    refine r_rows (List.map Vote.enc l) (List.map Vote.enc l) (by kernel_rfl) (rfl) ?_
    refine adv_ok hm 6 _ ?_
    refine p_need h (by kernel_rfl) (fun h9 h => ?_)
    refine r_needT (b := (Nat.ble (0 + (List.map Vote.enc l).length) ((List.map Vote.enc l).length))) (by kernel_rfl) (ble_full _) ?_
    refine r_rows (List.take ((List.map Vote.enc l).length) (List.drop 0 (List.map Vote.enc l)) ++ (List.map Vote.enc ([(⟨n, 18446744073709551615, now⟩ : Vote)]))) (List.map Vote.enc (l ++ [(⟨n, 18446744073709551615, now⟩ : Vote)])) (by kernel_rfl) (rows_app _ _ _) ?_
    refine adv_ok hm 4 _ ?_
    refine r_needT (b := (Nat.ble (0 + (List.map Vote.enc (l ++ [(⟨n, 18446744073709551615, now⟩ : Vote)])).length) ((List.map Vote.enc (l ++ [(⟨n, 18446744073709551615, now⟩ : Vote)])).length))) (by kernel_rfl) (ble_full _) ?_
    have ok10 := fun (y : Int) (hy : tally_Tally (l ++ [(⟨n, 18446744073709551615, now⟩ : Vote)]) n now fresh = some y) => tally_Tally_ok hy
    refine p_callE [] (args1 := [D.sl false 3 (List.take ((List.map Vote.enc (l ++ [(⟨n, 18446744073709551615, now⟩ : Vote)])).length) (List.drop 0 (List.map Vote.enc (l ++ [(⟨n, 18446744073709551615, now⟩ : Vote)])))), D.int .i64 n, D.int .i64 now, D.int .i64 fresh]) (args := [D.sl false 3 (List.map Vote.enc (l ++ [(⟨n, 18446744073709551615, now⟩ : Vote)])), D.int .i64 n, D.int .i64 now, D.int .i64 fresh]) (fun y10 => D.int .u64 y10) (fun y10 => []) h (by kernel_rfl) ⟨by simp [List.take_of_length_le], rfl⟩ ok10 (fun y10 h10 h => ?_)
    refine adv_ok hm 7 _ ?_
    refine p_split h (by kernel_rfl) (fun h11 h => ?_) (fun h11 h => ?_)
    · -- true
      refine adv_ok hm 10 _ ?_
      refine p_split h (by kernel_rfl) (fun h12 h => ?_) (fun h12 h => ?_)
      · -- true
        refine adv_ok hm 10 _ ?_
        refine p_split h (by kernel_rfl) (fun h13 h => ?_) (fun h13 h => ?_)
        · -- true
          refine adv_ok hm 9 _ ?_
          obtain rfl := Option.some.inj h
          exact r_retF [] (d := D.bool ((y10 : Int) == y2)) (s := []) (by kernel_rfl) ⟨rfl, rfl⟩
        · -- false
          refine adv_ok hm 9 _ ?_
          obtain rfl := Option.some.inj h
          exact r_retF [] (d := D.bool false) (s := []) (by kernel_rfl) ⟨rfl, rfl⟩
      · -- false
        refine adv_ok hm 20 _ ?_
        obtain rfl := Option.some.inj h
        exact r_retF [] (d := D.bool false) (s := []) (by kernel_rfl) ⟨rfl, rfl⟩
    · -- false
      refine adv_ok hm 31 _ ?_
      obtain rfl := Option.some.inj h
      exact r_retF [] (d := D.bool false) (s := []) (by kernel_rfl) ⟨rfl, rfl⟩
noncomputable def law11_TallyMore (l : List Vote) (observers : Int) (now : Int) (fresh : Int) (who : Int) (at_ : Int) : Option Bool := ((law11_head ).bind fun y1 => (bif (decide (((((List.map Vote.enc l).length : Nat) : Int) : Int) > 300)) then (law11_TallyMore_1 l now fresh who y1 (IntKind.i64.wrap (observers)) true) else (bif (((IntKind.i64.wrap (observers)) : Int) == 0) then (law11_TallyMore_1 l now fresh who y1 (IntKind.i64.wrap (observers)) true) else (bif (decide ((now : Int) < 0)) then (law11_TallyMore_1 l now fresh who y1 (IntKind.i64.wrap (observers)) true) else (bif (decide ((now : Int) > 1099511627776)) then (law11_TallyMore_1 l now fresh who y1 (IntKind.i64.wrap (observers)) true) else (bif (decide ((fresh : Int) < 0)) then (law11_TallyMore_1 l now fresh who y1 (IntKind.i64.wrap (observers)) true) else (law11_TallyMore_1 l now fresh who y1 (IntKind.i64.wrap (observers)) (decide ((fresh : Int) > 1099511627776)))))))))
theorem law11_TallyMore_ok {l : List Vote} {observers : Int} {now : Int} {fresh : Int} {who : Int} {at_ : Int} {r : Bool} (h : law11_TallyMore l observers now fresh who at_ = some r) : Sound E 5 [D.sl false 3 (List.map Vote.enc l), D.int .u8 observers, D.int .i64 now, D.int .i64 fresh, D.int .u8 who, D.int .i64 at_] [] (law11_TallyMore_Q r) := by
  refine sound_ofW (m := ⟨[.code (bodyOf Try.f5)], [(0, D.sl false 3 (List.map Vote.enc l)), (1, D.int .u8 observers), (2, D.int .i64 now), (3, D.int .i64 fresh), (4, D.int .u8 who), (5, D.int .i64 at_)], []⟩) (fn := Try.f5) (by kernel_rfl) (by kernel_rfl) ?_
  show FinQ E ⟨Try.f5, false, 0⟩ (QW (law11_TallyMore_Q r)) _
  unfold law11_TallyMore at h
  refine adv_ok hm 7 _ ?_
  have ok1 := fun (y : Bool) (hy : law11_head  = some y) => law11_head_ok hy
  refine p_callE [] (args1 := []) (args := []) (fun y1 => D.bool y1) (fun y1 => []) h (by kernel_rfl) ⟨rfl, rfl⟩ ok1 (fun y1 h1 h => ?_)
  refine adv_ok hm 16 _ ?_
  refine p_split h (by kernel_rfl) (fun h2 h => ?_) (fun h2 h => ?_)
  · -- true
    refine adv_ok hm 33 _ ?_
    exact r_cut 35184372113437 [] (m' := (law11_TallyMore_1M l now fresh who y1 (IntKind.i64.wrap (observers)) true)) (by kernel_rfl) (law11_TallyMore_1_ok h)
  · -- false
    refine adv_ok hm 6 _ ?_
    refine p_split h (by kernel_rfl) (fun h3 h => ?_) (fun h3 h => ?_)
    · -- true
      refine adv_ok hm 26 _ ?_
      exact r_cut 35184372113437 [] (m' := (law11_TallyMore_1M l now fresh who y1 (IntKind.i64.wrap (observers)) true)) (by kernel_rfl) (law11_TallyMore_1_ok h)
    · -- false
      refine adv_ok hm 6 _ ?_
      refine p_split h (by kernel_rfl) (fun h4 h => ?_) (fun h4 h => ?_)
      · -- true
        refine adv_ok hm 19 _ ?_
        exact r_cut 35184372113437 [] (m' := (law11_TallyMore_1M l now fresh who y1 (IntKind.i64.wrap (observers)) true)) (by kernel_rfl) (law11_TallyMore_1_ok h)
      · -- false
        refine adv_ok hm 6 _ ?_
        refine p_split h (by kernel_rfl) (fun h5 h => ?_) (fun h5 h => ?_)
        · -- true
          refine adv_ok hm 12 _ ?_
          exact r_cut 35184372113437 [] (m' := (law11_TallyMore_1M l now fresh who y1 (IntKind.i64.wrap (observers)) true)) (by kernel_rfl) (law11_TallyMore_1_ok h)
        · -- false
          refine adv_ok hm 6 _ ?_
          refine p_split h (by kernel_rfl) (fun h6 h => ?_) (fun h6 h => ?_)
          · -- true
            refine adv_ok hm 5 _ ?_
            exact r_cut 35184372113437 [] (m' := (law11_TallyMore_1M l now fresh who y1 (IntKind.i64.wrap (observers)) true)) (by kernel_rfl) (law11_TallyMore_1_ok h)
          · -- false
            refine adv_ok hm 5 _ ?_
            exact r_cut 35184372113437 [] (m' := (law11_TallyMore_1M l now fresh who y1 (IntKind.i64.wrap (observers)) (decide ((fresh : Int) > 1099511627776)))) (by kernel_rfl) (law11_TallyMore_1_ok h)
end Go.RX.L

set_option linter.unusedSimpArgs false
set_option linter.unusedVariables false
set_option maxRecDepth 100000
namespace Go.RX.L
open Go Go.RX Go.Proofs
theorem law11_TallyMore_of_t3 {n : Nat} {ds : List D} (h : wtF Try.prog (n + 1) 3 ds) : ∃ x : Int, ds = (eInt .i64) x ∧ inK .i64 x := by
  obtain ⟨m, rfl, o⟩ := wt_int (k := .i64) (by kernel_rfl) h
  exact ⟨m, rfl, o⟩
theorem law11_TallyMore_of_t23 {n : Nat} {ds : List D} (h : wtF Try.prog (n + 1) 23 ds) : ∃ x : Int, ds = (eInt .u64) x ∧ inK .u64 x := by
  obtain ⟨m, rfl, o⟩ := wt_int (k := .u64) (by kernel_rfl) h
  exact ⟨m, rfl, o⟩
theorem law11_TallyMore_of_t2 {n : Nat} {ds : List D} (h : wtF Try.prog (n + 1) 2 ds) : ∃ x : Int, ds = (eInt .i64) x ∧ inK .i64 x := by
  obtain ⟨m, rfl, o⟩ := wt_int (k := .i64) (by kernel_rfl) h
  exact ⟨m, rfl, o⟩
theorem law11_TallyMore_of_t25 {n : Nat} {ds : List D} (h : wtF Try.prog (n + 2) 25 ds) : ∃ x : Vote, ds = Vote.enc x ∧ x.Ok := by
  have h0 := wt_struct (n := n + 1) (ts := [3, 23, 2]) (by kernel_rfl) h
  obtain ⟨a0, b0, rfl, w0, h1⟩ := wtL_cons h0
  obtain ⟨x0, rfl, o0⟩ := law11_TallyMore_of_t3 (n := n + 0) w0
  obtain ⟨a1, b1, rfl, w1, h2⟩ := wtL_cons h1
  obtain ⟨x1, rfl, o1⟩ := law11_TallyMore_of_t23 (n := n + 0) w1
  obtain ⟨a2, b2, rfl, w2, h3⟩ := wtL_cons h2
  obtain ⟨x2, rfl, o2⟩ := law11_TallyMore_of_t2 (n := n + 0) w2
  obtain rfl := wtL_nil h3
  exact ⟨⟨x0, x1, x2⟩, rfl, o0, o1, o2⟩
theorem law11_TallyMore_of_t22 {n : Nat} {ds : List D} (h : wtF Try.prog (n + 3) 22 ds) : ∃ x : List Vote, ds = (eSl 3 Vote.enc) x ∧ (x.length * 24 ≤ reachBytes ∧ ∀ y ∈ x, y.Ok) := by
  obtain ⟨rows, rfl, o, w⟩ := wt_slice (n := n + 2) (e := 25) (sz := 3) (by_ := 24) (by kernel_rfl) (by kernel_rfl) (by kernel_rfl) h
  obtain ⟨l, rfl, q⟩ := wt_rows (en := Vote.enc) (Ok := fun y => y.Ok) (fun r hr => law11_TallyMore_of_t25 (n := n + 0) hr) rows w
  exact ⟨l, rfl, by simpa using o, q⟩
theorem law11_TallyMore_of_t5 {n : Nat} {ds : List D} (h : wtF Try.prog (n + 1) 5 ds) : ∃ x : Int, ds = (eInt .u8) x ∧ inK .u8 x := by
  obtain ⟨m, rfl, o⟩ := wt_int (k := .u8) (by kernel_rfl) h
  exact ⟨m, rfl, o⟩
theorem law11_TallyMore_sound (H : ∀ (l : List Vote) (observers : Int) (now : Int) (fresh : Int) (who : Int) (at_ : Int), (l.length * 24 ≤ reachBytes ∧ ∀ y ∈ l, y.Ok) → inK .u8 observers → inK .i64 now → inK .i64 fresh → inK .u8 who → inK .i64 at_ → law11_TallyMore l observers now fresh who at_ = some true) : ∀ xs, wtA Try.prog Try.f5.params.toList xs → Sound E 5 xs [] fun d _ => d = .bool true := by
  intro xs h
  have h0 : wtA Try.prog [22, 5, 2, 2, 5, 2] xs := h
  obtain ⟨d0, r0, rfl, w0, h1⟩ := wtA_cons h0
  have v0 := wtP_flat (by kernel_rfl) w0
  obtain ⟨x0, e0, o0⟩ := law11_TallyMore_of_t22 (n := 3) v0
  obtain ⟨rfl, -⟩ := List.cons.inj e0
  obtain ⟨d1, r1, rfl, w1, h2⟩ := wtA_cons h1
  have v1 := wtP_flat (by kernel_rfl) w1
  obtain ⟨x1, e1, o1⟩ := law11_TallyMore_of_t5 (n := 5) v1
  obtain ⟨rfl, -⟩ := List.cons.inj e1
  obtain ⟨d2, r2, rfl, w2, h3⟩ := wtA_cons h2
  have v2 := wtP_flat (by kernel_rfl) w2
  obtain ⟨x2, e2, o2⟩ := law11_TallyMore_of_t2 (n := 5) v2
  obtain ⟨rfl, -⟩ := List.cons.inj e2
  obtain ⟨d3, r3, rfl, w3, h4⟩ := wtA_cons h3
  have v3 := wtP_flat (by kernel_rfl) w3
  obtain ⟨x3, e3, o3⟩ := law11_TallyMore_of_t2 (n := 5) v3
  obtain ⟨rfl, -⟩ := List.cons.inj e3
  obtain ⟨d4, r4, rfl, w4, h5⟩ := wtA_cons h4
  have v4 := wtP_flat (by kernel_rfl) w4
  obtain ⟨x4, e4, o4⟩ := law11_TallyMore_of_t5 (n := 5) v4
  obtain ⟨rfl, -⟩ := List.cons.inj e4
  obtain ⟨d5, r5, rfl, w5, h6⟩ := wtA_cons h5
  have v5 := wtP_flat (by kernel_rfl) w5
  obtain ⟨x5, e5, o5⟩ := law11_TallyMore_of_t2 (n := 5) v5
  obtain ⟨rfl, -⟩ := List.cons.inj e5
  obtain rfl := wtA_nil h6
  exact (law11_TallyMore_ok (H x0 x1 x2 x3 x4 x5 o0 o1 o2 o3 o4 o5)).mono fun d s h => h.1
end Go.RX.L

set_option linter.unusedSimpArgs false
set_option linter.unusedVariables false
namespace Go.RX.L
open Go Go.RX

theorem more_1 {l : List Vote} {n f who o : Int} {t : Bool} (hl : l.length ≤ 300) (hv : ∀ v ∈ l, VOk v) (hn : 0 ≤ n ∧ n ≤ 1099511627776) (hf : 0 ≤ f ∧ f ≤ 1099511627776) (ho : 1 ≤ o ∧ o ≤ 255) (hw : inK .u8 who) :
    law11_TallyMore_1 l n f who true o t = some true := by
  have hw' := inU8.1 hw
  unfold law11_TallyMore_1
  cases t with
  | true => rfl
  | false =>
    obtain ⟨p, hp⟩ := Int.eq_ofNat_of_zero_le (show 0 ≤ o by omega)
    subst hp
    have tn : timeB n = true := by simp [timeB]; omega
    have tf : timeB f = true := by simp [timeB]; omega
    have ew : IntKind.i64.wrap who = who := wI64 (by omega) (by omega)
    have em : Int.tmod who p = who % p := Int.tmod_eq_emod_of_nonneg hw'.1
    have hm0 := Int.emod_nonneg who (show (p : Int) ≠ 0 by omega)
    have hm1 := Int.emod_lt_of_pos who (show (0 : Int) < p by omega)
    obtain ⟨i, hi⟩ := Int.eq_ofNat_of_zero_le hm0
    have hip : i < p := by omega
    have vok : ∀ (k : Nat) (u : Int), k ≤ 255 → (0 ≤ u ∧ u ≤ 18446744073709551615) → VOk ⟨k, u, n⟩ := fun k u hk hu => ⟨by simp only; omega, hu, by simp only; omega⟩
    have put : ∀ u : Int, (0 ≤ u ∧ u ≤ 18446744073709551615) → ∀ v ∈ putP l ⟨i, u, n⟩, VOk v := fun u hu v hv' => by
      rcases put_mem hv' with h | rfl
      · exact hv v h
      · exact vok i u (by omega) hu
    have plen : ∀ u : Int, (putP l ⟨i, u, n⟩).length ≤ 300000 := fun u => by rcases put_len l ⟨i, u, n⟩ with h | h <;> omega
    have happ : ∀ v ∈ l ++ [(⟨p, 18446744073709551615, n⟩ : Vote)], VOk v := fun v hv' => by
      rcases List.mem_append.1 hv' with h | h
      · exact hv v h
      · simp at h; subst h; exact vok p _ (by omega) (by decide)
    have hfresh : ∀ u : Int, freshB ⟨i, u, n⟩ n f = true := fun u => by unfold freshB; simp [tn]; omega
    -- what observers add
    have cput : ∀ (u : Int) (b k : Nat), con (putP l ⟨i, u, n⟩) n f b k = if k = i then bitN u b else con l n f b k := fun u b k => by
      unfold con
      rw [first_put]
      by_cases hk : k = i
      · subst hk; simp [hfresh u]
      · have : ¬ ((i : Int) = k) := by omega
        simp [this, hk]
    have capp : ∀ (b k : Nat), k < p → con (l ++ [⟨p, 18446744073709551615, n⟩]) n f b k = con l n f b k := fun b k hk => by
      unfold con firstV
      rw [List.find?_append]
      have : ((p : Int) == k) = false := by simp; omega
      simp [this]
    have full : ∀ b : Nat, b < 64 → bitN 18446744073709551615 b = 1 := fun b hb => by
      unfold bitN
      rw [show (18446744073709551615 : Int).toNat = 2 ^ 64 - 1 by rfl, Nat.testBit_two_pow_sub_one]
      simp [hb]
    have le1 : ∀ b, b < 64 → sumI (fun k => con l n f b k) p ≤ sumI (fun k => con (putP l ⟨i, 18446744073709551615, n⟩) n f b k) p := fun b hb => sumI_le fun k _ => by
      rw [cput]
      split
      · rw [full b hb]; exact (con_01 l n f b k).2
      · exact Int.le_refl _
    have le2 : ∀ b, sumI (fun k => con (putP l ⟨i, 0, n⟩) n f b k) p ≤ sumI (fun k => con l n f b k) p := fun b => sumI_le fun k _ => by
      rw [cput]
      split
      · have := (con_01 l n f b k).1
        simpa [bitN] using this
      · exact Int.le_refl _
    have T0 := tally_lt l p n f
    have T1 := tally_lt (putP l ⟨i, 18446744073709551615, n⟩) p n f
    have T2 := tally_lt (putP l ⟨i, 0, n⟩) p n f
    have sub : ∀ {x y : Nat}, x < 18446744073709551616 → y < 18446744073709551616 → (∀ b, b < 64 → x.testBit b = true → y.testBit b = true) → (andNotI .u64 x y == 0) = true := fun {x y} hx hy h => by
      rw [andNotI64 hx hy]
      have : x &&& (18446744073709551615 - y) = 0 := by
        refine Nat.eq_of_testBit_eq fun b => ?_
        rw [Nat.testBit_and, testBit_not64 hy, Nat.zero_testBit]
        by_cases hb : b < 64
        · cases hxb : x.testBit b with
          | false => rfl
          | true => simp [h b hb hxb]
        · simp [hb]
      rw [this]; rfl
    have s1 := sub T0 T1 fun b hb h => by
      rw [tally_bit l (by omega) tn tf b hb] at h
      rw [tally_bit _ (by omega) tn tf b hb]
      have := le1 b hb
      simp only [decide_eq_true_eq] at h ⊢
      omega
    have s2 := sub T2 T0 fun b hb h => by
      rw [tally_bit _ (by omega) tn tf b hb] at h
      rw [tally_bit l (by omega) tn tf b hb]
      have := le2 b
      simp only [decide_eq_true_eq] at h ⊢
      omega
    have s3 : tallyP (l ++ [⟨p, 18446744073709551615, n⟩]) p n f = tallyP l p n f := by
      refine Nat.eq_of_testBit_eq fun b => ?_
      by_cases hb : b < 64
      · rw [tally_bit _ (by omega) tn tf b hb, tally_bit l (by omega) tn tf b hb, sumI_congr (h := fun k => con l n f b k) fun k hk => capp b k hk]
      · have l1 := tally_lt (l ++ [⟨p, 18446744073709551615, n⟩]) p n f
        have hp : (2 : Nat) ^ 64 ≤ 2 ^ b := Nat.pow_le_pow_right (by decide) (by omega)
        rw [Nat.testBit_lt_two_pow (by omega), Nat.testBit_lt_two_pow (by omega)]
    have d1 : decide ((0 + (List.map Vote.enc l).length) * 24 ≤ bytesLim) = true := limOk (by simp; omega)
    have d2 : decide (((List.map Vote.enc l).length + 1) * 24 ≤ bytesLim) = true := limOk (by simp; omega)
    have hp0 : (!decide ((p : Int) = 0)) = true := by simp; omega
    rw [ew, em, hi]
    simp only [cond_false, hp0, tal_ok (show l.length ≤ 300000 by omega) hv (show (p : Int) ≤ 9223372036854775807 by omega), put_ok l _ (show l.length ≤ 300000 by omega), Option.bind_some,
      tal_ok (plen 18446744073709551615) (put _ (by decide)) (show (p : Int) ≤ 9223372036854775807 by omega), tal_ok (plen 0) (put _ (by decide)) (show (p : Int) ≤ 9223372036854775807 by omega), d1, d2, cond_true,
      tal_ok (show (l ++ [(⟨p, 18446744073709551615, n⟩ : Vote)]).length ≤ 300000 by simp; omega) happ (show (p : Int) ≤ 9223372036854775807 by omega), s1, s2, s3]
    simp

theorem tallyMore : ∀ (l : List Vote) (observers now fresh who at_ : Int), (l.length * 24 ≤ reachBytes ∧ ∀ y ∈ l, y.Ok) → inK .u8 observers → inK .i64 now → inK .i64 fresh → inK .u8 who → inK .i64 at_ → law11_TallyMore l observers now fresh who at_ = some true := by
  intro l o n f who a hl ho hn hf hw _
  have ho' := inU8.1 ho
  have ew : IntKind.i64.wrap o = o := wI64 (by omega) (by omega)
  have t : ∀ m : Int, law11_TallyMore_1 l n f who true m true = some true := fun _ => rfl
  unfold law11_TallyMore
  simp only [head_ok, Option.bind_some, ew]
  by_cases c1 : l.length > 300
  · simp [show (300 : Int) < l.length by omega, t]
  · by_cases c2 : o = 0
    · subst c2; simp [show ¬ (300 : Int) < l.length by omega, t]
    · by_cases c3 : n < 0
      · simp [show ¬ (300 : Int) < l.length by omega, c2, c3, t]
      · by_cases c4 : n > 1099511627776
        · simp [show ¬ (300 : Int) < l.length by omega, c2, c3, c4, t]
        · by_cases c5 : f < 0
          · simp [show ¬ (300 : Int) < l.length by omega, c2, c3, c4, c5, t]
          · by_cases c6 : f > 1099511627776
            · simp [show ¬ (300 : Int) < l.length by omega, c2, c3, c4, c5, c6, t]
            · have hb : (o == 0) = false := by simpa using c2
              simp only [hb]
              simp [show ¬ (300 : Int) < l.length by omega, c3, c4, c5, c6, more_1 (t := false) (show l.length ≤ 300 by omega) (votes_ok hl.2) (show 0 ≤ n ∧ n ≤ 1099511627776 by omega) (show 0 ≤ f ∧ f ≤ 1099511627776 by omega) (show 1 ≤ o ∧ o ≤ 255 by omega) hw]

end Go.RX.L
