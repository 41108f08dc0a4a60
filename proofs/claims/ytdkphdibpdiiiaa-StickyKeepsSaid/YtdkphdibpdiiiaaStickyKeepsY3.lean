/-
  Words and walks for StickyKeeps. No condition.
-/
import Derived.Test.YtdkphdibpdiiiaaRows
import Derived.Test.YtdkphdibpdiiiaaX2
set_option linter.unusedSimpArgs false
set_option linter.unusedVariables false
set_option maxRecDepth 100000
namespace Go.RX.L
open Go Go.RX Go.Proofs
noncomputable def E : Env := ⟨Try.prog, fun f => ⟨f == 8 || f == 10 || f == 15 || f == 16 || f == 17 || f == 21, f == 17⟩⟩
theorem hm : E.P.follows .mixedOrders = true := Try.checked.mixed
structure Seat where
  Session : List Int
  Target : Int
def Seat.enc (x : Seat) : List D := [D.sl false 1 (List.map (eInt .u8) x.Session), D.int .i64 x.Target]
def Seat.Ok (x : Seat) : Prop := (x.Session.length * 1 ≤ reachBytes ∧ ∀ y ∈ x.Session, inK .u8 y) ∧ inK .i64 x.Target
structure Use where
  Session : List Int
  Target : Int
  Put : Bool
def Use.enc (x : Use) : List D := [D.sl false 1 (List.map (eInt .u8) x.Session), D.int .i64 x.Target, D.bool x.Put]
def Use.Ok (x : Use) : Prop := (x.Session.length * 1 ≤ reachBytes ∧ ∀ y ∈ x.Session, inK .u8 y) ∧ inK .i64 x.Target ∧ True
end Go.RX.L

set_option linter.unusedSimpArgs false
set_option linter.unusedVariables false
set_option maxRecDepth 100000
set_option maxHeartbeats 4000000
namespace Go.RX.L
open Go Go.RX Go.Proofs
attribute [local irreducible] FinQ
def bytes_Clone_Q (y : List Int) (d : D) (s : Sto) : Prop := d = D.sl false 1 (List.map (eInt .u8) y) ∧ s = []
noncomputable def bytes_Clone (b : List Int) : Option (List Int) := (bif (decide ((0 + (List.map (eInt .u8) b).length) * 1 ≤ bytesLim)) then (some b) else none)
theorem bytes_Clone_ok {b : List Int} {r : List Int} (h : bytes_Clone b = some r) : Sound E 18 [D.sl false 1 (List.map (eInt .u8) b)] [] (bytes_Clone_Q r) := by
  refine sound_ofW (m := ⟨[.code (bodyOf Try.f18)], [(0, D.sl false 1 (List.map (eInt .u8) b))], []⟩) (fn := Try.f18) (by kernel_rfl) (by kernel_rfl) ?_
  show FinQ E ⟨Try.f18, false, 0⟩ (QW (bytes_Clone_Q r)) _
  unfold bytes_Clone at h
  refine adv_ok hm 9 _ ?_
  refine r_any (List.isEmpty (List.map (eInt .u8) b)) (by kernel_rfl) ?_ (fun h1 => ?_)
  · -- it is not nil
    refine adv_ok hm 9 _ ?_
    refine p_need h (by kernel_rfl) (fun h2 h => ?_)
    refine adv_ok hm 1 _ ?_
    refine r_rows (List.map (eInt .u8) b) (List.map (eInt .u8) b) (by kernel_rfl) (rfl) ?_
    refine adv_ok hm 3 _ ?_
    refine r_needT (b := (Nat.ble (0 + (List.map (eInt .u8) b).length) ((List.map (eInt .u8) b).length))) (by kernel_rfl) (ble_full _) ?_
    obtain rfl := Option.some.inj h
    exact r_retE [] (d1 := D.sl false 1 (List.take ((List.map (eInt .u8) b).length) (List.drop 0 (List.map (eInt .u8) b)))) (d := D.sl false 1 (List.map (eInt .u8) b)) (s1 := []) (s := []) (by kernel_rfl) ⟨by simp [List.take_of_length_le, List.map_take, List.map_drop], rfl⟩ ⟨rfl, rfl⟩
  · -- nil
    obtain rfl : b = [] := by simpa using h1
    simp [bytesLim] at h
    subst h
    refine adv_ok hm 8 _ ?_
    exact r_retF [.slot 0 [some 1]] (d := D.sl false 1 []) (s := []) (by kernel_rfl) ⟨rfl, rfl⟩
end Go.RX.L

set_option linter.unusedSimpArgs false
set_option linter.unusedVariables false
set_option maxRecDepth 100000
set_option maxHeartbeats 4000000
namespace Go.RX.L
open Go Go.RX Go.Proofs
attribute [local irreducible] FinQ
def slices_Grow_Q (y : Nat × Nat × Nat × (List Seat)) (d : D) (s : Sto) : Prop := d = D.msl 0 y.1 y.2.1 y.2.2.1 false ∧ s = [some { sz := 2, deep := false, rows := (List.map Seat.enc y.2.2.2) }]
noncomputable def slices_Grow (n : Int) : Option (Nat × Nat × Nat × (List Seat)) := (bif (decide ((n : Int) < 0)) then none else (bif (decide (((IntKind.i64.wrap (n - 0)) : Int) > 0)) then (bif (decide ((1 : Int) ≤ (IntKind.i64.wrap (n - 0))) && decide ((Int.toNat (IntKind.i64.wrap (n - 0))) * 32 ≤ bytesLim)) then (bif (decide ((0 : Int) ≤ (((List.map Seat.enc (List.replicate (Int.toNat (IntKind.i64.wrap (n - 0))) (⟨[], 0⟩ : Seat))).length : Nat) : Int))) then (some (0, 0, (List.map Seat.enc (List.replicate (Int.toNat (IntKind.i64.wrap (n - 0))) (⟨[], 0⟩ : Seat))).length, (List.replicate (Int.toNat (IntKind.i64.wrap (n - 0))) (⟨[], 0⟩ : Seat)))) else none) else none) else (some (0, 0, 0, []))))
theorem slices_Grow_ok {n : Int} {r : Nat × Nat × Nat × (List Seat)} (h : slices_Grow n = some r) : Sound E 21 [D.sl true 0 [], D.int .i64 n] [] (slices_Grow_Q r) := by
  refine sound_ofW (m := ⟨[.code (bodyOf Try.f21)], [(0, D.sl true 0 []), (1, D.int .i64 n)], []⟩) (fn := Try.f21) (by kernel_rfl) (by kernel_rfl) ?_
  show FinQ E ⟨Try.f21, true, 0⟩ (QW (slices_Grow_Q r)) _
  unfold slices_Grow at h
  refine adv_ok hm 11 _ ?_
  refine p_split h (by kernel_rfl) (fun h1 h => ?_) (fun h1 h => ?_)
  · -- true
    cases h
  · -- false
    refine adv_ok hm 19 _ ?_
    refine p_split h (by kernel_rfl) (fun h2 h => ?_) (fun h2 h => ?_)
    · -- true
      refine adv_ok hm 8 _ ?_
      refine p_need h (by kernel_rfl) (fun h3 h => ?_)
      refine r_rows (List.replicate (Int.toNat (IntKind.i64.wrap (n - 0))) (Seat.enc (⟨[], 0⟩ : Seat))) (List.map Seat.enc (List.replicate (Int.toNat (IntKind.i64.wrap (n - 0))) (⟨[], 0⟩ : Seat))) (by kernel_rfl) (rows_rep _ _ _) ?_
      refine adv_ok hm 3 _ ?_
      refine p_need h (by kernel_rfl) (fun h4 h => ?_)
      refine adv_ok hm 8 _ ?_
      obtain rfl := Option.some.inj h
      exact r_retF [] (d := D.msl 0 0 0 ((List.map Seat.enc (List.replicate (Int.toNat (IntKind.i64.wrap (n - 0))) (⟨[], 0⟩ : Seat))).length) false) (s := [some { sz := 2, deep := false, rows := (List.map Seat.enc (List.replicate (Int.toNat (IntKind.i64.wrap (n - 0))) (⟨[], 0⟩ : Seat))) }]) (by kernel_rfl) ⟨rfl, rfl⟩
    · -- false
      refine adv_ok hm 7 _ ?_
      obtain rfl := Option.some.inj h
      exact r_retF [.mat 0 2] (d := D.msl 0 0 0 0 false) (s := [some { sz := 2, deep := false, rows := [] }]) (by kernel_rfl) ⟨rfl, rfl⟩
end Go.RX.L

set_option linter.unusedSimpArgs false
set_option linter.unusedVariables false
set_option maxRecDepth 100000
set_option maxHeartbeats 4000000
namespace Go.RX.L
open Go Go.RX Go.Proofs
attribute [local irreducible] FinQ
def slices_Concat_Q (y : Nat × Nat × Nat × (List Seat)) (d : D) (s : Sto) : Prop := d = D.msl 0 y.1 y.2.1 y.2.2.1 false ∧ s = [some { sz := 2, deep := false, rows := (List.map Seat.enc y.2.2.2) }]
inductive slices_Concat_S where
  | s0 (slices : List (List Seat))
  | s1 (slices : List (List Seat)) (size : Int) (t9 : List (List Seat)) (t10 : Int) (t11 : Int)
  | s2 (newslicelo : Nat) (newsliceln : Nat) (newslicecp : Nat) (t25 : List (List Seat)) (t26 : Int) (t27 : Int) (newslice : List Seat)
noncomputable def slices_Concat_M : slices_Concat_S → M
  | .s0 slices => ⟨[.code (bodyOf Try.f16)], [(0, D.sl false 1 (List.map (eSl 2 Seat.enc) slices))], []⟩
  | .s1 slices size t9 t10 t11 => { td := [It.lpc (codeAt (bodyOf Try.f16) [1, 1, 0, 1, 0, 0]) 3593, It.blk 0, It.code (codeAt (bodyOf Try.f16) [1, 1, 1])], fr := [(0, D.sl false 1 (List.map (eSl 2 Seat.enc) slices)), (3, D.int .i64 size), (9, D.sl false 1 (List.map (eSl 2 Seat.enc) t9)), (10, D.int .i64 t10), (11, D.int .i64 t11)], st := [] }
  | .s2 newslicelo newsliceln newslicecp t25 t26 t27 newslice => { td := [It.lpc (codeAt (bodyOf Try.f16) [1, 1, 1, 1, 0, 1, 0, 0]) 234881088, It.blk 2, It.code (codeAt (bodyOf Try.f16) [1, 1, 1, 1, 1])], fr := [(6, D.msl 0 newslicelo newsliceln newslicecp false), (25, D.sl false 1 (List.map (eSl 2 Seat.enc) t25)), (26, D.int .i64 t26), (27, D.int .i64 t27)], st := [some { sz := 2, deep := false, rows := (List.map Seat.enc newslice) }] }
noncomputable def slices_Concat_0 (slices : List (List Seat)) : Option (slices_Concat_S ⊕ (Nat × Nat × Nat × (List Seat))) := (some (.inl (.s1 slices 0 slices (((List.map (eSl 2 Seat.enc) slices).length : Nat) : Int) 0)))
noncomputable def slices_Concat_1 (slices : List (List Seat)) (size : Int) (t9 : List (List Seat)) (t10 : Int) (t11 : Int) : Option (slices_Concat_S ⊕ (Nat × Nat × Nat × (List Seat))) := (bif (decide ((t11 : Int) < t10)) then (bif ((decide ((0 : Int) ≤ t11)) && (decide ((t11 : Int) < (((List.map (eSl 2 Seat.enc) t9).length : Nat) : Int)))) then (((t9)[t11.toNat]?).bind fun y3 => (bif (decide (((IntKind.i64.wrap (size + (((List.map Seat.enc y3).length : Nat) : Int))) : Int) < 0)) then none else (some (.inl (.s1 slices (IntKind.i64.wrap (size + (((List.map Seat.enc y3).length : Nat) : Int))) t9 t10 (IntKind.i64.wrap (t11 + 1))))))) else none) else ((slices_Grow size).bind fun y6 => (some (.inl (.s2 y6.1 y6.2.1 y6.2.2.1 slices (((List.map (eSl 2 Seat.enc) slices).length : Nat) : Int) 0 y6.2.2.2)))))
noncomputable def slices_Concat_2 (newslicelo : Nat) (newsliceln : Nat) (newslicecp : Nat) (t25 : List (List Seat)) (t26 : Int) (t27 : Int) (newslice : List Seat) : Option (slices_Concat_S ⊕ (Nat × Nat × Nat × (List Seat))) := (bif (decide ((t27 : Int) < t26)) then (bif ((decide ((0 : Int) ≤ t27)) && (decide ((t27 : Int) < (((List.map (eSl 2 Seat.enc) t25).length : Nat) : Int)))) then (((t25)[t27.toNat]?).bind fun y3 => (bif (decide ((newsliceln + (List.map Seat.enc y3).length) * 32 ≤ bytesLim)) then (bif (Nat.ble (newslicelo + newsliceln) ((List.map Seat.enc newslice).length)) then (some (.inl (.s2 0 ((List.map Seat.enc (List.take newsliceln (List.drop newslicelo newslice) ++ y3)).length) ((List.map Seat.enc (List.take newsliceln (List.drop newslicelo newslice) ++ y3)).length) t25 t26 (IntKind.i64.wrap (t27 + 1)) (List.take newsliceln (List.drop newslicelo newslice) ++ y3)))) else none) else none)) else none) else (some (.inr (newslicelo, newsliceln, newslicecp, newslice))))
noncomputable def slices_Concat_step : slices_Concat_S → Option (slices_Concat_S ⊕ (Nat × Nat × Nat × (List Seat)))
  | .s0 slices => slices_Concat_0 slices
  | .s1 slices size t9 t10 t11 => slices_Concat_1 slices size t9 t10 t11
  | .s2 newslicelo newsliceln newslicecp t25 t26 t27 newslice => slices_Concat_2 newslicelo newsliceln newslicecp t25 t26 t27 newslice
theorem slices_Concat_0_ok {slices : List (List Seat)} {r : Nat × Nat × Nat × (List Seat)} {x : slices_Concat_S ⊕ (Nat × Nat × Nat × (List Seat))} (h : slices_Concat_0 slices = some x) (ha : After E ⟨Try.f16, true, 0⟩ slices_Concat_Q slices_Concat_M r x) : FinQ E ⟨Try.f16, true, 0⟩ (QW (slices_Concat_Q r)) (.go (slices_Concat_M (.s0 slices))) := by
  unfold slices_Concat_0 at h
  refine adv_ok hm 18 _ ?_
  obtain rfl := Option.some.inj h
  exact r_to (q' := .go (slices_Concat_M (.s1 slices 0 slices (((List.map (eSl 2 Seat.enc) slices).length : Nat) : Int) 0))) (by kernel_rfl) ha
theorem slices_Concat_1_ok {slices : List (List Seat)} {size : Int} {t9 : List (List Seat)} {t10 : Int} {t11 : Int} {r : Nat × Nat × Nat × (List Seat)} {x : slices_Concat_S ⊕ (Nat × Nat × Nat × (List Seat))} (h : slices_Concat_1 slices size t9 t10 t11 = some x) (ha : After E ⟨Try.f16, true, 0⟩ slices_Concat_Q slices_Concat_M r x) : FinQ E ⟨Try.f16, true, 0⟩ (QW (slices_Concat_Q r)) (.go (slices_Concat_M (.s1 slices size t9 t10 t11))) := by
  unfold slices_Concat_1 at h
  refine adv_ok hm 7 _ ?_
  refine p_split h (by kernel_rfl) (fun h1 h => ?_) (fun h1 h => ?_)
  · -- true
    refine adv_ok hm 6 _ ?_
    refine p_need h (by kernel_rfl) (fun h2 h => ?_)
    refine adv_ok hm 1 _ ?_
    refine p_row (((List.map (eSl 2 Seat.enc) t9))[t11.toNat]?) (eSl 2 Seat.enc) h (by kernel_rfl) List.getElem?_map (fun y3 h4 h => ?_)
    refine adv_ok hm 16 _ ?_
    refine p_split h (by kernel_rfl) (fun h5 h => ?_) (fun h5 h => ?_)
    · -- true
      cases h
    · -- false
      refine adv_ok hm 7 _ ?_
      obtain rfl := Option.some.inj h
      exact r_to (q' := .go (slices_Concat_M (.s1 slices (IntKind.i64.wrap (size + (((List.map Seat.enc y3).length : Nat) : Int))) t9 t10 (IntKind.i64.wrap (t11 + 1))))) (by kernel_rfl) ha
  · -- false
    refine adv_ok hm 5 _ ?_
    have ok6 := fun (y : Nat × Nat × Nat × (List Seat)) (hy : slices_Grow size = some y) => slices_Grow_ok hy
    refine p_callE [none] (args1 := [D.sl true 0 [], D.int .i64 size]) (args := [D.sl true 0 [], D.int .i64 size]) (fun y6 => D.msl 0 y6.1 y6.2.1 y6.2.2.1 false) (fun y6 => [some { sz := 2, deep := false, rows := (List.map Seat.enc y6.2.2.2) }]) h (by kernel_rfl) ⟨rfl, rfl⟩ ok6 (fun y6 h6 h => ?_)
    refine adv_ok hm 12 _ ?_
    obtain rfl := Option.some.inj h
    exact r_to (q' := .go (slices_Concat_M (.s2 y6.1 y6.2.1 y6.2.2.1 slices (((List.map (eSl 2 Seat.enc) slices).length : Nat) : Int) 0 y6.2.2.2))) (by kernel_rfl) ha
theorem slices_Concat_2_ok {newslicelo : Nat} {newsliceln : Nat} {newslicecp : Nat} {t25 : List (List Seat)} {t26 : Int} {t27 : Int} {newslice : List Seat} {r : Nat × Nat × Nat × (List Seat)} {x : slices_Concat_S ⊕ (Nat × Nat × Nat × (List Seat))} (h : slices_Concat_2 newslicelo newsliceln newslicecp t25 t26 t27 newslice = some x) (ha : After E ⟨Try.f16, true, 0⟩ slices_Concat_Q slices_Concat_M r x) : FinQ E ⟨Try.f16, true, 0⟩ (QW (slices_Concat_Q r)) (.go (slices_Concat_M (.s2 newslicelo newsliceln newslicecp t25 t26 t27 newslice))) := by
  unfold slices_Concat_2 at h
  refine adv_ok hm 7 _ ?_
  refine p_split h (by kernel_rfl) (fun h1 h => ?_) (fun h1 h => ?_)
  · -- true
    refine adv_ok hm 6 _ ?_
    refine p_need h (by kernel_rfl) (fun h2 h => ?_)
    refine adv_ok hm 1 _ ?_
    refine p_row (((List.map (eSl 2 Seat.enc) t25))[t27.toNat]?) (eSl 2 Seat.enc) h (by kernel_rfl) List.getElem?_map (fun y3 h4 h => ?_)
    refine adv_ok hm 6 _ ?_
    refine p_need h (by kernel_rfl) (fun h5 h => ?_)
    refine p_need h (by kernel_rfl) (fun h6 h => ?_)
    refine r_rows (List.take newsliceln (List.drop newslicelo (List.map Seat.enc newslice)) ++ (List.map Seat.enc y3)) (List.map Seat.enc (List.take newsliceln (List.drop newslicelo newslice) ++ y3)) (by kernel_rfl) (by simp only [take_full, take_full', List.map_append, List.map_take, List.map_drop]) ?_
    refine adv_ok hm 8 _ ?_
    obtain rfl := Option.some.inj h
    exact r_to (q' := .go (slices_Concat_M (.s2 0 ((List.map Seat.enc (List.take newsliceln (List.drop newslicelo newslice) ++ y3)).length) ((List.map Seat.enc (List.take newsliceln (List.drop newslicelo newslice) ++ y3)).length) t25 t26 (IntKind.i64.wrap (t27 + 1)) (List.take newsliceln (List.drop newslicelo newslice) ++ y3)))) (by kernel_rfl) ha
  · -- false
    refine adv_ok hm 7 _ ?_
    obtain rfl := Option.some.inj h
    have hv := ha
    simp only [After] at hv
    subst hv
    exact r_retF [] (d := D.msl 0 newslicelo newsliceln newslicecp false) (s := [some { sz := 2, deep := false, rows := (List.map Seat.enc newslice) }]) (by kernel_rfl) ⟨rfl, rfl⟩
theorem slices_Concat_ev {slices : List (List Seat)} {r : Nat × Nat × Nat × (List Seat)} (h : Ev slices_Concat_step (.s0 slices) r) : Sound E 16 [D.sl false 1 (List.map (eSl 2 Seat.enc) slices)] [] (slices_Concat_Q r) :=
  sound_ofW (m := slices_Concat_M (.s0 slices)) (fn := Try.f16) (by kernel_rfl) (by kernel_rfl) (ev_run (C := ⟨Try.f16, true, 0⟩) (fun s x r hs ha => by
    cases s with
    | s0 => exact slices_Concat_0_ok hs ha
    | s1 => exact slices_Concat_1_ok hs ha
    | s2 => exact slices_Concat_2_ok hs ha) h)
noncomputable def slices_Concat (slices : List (List Seat)) : Option (Nat × Nat × Nat × (List Seat)) := evf slices_Concat_step (.s0 slices)
theorem slices_Concat_ok {slices : List (List Seat)} {r : Nat × Nat × Nat × (List Seat)} (h : slices_Concat slices = some r) : Sound E 16 [D.sl false 1 (List.map (eSl 2 Seat.enc) slices)] [] (slices_Concat_Q r) := slices_Concat_ev (evf_ev h)
end Go.RX.L

set_option linter.unusedSimpArgs false
set_option linter.unusedVariables false
set_option maxRecDepth 100000
set_option maxHeartbeats 4000000
namespace Go.RX.L
open Go Go.RX Go.Proofs
attribute [local irreducible] FinQ
def bytes_Equal_Q (y : Bool) (d : D) (s : Sto) : Prop := d = D.bool y ∧ s = []
noncomputable def bytes_Equal (a : List Int) (b : List Int) : Option Bool := (some (((List.map b8 a) : List UInt8) == (List.map b8 b)))
theorem bytes_Equal_ok {a : List Int} {b : List Int} {r : Bool} (h : bytes_Equal a b = some r) : Sound E 20 [D.sl false 1 (List.map (eInt .u8) a), D.sl false 1 (List.map (eInt .u8) b)] [] (bytes_Equal_Q r) := by
  refine sound_ofW (m := ⟨[.code (bodyOf Try.f20)], [(0, D.sl false 1 (List.map (eInt .u8) a)), (1, D.sl false 1 (List.map (eInt .u8) b))], []⟩) (fn := Try.f20) (by kernel_rfl) (by kernel_rfl) ?_
  show FinQ E ⟨Try.f20, false, 0⟩ (QW (bytes_Equal_Q r)) _
  unfold bytes_Equal at h
  refine adv_ok hm 8 _ ?_
  refine r_str (rowsStr (List.map (eInt .u8) a)) (List.map b8 a) (by kernel_rfl) (rows_bytes _) ?_
  refine adv_ok hm 2 _ ?_
  refine r_str (rowsStr (List.map (eInt .u8) b)) (List.map b8 b) (by kernel_rfl) (rows_bytes _) ?_
  refine adv_ok hm 4 _ ?_
  obtain rfl := Option.some.inj h
  exact r_retF [] (d := D.bool (((List.map b8 a) : List UInt8) == (List.map b8 b))) (s := []) (by kernel_rfl) ⟨rfl, rfl⟩
end Go.RX.L

set_option linter.unusedSimpArgs false
set_option linter.unusedVariables false
set_option maxRecDepth 100000
set_option maxHeartbeats 4000000
namespace Go.RX.L
open Go Go.RX Go.Proofs
attribute [local irreducible] FinQ
def sticky_of_1_Q (y : Bool) (d : D) (s : Sto) : Prop := d = D.bool y ∧ s = []
noncomputable def sticky_of_1 (s_ : Seat) (t : List Int) : Option Bool := ((bytes_Equal s_.Session t).bind fun y1 => (some y1))
theorem sticky_of_1_ok {s_ : Seat} {t : List Int} {r : Bool} (h : sticky_of_1 s_ t = some r) : Sound E 19 [D.agg [D.sl false 1 (List.map (eInt .u8) s_.Session), D.int .i64 s_.Target], D.iptr 1 [[D.sl false 1 (List.map (eInt .u8) t)]] 0 0] [] (sticky_of_1_Q r) := by
  refine sound_ofW (m := ⟨[.code (bodyOf Try.f19)], [(0, D.agg [D.sl false 1 (List.map (eInt .u8) s_.Session), D.int .i64 s_.Target]), (1, D.iptr 1 [[D.sl false 1 (List.map (eInt .u8) t)]] 0 0)], []⟩) (fn := Try.f19) (by kernel_rfl) (by kernel_rfl) ?_
  show FinQ E ⟨Try.f19, false, 0⟩ (QW (sticky_of_1_Q r)) _
  unfold sticky_of_1 at h
  refine adv_ok hm 13 _ ?_
  have ok1 := fun (y : Bool) (hy : bytes_Equal s_.Session t = some y) => bytes_Equal_ok hy
  refine p_callE [] (args1 := [D.sl false 1 (List.map (eInt .u8) s_.Session), D.sl false 1 (List.map (eInt .u8) t)]) (args := [D.sl false 1 (List.map (eInt .u8) s_.Session), D.sl false 1 (List.map (eInt .u8) t)]) (fun y1 => D.bool y1) (fun y1 => []) h (by kernel_rfl) ⟨rfl, rfl⟩ ok1 (fun y1 h1 h => ?_)
  refine adv_ok hm 3 _ ?_
  obtain rfl := Option.some.inj h
  exact r_retF [] (d := D.bool y1) (s := []) (by kernel_rfl) ⟨rfl, rfl⟩
end Go.RX.L

set_option linter.unusedSimpArgs false
set_option linter.unusedVariables false
set_option maxRecDepth 100000
set_option maxHeartbeats 4000000
namespace Go.RX.L
open Go Go.RX Go.Proofs
attribute [local irreducible] FinQ
def slices_IndexFunc__of_1_Q (y : Int) (d : D) (s : Sto) : Prop := d = D.int .i64 y ∧ s = []
inductive slices_IndexFunc__of_1_S where
  | s0 (s_ : List Seat) (f : List Int)
  | s1 (s_ : List Seat) (f : List Int) (t7 : Int) (t8 : Int)
noncomputable def slices_IndexFunc__of_1_M : slices_IndexFunc__of_1_S → M
  | .s0 s_ f => ⟨[.code (bodyOf Try.f13)], [(0, D.sl false 2 (List.map Seat.enc s_)), (1, D.fn 19 [] [D.iptr 1 [[D.sl false 1 (List.map (eInt .u8) f)]] 0 0])], []⟩
  | .s1 s_ f t7 t8 => { td := [It.lpc (codeAt (bodyOf Try.f13) [1, 0, 1, 0, 0]) 387, It.blk 0, It.code (codeAt (bodyOf Try.f13) [1, 1])], fr := [(0, D.sl false 2 (List.map Seat.enc s_)), (1, D.fn 19 [] [D.iptr 1 [[D.sl false 1 (List.map (eInt .u8) f)]] 0 0]), (7, D.int .i64 t7), (8, D.int .i64 t8)], st := [] }
noncomputable def slices_IndexFunc__of_1_0 (s_ : List Seat) (f : List Int) : Option (slices_IndexFunc__of_1_S ⊕ Int) := (some (.inl (.s1 s_ f (((List.map Seat.enc s_).length : Nat) : Int) 0)))
noncomputable def slices_IndexFunc__of_1_1 (s_ : List Seat) (f : List Int) (t7 : Int) (t8 : Int) : Option (slices_IndexFunc__of_1_S ⊕ Int) := (bif (decide ((t8 : Int) < t7)) then (bif ((decide ((0 : Int) ≤ t8)) && (decide ((t8 : Int) < (((List.map Seat.enc s_).length : Nat) : Int)))) then (((s_)[t8.toNat]?).bind fun y3 => ((sticky_of_1 y3 f).bind fun y5 => (bif y5 then (some (.inr t8)) else (some (.inl (.s1 s_ f t7 (IntKind.i64.wrap (t8 + 1)))))))) else none) else (some (.inr (-1))))
noncomputable def slices_IndexFunc__of_1_step : slices_IndexFunc__of_1_S → Option (slices_IndexFunc__of_1_S ⊕ Int)
  | .s0 s_ f => slices_IndexFunc__of_1_0 s_ f
  | .s1 s_ f t7 t8 => slices_IndexFunc__of_1_1 s_ f t7 t8
theorem slices_IndexFunc__of_1_0_ok {s_ : List Seat} {f : List Int} {r : Int} {x : slices_IndexFunc__of_1_S ⊕ Int} (h : slices_IndexFunc__of_1_0 s_ f = some x) (ha : After E ⟨Try.f13, false, 0⟩ slices_IndexFunc__of_1_Q slices_IndexFunc__of_1_M r x) : FinQ E ⟨Try.f13, false, 0⟩ (QW (slices_IndexFunc__of_1_Q r)) (.go (slices_IndexFunc__of_1_M (.s0 s_ f))) := by
  unfold slices_IndexFunc__of_1_0 at h
  refine adv_ok hm 14 _ ?_
  obtain rfl := Option.some.inj h
  exact r_to (q' := .go (slices_IndexFunc__of_1_M (.s1 s_ f (((List.map Seat.enc s_).length : Nat) : Int) 0))) (by kernel_rfl) ha
theorem slices_IndexFunc__of_1_1_ok {s_ : List Seat} {f : List Int} {t7 : Int} {t8 : Int} {r : Int} {x : slices_IndexFunc__of_1_S ⊕ Int} (h : slices_IndexFunc__of_1_1 s_ f t7 t8 = some x) (ha : After E ⟨Try.f13, false, 0⟩ slices_IndexFunc__of_1_Q slices_IndexFunc__of_1_M r x) : FinQ E ⟨Try.f13, false, 0⟩ (QW (slices_IndexFunc__of_1_Q r)) (.go (slices_IndexFunc__of_1_M (.s1 s_ f t7 t8))) := by
  unfold slices_IndexFunc__of_1_1 at h
  refine adv_ok hm 7 _ ?_
  refine p_split h (by kernel_rfl) (fun h1 h => ?_) (fun h1 h => ?_)
  · -- true
    refine adv_ok hm 14 _ ?_
    refine p_need h (by kernel_rfl) (fun h2 h => ?_)
    refine adv_ok hm 1 _ ?_
    refine p_row (((List.map Seat.enc s_))[t8.toNat]?) Seat.enc h (by kernel_rfl) List.getElem?_map (fun y3 h4 h => ?_)
    refine adv_ok hm 1 _ ?_
    have ok5 := fun (y : Bool) (hy : sticky_of_1 y3 f = some y) => sticky_of_1_ok hy
    refine p_callE [] (args1 := [D.agg [D.sl false 1 (List.map (eInt .u8) y3.Session), D.int .i64 y3.Target], D.iptr 1 [[D.sl false 1 (List.map (eInt .u8) f)]] 0 0]) (args := [D.agg [D.sl false 1 (List.map (eInt .u8) y3.Session), D.int .i64 y3.Target], D.iptr 1 [[D.sl false 1 (List.map (eInt .u8) f)]] 0 0]) (fun y5 => D.bool y5) (fun y5 => []) h (by kernel_rfl) ⟨rfl, rfl⟩ ok5 (fun y5 h5 h => ?_)
    refine adv_ok hm 2 _ ?_
    refine p_split h (by kernel_rfl) (fun h6 h => ?_) (fun h6 h => ?_)
    · -- true
      refine adv_ok hm 6 _ ?_
      obtain rfl := Option.some.inj h
      have hv := ha
      simp only [After] at hv
      subst hv
      exact r_retF [] (d := D.int .i64 t8) (s := []) (by kernel_rfl) ⟨rfl, rfl⟩
    · -- false
      refine adv_ok hm 7 _ ?_
      obtain rfl := Option.some.inj h
      exact r_to (q' := .go (slices_IndexFunc__of_1_M (.s1 s_ f t7 (IntKind.i64.wrap (t8 + 1))))) (by kernel_rfl) ha
  · -- false
    refine adv_ok hm 6 _ ?_
    obtain rfl := Option.some.inj h
    have hv := ha
    simp only [After] at hv
    subst hv
    exact r_retF [] (d := D.int .i64 (-1)) (s := []) (by kernel_rfl) ⟨rfl, rfl⟩
theorem slices_IndexFunc__of_1_ev {s_ : List Seat} {f : List Int} {r : Int} (h : Ev slices_IndexFunc__of_1_step (.s0 s_ f) r) : Sound E 13 [D.sl false 2 (List.map Seat.enc s_), D.fn 19 [] [D.iptr 1 [[D.sl false 1 (List.map (eInt .u8) f)]] 0 0]] [] (slices_IndexFunc__of_1_Q r) :=
  sound_ofW (m := slices_IndexFunc__of_1_M (.s0 s_ f)) (fn := Try.f13) (by kernel_rfl) (by kernel_rfl) (ev_run (C := ⟨Try.f13, false, 0⟩) (fun s x r hs ha => by
    cases s with
    | s0 => exact slices_IndexFunc__of_1_0_ok hs ha
    | s1 => exact slices_IndexFunc__of_1_1_ok hs ha) h)
noncomputable def slices_IndexFunc__of_1 (s_ : List Seat) (f : List Int) : Option Int := evf slices_IndexFunc__of_1_step (.s0 s_ f)
theorem slices_IndexFunc__of_1_ok {s_ : List Seat} {f : List Int} {r : Int} (h : slices_IndexFunc__of_1 s_ f = some r) : Sound E 13 [D.sl false 2 (List.map Seat.enc s_), D.fn 19 [] [D.iptr 1 [[D.sl false 1 (List.map (eInt .u8) f)]] 0 0]] [] (slices_IndexFunc__of_1_Q r) := slices_IndexFunc__of_1_ev (evf_ev h)
end Go.RX.L

set_option linter.unusedSimpArgs false
set_option linter.unusedVariables false
set_option maxRecDepth 100000
set_option maxHeartbeats 4000000
namespace Go.RX.L
open Go Go.RX Go.Proofs
attribute [local irreducible] FinQ
def slices_DeleteFunc__of_1_Q (y : Nat × Nat × Nat × (List Seat)) (d : D) (s : Sto) : Prop := d = D.msl 0 y.1 y.2.1 y.2.2.1 true ∧ s = [some { sz := 2, deep := false, rows := (List.map Seat.enc y.2.2.2) }]
inductive slices_DeleteFunc__of_1_S where
  | s0 (s_at : Nat) (s_ln : Nat) (s_cp : Nat) (del : List Int) (b0 : List Seat)
  | s1 (slo : Nat) (sln : Nat) (scp : Nat) (del : List Int) (i : Int) (j : Int) (s_ : List Seat)
noncomputable def slices_DeleteFunc__of_1_M : slices_DeleteFunc__of_1_S → M
  | .s0 s_at s_ln s_cp del b0 => ⟨[.code (bodyOf Try.f17)], [(0, D.msl 0 s_at s_ln s_cp true), (1, D.fn 19 [] [D.iptr 1 [[D.sl false 1 (List.map (eInt .u8) del)]] 0 0])], [some { sz := 2, deep := false, rows := (List.map Seat.enc b0) }]⟩
  | .s1 slo sln scp del i j s_ => { td := [It.lpc (codeAt (bodyOf Try.f17) [1, 1, 1, 0, 1, 0, 0]) 99, It.blk 0, It.code (codeAt (bodyOf Try.f17) [1, 1, 1, 1])], fr := [(0, D.msl 0 slo sln scp true), (1, D.fn 19 [] [D.iptr 1 [[D.sl false 1 (List.map (eInt .u8) del)]] 0 0]), (5, D.int .i64 i), (6, D.int .i64 j)], st := [some { sz := 2, deep := false, rows := (List.map Seat.enc s_) }] }
noncomputable def slices_DeleteFunc__of_1_0 (s_at : Nat) (s_ln : Nat) (s_cp : Nat) (del : List Int) (b0 : List Seat) : Option (slices_DeleteFunc__of_1_S ⊕ (Nat × Nat × Nat × (List Seat))) := (bif (Nat.ble (s_at + s_ln) ((List.map Seat.enc b0).length)) then ((slices_IndexFunc__of_1 (List.take s_ln (List.drop s_at b0)) del).bind fun y2 => (bif ((y2 : Int) == (-1)) then (some (.inr (s_at, s_ln, s_cp, b0))) else (some (.inl (.s1 s_at s_ln s_cp del y2 (IntKind.i64.wrap (y2 + 1)) b0))))) else none)
noncomputable def slices_DeleteFunc__of_1_1 (slo : Nat) (sln : Nat) (scp : Nat) (del : List Int) (i : Int) (j : Int) (s_ : List Seat) : Option (slices_DeleteFunc__of_1_S ⊕ (Nat × Nat × Nat × (List Seat))) := (bif (decide ((j : Int) < ((sln : Nat) : Int))) then (bif ((decide ((0 : Int) ≤ j)) && (decide ((j : Int) < ((sln : Nat) : Int)))) then (((s_)[(slo + j.toNat)]?).bind fun y3 => ((sticky_of_1 y3 del).bind fun y5 => (bif (!y5) then (bif ((decide ((0 : Int) ≤ i)) && (decide ((i : Int) < ((sln : Nat) : Int)))) then (((s_)[(slo + i.toNat)]?).bind fun y8 => (some (.inl (.s1 slo sln scp del (IntKind.i64.wrap (i + 1)) (IntKind.i64.wrap (j + 1)) (List.set s_ (slo + i.toNat) y3))))) else none) else (some (.inl (.s1 slo sln scp del i (IntKind.i64.wrap (j + 1)) s_)))))) else none) else (bif ((decide (((0 : Nat) : Int) ≤ i)) && (decide ((i : Int) ≤ ((sln : Nat) : Int)))) then (bif (Nat.ble ((slo + i.toNat) + (sln - i.toNat)) ((List.map Seat.enc s_).length)) then (bif ((decide (((0 : Nat) : Int) ≤ i)) && (decide ((i : Int) ≤ ((scp : Nat) : Int)))) then (some (.inr (slo, i.toNat, scp, (List.take (slo + i.toNat) s_ ++ List.replicate (sln - i.toNat) (⟨[], 0⟩ : Seat) ++ List.drop ((slo + i.toNat) + (sln - i.toNat)) s_)))) else none) else none) else none))
noncomputable def slices_DeleteFunc__of_1_step : slices_DeleteFunc__of_1_S → Option (slices_DeleteFunc__of_1_S ⊕ (Nat × Nat × Nat × (List Seat)))
  | .s0 s_at s_ln s_cp del b0 => slices_DeleteFunc__of_1_0 s_at s_ln s_cp del b0
  | .s1 slo sln scp del i j s_ => slices_DeleteFunc__of_1_1 slo sln scp del i j s_
theorem slices_DeleteFunc__of_1_0_ok {s_at : Nat} {s_ln : Nat} {s_cp : Nat} {del : List Int} {b0 : List Seat} {r : Nat × Nat × Nat × (List Seat)} {x : slices_DeleteFunc__of_1_S ⊕ (Nat × Nat × Nat × (List Seat))} (h : slices_DeleteFunc__of_1_0 s_at s_ln s_cp del b0 = some x) (ha : After E ⟨Try.f17, true, 1⟩ slices_DeleteFunc__of_1_Q slices_DeleteFunc__of_1_M r x) : FinQ E ⟨Try.f17, true, 1⟩ (QW (slices_DeleteFunc__of_1_Q r)) (.go (slices_DeleteFunc__of_1_M (.s0 s_at s_ln s_cp del b0))) := by
  unfold slices_DeleteFunc__of_1_0 at h
  refine adv_ok hm 9 _ ?_
  refine p_need h (by kernel_rfl) (fun h1 h => ?_)
  have ok2 := fun (y : Int) (hy : slices_IndexFunc__of_1 (List.take s_ln (List.drop s_at b0)) del = some y) => slices_IndexFunc__of_1_ok hy
  refine p_callE [] (args1 := [D.sl false 2 (List.take s_ln (List.drop s_at (List.map Seat.enc b0))), D.fn 19 [] [D.iptr 1 [[D.sl false 1 (List.map (eInt .u8) del)]] 0 0]]) (args := [D.sl false 2 (List.map Seat.enc (List.take s_ln (List.drop s_at b0))), D.fn 19 [] [D.iptr 1 [[D.sl false 1 (List.map (eInt .u8) del)]] 0 0]]) (fun y2 => D.int .i64 y2) (fun y2 => []) h (by kernel_rfl) ⟨by simp [List.take_of_length_le, List.map_take, List.map_drop], rfl⟩ ok2 (fun y2 h2 h => ?_)
  refine adv_ok hm 9 _ ?_
  refine p_split h (by kernel_rfl) (fun h3 h => ?_) (fun h3 h => ?_)
  · -- true
    refine adv_ok hm 6 _ ?_
    obtain rfl := Option.some.inj h
    have hv := ha
    simp only [After] at hv
    subst hv
    exact r_retF [] (d := D.msl 0 s_at s_ln s_cp true) (s := [some { sz := 2, deep := false, rows := (List.map Seat.enc b0) }]) (by kernel_rfl) ⟨rfl, rfl⟩
  · -- false
    refine adv_ok hm 11 _ ?_
    obtain rfl := Option.some.inj h
    exact r_to (q' := .go (slices_DeleteFunc__of_1_M (.s1 s_at s_ln s_cp del y2 (IntKind.i64.wrap (y2 + 1)) b0))) (by kernel_rfl) ha
theorem slices_DeleteFunc__of_1_1_ok {slo : Nat} {sln : Nat} {scp : Nat} {del : List Int} {i : Int} {j : Int} {s_ : List Seat} {r : Nat × Nat × Nat × (List Seat)} {x : slices_DeleteFunc__of_1_S ⊕ (Nat × Nat × Nat × (List Seat))} (h : slices_DeleteFunc__of_1_1 slo sln scp del i j s_ = some x) (ha : After E ⟨Try.f17, true, 1⟩ slices_DeleteFunc__of_1_Q slices_DeleteFunc__of_1_M r x) : FinQ E ⟨Try.f17, true, 1⟩ (QW (slices_DeleteFunc__of_1_Q r)) (.go (slices_DeleteFunc__of_1_M (.s1 slo sln scp del i j s_))) := by
  unfold slices_DeleteFunc__of_1_1 at h
  refine adv_ok hm 10 _ ?_
  refine p_split h (by kernel_rfl) (fun h1 h => ?_) (fun h1 h => ?_)
  · -- true
    refine adv_ok hm 8 _ ?_
    refine p_need h (by kernel_rfl) (fun h2 h => ?_)
    refine adv_ok hm 1 _ ?_
    refine p_row (((List.map Seat.enc s_))[(slo + j.toNat)]?) Seat.enc h (by kernel_rfl) List.getElem?_map (fun y3 h4 h => ?_)
    refine adv_ok hm 11 _ ?_
    have ok5 := fun (y : Bool) (hy : sticky_of_1 y3 del = some y) => sticky_of_1_ok hy
    refine p_callE [] (args1 := [D.agg [D.sl false 1 (List.map (eInt .u8) y3.Session), D.int .i64 y3.Target], D.iptr 1 [[D.sl false 1 (List.map (eInt .u8) del)]] 0 0]) (args := [D.agg [D.sl false 1 (List.map (eInt .u8) y3.Session), D.int .i64 y3.Target], D.iptr 1 [[D.sl false 1 (List.map (eInt .u8) del)]] 0 0]) (fun y5 => D.bool y5) (fun y5 => []) h (by kernel_rfl) ⟨rfl, rfl⟩ ok5 (fun y5 h5 h => ?_)
    refine adv_ok hm 3 _ ?_
    refine p_split h (by kernel_rfl) (fun h6 h => ?_) (fun h6 h => ?_)
    · -- true
      refine adv_ok hm 7 _ ?_
      refine p_need h (by kernel_rfl) (fun h7 h => ?_)
      refine adv_ok hm 1 _ ?_
      refine p_row (((List.map Seat.enc s_))[(slo + i.toNat)]?) Seat.enc h (by kernel_rfl) List.getElem?_map (fun y8 h9 h => ?_)
      refine r_rows (List.set (List.map Seat.enc s_) (slo + i.toNat) (Seat.enc y3)) (List.map Seat.enc (List.set s_ (slo + i.toNat) y3)) (by kernel_rfl) (rows_set _ _ _ _) ?_
      refine adv_ok hm 13 _ ?_
      obtain rfl := Option.some.inj h
      exact r_to (q' := .go (slices_DeleteFunc__of_1_M (.s1 slo sln scp del (IntKind.i64.wrap (i + 1)) (IntKind.i64.wrap (j + 1)) (List.set s_ (slo + i.toNat) y3)))) (by kernel_rfl) ha
    · -- false
      refine adv_ok hm 8 _ ?_
      obtain rfl := Option.some.inj h
      exact r_to (q' := .go (slices_DeleteFunc__of_1_M (.s1 slo sln scp del i (IntKind.i64.wrap (j + 1)) s_))) (by kernel_rfl) ha
  · -- false
    refine adv_ok hm 6 _ ?_
    refine p_need h (by kernel_rfl) (fun h10 h => ?_)
    refine adv_ok hm 1 _ ?_
    refine p_need h (by kernel_rfl) (fun h11 h => ?_)
    refine r_rows (List.take (slo + i.toNat) (List.map Seat.enc s_) ++ List.replicate (sln - i.toNat) (Seat.enc (⟨[], 0⟩ : Seat)) ++ List.drop ((slo + i.toNat) + (sln - i.toNat)) (List.map Seat.enc s_)) (List.map Seat.enc (List.take (slo + i.toNat) s_ ++ List.replicate (sln - i.toNat) (⟨[], 0⟩ : Seat) ++ List.drop ((slo + i.toNat) + (sln - i.toNat)) s_)) (by kernel_rfl) (rows_clear _ _ _ _ _) ?_
    refine adv_ok hm 6 _ ?_
    refine p_need h (by kernel_rfl) (fun h12 h => ?_)
    refine adv_ok hm 3 _ ?_
    obtain rfl := Option.some.inj h
    have hv := ha
    simp only [After] at hv
    subst hv
    exact r_retF [] (d := D.msl 0 slo i.toNat scp true) (s := [some { sz := 2, deep := false, rows := (List.map Seat.enc (List.take (slo + i.toNat) s_ ++ List.replicate (sln - i.toNat) (⟨[], 0⟩ : Seat) ++ List.drop ((slo + i.toNat) + (sln - i.toNat)) s_)) }]) (by kernel_rfl) ⟨rfl, rfl⟩
theorem slices_DeleteFunc__of_1_ev {s_at : Nat} {s_ln : Nat} {s_cp : Nat} {del : List Int} {b0 : List Seat} {r : Nat × Nat × Nat × (List Seat)} (h : Ev slices_DeleteFunc__of_1_step (.s0 s_at s_ln s_cp del b0) r) : Sound E 17 [D.msl 0 s_at s_ln s_cp true, D.fn 19 [] [D.iptr 1 [[D.sl false 1 (List.map (eInt .u8) del)]] 0 0]] [some { sz := 2, deep := false, rows := (List.map Seat.enc b0) }] (slices_DeleteFunc__of_1_Q r) :=
  sound_ofW (m := slices_DeleteFunc__of_1_M (.s0 s_at s_ln s_cp del b0)) (fn := Try.f17) (by kernel_rfl) (by kernel_rfl) (ev_run (C := ⟨Try.f17, true, 1⟩) (fun s x r hs ha => by
    cases s with
    | s0 => exact slices_DeleteFunc__of_1_0_ok hs ha
    | s1 => exact slices_DeleteFunc__of_1_1_ok hs ha) h)
noncomputable def slices_DeleteFunc__of_1 (s_at : Nat) (s_ln : Nat) (s_cp : Nat) (del : List Int) (b0 : List Seat) : Option (Nat × Nat × Nat × (List Seat)) := evf slices_DeleteFunc__of_1_step (.s0 s_at s_ln s_cp del b0)
theorem slices_DeleteFunc__of_1_ok {s_at : Nat} {s_ln : Nat} {s_cp : Nat} {del : List Int} {b0 : List Seat} {r : Nat × Nat × Nat × (List Seat)} (h : slices_DeleteFunc__of_1 s_at s_ln s_cp del b0 = some r) : Sound E 17 [D.msl 0 s_at s_ln s_cp true, D.fn 19 [] [D.iptr 1 [[D.sl false 1 (List.map (eInt .u8) del)]] 0 0]] [some { sz := 2, deep := false, rows := (List.map Seat.enc b0) }] (slices_DeleteFunc__of_1_Q r) := slices_DeleteFunc__of_1_ev (evf_ev h)
end Go.RX.L

set_option linter.unusedSimpArgs false
set_option linter.unusedVariables false
set_option maxRecDepth 100000
set_option maxHeartbeats 4000000
namespace Go.RX.L
open Go Go.RX Go.Proofs
attribute [local irreducible] FinQ
def sticky_cloned_Q (y : Nat × Nat × Nat × (List Seat)) (d : D) (s : Sto) : Prop := d = D.msl 0 y.1 y.2.1 y.2.2.1 true ∧ s = [some { sz := 2, deep := false, rows := (List.map Seat.enc y.2.2.2) }]
inductive sticky_cloned_S where
  | s0 (l : List Seat)
  | s1 (l : List Seat) (outln : Nat) (outcp : Nat) (t12 : Int) (t13 : Int) (out : List Seat)
noncomputable def sticky_cloned_M : sticky_cloned_S → M
  | .s0 l => ⟨[.code (bodyOf Try.f15)], [(0, D.sl false 2 (List.map Seat.enc l))], []⟩
  | .s1 l outln outcp t12 t13 out => { td := [It.lpc (codeAt (bodyOf Try.f15) [1, 1, 1, 0, 1, 0, 0]) 12297, It.blk 0, It.code (codeAt (bodyOf Try.f15) [1, 1, 1, 1])], fr := [(0, D.sl false 2 (List.map Seat.enc l)), (3, D.msl 0 0 outln outcp true), (12, D.int .i64 t12), (13, D.int .i64 t13)], st := [some { sz := 2, deep := false, rows := (List.map Seat.enc out) }] }
noncomputable def sticky_cloned_0 (l : List Seat) : Option (sticky_cloned_S ⊕ (Nat × Nat × Nat × (List Seat))) := (bif (decide ((0 : Int) ≤ (((List.map Seat.enc l).length : Nat) : Int)) && (decide (((((List.map Seat.enc l).length : Nat) : Int) : Int) ≤ (((List.map Seat.enc l).length : Nat) : Int)) && (decide (((((List.map Seat.enc l).length : Nat) : Int) : Int) ≤ 9223372036854775807) && decide (((List.map Seat.enc l).length) * 32 ≤ bytesLim)))) then (some (.inl (.s1 l ((List.map Seat.enc (List.replicate ((List.map Seat.enc l).length) (⟨[], 0⟩ : Seat))).length) ((List.map Seat.enc (List.replicate ((List.map Seat.enc l).length) (⟨[], 0⟩ : Seat))).length) (((List.map Seat.enc (List.replicate ((List.map Seat.enc l).length) (⟨[], 0⟩ : Seat))).length : Nat) : Int) 0 (List.take 0 (List.replicate ((List.map Seat.enc l).length) (⟨[], 0⟩ : Seat)) ++ List.take (min ((List.map Seat.enc l).length) ((List.map Seat.enc (List.replicate ((List.map Seat.enc l).length) (⟨[], 0⟩ : Seat))).length)) l ++ List.drop (0 + (min ((List.map Seat.enc l).length) ((List.map Seat.enc (List.replicate ((List.map Seat.enc l).length) (⟨[], 0⟩ : Seat))).length))) (List.replicate ((List.map Seat.enc l).length) (⟨[], 0⟩ : Seat)))))) else none)
noncomputable def sticky_cloned_1 (l : List Seat) (outln : Nat) (outcp : Nat) (t12 : Int) (t13 : Int) (out : List Seat) : Option (sticky_cloned_S ⊕ (Nat × Nat × Nat × (List Seat))) := (bif (decide ((t13 : Int) < t12)) then (bif ((decide ((0 : Int) ≤ t13)) && (decide ((t13 : Int) < (((List.map Seat.enc l).length : Nat) : Int)))) then (((l)[t13.toNat]?).bind fun y3 => ((bytes_Clone y3.Session).bind fun y5 => (bif ((decide ((0 : Int) ≤ t13)) && (decide ((t13 : Int) < ((outln : Nat) : Int)))) then (((out)[(0 + t13.toNat)]?).bind fun y7 => (some (.inl (.s1 l outln outcp t12 (IntKind.i64.wrap (t13 + 1)) (List.set out (0 + t13.toNat) (⟨y5, y7.Target⟩ : Seat)))))) else none))) else none) else (some (.inr (0, outln, outcp, out))))
noncomputable def sticky_cloned_step : sticky_cloned_S → Option (sticky_cloned_S ⊕ (Nat × Nat × Nat × (List Seat)))
  | .s0 l => sticky_cloned_0 l
  | .s1 l outln outcp t12 t13 out => sticky_cloned_1 l outln outcp t12 t13 out
theorem sticky_cloned_0_ok {l : List Seat} {r : Nat × Nat × Nat × (List Seat)} {x : sticky_cloned_S ⊕ (Nat × Nat × Nat × (List Seat))} (h : sticky_cloned_0 l = some x) (ha : After E ⟨Try.f15, true, 0⟩ sticky_cloned_Q sticky_cloned_M r x) : FinQ E ⟨Try.f15, true, 0⟩ (QW (sticky_cloned_Q r)) (.go (sticky_cloned_M (.s0 l))) := by
  unfold sticky_cloned_0 at h
  refine adv_ok hm 9 _ ?_
  refine p_need h (by kernel_rfl) (fun h1 h => ?_)
  refine r_rows (List.replicate ((List.map Seat.enc l).length) (Seat.enc (⟨[], 0⟩ : Seat))) (List.map Seat.enc (List.replicate ((List.map Seat.enc l).length) (⟨[], 0⟩ : Seat))) (by kernel_rfl) (rows_rep _ _ _) ?_
  refine adv_ok hm 7 _ ?_
  refine r_needT (b := (Nat.ble (0 + (List.map Seat.enc (List.replicate ((List.map Seat.enc l).length) (⟨[], 0⟩ : Seat))).length) ((List.map Seat.enc (List.replicate ((List.map Seat.enc l).length) (⟨[], 0⟩ : Seat))).length))) (by kernel_rfl) (ble_full _) ?_
  refine r_rows (List.take 0 (List.map Seat.enc (List.replicate ((List.map Seat.enc l).length) (⟨[], 0⟩ : Seat))) ++ List.take (min ((List.map Seat.enc l).length) ((List.map Seat.enc (List.replicate ((List.map Seat.enc l).length) (⟨[], 0⟩ : Seat))).length)) (List.map Seat.enc l) ++ List.drop (0 + (min ((List.map Seat.enc l).length) ((List.map Seat.enc (List.replicate ((List.map Seat.enc l).length) (⟨[], 0⟩ : Seat))).length))) (List.map Seat.enc (List.replicate ((List.map Seat.enc l).length) (⟨[], 0⟩ : Seat)))) (List.map Seat.enc (List.take 0 (List.replicate ((List.map Seat.enc l).length) (⟨[], 0⟩ : Seat)) ++ List.take (min ((List.map Seat.enc l).length) ((List.map Seat.enc (List.replicate ((List.map Seat.enc l).length) (⟨[], 0⟩ : Seat))).length)) l ++ List.drop (0 + (min ((List.map Seat.enc l).length) ((List.map Seat.enc (List.replicate ((List.map Seat.enc l).length) (⟨[], 0⟩ : Seat))).length))) (List.replicate ((List.map Seat.enc l).length) (⟨[], 0⟩ : Seat)))) (by kernel_rfl) (rows_copy _ _ _ _ _) ?_
  refine adv_ok hm 11 _ ?_
  obtain rfl := Option.some.inj h
  exact r_to (q' := .go (sticky_cloned_M (.s1 l ((List.map Seat.enc (List.replicate ((List.map Seat.enc l).length) (⟨[], 0⟩ : Seat))).length) ((List.map Seat.enc (List.replicate ((List.map Seat.enc l).length) (⟨[], 0⟩ : Seat))).length) (((List.map Seat.enc (List.replicate ((List.map Seat.enc l).length) (⟨[], 0⟩ : Seat))).length : Nat) : Int) 0 (List.take 0 (List.replicate ((List.map Seat.enc l).length) (⟨[], 0⟩ : Seat)) ++ List.take (min ((List.map Seat.enc l).length) ((List.map Seat.enc (List.replicate ((List.map Seat.enc l).length) (⟨[], 0⟩ : Seat))).length)) l ++ List.drop (0 + (min ((List.map Seat.enc l).length) ((List.map Seat.enc (List.replicate ((List.map Seat.enc l).length) (⟨[], 0⟩ : Seat))).length))) (List.replicate ((List.map Seat.enc l).length) (⟨[], 0⟩ : Seat)))))) (by kernel_rfl) ha
theorem sticky_cloned_1_ok {l : List Seat} {outln : Nat} {outcp : Nat} {t12 : Int} {t13 : Int} {out : List Seat} {r : Nat × Nat × Nat × (List Seat)} {x : sticky_cloned_S ⊕ (Nat × Nat × Nat × (List Seat))} (h : sticky_cloned_1 l outln outcp t12 t13 out = some x) (ha : After E ⟨Try.f15, true, 0⟩ sticky_cloned_Q sticky_cloned_M r x) : FinQ E ⟨Try.f15, true, 0⟩ (QW (sticky_cloned_Q r)) (.go (sticky_cloned_M (.s1 l outln outcp t12 t13 out))) := by
  unfold sticky_cloned_1 at h
  refine adv_ok hm 7 _ ?_
  refine p_split h (by kernel_rfl) (fun h1 h => ?_) (fun h1 h => ?_)
  · -- true
    refine adv_ok hm 14 _ ?_
    refine p_need h (by kernel_rfl) (fun h2 h => ?_)
    refine adv_ok hm 2 _ ?_
    refine p_row (((List.map Seat.enc l))[t13.toNat]?) Seat.enc h (by kernel_rfl) List.getElem?_map (fun y3 h4 h => ?_)
    refine adv_ok hm 1 _ ?_
    have ok5 := fun (y : List Int) (hy : bytes_Clone y3.Session = some y) => bytes_Clone_ok hy
    refine p_callE [] (args1 := [D.sl false 1 (List.map (eInt .u8) y3.Session)]) (args := [D.sl false 1 (List.map (eInt .u8) y3.Session)]) (fun y5 => D.sl false 1 (List.map (eInt .u8) y5)) (fun y5 => []) h (by kernel_rfl) ⟨rfl, rfl⟩ ok5 (fun y5 h5 h => ?_)
    refine adv_ok hm 1 _ ?_
    refine p_need h (by kernel_rfl) (fun h6 h => ?_)
    refine adv_ok hm 2 _ ?_
    refine p_row (((List.map Seat.enc out))[(0 + t13.toNat)]?) Seat.enc h (by kernel_rfl) List.getElem?_map (fun y7 h8 h => ?_)
    refine r_rows (List.set (List.map Seat.enc out) (0 + t13.toNat) (Seat.enc (⟨y5, y7.Target⟩ : Seat))) (List.map Seat.enc (List.set out (0 + t13.toNat) (⟨y5, y7.Target⟩ : Seat))) (by kernel_rfl) (rows_set _ _ _ _) ?_
    refine adv_ok hm 7 _ ?_
    obtain rfl := Option.some.inj h
    exact r_to (q' := .go (sticky_cloned_M (.s1 l outln outcp t12 (IntKind.i64.wrap (t13 + 1)) (List.set out (0 + t13.toNat) (⟨y5, y7.Target⟩ : Seat))))) (by kernel_rfl) ha
  · -- false
    refine adv_ok hm 7 _ ?_
    obtain rfl := Option.some.inj h
    have hv := ha
    simp only [After] at hv
    subst hv
    exact r_retF [] (d := D.msl 0 0 outln outcp true) (s := [some { sz := 2, deep := false, rows := (List.map Seat.enc out) }]) (by kernel_rfl) ⟨rfl, rfl⟩
theorem sticky_cloned_ev {l : List Seat} {r : Nat × Nat × Nat × (List Seat)} (h : Ev sticky_cloned_step (.s0 l) r) : Sound E 15 [D.sl false 2 (List.map Seat.enc l)] [] (sticky_cloned_Q r) :=
  sound_ofW (m := sticky_cloned_M (.s0 l)) (fn := Try.f15) (by kernel_rfl) (by kernel_rfl) (ev_run (C := ⟨Try.f15, true, 0⟩) (fun s x r hs ha => by
    cases s with
    | s0 => exact sticky_cloned_0_ok hs ha
    | s1 => exact sticky_cloned_1_ok hs ha) h)
noncomputable def sticky_cloned (l : List Seat) : Option (Nat × Nat × Nat × (List Seat)) := evf sticky_cloned_step (.s0 l)
theorem sticky_cloned_ok {l : List Seat} {r : Nat × Nat × Nat × (List Seat)} (h : sticky_cloned l = some r) : Sound E 15 [D.sl false 2 (List.map Seat.enc l)] [] (sticky_cloned_Q r) := sticky_cloned_ev (evf_ev h)
end Go.RX.L

set_option linter.unusedSimpArgs false
set_option linter.unusedVariables false
set_option maxRecDepth 100000
set_option maxHeartbeats 4000000
namespace Go.RX.L
open Go Go.RX Go.Proofs
attribute [local irreducible] FinQ
def sticky_of_Q (y : List Int) (d : D) (s : Sto) : Prop := d = D.fn 19 [] [D.iptr 1 [[D.sl false 1 (List.map (eInt .u8) y)]] 0 0] ∧ s = []
noncomputable def sticky_of (session : List Int) : Option (List Int) := (some session)
theorem sticky_of_ok {session : List Int} {r : List Int} (h : sticky_of session = some r) : Sound E 14 [D.sl false 1 (List.map (eInt .u8) session)] [] (sticky_of_Q r) := by
  refine sound_ofW (m := ⟨[.code (bodyOf Try.f14)], [(0, D.sl false 1 (List.map (eInt .u8) session))], []⟩) (fn := Try.f14) (by kernel_rfl) (by kernel_rfl) ?_
  show FinQ E ⟨Try.f14, false, 0⟩ (QW (sticky_of_Q r)) _
  unfold sticky_of at h
  refine adv_ok hm 11 _ ?_
  obtain rfl := Option.some.inj h
  exact r_retF [] (d := D.fn 19 [] [D.iptr 1 [[D.sl false 1 (List.map (eInt .u8) session)]] 0 0]) (s := []) (by kernel_rfl) ⟨rfl, rfl⟩
end Go.RX.L

set_option linter.unusedSimpArgs false
set_option linter.unusedVariables false
set_option maxRecDepth 100000
set_option maxHeartbeats 4000000
namespace Go.RX.L
open Go Go.RX Go.Proofs
attribute [local irreducible] FinQ
def sticky_Put_Q (y : Nat × Nat × Nat × (List Seat)) (d : D) (s : Sto) : Prop := d = D.msl 0 y.1 y.2.1 y.2.2.1 false ∧ s = [some { sz := 2, deep := false, rows := (List.map Seat.enc y.2.2.2) }]
noncomputable def sticky_Put (l : List Seat) (room : Int) (session : List Int) (target : Int) : Option (Nat × Nat × Nat × (List Seat)) := (bif (decide ((room : Int) < 1)) then (some (0, 0, 0, [])) else ((sticky_cloned l).bind fun y2 => ((sticky_of session).bind fun y3 => ((slices_DeleteFunc__of_1 y2.1 y2.2.1 y2.2.2.1 y3 y2.2.2.2).bind fun y4 => ((bytes_Clone session).bind fun y5 => (bif (Nat.ble (y4.1 + y4.2.1) ((List.map Seat.enc y4.2.2.2).length)) then ((slices_Concat ([[(⟨y5, target⟩ : Seat)], (List.take y4.2.1 (List.drop y4.1 y4.2.2.2))])).bind fun y7 => (bif ((decide (((0 : Nat) : Int) ≤ (mnI ((y7.2.1 : Nat) : Int) room))) && (decide (((mnI ((y7.2.1 : Nat) : Int) room) : Int) ≤ ((y7.2.2.1 : Nat) : Int)))) then (bif ((decide (((0 : Nat) : Int) ≤ (mnI ((y7.2.1 : Nat) : Int) room))) && (decide (((mnI ((y7.2.1 : Nat) : Int) room) : Int) ≤ (((mnI ((y7.2.1 : Nat) : Int) room).toNat : Nat) : Int)))) then (some (y7.1, (mnI ((y7.2.1 : Nat) : Int) room).toNat, (mnI ((y7.2.1 : Nat) : Int) room).toNat, y7.2.2.2)) else none) else none)) else none))))))
theorem sticky_Put_ok {l : List Seat} {room : Int} {session : List Int} {target : Int} {r : Nat × Nat × Nat × (List Seat)} (h : sticky_Put l room session target = some r) : Sound E 10 [D.sl false 2 (List.map Seat.enc l), D.int .i64 room, D.sl false 1 (List.map (eInt .u8) session), D.int .i64 target] [] (sticky_Put_Q r) := by
  refine sound_ofW (m := ⟨[.code (bodyOf Try.f10)], [(0, D.sl false 2 (List.map Seat.enc l)), (1, D.int .i64 room), (2, D.sl false 1 (List.map (eInt .u8) session)), (3, D.int .i64 target)], []⟩) (fn := Try.f10) (by kernel_rfl) (by kernel_rfl) ?_
  show FinQ E ⟨Try.f10, true, 0⟩ (QW (sticky_Put_Q r)) _
  unfold sticky_Put at h
  refine adv_ok hm 11 _ ?_
  refine p_split h (by kernel_rfl) (fun h1 h => ?_) (fun h1 h => ?_)
  · -- true
    refine adv_ok hm 5 _ ?_
    obtain rfl := Option.some.inj h
    exact r_retF [.mat 0 2] (d := D.msl 0 0 0 0 false) (s := [some { sz := 2, deep := false, rows := [] }]) (by kernel_rfl) ⟨rfl, rfl⟩
  · -- false
    refine adv_ok hm 5 _ ?_
    have ok2 := fun (y : Nat × Nat × Nat × (List Seat)) (hy : sticky_cloned l = some y) => sticky_cloned_ok hy
    refine p_callE [] (args1 := [D.sl false 2 (List.map Seat.enc l)]) (args := [D.sl false 2 (List.map Seat.enc l)]) (fun y2 => D.msl 0 y2.1 y2.2.1 y2.2.2.1 true) (fun y2 => [some { sz := 2, deep := false, rows := (List.map Seat.enc y2.2.2.2) }]) h (by kernel_rfl) ⟨rfl, rfl⟩ ok2 (fun y2 h2 h => ?_)
    refine adv_ok hm 2 _ ?_
    have ok3 := fun (y : List Int) (hy : sticky_of session = some y) => sticky_of_ok hy
    refine p_callE [] (args1 := [D.sl false 1 (List.map (eInt .u8) session)]) (args := [D.sl false 1 (List.map (eInt .u8) session)]) (fun y3 => D.fn 19 [] [D.iptr 1 [[D.sl false 1 (List.map (eInt .u8) y3)]] 0 0]) (fun y3 => []) h (by kernel_rfl) ⟨rfl, rfl⟩ ok3 (fun y3 h3 h => ?_)
    refine adv_ok hm 1 _ ?_
    have ok4 := fun (y : Nat × Nat × Nat × (List Seat)) (hy : slices_DeleteFunc__of_1 y2.1 y2.2.1 y2.2.2.1 y3 y2.2.2.2 = some y) => slices_DeleteFunc__of_1_ok hy
    refine p_callE [] (args1 := [D.msl 0 y2.1 y2.2.1 y2.2.2.1 true, D.fn 19 [] [D.iptr 1 [[D.sl false 1 (List.map (eInt .u8) y3)]] 0 0]]) (args := [D.msl 0 y2.1 y2.2.1 y2.2.2.1 true, D.fn 19 [] [D.iptr 1 [[D.sl false 1 (List.map (eInt .u8) y3)]] 0 0]]) (fun y4 => D.msl 0 y4.1 y4.2.1 y4.2.2.1 true) (fun y4 => [some { sz := 2, deep := false, rows := (List.map Seat.enc y4.2.2.2) }]) h (by kernel_rfl) ⟨rfl, rfl⟩ ok4 (fun y4 h4 h => ?_)
    refine adv_ok hm 6 _ ?_
    have ok5 := fun (y : List Int) (hy : bytes_Clone session = some y) => bytes_Clone_ok hy
    refine p_callE [] (args1 := [D.sl false 1 (List.map (eInt .u8) session)]) (args := [D.sl false 1 (List.map (eInt .u8) session)]) (fun y5 => D.sl false 1 (List.map (eInt .u8) y5)) (fun y5 => []) h (by kernel_rfl) ⟨rfl, rfl⟩ ok5 (fun y5 h5 h => ?_)
    refine adv_ok hm 8 _ ?_
    refine p_need h (by kernel_rfl) (fun h6 h => ?_)
    have ok7 := fun (y : Nat × Nat × Nat × (List Seat)) (hy : slices_Concat ([[(⟨y5, target⟩ : Seat)], (List.take y4.2.1 (List.drop y4.1 y4.2.2.2))]) = some y) => @Eq.mp (Sound E 16 [D.sl false 1 (List.map (eSl 2 Seat.enc) ([[(⟨y5, target⟩ : Seat)], (List.take y4.2.1 (List.drop y4.1 y4.2.2.2))]))] [] (slices_Concat_Q y)) (Sound E 16 [D.sl false 1 [[D.sl false 2 [[D.sl false 1 (List.map (eInt .u8) y5), D.int .i64 target]]], [D.sl false 2 (List.map Seat.enc (List.take y4.2.1 (List.drop y4.1 y4.2.2.2)))]]] [] (slices_Concat_Q y)) (by kernel_rfl) (slices_Concat_ok hy)
    refine p_callE [] (args1 := [D.sl false 1 [[D.sl false 2 [[D.sl false 1 (List.map (eInt .u8) y5), D.int .i64 target]]], [D.sl false 2 (List.take y4.2.1 (List.drop y4.1 (List.map Seat.enc y4.2.2.2)))]]]) (args := [D.sl false 1 [[D.sl false 2 [[D.sl false 1 (List.map (eInt .u8) y5), D.int .i64 target]]], [D.sl false 2 (List.map Seat.enc (List.take y4.2.1 (List.drop y4.1 y4.2.2.2)))]]]) (fun y7 => D.msl 0 y7.1 y7.2.1 y7.2.2.1 false) (fun y7 => [some { sz := 2, deep := false, rows := (List.map Seat.enc y7.2.2.2) }]) h (by kernel_rfl) ⟨by simp [List.take_of_length_le, List.map_take, List.map_drop], rfl⟩ ok7 (fun y7 h7 h => ?_)
    refine adv_ok hm 16 _ ?_
    refine p_need h (by kernel_rfl) (fun h8 h => ?_)
    refine p_need h (by kernel_rfl) (fun h9 h => ?_)
    refine adv_ok hm 3 _ ?_
    obtain rfl := Option.some.inj h
    exact r_retF [.unex 0] (d := D.msl 0 y7.1 ((mnI ((y7.2.1 : Nat) : Int) room).toNat) ((mnI ((y7.2.1 : Nat) : Int) room).toNat) false) (s := [some { sz := 2, deep := false, rows := (List.map Seat.enc y7.2.2.2) }]) (by kernel_rfl) ⟨rfl, rfl⟩
end Go.RX.L

set_option linter.unusedSimpArgs false
set_option linter.unusedVariables false
set_option maxRecDepth 100000
set_option maxHeartbeats 4000000
namespace Go.RX.L
open Go Go.RX Go.Proofs
attribute [local irreducible] FinQ
def sticky_Get_Q (y : Int × Nat × Nat × Nat × (List Seat)) (d : D) (s : Sto) : Prop := d = D.tup [D.int .i64 y.1, D.msl 0 y.2.1 y.2.2.1 y.2.2.2.1 true] ∧ s = [some { sz := 2, deep := false, rows := (List.map Seat.enc y.2.2.2.2) }]
noncomputable def sticky_Get (l : List Seat) (session : List Int) : Option (Int × Nat × Nat × Nat × (List Seat)) := ((sticky_of session).bind fun y1 => ((slices_IndexFunc__of_1 l y1).bind fun y2 => (bif (decide ((y2 : Int) < 0)) then ((sticky_cloned l).bind fun y4 => (some ((-1), y4.1, y4.2.1, y4.2.2.1, y4.2.2.2))) else (bif ((decide ((0 : Int) ≤ y2)) && (decide ((y2 : Int) < (((List.map Seat.enc l).length : Nat) : Int)))) then (((l)[y2.toNat]?).bind fun y6 => (bif ((decide (((0 : Nat) : Int) ≤ (IntKind.i64.wrap (y2 + 1)))) && (decide (((IntKind.i64.wrap (y2 + 1)) : Int) ≤ (((List.map Seat.enc l).length : Nat) : Int)))) then (bif ((decide (((0 : Nat) : Int) ≤ (IntKind.i64.wrap (y2 + 1)))) && (decide (((IntKind.i64.wrap (y2 + 1)) : Int) ≤ (((IntKind.i64.wrap (y2 + 1)).toNat : Nat) : Int)))) then (bif ((decide (((0 : Nat) : Int) ≤ y2)) && (decide ((y2 : Int) ≤ (((IntKind.i64.wrap (y2 + 1)).toNat : Nat) : Int)))) then (bif ((decide (((0 : Nat) : Int) ≤ y2)) && (decide ((y2 : Int) ≤ (((List.map Seat.enc l).length : Nat) : Int)))) then (bif ((decide (((0 : Nat) : Int) ≤ (IntKind.i64.wrap (y2 + 1)))) && (decide (((IntKind.i64.wrap (y2 + 1)) : Int) ≤ (((List.map Seat.enc l).length : Nat) : Int)))) then ((slices_Concat ([(List.drop y2.toNat (List.take ((IntKind.i64.wrap (y2 + 1)).toNat) l)), (List.drop 0 (List.take y2.toNat l)), (List.drop ((IntKind.i64.wrap (y2 + 1)).toNat) (List.take ((List.map Seat.enc l).length) l))])).bind fun y13 => (bif (Nat.ble (y13.1 + y13.2.1) ((List.map Seat.enc y13.2.2.2).length)) then ((sticky_cloned (List.take y13.2.1 (List.drop y13.1 y13.2.2.2))).bind fun y15 => (some (y6.Target, y15.1, y15.2.1, y15.2.2.1, y15.2.2.2))) else none)) else none) else none) else none) else none) else none)) else none))))
theorem sticky_Get_ok {l : List Seat} {session : List Int} {r : Int × Nat × Nat × Nat × (List Seat)} (h : sticky_Get l session = some r) : Sound E 8 [D.sl false 2 (List.map Seat.enc l), D.sl false 1 (List.map (eInt .u8) session)] [] (sticky_Get_Q r) := by
  refine sound_ofW (m := ⟨[.code (bodyOf Try.f8)], [(0, D.sl false 2 (List.map Seat.enc l)), (1, D.sl false 1 (List.map (eInt .u8) session))], []⟩) (fn := Try.f8) (by kernel_rfl) (by kernel_rfl) ?_
  show FinQ E ⟨Try.f8, true, 0⟩ (QW (sticky_Get_Q r)) _
  unfold sticky_Get at h
  refine adv_ok hm 10 _ ?_
  have ok1 := fun (y : List Int) (hy : sticky_of session = some y) => sticky_of_ok hy
  refine p_callE [] (args1 := [D.sl false 1 (List.map (eInt .u8) session)]) (args := [D.sl false 1 (List.map (eInt .u8) session)]) (fun y1 => D.fn 19 [] [D.iptr 1 [[D.sl false 1 (List.map (eInt .u8) y1)]] 0 0]) (fun y1 => []) h (by kernel_rfl) ⟨rfl, rfl⟩ ok1 (fun y1 h1 h => ?_)
  refine adv_ok hm 1 _ ?_
  have ok2 := fun (y : Int) (hy : slices_IndexFunc__of_1 l y1 = some y) => slices_IndexFunc__of_1_ok hy
  refine p_callE [] (args1 := [D.sl false 2 (List.map Seat.enc l), D.fn 19 [] [D.iptr 1 [[D.sl false 1 (List.map (eInt .u8) y1)]] 0 0]]) (args := [D.sl false 2 (List.map Seat.enc l), D.fn 19 [] [D.iptr 1 [[D.sl false 1 (List.map (eInt .u8) y1)]] 0 0]]) (fun y2 => D.int .i64 y2) (fun y2 => []) h (by kernel_rfl) ⟨rfl, rfl⟩ ok2 (fun y2 h2 h => ?_)
  refine adv_ok hm 9 _ ?_
  refine p_split h (by kernel_rfl) (fun h3 h => ?_) (fun h3 h => ?_)
  · -- true
    refine adv_ok hm 4 _ ?_
    have ok4 := fun (y : Nat × Nat × Nat × (List Seat)) (hy : sticky_cloned l = some y) => sticky_cloned_ok hy
    refine p_callE [] (args1 := [D.sl false 2 (List.map Seat.enc l)]) (args := [D.sl false 2 (List.map Seat.enc l)]) (fun y4 => D.msl 0 y4.1 y4.2.1 y4.2.2.1 true) (fun y4 => [some { sz := 2, deep := false, rows := (List.map Seat.enc y4.2.2.2) }]) h (by kernel_rfl) ⟨rfl, rfl⟩ ok4 (fun y4 h4 h => ?_)
    refine adv_ok hm 4 _ ?_
    obtain rfl := Option.some.inj h
    exact r_retF [] (d := D.tup [D.int .i64 (-1), D.msl 0 y4.1 y4.2.1 y4.2.2.1 true]) (s := [some { sz := 2, deep := false, rows := (List.map Seat.enc y4.2.2.2) }]) (by kernel_rfl) ⟨rfl, rfl⟩
  · -- false
    refine adv_ok hm 3 _ ?_
    refine p_need h (by kernel_rfl) (fun h5 h => ?_)
    refine p_row (((List.map Seat.enc l))[y2.toNat]?) Seat.enc h (by kernel_rfl) List.getElem?_map (fun y6 h7 h => ?_)
    refine p_need h (by kernel_rfl) (fun h8 h => ?_)
    refine p_need h (by kernel_rfl) (fun h9 h => ?_)
    refine p_need h (by kernel_rfl) (fun h10 h => ?_)
    refine r_rows (List.drop y2.toNat (List.take ((IntKind.i64.wrap (y2 + 1)).toNat) (List.map Seat.enc l))) (List.map Seat.enc (List.drop y2.toNat (List.take ((IntKind.i64.wrap (y2 + 1)).toNat) l))) (by kernel_rfl) (rows_cut _ _ _ _) ?_
    refine p_need h (by kernel_rfl) (fun h11 h => ?_)
    refine r_rows (List.drop 0 (List.take y2.toNat (List.map Seat.enc l))) (List.map Seat.enc (List.drop 0 (List.take y2.toNat l))) (by kernel_rfl) (rows_cut _ _ _ _) ?_
    refine p_need h (by kernel_rfl) (fun h12 h => ?_)
    refine r_rows (List.drop ((IntKind.i64.wrap (y2 + 1)).toNat) (List.take ((List.map Seat.enc l).length) (List.map Seat.enc l))) (List.map Seat.enc (List.drop ((IntKind.i64.wrap (y2 + 1)).toNat) (List.take ((List.map Seat.enc l).length) l))) (by kernel_rfl) (rows_cut _ _ _ _) ?_
    refine adv_ok hm 1 _ ?_
    have ok13 := fun (y : Nat × Nat × Nat × (List Seat)) (hy : slices_Concat ([(List.drop y2.toNat (List.take ((IntKind.i64.wrap (y2 + 1)).toNat) l)), (List.drop 0 (List.take y2.toNat l)), (List.drop ((IntKind.i64.wrap (y2 + 1)).toNat) (List.take ((List.map Seat.enc l).length) l))]) = some y) => @Eq.mp (Sound E 16 [D.sl false 1 (List.map (eSl 2 Seat.enc) ([(List.drop y2.toNat (List.take ((IntKind.i64.wrap (y2 + 1)).toNat) l)), (List.drop 0 (List.take y2.toNat l)), (List.drop ((IntKind.i64.wrap (y2 + 1)).toNat) (List.take ((List.map Seat.enc l).length) l))]))] [] (slices_Concat_Q y)) (Sound E 16 [D.sl false 1 [[D.sl false 2 (List.map Seat.enc (List.drop y2.toNat (List.take ((IntKind.i64.wrap (y2 + 1)).toNat) l)))], [D.sl false 2 (List.map Seat.enc (List.drop 0 (List.take y2.toNat l)))], [D.sl false 2 (List.map Seat.enc (List.drop ((IntKind.i64.wrap (y2 + 1)).toNat) (List.take ((List.map Seat.enc l).length) l)))]]] [] (slices_Concat_Q y)) (by kernel_rfl) (slices_Concat_ok hy)
    refine p_callE [] (args1 := [D.sl false 1 [[D.sl false 2 (List.map Seat.enc (List.drop y2.toNat (List.take ((IntKind.i64.wrap (y2 + 1)).toNat) l)))], [D.sl false 2 (List.map Seat.enc (List.drop 0 (List.take y2.toNat l)))], [D.sl false 2 (List.map Seat.enc (List.drop ((IntKind.i64.wrap (y2 + 1)).toNat) (List.take ((List.map Seat.enc l).length) l)))]]]) (args := [D.sl false 1 [[D.sl false 2 (List.map Seat.enc (List.drop y2.toNat (List.take ((IntKind.i64.wrap (y2 + 1)).toNat) l)))], [D.sl false 2 (List.map Seat.enc (List.drop 0 (List.take y2.toNat l)))], [D.sl false 2 (List.map Seat.enc (List.drop ((IntKind.i64.wrap (y2 + 1)).toNat) (List.take ((List.map Seat.enc l).length) l)))]]]) (fun y13 => D.msl 0 y13.1 y13.2.1 y13.2.2.1 false) (fun y13 => [some { sz := 2, deep := false, rows := (List.map Seat.enc y13.2.2.2) }]) h (by kernel_rfl) ⟨rfl, rfl⟩ ok13 (fun y13 h13 h => ?_)
    refine p_need h (by kernel_rfl) (fun h14 h => ?_)
    have ok15 := fun (y : Nat × Nat × Nat × (List Seat)) (hy : sticky_cloned (List.take y13.2.1 (List.drop y13.1 y13.2.2.2)) = some y) => sticky_cloned_ok hy
    refine p_callE [] (args1 := [D.sl false 2 (List.take y13.2.1 (List.drop y13.1 (List.map Seat.enc y13.2.2.2)))]) (args := [D.sl false 2 (List.map Seat.enc (List.take y13.2.1 (List.drop y13.1 y13.2.2.2)))]) (fun y15 => D.msl 0 y15.1 y15.2.1 y15.2.2.1 true) (fun y15 => [some { sz := 2, deep := false, rows := (List.map Seat.enc y15.2.2.2) }]) h (by kernel_rfl) ⟨by simp [List.take_of_length_le, List.map_take, List.map_drop], rfl⟩ ok15 (fun y15 h15 h => ?_)
    refine adv_ok hm 1 _ ?_
    obtain rfl := Option.some.inj h
    exact r_retF [] (d := D.tup [D.int .i64 y6.Target, D.msl 0 y15.1 y15.2.1 y15.2.2.1 true]) (s := [some { sz := 2, deep := false, rows := (List.map Seat.enc y15.2.2.2) }]) (by kernel_rfl) ⟨rfl, rfl⟩
end Go.RX.L

set_option linter.unusedSimpArgs false
set_option linter.unusedVariables false
namespace Go.RX.L
open Go Go.RX

def lim : Nat := 140737488351232
def eqS (a b : List Int) : Bool := ((List.map b8 a : List UInt8) == (List.map b8 b))
theorem eqS_refl (a : List Int) : eqS a a = true := by simp [eqS]
theorem eqS_iff {a b : List Int} : eqS a b = true ↔ List.map b8 a = List.map b8 b := by simp [eqS]
theorem eqS_comm (a b : List Int) : eqS a b = eqS b a := by
  cases h : eqS b a with
  | true => rw [eqS_iff] at h ⊢; exact h.symm
  | false =>
    cases h2 : eqS a b with
    | false => rfl
    | true => rw [eqS_iff] at h2; rw [eqS_iff.2 h2.symm] at h; cases h
theorem eqS_trans {a b c : List Int} (h : eqS a b = true) : eqS a c = eqS b c := by
  rw [eqS_iff] at h; unfold eqS; rw [h]

/-- A table that fits. -/
structure Fits (l : List Seat) : Prop where
  len : l.length ≤ 100000
  ses : ∀ s ∈ l, s.Session.length ≤ lim

theorem clone_ok {b : List Int} (h : b.length ≤ lim) : bytes_Clone b = some b := by
  unfold bytes_Clone
  have : (0 + (List.map (eInt .u8) b).length) * 1 ≤ bytesLim := by unfold bytesLim; unfold lim at h; simp; omega
  rw [decide_eq_true this]; rfl
theorem of_ok (s : Seat) (f : List Int) : sticky_of_1 s f = some (eqS s.Session f) := rfl

/-! ### a table on its own -/
theorem cloned_loop {l : List Seat} (hl : Fits l) : ∀ (j k : Nat), k + j = l.length → Ev sticky_cloned_step (.s1 l l.length l.length (l.length : Nat) k l) (0, l.length, l.length, l) := by
  intro j
  induction j with
  | zero =>
    intro k hk
    refine .done ?_
    simp only [sticky_cloned_step, sticky_cloned_1, geB (show l.length ≤ k by omega), cond_false]
  | succ j ih =>
    intro k hk
    have hkl : k < l.length := by omega
    have hlen := hl.len
    refine .next (s' := .s1 l l.length l.length (l.length : Nat) ((k + 1 : Nat) : Int) l) ?_ (ih (k + 1) (by omega))
    have hset : List.set l k (⟨l[k].Session, l[k].Target⟩ : Seat) = l := by
      refine List.ext_getElem? fun i => ?_
      rw [List.getElem?_set]
      by_cases h : k = i
      · subst h; rw [if_pos rfl, if_pos hkl, List.getElem?_eq_getElem hkl]
      · rw [if_neg h]
    simp only [sticky_cloned_step, sticky_cloned_1, List.length_map, ltB hkl, le0, Bool.and_self, cond_true, Int.toNat_natCast, Nat.zero_add, List.getElem?_eq_getElem hkl, Option.bind_some, clone_ok (hl.ses _ (List.getElem_mem hkl)), wS (show k < 9223372036854775807 by omega), hset]

theorem cloned_ok {l : List Seat} (hl : Fits l) : sticky_cloned l = some (0, l.length, l.length, l) := by
  have hlen := hl.len
  refine evf_of (.next (s' := .s1 l l.length l.length (l.length : Nat) (0 : Nat) l) ?_ (cloned_loop hl l.length 0 (by omega)))
  have h1 : l.length * 32 ≤ bytesLim := by unfold bytesLim; omega
  have h2 : ((l.length : Nat) : Int) ≤ 9223372036854775807 := by omega
  simp only [sticky_cloned_step, sticky_cloned_0, List.length_map, List.length_replicate, le0, decide_eq_true h1, decide_eq_true h2, Bool.and_self, Bool.and_true, Nat.min_self, List.take_zero, List.nil_append, List.take_length, Nat.zero_add]
  rw [List.drop_eq_nil_of_le (by simp)]
  simp

/-! ### where a session is -/
def idxS : List Seat → List Int → Nat → Int
  | [], _, _ => -1
  | s :: r, f, i => if eqS s.Session f = true then (i : Int) else idxS r f (i + 1)
/-- A session's seat, and the others in their order. -/
def rest : List Seat → List Int → Option (Seat × List Seat)
  | [], _ => none
  | s :: r, f => if eqS s.Session f = true then some (s, r) else (rest r f).map fun x => (x.1, s :: x.2)

theorem index_loop (l : List Seat) (f : List Int) (hl : l.length ≤ 300000) : ∀ (j k : Nat), k + j = l.length → Ev slices_IndexFunc__of_1_step (.s1 l f (l.length : Nat) k) (idxS (l.drop k) f k) := by
  intro j
  induction j with
  | zero =>
    intro k hk
    refine .done ?_
    rw [List.drop_eq_nil_of_le (by omega)]
    simp only [slices_IndexFunc__of_1_step, slices_IndexFunc__of_1_1, geB (show l.length ≤ k by omega), cond_false, idxS]
  | succ j ih =>
    intro k hk
    have hkl : k < l.length := by omega
    rw [List.drop_eq_getElem_cons hkl]
    unfold idxS
    by_cases h : eqS l[k].Session f = true
    · rw [if_pos h]
      refine .done ?_
      simp only [slices_IndexFunc__of_1_step, slices_IndexFunc__of_1_1, List.length_map, ltB hkl, le0, Bool.and_self, cond_true, Int.toNat_natCast, List.getElem?_eq_getElem hkl, Option.bind_some, of_ok, h]
    · rw [if_neg h]
      have h' : eqS l[k].Session f = false := by simpa using h
      refine .next (s' := .s1 l f (l.length : Nat) ((k + 1 : Nat) : Int)) ?_ (ih (k + 1) (by omega))
      simp only [slices_IndexFunc__of_1_step, slices_IndexFunc__of_1_1, List.length_map, ltB hkl, le0, Bool.and_self, cond_true, Int.toNat_natCast, List.getElem?_eq_getElem hkl, Option.bind_some, of_ok, h', cond_false, wS (show k < 9223372036854775807 by omega)]

theorem index_ok (l : List Seat) (f : List Int) (hl : l.length ≤ 300000) : slices_IndexFunc__of_1 l f = some (idxS l f 0) :=
  evf_of (.next (s' := .s1 l f (l.length : Nat) (0 : Nat)) (by simp [slices_IndexFunc__of_1_step, slices_IndexFunc__of_1_0]) (by simpa using index_loop l f hl l.length 0 (by omega)))

/-- There is none; or there is one, at some place. -/
theorem idx_rest (f : List Int) : ∀ (l : List Seat) (i : Nat), (idxS l f i = -1 ∧ rest l f = none ∧ ∀ s ∈ l, eqS s.Session f = false) ∨
    ∃ (j : Nat) (s : Seat), idxS l f i = ((i + j : Nat) : Int) ∧ l[j]? = some s ∧ eqS s.Session f = true ∧ rest l f = some (s, l.take j ++ l.drop (j + 1)) ∧ ∀ x ∈ l.take j, eqS x.Session f = false
  | [], i => .inl ⟨rfl, rfl, fun s h => by simp at h⟩
  | s :: r, i => by
    by_cases h : eqS s.Session f = true
    · exact .inr ⟨0, s, by simp [idxS, h], rfl, h, by simp [rest, h], fun x hx => by simp at hx⟩
    · have h' : eqS s.Session f = false := by simpa using h
      rcases idx_rest f r (i + 1) with ⟨h1, h2, h3⟩ | ⟨j, x, h1, h2, h3, h4, h5⟩
      · refine .inl ⟨by simp [idxS, h', h1], by simp [rest, h', h2], fun y hy => ?_⟩
        rcases List.mem_cons.1 hy with rfl | hy
        · exact h'
        · exact h3 y hy
      · refine .inr ⟨j + 1, x, by simp [idxS, h', h1]; omega, h2, h3, by simp [rest, h', h4], fun y hy => ?_⟩
        rcases List.mem_cons.1 (by simpa using hy) with rfl | hy
        · exact h'
        · exact h5 y hy

/-! ### all but a session's -/
def othersP (l : List Seat) (f : List Int) : List Seat := l.filter fun s => !(eqS s.Session f)

theorem filter_take_succ {l : List Seat} {p : Seat → Bool} {j : Nat} (hj : j < l.length) : (l.take (j + 1)).filter p = (l.take j).filter p ++ if p l[j] then [l[j]] else [] := by
  rw [List.take_succ_eq_append_getElem hj, List.filter_append]
  congr 1
  cases h : p l[j] <;> simp [h]

theorem delete_loop (l : List Seat) (f : List Int) (hl : l.length ≤ 300000) : ∀ (m j : Nat), j + m = l.length → ∀ (i : Nat) (r : List Seat), i < j → r.length = l.length → r.take i = (l.take j).filter (fun s => !(eqS s.Session f)) → r.drop j = l.drop j →
    ∃ rows, Ev slices_DeleteFunc__of_1_step (.s1 0 l.length l.length f i j r) (0, (othersP l f).length, l.length, rows) ∧ rows.take (othersP l f).length = othersP l f ∧ rows.length = l.length := by
  intro m
  induction m with
  | zero =>
    intro j hj i r hij hr h1 h2
    have hjl : j = l.length := by omega
    subst hjl
    rw [List.take_length] at h1
    have hi : (othersP l f).length = i := by
      have := congrArg List.length h1
      rw [List.length_take] at this
      unfold othersP
      omega
    refine ⟨List.take (0 + i) r ++ List.replicate (l.length - i) (⟨[], 0⟩ : Seat) ++ List.drop ((0 + i) + (l.length - i)) r, .done ?_, ?_, ?_⟩
    · rw [hi]
      have b1 : decide (((0 : Nat) : Int) ≤ (i : Int)) = true := le0 i
      have b2 : decide ((i : Int) ≤ ((l.length : Nat) : Int)) = true := decide_eq_true (by omega)
      have b3 : Nat.ble ((0 + i) + (l.length - i)) r.length = true := Nat.ble_eq_true_of_le (by omega)
      simp only [slices_DeleteFunc__of_1_step, slices_DeleteFunc__of_1_1, List.length_map, geB (Nat.le_refl l.length), cond_false, b1, b2, Bool.and_self, cond_true, Int.toNat_natCast, b3]
    · rw [hi, Nat.zero_add, List.append_assoc, List.take_append_of_le_length (by rw [List.length_take]; omega), List.take_take, Nat.min_self, h1]
      rfl
    · simp; omega
  | succ m ih =>
    intro j hj i r hij hr h1 h2
    have hjl : j < l.length := by omega
    have hjr : j < r.length := by omega
    have hget : r[j]? = some l[j] := by
      have := congrArg (fun x => x[0]?) h2
      simpa [hjl] using this
    have h2' : r.drop (j + 1) = l.drop (j + 1) := by
      have := congrArg (List.drop 1) h2
      simpa [List.drop_drop] using this
    have hi : i < r.length := by omega
    cases hq : eqS l[j].Session f with
    | false =>
      obtain ⟨rows, q1, q2, q3⟩ := ih (j + 1) (by omega) (i + 1) (r.set i l[j]) (by omega) (by simpa using hr) (by
        rw [filter_take_succ hjl]
        simp only [hq, Bool.not_false, if_true]
        rw [← h1]
        refine List.ext_getElem? fun k => ?_
        rw [List.getElem?_append, List.getElem?_take, List.length_take, List.getElem?_set]
        by_cases hk : k < i
        · rw [if_pos (by omega), if_neg (by omega), if_pos (by omega), List.getElem?_take, if_pos hk]
        · by_cases hk2 : k = i
          · subst hk2
            rw [if_pos (by omega), if_pos rfl, if_pos hi, if_neg (by omega)]
            simp [show k - min k r.length = 0 by omega]
          · rw [if_neg (by omega), if_neg (by omega)]
            rw [List.getElem?_eq_none]; simp; omega) (by
        rw [List.drop_set_of_lt (by omega), h2'])
      refine ⟨rows, .next (s' := .s1 0 l.length l.length f ((i + 1 : Nat) : Int) ((j + 1 : Nat) : Int) (r.set i l[j])) ?_ q1, q2, q3⟩
      simp only [slices_DeleteFunc__of_1_step, slices_DeleteFunc__of_1_1, ltB hjl, ltB (show i < l.length by omega), le0, Bool.and_self, cond_true, Int.toNat_natCast, Nat.zero_add, hget, Option.bind_some, of_ok, hq, Bool.not_false, List.getElem?_eq_getElem hi, wS (show j < 9223372036854775807 by omega), wS (show i < 9223372036854775807 by omega)]
    | true =>
      obtain ⟨rows, q1, q2, q3⟩ := ih (j + 1) (by omega) i r (by omega) hr (by
        rw [filter_take_succ hjl]
        simp only [hq, Bool.not_true, Bool.false_eq_true, if_false, List.append_nil]
        exact h1) h2'
      refine ⟨rows, .next (s' := .s1 0 l.length l.length f (i : Nat) ((j + 1 : Nat) : Int) r) ?_ q1, q2, q3⟩
      simp only [slices_DeleteFunc__of_1_step, slices_DeleteFunc__of_1_1, ltB hjl, le0, Bool.and_self, cond_true, Int.toNat_natCast, Nat.zero_add, hget, Option.bind_some, of_ok, hq, Bool.not_true, cond_false, wS (show j < 9223372036854775807 by omega)]

theorem delete_ok (l : List Seat) (f : List Int) (hl : l.length ≤ 300000) : ∃ rows, slices_DeleteFunc__of_1 0 l.length l.length f l = some (0, (othersP l f).length, l.length, rows) ∧ rows.take (othersP l f).length = othersP l f ∧ rows.length = l.length := by
  have b0 : Nat.ble (0 + l.length) l.length = true := Nat.ble_eq_true_of_le (by omega)
  rcases idx_rest f l 0 with ⟨h1, h2, h3⟩ | ⟨j, s, h1, h2, h3, h4, h5⟩
  · have ho : othersP l f = l := List.filter_eq_self.2 fun s hs => by simp [h3 s hs]
    refine ⟨l, evf_of (.done ?_), by rw [ho, List.take_length], rfl⟩
    rw [ho]
    simp only [slices_DeleteFunc__of_1_step, slices_DeleteFunc__of_1_0, List.length_map, b0, cond_true, List.drop_zero, List.take_length, index_ok l f hl, h1, Option.bind_some]
    rfl
  · have hj := (List.getElem?_eq_some_iff.1 h2).1
    have hs : l[j] = s := (List.getElem?_eq_some_iff.1 h2).2
    obtain ⟨rows, q1, q2, q3⟩ := delete_loop l f hl (l.length - (j + 1)) (j + 1) (by omega) j l (by omega) rfl (by
      rw [filter_take_succ hj, hs, h3]
      simp only [Bool.not_true, Bool.false_eq_true, if_false, List.append_nil]
      exact (List.filter_eq_self.2 fun x hx => by simp [h5 x hx]).symm) rfl
    refine ⟨rows, evf_of (.next (s' := .s1 0 l.length l.length f (j : Nat) ((j + 1 : Nat) : Int) l) ?_ q1), q2, q3⟩
    have hne : (((0 + j : Nat) : Int) == -1) = false := beq_eq_false_iff_ne.2 (by omega)
    simp only [slices_DeleteFunc__of_1_step, slices_DeleteFunc__of_1_0, List.length_map, b0, cond_true, List.drop_zero, List.take_length, index_ok l f hl, h1, Option.bind_some, hne, cond_false]
    rw [Nat.zero_add, wS (show j < 9223372036854775807 by omega)]

/-! ### tables, one behind the other -/
theorem grow_ok {n : Nat} (hn : n ≤ 300000) : slices_Grow n = some (0, 0, n, List.replicate n (⟨[], 0⟩ : Seat)) := by
  have w : IntKind.i64.wrap ((n : Int) - 0) = n := by rw [Int.sub_zero]; exact wI64 (by omega) (by omega)
  unfold slices_Grow
  rw [w, decide_eq_false (show ¬ ((n : Int) < 0) by omega)]
  by_cases h : n = 0
  · subst h; rfl
  · rw [decide_eq_true (show (n : Int) > 0 by omega), decide_eq_true (show (1 : Int) ≤ n by omega), decide_eq_true (show (Int.toNat (n : Int)) * 32 ≤ bytesLim by rw [Int.toNat_natCast]; unfold bytesLim; omega)]
    simp

theorem concat_sum (l : List (List Seat)) (hl : l.flatten.length ≤ 300000) (hn : l.length ≤ 300000) : ∀ (m k : Nat), k + m = l.length → ∀ r, Ev slices_Concat_step (.s2 0 0 l.flatten.length l (l.length : Nat) 0 (List.replicate l.flatten.length (⟨[], 0⟩ : Seat))) r →
    Ev slices_Concat_step (.s1 l (((l.take k).flatten.length : Nat) : Int) l (l.length : Nat) k) r := by
  intro m
  induction m with
  | zero =>
    intro k hk r hr
    refine .next ?_ hr
    rw [List.take_of_length_le (by omega)]
    simp only [slices_Concat_step, slices_Concat_1, List.length_map, geB (show l.length ≤ k by omega), cond_false, grow_ok hl, Option.bind_some]
  | succ m ih =>
    intro k hk r hr
    have hkl : k < l.length := by omega
    refine .next ?_ (ih (k + 1) (by omega) r hr)
    have hle : (l.take (k + 1)).flatten.length ≤ l.flatten.length := by
      conv => rhs; rw [← List.take_append_drop (k + 1) l, List.flatten_append, List.length_append]
      omega
    have e : (l.take (k + 1)).flatten.length = (l.take k).flatten.length + l[k].length := by
      rw [List.take_succ_eq_append_getElem hkl, List.flatten_append, List.length_append]; simp
    have w : IntKind.i64.wrap (((((l.take k).flatten.length : Nat) : Int)) + ((l[k].length : Nat) : Int)) = (((l.take (k + 1)).flatten.length : Nat) : Int) := by
      rw [wI64 (by omega) (by omega), e]; rfl
    simp only [slices_Concat_step, slices_Concat_1, List.length_map, ltB hkl, le0, Bool.and_self, cond_true, Int.toNat_natCast, List.getElem?_eq_getElem hkl, Option.bind_some, w]
    rw [decide_eq_false (show ¬ ((((l.take (k + 1)).flatten.length : Nat) : Int) < 0) by omega), wS (show k < 9223372036854775807 by omega)]
    rfl

theorem concat_join (l : List (List Seat)) (hl : l.flatten.length ≤ 300000) (hn : l.length ≤ 300000) : ∀ (m k : Nat), k + m = l.length → 0 < k →
    Ev slices_Concat_step (.s2 0 (l.take k).flatten.length (l.take k).flatten.length l (l.length : Nat) k (l.take k).flatten) (0, l.flatten.length, l.flatten.length, l.flatten) := by
  intro m
  induction m with
  | zero =>
    intro k hk h0
    refine .done ?_
    rw [List.take_of_length_le (by omega)]
    simp only [slices_Concat_step, slices_Concat_2, geB (show l.length ≤ k by omega), cond_false]
  | succ m ih =>
    intro k hk h0
    have hkl : k < l.length := by omega
    have hle : (l.take (k + 1)).flatten.length ≤ l.flatten.length := by
      conv => rhs; rw [← List.take_append_drop (k + 1) l, List.flatten_append, List.length_append]
      omega
    have e : (l.take (k + 1)).flatten = (l.take k).flatten ++ l[k] := by
      rw [List.take_succ_eq_append_getElem hkl, List.flatten_append]; simp
    have hle' : (l.take k).flatten.length + l[k].length ≤ 300000 := by rw [e, List.length_append] at hle; omega
    refine .next ?_ (ih (k + 1) (by omega) (by omega))
    have b1 : decide (((l.take k).flatten.length + l[k].length) * 32 ≤ bytesLim) = true := decide_eq_true (by unfold bytesLim; omega)
    have b2 : Nat.ble (0 + (l.take k).flatten.length) (l.take k).flatten.length = true := Nat.ble_eq_true_of_le (by omega)
    simp only [slices_Concat_step, slices_Concat_2, List.length_map, ltB hkl, le0, Bool.and_self, cond_true, Int.toNat_natCast, List.getElem?_eq_getElem hkl, Option.bind_some, b1, b2, List.drop_zero, List.take_length, ← e, wS (show k < 9223372036854775807 by omega)]

theorem concat_ok (l : List (List Seat)) (h0 : l ≠ []) (hl : l.flatten.length ≤ 300000) (hn : l.length ≤ 300000) : slices_Concat l = some (0, l.flatten.length, l.flatten.length, l.flatten) := by
  have hpos : 0 < l.length := List.length_pos_iff.2 h0
  refine evf_of (.next (s' := .s1 l (0 : Nat) l (l.length : Nat) (0 : Nat)) (by simp [slices_Concat_step, slices_Concat_0]) ?_)
  have := concat_sum l hl hn l.length 0 (by omega) (0, l.flatten.length, l.flatten.length, l.flatten) ?_
  · simpa using this
  have e : (l.take 1).flatten = l[0] := by
    cases l with
    | nil => exact absurd rfl h0
    | cons a r => simp
  refine .next ?_ (concat_join l hl hn (l.length - 1) 1 (by omega) (by omega))
  have hle : (l.take 1).flatten.length ≤ l.flatten.length := by
    conv => rhs; rw [← List.take_append_drop 1 l, List.flatten_append, List.length_append]
    omega
  rw [e] at hle
  have b1 : decide ((0 + l[0].length) * 32 ≤ bytesLim) = true := decide_eq_true (by unfold bytesLim; omega)
  have b2 : Nat.ble (0 + 0) l.flatten.length = true := Nat.ble_eq_true_of_le (by omega)
  have b3 : decide ((0 : Int) < ((l.length : Nat) : Int)) = true := decide_eq_true (by omega)
  simp only [slices_Concat_step, slices_Concat_2, List.length_map, List.length_replicate, b3, cond_true, show decide ((0 : Int) ≤ 0) = true from rfl, Bool.and_self, show (0 : Int).toNat = 0 from rfl, List.getElem?_eq_getElem hpos, Option.bind_some, b1, b2, List.drop_zero, List.take_zero, List.nil_append, e]
  rfl

/-! ### Put, Get -/
def putP (l : List Seat) (room : Int) (f : List Int) (t : Int) : List Seat := if room < 1 then [] else (⟨f, t⟩ :: othersP l f).take room.toNat
def getP (l : List Seat) (f : List Int) : Int × List Seat := match rest l f with
  | none => (-1, l)
  | some x => (x.1.Target, x.1 :: x.2)

theorem others_len (l : List Seat) (f : List Int) : (othersP l f).length ≤ l.length := List.length_filter_le _ _

theorem put_ok {l : List Seat} (hl : Fits l) (room : Int) {f : List Int} (hf : f.length ≤ lim) (t : Int) (hr : inK .i64 room) : ∃ cp rows, sticky_Put l room f t = some (0, (putP l room f t).length, cp, rows) ∧ rows.take (putP l room f t).length = putP l room f t ∧ (putP l room f t).length ≤ rows.length := by
  have hlen := hl.len
  unfold sticky_Put putP
  by_cases h1 : room < 1
  · exact ⟨0, [], by simp [h1], by simp [h1], by simp [h1]⟩
  · rw [decide_eq_false h1, if_neg h1]
    obtain ⟨rows, d1, d2, d3⟩ := delete_ok l f (by omega)
    have ho := others_len l f
    have b1 : Nat.ble (0 + (othersP l f).length) rows.length = true := Nat.ble_eq_true_of_le (by omega)
    have hfl : ([[(⟨f, t⟩ : Seat)], othersP l f] : List (List Seat)).flatten = ⟨f, t⟩ :: othersP l f := by simp
    have hc := concat_ok [[(⟨f, t⟩ : Seat)], othersP l f] (by simp) (by rw [hfl]; simp; omega) (by simp)
    rw [hfl] at hc
    refine ⟨min (othersP l f).length.succ room.toNat, ⟨f, t⟩ :: othersP l f, ?_, ?_, ?_⟩
    · have hm : (mnI (((⟨f, t⟩ :: othersP l f : List Seat).length : Nat) : Int) room).toNat = min (othersP l f).length.succ room.toNat := by
        unfold mnI; simp only [List.length_cons]; split <;> omega
      have hm0 : 0 ≤ mnI (((⟨f, t⟩ :: othersP l f : List Seat).length : Nat) : Int) room := by unfold mnI; simp only [List.length_cons]; split <;> omega
      have hm1 : mnI (((⟨f, t⟩ :: othersP l f : List Seat).length : Nat) : Int) room ≤ (((⟨f, t⟩ :: othersP l f : List Seat).length : Nat) : Int) := by unfold mnI; split <;> omega
      have hm2 : mnI (((⟨f, t⟩ :: othersP l f : List Seat).length : Nat) : Int) room ≤ (((mnI (((⟨f, t⟩ :: othersP l f : List Seat).length : Nat) : Int) room).toNat : Nat) : Int) := by omega
      simp only [cond_false, cloned_ok hl, Option.bind_some, sticky_of, d1, clone_ok hf, List.length_map, b1, cond_true, List.drop_zero, d2, hc]
      rw [decide_eq_true (show ((0 : Nat) : Int) ≤ mnI (((⟨f, t⟩ :: othersP l f : List Seat).length : Nat) : Int) room from hm0), decide_eq_true hm1, decide_eq_true hm2, hm]
      simp [Nat.min_comm]
    · simp [List.take_take]
    · simp; omega

theorem get_ok {l : List Seat} (hl : Fits l) (f : List Int) : sticky_Get l f = some ((getP l f).1, 0, l.length, l.length, (getP l f).2) ∧ (getP l f).2.length = l.length := by
  have hlen := hl.len
  unfold sticky_Get getP
  simp only [sticky_of, Option.bind_some, index_ok l f (by omega)]
  rcases idx_rest f l 0 with ⟨h1, h2, h3⟩ | ⟨j, s, h1, h2, h3, h4, h5⟩
  · rw [h1, h2]
    simp [cloned_ok hl]
  · have hj := (List.getElem?_eq_some_iff.1 h2).1
    rw [h1, h4, Nat.zero_add]
    have hlen2 : (s :: (l.take j ++ l.drop (j + 1))).length = l.length := by simp; omega
    refine ⟨?_, hlen2⟩
    have w := wS (k := j) (by omega)
    rw [decide_eq_false (show ¬ ((j : Int) < 0) by omega), w]
    have g1 : decide (((j + 1 : Nat) : Int) ≤ ((l.length : Nat) : Int)) = true := decide_eq_true (by omega)
    have g2 : decide ((j : Int) ≤ ((j + 1 : Nat) : Int)) = true := decide_eq_true (by omega)
    have g3 : decide ((j : Int) ≤ ((l.length : Nat) : Int)) = true := decide_eq_true (by omega)
    have z : ∀ k : Nat, decide (((0 : Nat) : Int) ≤ (k : Int)) = true := fun k => le0 k
    have e1 : List.drop j (List.take (j + 1) l) = [s] := by
      rw [List.take_succ_eq_append_getElem hj, List.drop_append_of_le_length (by rw [List.length_take]; omega), (List.getElem?_eq_some_iff.1 h2).2]
      simp
    have hfl : ([[s], l.take j, l.drop (j + 1)] : List (List Seat)).flatten = s :: (l.take j ++ l.drop (j + 1)) := by simp
    have hc := concat_ok [[s], l.take j, l.drop (j + 1)] (by simp) (by rw [hfl, hlen2]; omega) (by simp)
    rw [hfl, hlen2] at hc
    have hfit : Fits (s :: (l.take j ++ l.drop (j + 1))) := by
      refine ⟨by rw [hlen2]; exact hlen, fun x hx => hl.ses x ?_⟩
      rcases List.mem_cons.1 hx with rfl | hx
      · exact List.mem_of_getElem? h2
      · rcases List.mem_append.1 hx with hx | hx
        · exact List.mem_of_mem_take hx
        · exact List.mem_of_mem_drop hx
    have hcl := cloned_ok hfit
    rw [hlen2] at hcl
    have b1 : Nat.ble (0 + l.length) l.length = true := Nat.ble_eq_true_of_le (by omega)
    have tk : List.take l.length (s :: (l.take j ++ l.drop (j + 1))) = s :: (l.take j ++ l.drop (j + 1)) := List.take_of_length_le (by omega)
    simp only [cond_false, List.length_map, ltB hj, le0, Bool.and_self, cond_true, Int.toNat_natCast, h2, Option.bind_some, g1, g2, g3, z, show decide (((j + 1 : Nat) : Int) ≤ ((j + 1 : Nat) : Int)) = true from decide_eq_true (Int.le_refl _), e1, List.drop_zero, List.take_length, hc, hlen2, b1, tk, hcl]
end Go.RX.L

set_option linter.unusedSimpArgs false
set_option linter.unusedVariables false
set_option maxRecDepth 100000
set_option maxHeartbeats 4000000
namespace Go.RX.L
open Go Go.RX Go.Proofs
attribute [local irreducible] FinQ
def law20_head_Q (y : Bool) (d : D) (s : Sto) : Prop := d = D.bool y ∧ s = []
noncomputable def law20_head  : Option Bool := ((sticky_Put ([]) 2 ([97]) 1).bind fun y1 => (bif (Nat.ble (y1.1 + y1.2.1) ((List.map Seat.enc y1.2.2.2).length)) then ((sticky_Put (List.take y1.2.1 (List.drop y1.1 y1.2.2.2)) 2 ([98]) 2).bind fun y3 => (bif (Nat.ble (y3.1 + y3.2.1) ((List.map Seat.enc y3.2.2.2).length)) then ((sticky_Get (List.take y3.2.1 (List.drop y3.1 y3.2.2.2)) ([97])).bind fun y5 => (bif ((y5.1 : Int) == 1) then (bif ((((y5.2.2.1 : Nat) : Int) : Int) == 2) then (bif (decide ((0 : Int) < ((y5.2.2.1 : Nat) : Int))) then (((y5.2.2.2.2)[y5.2.1]?).bind fun y9 => (bif (((List.map b8 y9.Session) : List UInt8) == [97]) then (bif (Nat.ble (y5.2.1 + y5.2.2.1) ((List.map Seat.enc y5.2.2.2.2).length)) then ((sticky_Put (List.take y5.2.2.1 (List.drop y5.2.1 y5.2.2.2.2)) 1 ([99]) 3).bind fun y13 => (some ((((y13.2.1 : Nat) : Int) : Int) == 1))) else none) else (some false))) else none) else (some false)) else (some false))) else none)) else none))
theorem law20_head_ok  {r : Bool} (h : law20_head = some r) : Sound E 7 [] [] (law20_head_Q r) := by
  refine sound_ofW (m := ⟨[.code (bodyOf Try.f7)], [], []⟩) (fn := Try.f7) (by kernel_rfl) (by kernel_rfl) ?_
  show FinQ E ⟨Try.f7, false, 0⟩ (QW (law20_head_Q r)) _
  unfold law20_head at h
  refine adv_ok hm 11 _ ?_
  have ok1 := fun (y : Nat × Nat × Nat × (List Seat)) (hy : sticky_Put ([]) 2 ([97]) 1 = some y) => sticky_Put_ok hy
  refine p_callE [some 2] (args1 := [D.sl false 2 [], D.int .i64 2, D.sl false 1 [[D.int .u8 97]], D.int .i64 1]) (args := [D.sl false 2 [], D.int .i64 2, D.sl false 1 [[D.int .u8 97]], D.int .i64 1]) (fun y1 => D.msl 0 y1.1 y1.2.1 y1.2.2.1 false) (fun y1 => [some { sz := 2, deep := false, rows := (List.map Seat.enc y1.2.2.2) }]) h (by kernel_rfl) ⟨rfl, rfl⟩ ok1 (fun y1 h1 h => ?_)
  refine adv_ok hm 4 _ ?_
  refine p_need h (by kernel_rfl) (fun h2 h => ?_)
  refine adv_ok hm 1 _ ?_
  have ok3 := fun (y : Nat × Nat × Nat × (List Seat)) (hy : sticky_Put (List.take y1.2.1 (List.drop y1.1 y1.2.2.2)) 2 ([98]) 2 = some y) => sticky_Put_ok hy
  refine p_callE [] (args1 := [D.sl false 2 (List.take y1.2.1 (List.drop y1.1 (List.map Seat.enc y1.2.2.2))), D.int .i64 2, D.sl false 1 [[D.int .u8 98]], D.int .i64 2]) (args := [D.sl false 2 (List.map Seat.enc (List.take y1.2.1 (List.drop y1.1 y1.2.2.2))), D.int .i64 2, D.sl false 1 [[D.int .u8 98]], D.int .i64 2]) (fun y3 => D.msl 0 y3.1 y3.2.1 y3.2.2.1 false) (fun y3 => [some { sz := 2, deep := false, rows := (List.map Seat.enc y3.2.2.2) }]) h (by kernel_rfl) ⟨by simp [List.take_of_length_le, List.map_take, List.map_drop], rfl⟩ ok3 (fun y3 h3 h => ?_)
  refine adv_ok hm 9 _ ?_
  refine p_need h (by kernel_rfl) (fun h4 h => ?_)
  refine adv_ok hm 1 _ ?_
  have ok5 := fun (y : Int × Nat × Nat × Nat × (List Seat)) (hy : sticky_Get (List.take y3.2.1 (List.drop y3.1 y3.2.2.2)) ([97]) = some y) => sticky_Get_ok hy
  refine p_callE [] (args1 := [D.sl false 2 (List.take y3.2.1 (List.drop y3.1 (List.map Seat.enc y3.2.2.2))), D.sl false 1 [[D.int .u8 97]]]) (args := [D.sl false 2 (List.map Seat.enc (List.take y3.2.1 (List.drop y3.1 y3.2.2.2))), D.sl false 1 [[D.int .u8 97]]]) (fun y5 => D.tup [D.int .i64 y5.1, D.msl 0 y5.2.1 y5.2.2.1 y5.2.2.2.1 true]) (fun y5 => [some { sz := 2, deep := false, rows := (List.map Seat.enc y5.2.2.2.2) }]) h (by kernel_rfl) ⟨by simp [List.take_of_length_le, List.map_take, List.map_drop], rfl⟩ ok5 (fun y5 h5 h => ?_)
  refine adv_ok hm 12 _ ?_
  refine p_split h (by kernel_rfl) (fun h6 h => ?_) (fun h6 h => ?_)
  · -- true
    refine adv_ok hm 8 _ ?_
    refine p_split h (by kernel_rfl) (fun h7 h => ?_) (fun h7 h => ?_)
    · -- true
      refine adv_ok hm 2 _ ?_
      refine p_need h (by kernel_rfl) (fun h8 h => ?_)
      refine adv_ok hm 4 _ ?_
      refine p_row (((List.map Seat.enc y5.2.2.2.2))[y5.2.1]?) Seat.enc h (by kernel_rfl) List.getElem?_map (fun y9 h10 h => ?_)
      refine adv_ok hm 2 _ ?_
      refine r_str (rowsStr (List.map (eInt .u8) y9.Session)) (List.map b8 y9.Session) (by kernel_rfl) (rows_bytes _) ?_
      refine adv_ok hm 6 _ ?_
      refine p_split h (by kernel_rfl) (fun h11 h => ?_) (fun h11 h => ?_)
      · -- true
        refine adv_ok hm 7 _ ?_
        refine p_need h (by kernel_rfl) (fun h12 h => ?_)
        refine adv_ok hm 1 _ ?_
        have ok13 := fun (y : Nat × Nat × Nat × (List Seat)) (hy : sticky_Put (List.take y5.2.2.1 (List.drop y5.2.1 y5.2.2.2.2)) 1 ([99]) 3 = some y) => sticky_Put_ok hy
        refine p_callE [] (args1 := [D.sl false 2 (List.take y5.2.2.1 (List.drop y5.2.1 (List.map Seat.enc y5.2.2.2.2))), D.int .i64 1, D.sl false 1 [[D.int .u8 99]], D.int .i64 3]) (args := [D.sl false 2 (List.map Seat.enc (List.take y5.2.2.1 (List.drop y5.2.1 y5.2.2.2.2))), D.int .i64 1, D.sl false 1 [[D.int .u8 99]], D.int .i64 3]) (fun y13 => D.msl 0 y13.1 y13.2.1 y13.2.2.1 false) (fun y13 => [some { sz := 2, deep := false, rows := (List.map Seat.enc y13.2.2.2) }]) h (by kernel_rfl) ⟨by simp [List.take_of_length_le, List.map_take, List.map_drop], rfl⟩ ok13 (fun y13 h13 h => ?_)
        refine adv_ok hm 9 _ ?_
        obtain rfl := Option.some.inj h
        exact r_retF [] (d := D.bool ((((y13.2.1 : Nat) : Int) : Int) == 1)) (s := []) (by kernel_rfl) ⟨rfl, rfl⟩
      · -- false
        refine adv_ok hm 15 _ ?_
        obtain rfl := Option.some.inj h
        exact r_retF [] (d := D.bool false) (s := []) (by kernel_rfl) ⟨rfl, rfl⟩
    · -- false
      refine adv_ok hm 30 _ ?_
      obtain rfl := Option.some.inj h
      exact r_retF [] (d := D.bool false) (s := []) (by kernel_rfl) ⟨rfl, rfl⟩
  · -- false
    refine adv_ok hm 39 _ ?_
    obtain rfl := Option.some.inj h
    exact r_retF [] (d := D.bool false) (s := []) (by kernel_rfl) ⟨rfl, rfl⟩
end Go.RX.L

set_option linter.unusedSimpArgs false
set_option linter.unusedVariables false
set_option maxRecDepth 100000
set_option maxHeartbeats 4000000
namespace Go.RX.L
open Go Go.RX Go.Proofs
attribute [local irreducible] FinQ
def ref20_Get_Q (y : Int × (List Seat)) (d : D) (s : Sto) : Prop := d = D.tup [D.int .i64 y.1, D.sl false 2 (List.map Seat.enc y.2)] ∧ s = []
inductive ref20_Get_S where
  | s0 (l : List Seat) (session : List Int)
  | s1 (l : List Seat) (session : List Int) (i : Int)
noncomputable def ref20_Get_M : ref20_Get_S → M
  | .s0 l session => ⟨[.code (bodyOf Try.f9)], [(0, D.sl false 2 (List.map Seat.enc l)), (1, D.sl false 1 (List.map (eInt .u8) session))], []⟩
  | .s1 l session i => { td := [It.lpc (codeAt (bodyOf Try.f9) [1, 0, 1, 0, 0]) 67, It.blk 0, It.code (codeAt (bodyOf Try.f9) [1, 1])], fr := [(0, D.sl false 2 (List.map Seat.enc l)), (1, D.sl false 1 (List.map (eInt .u8) session)), (6, D.int .i64 i)], st := [] }
noncomputable def ref20_Get_0 (l : List Seat) (session : List Int) : Option (ref20_Get_S ⊕ (Int × (List Seat))) := (some (.inl (.s1 l session 0)))
noncomputable def ref20_Get_1 (l : List Seat) (session : List Int) (i : Int) : Option (ref20_Get_S ⊕ (Int × (List Seat))) := (bif (decide ((i : Int) < (((List.map Seat.enc l).length : Nat) : Int))) then (bif ((decide ((0 : Int) ≤ i)) && (decide ((i : Int) < (((List.map Seat.enc l).length : Nat) : Int)))) then (((l)[i.toNat]?).bind fun y3 => (bif (((List.map b8 y3.Session) : List UInt8) == (List.map b8 session)) then (bif ((decide ((0 : Int) ≤ i)) && (decide ((i : Int) < (((List.map Seat.enc l).length : Nat) : Int)))) then (((l)[i.toNat]?).bind fun y7 => (bif ((decide (((0 : Nat) : Int) ≤ i)) && (decide ((i : Int) ≤ (((List.map Seat.enc l).length : Nat) : Int)))) then (bif (decide ((1 + (List.map Seat.enc (List.drop 0 (List.take i.toNat l))).length) * 32 ≤ bytesLim)) then (bif ((decide ((0 : Int) ≤ i)) && (decide ((i : Int) < (((List.map Seat.enc l).length : Nat) : Int)))) then (((l)[i.toNat]?).bind fun y12 => (bif ((decide (((0 : Nat) : Int) ≤ (IntKind.i64.wrap (i + 1)))) && (decide (((IntKind.i64.wrap (i + 1)) : Int) ≤ (((List.map Seat.enc l).length : Nat) : Int)))) then (bif (decide (((List.map Seat.enc ([y7] ++ (List.drop 0 (List.take i.toNat l)))).length + (List.map Seat.enc (List.drop ((IntKind.i64.wrap (i + 1)).toNat) (List.take ((List.map Seat.enc l).length) l))).length) * 32 ≤ bytesLim)) then (some (.inr (y12.Target, (([y7] ++ (List.drop 0 (List.take i.toNat l))) ++ (List.drop ((IntKind.i64.wrap (i + 1)).toNat) (List.take ((List.map Seat.enc l).length) l)))))) else none) else none)) else none) else none) else none)) else none) else (some (.inl (.s1 l session (IntKind.i64.wrap (i + 1))))))) else none) else (bif (decide ((0 + (List.map Seat.enc l).length) * 32 ≤ bytesLim)) then (some (.inr ((-1), l))) else none))
noncomputable def ref20_Get_step : ref20_Get_S → Option (ref20_Get_S ⊕ (Int × (List Seat)))
  | .s0 l session => ref20_Get_0 l session
  | .s1 l session i => ref20_Get_1 l session i
theorem ref20_Get_0_ok {l : List Seat} {session : List Int} {r : Int × (List Seat)} {x : ref20_Get_S ⊕ (Int × (List Seat))} (h : ref20_Get_0 l session = some x) (ha : After E ⟨Try.f9, false, 0⟩ ref20_Get_Q ref20_Get_M r x) : FinQ E ⟨Try.f9, false, 0⟩ (QW (ref20_Get_Q r)) (.go (ref20_Get_M (.s0 l session))) := by
  unfold ref20_Get_0 at h
  refine adv_ok hm 13 _ ?_
  obtain rfl := Option.some.inj h
  exact r_to (q' := .go (ref20_Get_M (.s1 l session 0))) (by kernel_rfl) ha
theorem ref20_Get_1_ok {l : List Seat} {session : List Int} {i : Int} {r : Int × (List Seat)} {x : ref20_Get_S ⊕ (Int × (List Seat))} (h : ref20_Get_1 l session i = some x) (ha : After E ⟨Try.f9, false, 0⟩ ref20_Get_Q ref20_Get_M r x) : FinQ E ⟨Try.f9, false, 0⟩ (QW (ref20_Get_Q r)) (.go (ref20_Get_M (.s1 l session i))) := by
  unfold ref20_Get_1 at h
  refine adv_ok hm 10 _ ?_
  refine p_split h (by kernel_rfl) (fun h1 h => ?_) (fun h1 h => ?_)
  · -- true
    refine adv_ok hm 5 _ ?_
    refine p_need h (by kernel_rfl) (fun h2 h => ?_)
    refine p_row (((List.map Seat.enc l))[i.toNat]?) Seat.enc h (by kernel_rfl) List.getElem?_map (fun y3 h4 h => ?_)
    refine r_str (rowsStr (List.map (eInt .u8) y3.Session)) (List.map b8 y3.Session) (by kernel_rfl) (rows_bytes _) ?_
    refine r_str (rowsStr (List.map (eInt .u8) session)) (List.map b8 session) (by kernel_rfl) (rows_bytes _) ?_
    refine adv_ok hm 1 _ ?_
    refine p_split h (by kernel_rfl) (fun h5 h => ?_) (fun h5 h => ?_)
    · -- true
      refine adv_ok hm 2 _ ?_
      refine p_need h (by kernel_rfl) (fun h6 h => ?_)
      refine p_row (((List.map Seat.enc l))[i.toNat]?) Seat.enc h (by kernel_rfl) List.getElem?_map (fun y7 h8 h => ?_)
      refine p_need h (by kernel_rfl) (fun h9 h => ?_)
      refine r_rows (List.drop 0 (List.take i.toNat (List.map Seat.enc l))) (List.map Seat.enc (List.drop 0 (List.take i.toNat l))) (by kernel_rfl) (rows_cut _ _ _ _) ?_
      refine p_need h (by kernel_rfl) (fun h10 h => ?_)
      refine adv_ok hm 1 _ ?_
      refine r_rows ((List.map Seat.enc ([y7])) ++ (List.map Seat.enc (List.drop 0 (List.take i.toNat l)))) (List.map Seat.enc ([y7] ++ (List.drop 0 (List.take i.toNat l)))) (by kernel_rfl) (by simp only [take_full, take_full', List.map_append]) ?_
      refine adv_ok hm 2 _ ?_
      refine p_need h (by kernel_rfl) (fun h11 h => ?_)
      refine p_row (((List.map Seat.enc l))[i.toNat]?) Seat.enc h (by kernel_rfl) List.getElem?_map (fun y12 h13 h => ?_)
      refine p_need h (by kernel_rfl) (fun h14 h => ?_)
      refine r_rows (List.drop ((IntKind.i64.wrap (i + 1)).toNat) (List.take ((List.map Seat.enc l).length) (List.map Seat.enc l))) (List.map Seat.enc (List.drop ((IntKind.i64.wrap (i + 1)).toNat) (List.take ((List.map Seat.enc l).length) l))) (by kernel_rfl) (rows_cut _ _ _ _) ?_
      refine p_need h (by kernel_rfl) (fun h15 h => ?_)
      refine r_needT (b := (Nat.ble (0 + (List.map Seat.enc ([y7] ++ (List.drop 0 (List.take i.toNat l)))).length) ((List.map Seat.enc ([y7] ++ (List.drop 0 (List.take i.toNat l)))).length))) (by kernel_rfl) (ble_full _) ?_
      refine r_rows (List.take ((List.map Seat.enc ([y7] ++ (List.drop 0 (List.take i.toNat l)))).length) (List.drop 0 (List.map Seat.enc ([y7] ++ (List.drop 0 (List.take i.toNat l))))) ++ (List.map Seat.enc (List.drop ((IntKind.i64.wrap (i + 1)).toNat) (List.take ((List.map Seat.enc l).length) l)))) (List.map Seat.enc (([y7] ++ (List.drop 0 (List.take i.toNat l))) ++ (List.drop ((IntKind.i64.wrap (i + 1)).toNat) (List.take ((List.map Seat.enc l).length) l)))) (by kernel_rfl) (rows_app _ _ _) ?_
      refine adv_ok hm 1 _ ?_
      refine r_needT (b := (Nat.ble (0 + (List.map Seat.enc (([y7] ++ (List.drop 0 (List.take i.toNat l))) ++ (List.drop ((IntKind.i64.wrap (i + 1)).toNat) (List.take ((List.map Seat.enc l).length) l)))).length) ((List.map Seat.enc (([y7] ++ (List.drop 0 (List.take i.toNat l))) ++ (List.drop ((IntKind.i64.wrap (i + 1)).toNat) (List.take ((List.map Seat.enc l).length) l)))).length))) (by kernel_rfl) (ble_full _) ?_
      obtain rfl := Option.some.inj h
      have hv := ha
      simp only [After] at hv
      subst hv
      exact r_retE [] (d1 := D.tup [D.int .i64 y12.Target, D.sl false 2 (List.take ((List.map Seat.enc (([y7] ++ (List.drop 0 (List.take i.toNat l))) ++ (List.drop ((IntKind.i64.wrap (i + 1)).toNat) (List.take ((List.map Seat.enc l).length) l)))).length) (List.drop 0 (List.map Seat.enc (([y7] ++ (List.drop 0 (List.take i.toNat l))) ++ (List.drop ((IntKind.i64.wrap (i + 1)).toNat) (List.take ((List.map Seat.enc l).length) l))))))]) (d := D.tup [D.int .i64 y12.Target, D.sl false 2 (List.map Seat.enc (([y7] ++ (List.drop 0 (List.take i.toNat l))) ++ (List.drop ((IntKind.i64.wrap (i + 1)).toNat) (List.take ((List.map Seat.enc l).length) l))))]) (s1 := []) (s := []) (by kernel_rfl) ⟨by simp [List.take_of_length_le, List.map_take, List.map_drop], rfl⟩ ⟨rfl, rfl⟩
    · -- false
      refine adv_ok hm 8 _ ?_
      obtain rfl := Option.some.inj h
      exact r_to (q' := .go (ref20_Get_M (.s1 l session (IntKind.i64.wrap (i + 1))))) (by kernel_rfl) ha
  · -- false
    refine adv_ok hm 6 _ ?_
    refine p_need h (by kernel_rfl) (fun h16 h => ?_)
    refine adv_ok hm 1 _ ?_
    refine r_rows (List.map Seat.enc l) (List.map Seat.enc l) (by kernel_rfl) (rfl) ?_
    refine adv_ok hm 4 _ ?_
    refine r_needT (b := (Nat.ble (0 + (List.map Seat.enc l).length) ((List.map Seat.enc l).length))) (by kernel_rfl) (ble_full _) ?_
    obtain rfl := Option.some.inj h
    have hv := ha
    simp only [After] at hv
    subst hv
    exact r_retE [] (d1 := D.tup [D.int .i64 (-1), D.sl false 2 (List.take ((List.map Seat.enc l).length) (List.drop 0 (List.map Seat.enc l)))]) (d := D.tup [D.int .i64 (-1), D.sl false 2 (List.map Seat.enc l)]) (s1 := []) (s := []) (by kernel_rfl) ⟨by simp [List.take_of_length_le, List.map_take, List.map_drop], rfl⟩ ⟨rfl, rfl⟩
theorem ref20_Get_ev {l : List Seat} {session : List Int} {r : Int × (List Seat)} (h : Ev ref20_Get_step (.s0 l session) r) : Sound E 9 [D.sl false 2 (List.map Seat.enc l), D.sl false 1 (List.map (eInt .u8) session)] [] (ref20_Get_Q r) :=
  sound_ofW (m := ref20_Get_M (.s0 l session)) (fn := Try.f9) (by kernel_rfl) (by kernel_rfl) (ev_run (C := ⟨Try.f9, false, 0⟩) (fun s x r hs ha => by
    cases s with
    | s0 => exact ref20_Get_0_ok hs ha
    | s1 => exact ref20_Get_1_ok hs ha) h)
noncomputable def ref20_Get (l : List Seat) (session : List Int) : Option (Int × (List Seat)) := evf ref20_Get_step (.s0 l session)
theorem ref20_Get_ok {l : List Seat} {session : List Int} {r : Int × (List Seat)} (h : ref20_Get l session = some r) : Sound E 9 [D.sl false 2 (List.map Seat.enc l), D.sl false 1 (List.map (eInt .u8) session)] [] (ref20_Get_Q r) := ref20_Get_ev (evf_ev h)
end Go.RX.L

set_option linter.unusedSimpArgs false
set_option linter.unusedVariables false
set_option maxRecDepth 100000
set_option maxHeartbeats 4000000
namespace Go.RX.L
open Go Go.RX Go.Proofs
attribute [local irreducible] FinQ
def ref20_Put_Q (y : List Seat) (d : D) (s : Sto) : Prop := d = D.sl false 2 (List.map Seat.enc y) ∧ s = []
inductive ref20_Put_S where
  | s0 (l : List Seat) (room : Int) (session : List Int) (target : Int)
  | s1 (l : List Seat) (room : Int) (session : List Int) (i : Int) (out : List Seat)
  | s2 (l : List Seat) (room : Int) (session : List Int) (i : Int) (t28 : Bool) (out : List Seat)
noncomputable def ref20_Put_M : ref20_Put_S → M
  | .s0 l room session target => ⟨[.code (bodyOf Try.f11)], [(0, D.sl false 2 (List.map Seat.enc l)), (1, D.int .i64 room), (2, D.sl false 1 (List.map (eInt .u8) session)), (3, D.int .i64 target)], []⟩
  | .s1 l room session i out => { td := [It.lpc (codeAt (bodyOf Try.f11) [1, 1, 1, 0, 1, 0, 0]) 1543, It.blk 0, It.code (codeAt (bodyOf Try.f11) [1, 1, 1, 1])], fr := [(0, D.sl false 2 (List.map Seat.enc l)), (1, D.int .i64 room), (2, D.sl false 1 (List.map (eInt .u8) session)), (9, D.msl 0 0 ((List.map Seat.enc out).length) ((List.map Seat.enc out).length) false), (10, D.int .i64 i)], st := [some { sz := 2, deep := false, rows := (List.map Seat.enc out) }] }
  | .s2 l room session i t28 out => { td := [It.code (codeAt (bodyOf Try.f11) [1, 1, 1, 0, 1, 0, 0, 0, 1]), It.code (codeAt (bodyOf Try.f11) [1, 1, 1, 0, 1, 0, 0, 1]), It.lp (codeAt (bodyOf Try.f11) [1, 1, 1, 0, 1, 0, 0]) 1543, It.blk 0, It.code (codeAt (bodyOf Try.f11) [1, 1, 1, 1])], fr := [(0, D.sl false 2 (List.map Seat.enc l)), (1, D.int .i64 room), (2, D.sl false 1 (List.map (eInt .u8) session)), (9, D.msl 0 0 ((List.map Seat.enc out).length) ((List.map Seat.enc out).length) false), (10, D.int .i64 i), (28, D.bool t28)], st := [some { sz := 2, deep := false, rows := (List.map Seat.enc out) }] }
noncomputable def ref20_Put_0 (l : List Seat) (room : Int) (session : List Int) (target : Int) : Option (ref20_Put_S ⊕ (List Seat)) := (bif (decide ((room : Int) < 1)) then (some (.inr ([]))) else (bif (decide ((0 + (List.map (eInt .u8) session).length) * 1 ≤ bytesLim)) then (some (.inl (.s1 l room session 0 ([(⟨session, target⟩ : Seat)])))) else none))
noncomputable def ref20_Put_1 (l : List Seat) (room : Int) (session : List Int) (i : Int) (out : List Seat) : Option (ref20_Put_S ⊕ (List Seat)) := (bif (decide ((i : Int) < (((List.map Seat.enc l).length : Nat) : Int))) then (some (.inl (.s2 l room session i (decide (((((List.map Seat.enc out).length : Nat) : Int) : Int) < room)) out))) else (some (.inl (.s2 l room session i false out))))
noncomputable def ref20_Put_2 (l : List Seat) (room : Int) (session : List Int) (i : Int) (t28 : Bool) (out : List Seat) : Option (ref20_Put_S ⊕ (List Seat)) := (bif t28 then (bif ((decide ((0 : Int) ≤ i)) && (decide ((i : Int) < (((List.map Seat.enc l).length : Nat) : Int)))) then (((l)[i.toNat]?).bind fun y3 => (bif (!(((List.map b8 y3.Session) : List UInt8) == (List.map b8 session))) then (bif ((decide ((0 : Int) ≤ i)) && (decide ((i : Int) < (((List.map Seat.enc l).length : Nat) : Int)))) then (((l)[i.toNat]?).bind fun y7 => (bif (decide (((List.map Seat.enc out).length + 1) * 32 ≤ bytesLim)) then (some (.inl (.s1 l room session (IntKind.i64.wrap (i + 1)) (out ++ [y7])))) else none)) else none) else (some (.inl (.s1 l room session (IntKind.i64.wrap (i + 1)) out))))) else none) else (some (.inr out)))
noncomputable def ref20_Put_step : ref20_Put_S → Option (ref20_Put_S ⊕ (List Seat))
  | .s0 l room session target => ref20_Put_0 l room session target
  | .s1 l room session i out => ref20_Put_1 l room session i out
  | .s2 l room session i t28 out => ref20_Put_2 l room session i t28 out
theorem ref20_Put_0_ok {l : List Seat} {room : Int} {session : List Int} {target : Int} {r : List Seat} {x : ref20_Put_S ⊕ (List Seat)} (h : ref20_Put_0 l room session target = some x) (ha : After E ⟨Try.f11, false, 0⟩ ref20_Put_Q ref20_Put_M r x) : FinQ E ⟨Try.f11, false, 0⟩ (QW (ref20_Put_Q r)) (.go (ref20_Put_M (.s0 l room session target))) := by
  unfold ref20_Put_0 at h
  refine adv_ok hm 11 _ ?_
  refine p_split h (by kernel_rfl) (fun h1 h => ?_) (fun h1 h => ?_)
  · -- true
    refine adv_ok hm 5 _ ?_
    obtain rfl := Option.some.inj h
    have hv := ha
    simp only [After] at hv
    subst hv
    exact r_retF [.slot 0 [some 2]] (d := D.sl false 2 []) (s := []) (by kernel_rfl) ⟨rfl, rfl⟩
  · -- false
    refine adv_ok hm 6 _ ?_
    refine p_need h (by kernel_rfl) (fun h2 h => ?_)
    refine adv_ok hm 1 _ ?_
    refine r_rows (List.map (eInt .u8) session) (List.map (eInt .u8) session) (by kernel_rfl) (rfl) ?_
    refine adv_ok hm 13 _ ?_
    refine r_fzC 0 0 0 (n1 := (0 + (List.map (eInt .u8) session).length)) (n2 := ((List.map (eInt .u8) session).length)) (raw := (List.take ((List.map (eInt .u8) session).length) (List.drop 0 (List.map (eInt .u8) session)))) (rs := (List.map (eInt .u8) session)) (by kernel_rfl) (ble_full _) (by simp only [take_full, take_full', List.map_take, List.map_drop]) ?_
    obtain rfl := Option.some.inj h
    refine r_cut 1543 [.unex 9] (m' := { td := [It.lpc (codeAt (bodyOf Try.f11) [1, 1, 1, 0, 1, 0, 0]) 1543, It.blk 0, It.code (codeAt (bodyOf Try.f11) [1, 1, 1, 1])], fr := [(0, D.sl false 2 (List.map Seat.enc l)), (1, D.int .i64 room), (2, D.sl false 1 (List.map (eInt .u8) session)), (9, D.msl 0 0 1 1 false), (10, D.int .i64 0)], st := [some { sz := 2, deep := false, rows := [[D.sl false 1 (List.map (eInt .u8) session), D.int .i64 target]] }] }) (by kernel_rfl) ?_
    refine r_len (n1 := 1) (n2 := (List.map Seat.enc ([(⟨session, target⟩ : Seat)])).length) (fun n => .go { td := [It.lpc (codeAt (bodyOf Try.f11) [1, 1, 1, 0, 1, 0, 0]) 1543, It.blk 0, It.code (codeAt (bodyOf Try.f11) [1, 1, 1, 1])], fr := [(0, D.sl false 2 (List.map Seat.enc l)), (1, D.int .i64 room), (2, D.sl false 1 (List.map (eInt .u8) session)), (9, D.msl 0 0 n n false), (10, D.int .i64 0)], st := [some { sz := 2, deep := false, rows := [[D.sl false 1 (List.map (eInt .u8) session), D.int .i64 target]] }] }) (by simp) ?_
    exact ha
theorem ref20_Put_1_ok {l : List Seat} {room : Int} {session : List Int} {i : Int} {out : List Seat} {r : List Seat} {x : ref20_Put_S ⊕ (List Seat)} (h : ref20_Put_1 l room session i out = some x) (ha : After E ⟨Try.f11, false, 0⟩ ref20_Put_Q ref20_Put_M r x) : FinQ E ⟨Try.f11, false, 0⟩ (QW (ref20_Put_Q r)) (.go (ref20_Put_M (.s1 l room session i out))) := by
  unfold ref20_Put_1 at h
  refine adv_ok hm 10 _ ?_
  refine p_split h (by kernel_rfl) (fun h1 h => ?_) (fun h1 h => ?_)
  · -- true
    refine adv_ok hm 9 _ ?_
    obtain rfl := Option.some.inj h
    exact r_cut 268436999 [] (m' := (ref20_Put_M (.s2 l room session i (decide (((((List.map Seat.enc out).length : Nat) : Int) : Int) < room)) out))) (by kernel_rfl) ha
  · -- false
    refine adv_ok hm 9 _ ?_
    obtain rfl := Option.some.inj h
    exact r_cut 268436999 [] (m' := (ref20_Put_M (.s2 l room session i false out))) (by kernel_rfl) ha
theorem ref20_Put_2_ok {l : List Seat} {room : Int} {session : List Int} {i : Int} {t28 : Bool} {out : List Seat} {r : List Seat} {x : ref20_Put_S ⊕ (List Seat)} (h : ref20_Put_2 l room session i t28 out = some x) (ha : After E ⟨Try.f11, false, 0⟩ ref20_Put_Q ref20_Put_M r x) : FinQ E ⟨Try.f11, false, 0⟩ (QW (ref20_Put_Q r)) (.go (ref20_Put_M (.s2 l room session i t28 out))) := by
  unfold ref20_Put_2 at h
  refine adv_ok hm 1 _ ?_
  refine p_split h (by kernel_rfl) (fun h1 h => ?_) (fun h1 h => ?_)
  · -- true
    refine adv_ok hm 5 _ ?_
    refine p_need h (by kernel_rfl) (fun h2 h => ?_)
    refine p_row (((List.map Seat.enc l))[i.toNat]?) Seat.enc h (by kernel_rfl) List.getElem?_map (fun y3 h4 h => ?_)
    refine r_str (rowsStr (List.map (eInt .u8) y3.Session)) (List.map b8 y3.Session) (by kernel_rfl) (rows_bytes _) ?_
    refine r_str (rowsStr (List.map (eInt .u8) session)) (List.map b8 session) (by kernel_rfl) (rows_bytes _) ?_
    refine adv_ok hm 1 _ ?_
    refine p_split h (by kernel_rfl) (fun h5 h => ?_) (fun h5 h => ?_)
    · -- true
      refine adv_ok hm 5 _ ?_
      refine p_need h (by kernel_rfl) (fun h6 h => ?_)
      refine adv_ok hm 1 _ ?_
      refine p_row (((List.map Seat.enc l))[i.toNat]?) Seat.enc h (by kernel_rfl) List.getElem?_map (fun y7 h8 h => ?_)
      refine adv_ok hm 3 _ ?_
      refine p_need h (by kernel_rfl) (fun h9 h => ?_)
      refine r_needT (b := (Nat.ble (0 + (List.map Seat.enc out).length) ((List.map Seat.enc out).length))) (by kernel_rfl) (ble_full _) ?_
      refine r_rows (List.take ((List.map Seat.enc out).length) (List.drop 0 (List.map Seat.enc out)) ++ (List.map Seat.enc ([y7]))) (List.map Seat.enc (out ++ [y7])) (by kernel_rfl) (rows_app _ _ _) ?_
      refine adv_ok hm 9 _ ?_
      obtain rfl := Option.some.inj h
      exact r_to (q' := .go (ref20_Put_M (.s1 l room session (IntKind.i64.wrap (i + 1)) (out ++ [y7])))) (by kernel_rfl) ha
    · -- false
      refine adv_ok hm 8 _ ?_
      obtain rfl := Option.some.inj h
      exact r_to (q' := .go (ref20_Put_M (.s1 l room session (IntKind.i64.wrap (i + 1)) out))) (by kernel_rfl) ha
  · -- false
    refine adv_ok hm 7 _ ?_
    refine r_needT (b := (Nat.ble (0 + (List.map Seat.enc out).length) ((List.map Seat.enc out).length))) (by kernel_rfl) (ble_full _) ?_
    obtain rfl := Option.some.inj h
    have hv := ha
    simp only [After] at hv
    subst hv
    exact r_retE [] (d1 := D.sl false 2 (List.take ((List.map Seat.enc out).length) (List.drop 0 (List.map Seat.enc out)))) (d := D.sl false 2 (List.map Seat.enc out)) (s1 := []) (s := []) (by kernel_rfl) ⟨by simp [List.take_of_length_le, List.map_take, List.map_drop], rfl⟩ ⟨rfl, rfl⟩
theorem ref20_Put_ev {l : List Seat} {room : Int} {session : List Int} {target : Int} {r : List Seat} (h : Ev ref20_Put_step (.s0 l room session target) r) : Sound E 11 [D.sl false 2 (List.map Seat.enc l), D.int .i64 room, D.sl false 1 (List.map (eInt .u8) session), D.int .i64 target] [] (ref20_Put_Q r) :=
  sound_ofW (m := ref20_Put_M (.s0 l room session target)) (fn := Try.f11) (by kernel_rfl) (by kernel_rfl) (ev_run (C := ⟨Try.f11, false, 0⟩) (fun s x r hs ha => by
    cases s with
    | s0 => exact ref20_Put_0_ok hs ha
    | s1 => exact ref20_Put_1_ok hs ha
    | s2 => exact ref20_Put_2_ok hs ha) h)
noncomputable def ref20_Put (l : List Seat) (room : Int) (session : List Int) (target : Int) : Option (List Seat) := evf ref20_Put_step (.s0 l room session target)
theorem ref20_Put_ok {l : List Seat} {room : Int} {session : List Int} {target : Int} {r : List Seat} (h : ref20_Put l room session target = some r) : Sound E 11 [D.sl false 2 (List.map Seat.enc l), D.int .i64 room, D.sl false 1 (List.map (eInt .u8) session), D.int .i64 target] [] (ref20_Put_Q r) := ref20_Put_ev (evf_ev h)
end Go.RX.L

set_option linter.unusedSimpArgs false
set_option linter.unusedVariables false
set_option maxRecDepth 100000
set_option maxHeartbeats 4000000
namespace Go.RX.L
open Go Go.RX Go.Proofs
attribute [local irreducible] FinQ
def ref20_Same_Q (y : Bool) (d : D) (s : Sto) : Prop := d = D.bool y ∧ s = []
inductive ref20_Same_S where
  | s0 (a : List Seat) (b : List Seat)
  | s1 (a : List Seat) (b : List Seat) (i : Int)
noncomputable def ref20_Same_M : ref20_Same_S → M
  | .s0 a b => ⟨[.code (bodyOf Try.f12)], [(0, D.sl false 2 (List.map Seat.enc a)), (1, D.sl false 2 (List.map Seat.enc b))], []⟩
  | .s1 a b i => { td := [It.lpc (codeAt (bodyOf Try.f12) [1, 1, 0, 1, 0, 0]) 35, It.blk 0, It.code (codeAt (bodyOf Try.f12) [1, 1, 1])], fr := [(0, D.sl false 2 (List.map Seat.enc a)), (1, D.sl false 2 (List.map Seat.enc b)), (5, D.int .i64 i)], st := [] }
noncomputable def ref20_Same_0 (a : List Seat) (b : List Seat) : Option (ref20_Same_S ⊕ Bool) := (bif (((((List.map Seat.enc a).length : Nat) : Int) : Int) != (((List.map Seat.enc b).length : Nat) : Int)) then (some (.inr false)) else (some (.inl (.s1 a b 0))))
noncomputable def ref20_Same_1 (a : List Seat) (b : List Seat) (i : Int) : Option (ref20_Same_S ⊕ Bool) := (bif (decide ((i : Int) < (((List.map Seat.enc a).length : Nat) : Int))) then (bif ((decide ((0 : Int) ≤ i)) && (decide ((i : Int) < (((List.map Seat.enc a).length : Nat) : Int)))) then (((a)[i.toNat]?).bind fun y3 => (bif ((decide ((0 : Int) ≤ i)) && (decide ((i : Int) < (((List.map Seat.enc b).length : Nat) : Int)))) then (((b)[i.toNat]?).bind fun y6 => (bif (!(((List.map b8 y3.Session) : List UInt8) == (List.map b8 y6.Session))) then (some (.inr false)) else (bif ((decide ((0 : Int) ≤ i)) && (decide ((i : Int) < (((List.map Seat.enc a).length : Nat) : Int)))) then (((a)[i.toNat]?).bind fun y10 => (bif ((decide ((0 : Int) ≤ i)) && (decide ((i : Int) < (((List.map Seat.enc b).length : Nat) : Int)))) then (((b)[i.toNat]?).bind fun y13 => (bif ((y10.Target : Int) != y13.Target) then (some (.inr false)) else (some (.inl (.s1 a b (IntKind.i64.wrap (i + 1))))))) else none)) else none))) else none)) else none) else (some (.inr true)))
noncomputable def ref20_Same_step : ref20_Same_S → Option (ref20_Same_S ⊕ Bool)
  | .s0 a b => ref20_Same_0 a b
  | .s1 a b i => ref20_Same_1 a b i
theorem ref20_Same_0_ok {a : List Seat} {b : List Seat} {r : Bool} {x : ref20_Same_S ⊕ Bool} (h : ref20_Same_0 a b = some x) (ha : After E ⟨Try.f12, false, 0⟩ ref20_Same_Q ref20_Same_M r x) : FinQ E ⟨Try.f12, false, 0⟩ (QW (ref20_Same_Q r)) (.go (ref20_Same_M (.s0 a b))) := by
  unfold ref20_Same_0 at h
  refine adv_ok hm 14 _ ?_
  refine p_split h (by kernel_rfl) (fun h1 h => ?_) (fun h1 h => ?_)
  · -- true
    refine adv_ok hm 5 _ ?_
    obtain rfl := Option.some.inj h
    have hv := ha
    simp only [After] at hv
    subst hv
    exact r_retF [] (d := D.bool false) (s := []) (by kernel_rfl) ⟨rfl, rfl⟩
  · -- false
    refine adv_ok hm 9 _ ?_
    obtain rfl := Option.some.inj h
    exact r_to (q' := .go (ref20_Same_M (.s1 a b 0))) (by kernel_rfl) ha
theorem ref20_Same_1_ok {a : List Seat} {b : List Seat} {i : Int} {r : Bool} {x : ref20_Same_S ⊕ Bool} (h : ref20_Same_1 a b i = some x) (ha : After E ⟨Try.f12, false, 0⟩ ref20_Same_Q ref20_Same_M r x) : FinQ E ⟨Try.f12, false, 0⟩ (QW (ref20_Same_Q r)) (.go (ref20_Same_M (.s1 a b i))) := by
  unfold ref20_Same_1 at h
  refine adv_ok hm 10 _ ?_
  refine p_split h (by kernel_rfl) (fun h1 h => ?_) (fun h1 h => ?_)
  · -- true
    refine adv_ok hm 5 _ ?_
    refine p_need h (by kernel_rfl) (fun h2 h => ?_)
    refine p_row (((List.map Seat.enc a))[i.toNat]?) Seat.enc h (by kernel_rfl) List.getElem?_map (fun y3 h4 h => ?_)
    refine r_str (rowsStr (List.map (eInt .u8) y3.Session)) (List.map b8 y3.Session) (by kernel_rfl) (rows_bytes _) ?_
    refine p_need h (by kernel_rfl) (fun h5 h => ?_)
    refine p_row (((List.map Seat.enc b))[i.toNat]?) Seat.enc h (by kernel_rfl) List.getElem?_map (fun y6 h7 h => ?_)
    refine r_str (rowsStr (List.map (eInt .u8) y6.Session)) (List.map b8 y6.Session) (by kernel_rfl) (rows_bytes _) ?_
    refine p_split h (by kernel_rfl) (fun h8 h => ?_) (fun h8 h => ?_)
    · -- true
      refine adv_ok hm 18 _ ?_
      obtain rfl := Option.some.inj h
      have hv := ha
      simp only [After] at hv
      subst hv
      exact r_retF [] (d := D.bool false) (s := []) (by kernel_rfl) ⟨rfl, rfl⟩
    · -- false
      refine adv_ok hm 2 _ ?_
      refine p_need h (by kernel_rfl) (fun h9 h => ?_)
      refine adv_ok hm 2 _ ?_
      refine p_row (((List.map Seat.enc a))[i.toNat]?) Seat.enc h (by kernel_rfl) List.getElem?_map (fun y10 h11 h => ?_)
      refine adv_ok hm 3 _ ?_
      refine p_need h (by kernel_rfl) (fun h12 h => ?_)
      refine adv_ok hm 2 _ ?_
      refine p_row (((List.map Seat.enc b))[i.toNat]?) Seat.enc h (by kernel_rfl) List.getElem?_map (fun y13 h14 h => ?_)
      refine adv_ok hm 3 _ ?_
      refine p_split h (by kernel_rfl) (fun h15 h => ?_) (fun h15 h => ?_)
      · -- true
        refine adv_ok hm 5 _ ?_
        obtain rfl := Option.some.inj h
        have hv := ha
        simp only [After] at hv
        subst hv
        exact r_retF [] (d := D.bool false) (s := []) (by kernel_rfl) ⟨rfl, rfl⟩
      · -- false
        refine adv_ok hm 8 _ ?_
        obtain rfl := Option.some.inj h
        exact r_to (q' := .go (ref20_Same_M (.s1 a b (IntKind.i64.wrap (i + 1))))) (by kernel_rfl) ha
  · -- false
    refine adv_ok hm 6 _ ?_
    obtain rfl := Option.some.inj h
    have hv := ha
    simp only [After] at hv
    subst hv
    exact r_retF [] (d := D.bool true) (s := []) (by kernel_rfl) ⟨rfl, rfl⟩
theorem ref20_Same_ev {a : List Seat} {b : List Seat} {r : Bool} (h : Ev ref20_Same_step (.s0 a b) r) : Sound E 12 [D.sl false 2 (List.map Seat.enc a), D.sl false 2 (List.map Seat.enc b)] [] (ref20_Same_Q r) :=
  sound_ofW (m := ref20_Same_M (.s0 a b)) (fn := Try.f12) (by kernel_rfl) (by kernel_rfl) (ev_run (C := ⟨Try.f12, false, 0⟩) (fun s x r hs ha => by
    cases s with
    | s0 => exact ref20_Same_0_ok hs ha
    | s1 => exact ref20_Same_1_ok hs ha) h)
noncomputable def ref20_Same (a : List Seat) (b : List Seat) : Option Bool := evf ref20_Same_step (.s0 a b)
theorem ref20_Same_ok {a : List Seat} {b : List Seat} {r : Bool} (h : ref20_Same a b = some r) : Sound E 12 [D.sl false 2 (List.map Seat.enc a), D.sl false 2 (List.map Seat.enc b)] [] (ref20_Same_Q r) := ref20_Same_ev (evf_ev h)
end Go.RX.L

set_option linter.unusedSimpArgs false
set_option linter.unusedVariables false
namespace Go.RX.L
open Go Go.RX

theorem head_ok : law20_head = some true := by
  have f0 : Fits [] := ⟨by simp, fun s h => by simp at h⟩
  have i2 : inK .i64 2 := inI64.2 (by omega)
  have i1 : inK .i64 1 := inI64.2 (by omega)
  obtain ⟨c1, r1, a1, a2, a3⟩ := put_ok f0 2 (f := [97]) (by simp [lim]) 1 i2
  have p1 : putP [] 2 [97] 1 = [⟨[97], 1⟩] := rfl
  rw [p1] at a1 a2 a3
  have f1 : Fits [⟨[97], 1⟩] := ⟨by simp, fun s h => by simp at h; subst h; simp [lim]⟩
  obtain ⟨c2, r2, b1, b2, b3⟩ := put_ok f1 2 (f := [98]) (by simp [lim]) 2 i2
  have p2 : putP [⟨[97], 1⟩] 2 [98] 2 = [⟨[98], 2⟩, ⟨[97], 1⟩] := rfl
  rw [p2] at b1 b2 b3
  have f2 : Fits [⟨[98], 2⟩, ⟨[97], 1⟩] := ⟨by simp, fun s h => by simp at h; rcases h with rfl | rfl <;> simp [lim]⟩
  obtain ⟨g1, g2⟩ := get_ok f2 [97]
  have p3 : getP [⟨[98], 2⟩, ⟨[97], 1⟩] [97] = (1, [⟨[97], 1⟩, ⟨[98], 2⟩]) := rfl
  rw [p3] at g1 g2
  have f3 : Fits [⟨[97], 1⟩, ⟨[98], 2⟩] := ⟨by simp, fun s h => by simp at h; rcases h with rfl | rfl <;> simp [lim]⟩
  obtain ⟨c4, r4, d1, d2, d3⟩ := put_ok f3 1 (f := [99]) (by simp [lim]) 3 i1
  have p4 : putP [⟨[97], 1⟩, ⟨[98], 2⟩] 1 [99] 3 = [⟨[99], 3⟩] := rfl
  rw [p4] at d1 d2 d3
  have n1 : Nat.ble (0 + [(⟨[97], 1⟩ : Seat)].length) r1.length = true := Nat.ble_eq_true_of_le (by omega)
  have n2 : Nat.ble (0 + [(⟨[98], 2⟩ : Seat), ⟨[97], 1⟩].length) r2.length = true := Nat.ble_eq_true_of_le (by omega)
  have tk : List.take [(⟨[98], 2⟩ : Seat), ⟨[97], 1⟩].length [(⟨[97], 1⟩ : Seat), ⟨[98], 2⟩] = [⟨[97], 1⟩, ⟨[98], 2⟩] := rfl
  unfold law20_head
  simp only [a1, Option.bind_some, List.length_map, n1, cond_true, List.drop_zero, a2, b1, n2, b2, g1, tk, d1]
  rfl

/-! ### the document -/
theorem rget_loop {l : List Seat} (hl : Fits l) (f : List Int) : ∀ (m k : Nat), k + m = l.length → (∀ x ∈ l.take k, eqS x.Session f = false) → Ev ref20_Get_step (.s1 l f k) (getP l f) := by
  intro m
  have hlen := hl.len
  induction m with
  | zero =>
    intro k hk hn
    rw [List.take_of_length_le (by omega)] at hn
    have : rest l f = none := by
      rcases idx_rest f l 0 with ⟨h1, h2, h3⟩ | ⟨j, s, h1, h2, h3, h4, h5⟩
      · exact h2
      · rw [hn s (List.mem_of_getElem? h2)] at h3; cases h3
    refine .done ?_
    have b1 : decide ((0 + l.length) * 32 ≤ bytesLim) = true := decide_eq_true (by unfold bytesLim; omega)
    simp only [ref20_Get_step, ref20_Get_1, List.length_map, geB (show l.length ≤ k by omega), cond_false, b1, cond_true, getP, this]
  | succ m ih =>
    intro k hk hn
    have hkl : k < l.length := by omega
    have w := wS (k := k) (by omega)
    cases hq : eqS l[k].Session f with
    | false =>
      refine .next (s' := .s1 l f ((k + 1 : Nat) : Int)) ?_ (ih (k + 1) (by omega) fun x hx => ?_)
      · simp only [ref20_Get_step, ref20_Get_1, List.length_map, ltB hkl, le0, Bool.and_self, cond_true, Int.toNat_natCast, List.getElem?_eq_getElem hkl, Option.bind_some, w]
        rw [show ((List.map b8 l[k].Session : List UInt8) == List.map b8 f) = false from hq]
        rfl
      · rw [List.take_succ_eq_append_getElem hkl] at hx
        rcases List.mem_append.1 hx with hx | hx
        · exact hn x hx
        · rw [List.mem_singleton.1 hx]; exact hq
    | true =>
      have hr : rest l f = some (l[k], l.take k ++ l.drop (k + 1)) := by
        rcases idx_rest f l 0 with ⟨h1, h2, h3⟩ | ⟨j, s, h1, h2, h3, h4, h5⟩
        · rw [h3 _ (List.getElem_mem hkl)] at hq; cases hq
        · have hj := (List.getElem?_eq_some_iff.1 h2).1
          have hjk : j = k := by
            rcases Nat.lt_trichotomy j k with h | h | h
            · have : s ∈ l.take k := List.mem_of_getElem? (i := j) (by rw [List.getElem?_take, if_pos h]; exact h2)
              rw [hn s this] at h3; cases h3
            · exact h
            · have : l[k] ∈ l.take j := List.mem_of_getElem? (i := k) (by rw [List.getElem?_take, if_pos h]; exact List.getElem?_eq_getElem hkl)
              rw [h5 _ this] at hq; cases hq
          subst hjk
          rw [h4, (List.getElem?_eq_some_iff.1 h2).2.symm]
      refine .done ?_
      have g1 : decide (((k + 1 : Nat) : Int) ≤ ((l.length : Nat) : Int)) = true := decide_eq_true (by omega)
      have g3 : decide ((k : Int) ≤ ((l.length : Nat) : Int)) = true := decide_eq_true (by omega)
      have z : ∀ k : Nat, decide (((0 : Nat) : Int) ≤ (k : Int)) = true := fun k => le0 k
      have b1 : decide ((1 + (List.take k l).length) * 32 ≤ bytesLim) = true := decide_eq_true (by unfold bytesLim; rw [List.length_take]; omega)
      have b2 : decide (([l[k]] ++ List.take k l).length * 32 + 0 ≤ bytesLim) = true := decide_eq_true (by unfold bytesLim; simp; omega)
      have b3 : decide ((([l[k]] ++ List.take k l).length + (List.drop (k + 1) l).length) * 32 ≤ bytesLim) = true := decide_eq_true (by unfold bytesLim; simp; omega)
      simp only [ref20_Get_step, ref20_Get_1, List.length_map, ltB hkl, le0, Bool.and_self, cond_true, Int.toNat_natCast, List.getElem?_eq_getElem hkl, Option.bind_some, w, g1, g3, z, List.drop_zero, b1, List.take_length, b3]
      rw [show ((List.map b8 l[k].Session : List UInt8) == List.map b8 f) = true from hq]
      simp [getP, hr]

theorem rget_ok {l : List Seat} (hl : Fits l) (f : List Int) : ref20_Get l f = some (getP l f) :=
  evf_of (.next (s' := .s1 l f (0 : Nat)) (by simp [ref20_Get_step, ref20_Get_0]) (rget_loop hl f l.length 0 (by omega) (by simp)))

theorem rput_loop {l : List Seat} (hl : Fits l) (f : List Int) (t : Int) {room : Int} (hr : 1 ≤ room) : ∀ (m k : Nat), k + m = l.length → Ev ref20_Put_step (.s1 l room f k ((⟨f, t⟩ :: othersP (l.take k) f).take room.toNat)) (putP l room f t) := by
  intro m
  have hlen := hl.len
  have hp : putP l room f t = (⟨f, t⟩ :: othersP l f).take room.toNat := by unfold putP; rw [if_neg (by omega)]
  induction m with
  | zero =>
    intro k hk
    rw [hp, List.take_of_length_le (by omega : l.length ≤ k)]
    refine .next (s' := .s2 l room f k false ((⟨f, t⟩ :: othersP l f).take room.toNat)) ?_ (.done rfl)
    simp only [ref20_Put_step, ref20_Put_1, List.length_map, geB (show l.length ≤ k by omega), cond_false]
  | succ m ih =>
    intro k hk
    have hkl : k < l.length := by omega
    have w := wS (k := k) (by omega)
    have st : ref20_Put_step (.s1 l room f k ((⟨f, t⟩ :: othersP (l.take k) f).take room.toNat)) = some (.inl (.s2 l room f k (decide (((((⟨f, t⟩ :: othersP (l.take k) f).take room.toNat).length : Nat) : Int) < room)) ((⟨f, t⟩ :: othersP (l.take k) f).take room.toNat))) := by
      simp only [ref20_Put_step, ref20_Put_1, List.length_map, ltB hkl, cond_true]
    refine .next st ?_
    have hsucc : othersP (l.take (k + 1)) f = othersP (l.take k) f ++ if eqS l[k].Session f then [] else [l[k]] := by
      unfold othersP
      rw [filter_take_succ hkl]
      cases eqS l[k].Session f <;> rfl
    by_cases hroom : ((((⟨f, t⟩ :: othersP (l.take k) f).take room.toNat).length : Nat) : Int) < room
    · rw [decide_eq_true hroom]
      have hlt : (⟨f, t⟩ :: othersP (l.take k) f : List Seat).length < room.toNat := by
        rw [List.length_take] at hroom; omega
      have htk : (⟨f, t⟩ :: othersP (l.take k) f : List Seat).take room.toNat = ⟨f, t⟩ :: othersP (l.take k) f := List.take_of_length_le (by omega)
      have hol := others_len (l.take k) f
      rw [List.length_take] at hol
      cases hq : eqS l[k].Session f with
      | true =>
        refine .next (s' := .s1 l room f ((k + 1 : Nat) : Int) ((⟨f, t⟩ :: othersP (l.take (k + 1)) f).take room.toNat)) ?_ (ih (k + 1) (by omega))
        rw [hsucc, hq]
        simp only [if_true, List.append_nil]
        simp only [ref20_Put_step, ref20_Put_2, cond_true, List.length_map, ltB hkl, le0, Bool.and_self, Int.toNat_natCast, List.getElem?_eq_getElem hkl, Option.bind_some, w]
        rw [show ((List.map b8 l[k].Session : List UInt8) == List.map b8 f) = true from hq]
        rfl
      | false =>
        refine .next (s' := .s1 l room f ((k + 1 : Nat) : Int) ((⟨f, t⟩ :: othersP (l.take (k + 1)) f).take room.toNat)) ?_ (ih (k + 1) (by omega))
        rw [hsucc, hq]
        simp only [Bool.false_eq_true, if_false]
        rw [show (⟨f, t⟩ :: (othersP (l.take k) f ++ [l[k]]) : List Seat).take room.toNat = (⟨f, t⟩ :: othersP (l.take k) f) ++ [l[k]] from by
          rw [List.take_of_length_le]
          · rfl
          · simp only [List.length_cons, List.length_append, List.length_nil] at hlt ⊢; omega]
        have b1 : decide (((⟨f, t⟩ :: othersP (l.take k) f : List Seat).length + 1) * 32 ≤ bytesLim) = true := decide_eq_true (by unfold bytesLim; simp only [List.length_cons]; omega)
        rw [htk]
        simp only [ref20_Put_step, ref20_Put_2, cond_true, List.length_map, ltB hkl, le0, Bool.and_self, Int.toNat_natCast, List.getElem?_eq_getElem hkl, Option.bind_some, w, b1]
        rw [show ((List.map b8 l[k].Session : List UInt8) == List.map b8 f) = false from hq]
        rfl
    · rw [decide_eq_false hroom]
      refine .done ?_
      simp only [ref20_Put_step, ref20_Put_2, cond_false]
      rw [hp]
      have hge : room.toNat ≤ (⟨f, t⟩ :: othersP (l.take k) f : List Seat).length := by
        rw [List.length_take] at hroom; omega
      have hs : othersP l f = othersP (l.take k) f ++ othersP (l.drop k) f := by
        unfold othersP
        conv => lhs; rw [← List.take_append_drop k l, List.filter_append]
      rw [hs, show (⟨f, t⟩ :: (othersP (l.take k) f ++ othersP (l.drop k) f) : List Seat) = (⟨f, t⟩ :: othersP (l.take k) f) ++ othersP (l.drop k) f from rfl, List.take_append_of_le_length hge]

theorem rput_ok {l : List Seat} (hl : Fits l) (room : Int) {f : List Int} (hf : f.length ≤ lim) (t : Int) : ref20_Put l room f t = some (putP l room f t) := by
  by_cases h1 : room < 1
  · refine evf_of (.done ?_)
    simp only [ref20_Put_step, ref20_Put_0, decide_eq_true h1, cond_true, putP, if_pos h1]
  · refine evf_of (.next (s' := .s1 l room f (0 : Nat) ((⟨f, t⟩ :: othersP (l.take 0) f).take room.toNat)) ?_ (rput_loop hl f t (by omega) l.length 0 (by omega)))
    have b1 : decide ((0 + f.length) * 1 ≤ bytesLim) = true := decide_eq_true (by unfold bytesLim; unfold lim at hf; omega)
    simp only [ref20_Put_step, ref20_Put_0, decide_eq_false h1, cond_false, List.length_map, b1, cond_true]
    have : room.toNat = (room.toNat - 1) + 1 := by omega
    rw [this]
    simp [othersP]

theorem rsame_loop (l : List Seat) (hl : l.length ≤ 300000) : ∀ (m k : Nat), k + m = l.length → Ev ref20_Same_step (.s1 l l k) true := by
  intro m
  induction m with
  | zero =>
    intro k hk
    refine .done ?_
    simp only [ref20_Same_step, ref20_Same_1, List.length_map, geB (show l.length ≤ k by omega), cond_false]
  | succ m ih =>
    intro k hk
    have hkl : k < l.length := by omega
    refine .next (s' := .s1 l l ((k + 1 : Nat) : Int)) ?_ (ih (k + 1) (by omega))
    simp only [ref20_Same_step, ref20_Same_1, List.length_map, ltB hkl, le0, Bool.and_self, cond_true, Int.toNat_natCast, List.getElem?_eq_getElem hkl, Option.bind_some, beq_self_eq_true, Bool.not_true, cond_false, bne_self_eq_false, wS (show k < 9223372036854775807 by omega)]
theorem rsame_ok (l : List Seat) (hl : l.length ≤ 300000) : ref20_Same l l = some true :=
  evf_of (.next (s' := .s1 l l (0 : Nat)) (by simp [ref20_Same_step, ref20_Same_0]) (rsame_loop l hl l.length 0 (by omega)))
end Go.RX.L

set_option linter.unusedSimpArgs false
set_option linter.unusedVariables false
set_option maxRecDepth 100000
set_option maxHeartbeats 4000000
namespace Go.RX.L
open Go Go.RX Go.Proofs
attribute [local irreducible] FinQ
def law20_StickyKeeps_Q (y : Bool) (d : D) (s : Sto) : Prop := d = D.bool y ∧ s = []
inductive law20_StickyKeeps_S where
  | s0 (room : Int) (l : List Use)
  | s1 (l : List Use) (up : Bool) (n : Int) (tlo : Nat) (tln : Nat) (tcp : Nat) (i : Int) (t : List Seat)
  | s7 (l : List Use) (up : Bool) (n : Int) (t : List Seat) (i : Int)
  | s8 (l : List Use) (up : Bool) (n : Int) (t : List Seat) (i : Int)
  | s4 (l : List Use) (up : Bool) (n : Int) (t : List Seat) (i : Int)
  | s3 (l : List Use) (up : Bool) (n : Int) (tlo : Nat) (tln : Nat) (tcp : Nat) (i : Int) (t : List Seat)
  | s5 (l : List Use) (up : Bool) (n : Int) (t : List Seat) (i : Int) (others : Int) (last : Bool) (k : Int)
  | s2 (l : List Use) (up : Bool) (n : Int) (tlo : Nat) (tln : Nat) (tcp : Nat) (i : Int) (k : Int) (t : List Seat)
  | s9 (l : List Use) (up : Bool) (n : Int) (t : List Seat) (i : Int) (others : Int) (last : Bool) (k : Int)
  | s11 (l : List Use) (up : Bool) (n : Int) (t : List Seat) (i : Int) (t143 : Bool)
  | s6 (l : List Use) (up : Bool) (n : Int) (tlo : Nat) (tln : Nat) (tcp : Nat) (i : Int) (k : Int) (m : Int) (t : List Seat)
  | s10 (l : List Use) (up : Bool) (n : Int) (t : List Seat) (i : Int)
noncomputable def law20_StickyKeeps_M : law20_StickyKeeps_S → M
  | .s0 room l => ⟨[.code (bodyOf Try.f4)], [(0, D.int .u8 room), (1, D.sl false 3 (List.map Use.enc l))], []⟩
  | .s1 l up n tlo tln tcp i t => { td := [It.lpc (codeAt (bodyOf Try.f4) [1, 1, 1, 1, 1, 0, 1, 0, 0]) 482, It.blk 0, It.code (codeAt (bodyOf Try.f4) [1, 1, 1, 1, 1, 1])], fr := [(1, D.sl false 3 (List.map Use.enc l)), (5, D.bool up), (6, D.int .i64 n), (7, D.msl 0 tlo tln tcp false), (8, D.int .i64 i)], st := [some { sz := 2, deep := false, rows := (List.map Seat.enc t) }] }
  | .s7 l up n t i => { td := [It.code (codeAt (bodyOf Try.f4) [1, 1, 1, 1, 1, 0, 1, 0, 0, 1, 0, 0, 0, 1, 0]), It.code (codeAt (bodyOf Try.f4) [1, 1, 1, 1, 1, 0, 1, 0, 0, 1, 0, 0, 1]), It.blk 1, It.code (codeAt (bodyOf Try.f4) [1, 1, 1, 1, 1, 0, 1, 0, 0, 1, 1]), It.lp (codeAt (bodyOf Try.f4) [1, 1, 1, 1, 1, 0, 1, 0, 0]) 482, It.blk 0, It.code (codeAt (bodyOf Try.f4) [1, 1, 1, 1, 1, 1])], fr := [(1, D.sl false 3 (List.map Use.enc l)), (5, D.bool up), (6, D.int .i64 n), (7, D.sl false 2 (List.map Seat.enc t)), (8, D.int .i64 i)], st := [] }
  | .s8 l up n t i => { td := [It.code (codeAt (bodyOf Try.f4) [1, 1, 1, 1, 1, 0, 1, 0, 0, 1, 0, 0, 0, 1, 1, 0]), It.code (codeAt (bodyOf Try.f4) [1, 1, 1, 1, 1, 0, 1, 0, 0, 1, 0, 0, 0, 1, 1, 1]), It.code (codeAt (bodyOf Try.f4) [1, 1, 1, 1, 1, 0, 1, 0, 0, 1, 0, 0, 1]), It.blk 1, It.code (codeAt (bodyOf Try.f4) [1, 1, 1, 1, 1, 0, 1, 0, 0, 1, 1]), It.lp (codeAt (bodyOf Try.f4) [1, 1, 1, 1, 1, 0, 1, 0, 0]) 482, It.blk 0, It.code (codeAt (bodyOf Try.f4) [1, 1, 1, 1, 1, 1])], fr := [(1, D.sl false 3 (List.map Use.enc l)), (5, D.bool up), (6, D.int .i64 n), (7, D.sl false 2 (List.map Seat.enc t)), (8, D.int .i64 i)], st := [] }
  | .s4 l up n t i => { td := [It.lpc (codeAt (bodyOf Try.f4) [1, 1, 1, 1, 1, 1, 0, 1, 0, 0]) 8418, It.blk 6, It.code (codeAt (bodyOf Try.f4) [1, 1, 1, 1, 1, 1, 1])], fr := [(1, D.sl false 3 (List.map Use.enc l)), (5, D.bool up), (6, D.int .i64 n), (7, D.sl false 2 (List.map Seat.enc t)), (13, D.int .i64 i)], st := [] }
  | .s3 l up n tlo tln tcp i t => { td := [It.code (codeAt (bodyOf Try.f4) [1, 1, 1, 1, 1, 0, 1, 0, 0, 1, 0, 0, 1]), It.blk 1, It.code (codeAt (bodyOf Try.f4) [1, 1, 1, 1, 1, 0, 1, 0, 0, 1, 1]), It.lp (codeAt (bodyOf Try.f4) [1, 1, 1, 1, 1, 0, 1, 0, 0]) 482, It.blk 0, It.code (codeAt (bodyOf Try.f4) [1, 1, 1, 1, 1, 1])], fr := [(1, D.sl false 3 (List.map Use.enc l)), (5, D.bool up), (6, D.int .i64 n), (7, D.msl 0 tlo tln tcp false), (8, D.int .i64 i)], st := [some { sz := 2, deep := false, rows := (List.map Seat.enc t) }] }
  | .s5 l up n t i others last k => { td := [It.lpc (codeAt (bodyOf Try.f4) [1, 1, 1, 1, 1, 1, 0, 1, 0, 0, 1, 0, 0, 1, 1, 0, 1, 0, 0]) 123106, It.blk 8, It.code (codeAt (bodyOf Try.f4) [1, 1, 1, 1, 1, 1, 0, 1, 0, 0, 1, 0, 0, 1, 1, 1]), It.blk 7, It.code (codeAt (bodyOf Try.f4) [1, 1, 1, 1, 1, 1, 0, 1, 0, 0, 1, 1]), It.lp (codeAt (bodyOf Try.f4) [1, 1, 1, 1, 1, 1, 0, 1, 0, 0]) 8418, It.blk 6, It.code (codeAt (bodyOf Try.f4) [1, 1, 1, 1, 1, 1, 1])], fr := [(1, D.sl false 3 (List.map Use.enc l)), (5, D.bool up), (6, D.int .i64 n), (7, D.sl false 2 (List.map Seat.enc t)), (13, D.int .i64 i), (14, D.int .i64 others), (15, D.bool last), (16, D.int .i64 k)], st := [] }
  | .s2 l up n tlo tln tcp i k t => { td := [It.lpc (codeAt (bodyOf Try.f4) [1, 1, 1, 1, 1, 0, 1, 0, 0, 1, 0, 0, 1, 1, 1, 0, 0]) 2530, It.blk 2, It.blk 1, It.code (codeAt (bodyOf Try.f4) [1, 1, 1, 1, 1, 0, 1, 0, 0, 1, 1]), It.lp (codeAt (bodyOf Try.f4) [1, 1, 1, 1, 1, 0, 1, 0, 0]) 482, It.blk 0, It.code (codeAt (bodyOf Try.f4) [1, 1, 1, 1, 1, 1])], fr := [(1, D.sl false 3 (List.map Use.enc l)), (5, D.bool up), (6, D.int .i64 n), (7, D.msl 0 tlo tln tcp false), (8, D.int .i64 i), (11, D.int .i64 k)], st := [some { sz := 2, deep := false, rows := (List.map Seat.enc t) }] }
  | .s9 l up n t i others last k => { td := [It.code (codeAt (bodyOf Try.f4) [1, 1, 1, 1, 1, 1, 0, 1, 0, 0, 1, 0, 0, 1, 1, 0, 1, 0, 0, 1, 0, 0, 1]), It.blk 9, It.code (codeAt (bodyOf Try.f4) [1, 1, 1, 1, 1, 1, 0, 1, 0, 0, 1, 0, 0, 1, 1, 0, 1, 0, 0, 1, 1]), It.lp (codeAt (bodyOf Try.f4) [1, 1, 1, 1, 1, 1, 0, 1, 0, 0, 1, 0, 0, 1, 1, 0, 1, 0, 0]) 123106, It.blk 8, It.code (codeAt (bodyOf Try.f4) [1, 1, 1, 1, 1, 1, 0, 1, 0, 0, 1, 0, 0, 1, 1, 1]), It.blk 7, It.code (codeAt (bodyOf Try.f4) [1, 1, 1, 1, 1, 1, 0, 1, 0, 0, 1, 1]), It.lp (codeAt (bodyOf Try.f4) [1, 1, 1, 1, 1, 1, 0, 1, 0, 0]) 8418, It.blk 6, It.code (codeAt (bodyOf Try.f4) [1, 1, 1, 1, 1, 1, 1])], fr := [(1, D.sl false 3 (List.map Use.enc l)), (5, D.bool up), (6, D.int .i64 n), (7, D.sl false 2 (List.map Seat.enc t)), (13, D.int .i64 i), (14, D.int .i64 others), (15, D.bool last), (16, D.int .i64 k)], st := [] }
  | .s11 l up n t i t143 => { td := [It.code (codeAt (bodyOf Try.f4) [1, 1, 1, 1, 1, 1, 0, 1, 0, 0, 1, 0, 0, 1, 1, 1, 1]), It.blk 7, It.code (codeAt (bodyOf Try.f4) [1, 1, 1, 1, 1, 1, 0, 1, 0, 0, 1, 1]), It.lp (codeAt (bodyOf Try.f4) [1, 1, 1, 1, 1, 1, 0, 1, 0, 0]) 8418, It.blk 6, It.code (codeAt (bodyOf Try.f4) [1, 1, 1, 1, 1, 1, 1])], fr := [(1, D.sl false 3 (List.map Use.enc l)), (5, D.bool up), (6, D.int .i64 n), (7, D.sl false 2 (List.map Seat.enc t)), (13, D.int .i64 i), (143, D.bool t143)], st := [] }
  | .s6 l up n tlo tln tcp i k m t => { td := [It.lpc (codeAt (bodyOf Try.f4) [1, 1, 1, 1, 1, 0, 1, 0, 0, 1, 0, 0, 1, 1, 1, 0, 0, 1, 0, 0, 1, 0, 0]) 6626, It.blk 4, It.blk 3, It.code (codeAt (bodyOf Try.f4) [1, 1, 1, 1, 1, 0, 1, 0, 0, 1, 0, 0, 1, 1, 1, 0, 0, 1, 1]), It.lp (codeAt (bodyOf Try.f4) [1, 1, 1, 1, 1, 0, 1, 0, 0, 1, 0, 0, 1, 1, 1, 0, 0]) 2530, It.blk 2, It.blk 1, It.code (codeAt (bodyOf Try.f4) [1, 1, 1, 1, 1, 0, 1, 0, 0, 1, 1]), It.lp (codeAt (bodyOf Try.f4) [1, 1, 1, 1, 1, 0, 1, 0, 0]) 482, It.blk 0, It.code (codeAt (bodyOf Try.f4) [1, 1, 1, 1, 1, 1])], fr := [(1, D.sl false 3 (List.map Use.enc l)), (5, D.bool up), (6, D.int .i64 n), (7, D.msl 0 tlo tln tcp false), (8, D.int .i64 i), (11, D.int .i64 k), (12, D.int .i64 m)], st := [some { sz := 2, deep := false, rows := (List.map Seat.enc t) }] }
  | .s10 l up n t i => { td := [It.code (codeAt (bodyOf Try.f4) [1, 1, 1, 1, 1, 1, 0, 1, 0, 0, 1, 0, 0, 1, 1, 1, 1, 0, 0]), It.code (codeAt (bodyOf Try.f4) [1, 1, 1, 1, 1, 1, 0, 1, 0, 0, 1, 0, 0, 1, 1, 1, 1, 0, 1]), It.blk 7, It.code (codeAt (bodyOf Try.f4) [1, 1, 1, 1, 1, 1, 0, 1, 0, 0, 1, 1]), It.lp (codeAt (bodyOf Try.f4) [1, 1, 1, 1, 1, 1, 0, 1, 0, 0]) 8418, It.blk 6, It.code (codeAt (bodyOf Try.f4) [1, 1, 1, 1, 1, 1, 1])], fr := [(1, D.sl false 3 (List.map Use.enc l)), (5, D.bool up), (6, D.int .i64 n), (7, D.sl false 2 (List.map Seat.enc t)), (13, D.int .i64 i)], st := [] }
noncomputable def law20_StickyKeeps_0 (room : Int) (l : List Use) : Option (law20_StickyKeeps_S ⊕ Bool) := ((law20_head ).bind fun y1 => (bif (decide (((((List.map Use.enc l).length : Nat) : Int) : Int) > 300)) then (some (.inr y1)) else (some (.inl (.s1 l y1 (IntKind.i64.wrap ((1 : Int) + (IntKind.i64.wrap ((Int.tmod room 10))))) 0 0 0 0 ([]))))))
noncomputable def law20_StickyKeeps_1 (l : List Use) (up : Bool) (n : Int) (tlo : Nat) (tln : Nat) (tcp : Nat) (i : Int) (t : List Seat) : Option (law20_StickyKeeps_S ⊕ Bool) := (bif (decide ((i : Int) < (((List.map Use.enc l).length : Nat) : Int))) then (bif ((decide ((0 : Int) ≤ i)) && (decide ((i : Int) < (((List.map Use.enc l).length : Nat) : Int)))) then (((l)[i.toNat]?).bind fun y3 => (bif y3.Put then (bif (Nat.ble (tlo + tln) ((List.map Seat.enc t).length)) then (some (.inl (.s7 l up n (List.take tln (List.drop tlo t)) i))) else none) else (bif (Nat.ble (tlo + tln) ((List.map Seat.enc t).length)) then (some (.inl (.s8 l up n (List.take tln (List.drop tlo t)) i))) else none))) else none) else (bif (Nat.ble (tlo + tln) ((List.map Seat.enc t).length)) then (some (.inl (.s4 l up n (List.take tln (List.drop tlo t)) 0))) else none))
noncomputable def law20_StickyKeeps_7 (l : List Use) (up : Bool) (n : Int) (t : List Seat) (i : Int) : Option (law20_StickyKeeps_S ⊕ Bool) := (bif ((decide ((0 : Int) ≤ i)) && (decide ((i : Int) < (((List.map Use.enc l).length : Nat) : Int)))) then (((l)[i.toNat]?).bind fun y2 => (bif ((decide ((0 : Int) ≤ i)) && (decide ((i : Int) < (((List.map Use.enc l).length : Nat) : Int)))) then (((l)[i.toNat]?).bind fun y5 => ((sticky_Put t n y2.Session y5.Target).bind fun y7 => (some (.inl (.s3 l up n y7.1 y7.2.1 y7.2.2.1 i y7.2.2.2))))) else none)) else none)
noncomputable def law20_StickyKeeps_8 (l : List Use) (up : Bool) (n : Int) (t : List Seat) (i : Int) : Option (law20_StickyKeeps_S ⊕ Bool) := (bif ((decide ((0 : Int) ≤ i)) && (decide ((i : Int) < (((List.map Use.enc l).length : Nat) : Int)))) then (((l)[i.toNat]?).bind fun y2 => ((sticky_Get t y2.Session).bind fun y4 => (some (.inl (.s3 l up n y4.2.1 y4.2.2.1 y4.2.2.2.1 i y4.2.2.2.2))))) else none)
noncomputable def law20_StickyKeeps_4 (l : List Use) (up : Bool) (n : Int) (t : List Seat) (i : Int) : Option (law20_StickyKeeps_S ⊕ Bool) := (bif (decide ((i : Int) < (((List.map Use.enc l).length : Nat) : Int))) then (some (.inl (.s5 l up n t i 0 true (IntKind.i64.wrap (i + 1))))) else (some (.inr up)))
noncomputable def law20_StickyKeeps_3 (l : List Use) (up : Bool) (n : Int) (tlo : Nat) (tln : Nat) (tcp : Nat) (i : Int) (t : List Seat) : Option (law20_StickyKeeps_S ⊕ Bool) := (bif (decide ((((tln : Nat) : Int) : Int) > n)) then (some (.inr false)) else (some (.inl (.s2 l up n tlo tln tcp i 0 t))))
noncomputable def law20_StickyKeeps_5 (l : List Use) (up : Bool) (n : Int) (t : List Seat) (i : Int) (others : Int) (last : Bool) (k : Int) : Option (law20_StickyKeeps_S ⊕ Bool) := (bif (decide ((k : Int) < (((List.map Use.enc l).length : Nat) : Int))) then (bif last then (bif ((decide ((0 : Int) ≤ k)) && (decide ((k : Int) < (((List.map Use.enc l).length : Nat) : Int)))) then (((l)[k.toNat]?).bind fun y4 => (bif ((decide ((0 : Int) ≤ i)) && (decide ((i : Int) < (((List.map Use.enc l).length : Nat) : Int)))) then (((l)[i.toNat]?).bind fun y7 => (bif (!(((List.map b8 y4.Session) : List UInt8) == (List.map b8 y7.Session))) then (some (.inl (.s9 l up n t i others true k))) else (bif ((decide ((0 : Int) ≤ k)) && (decide ((k : Int) < (((List.map Use.enc l).length : Nat) : Int)))) then (((l)[k.toNat]?).bind fun y11 => (some (.inl (.s9 l up n t i others (!y11.Put) k)))) else none))) else none)) else none) else (some (.inl (.s9 l up n t i others false k)))) else (bif ((decide ((0 : Int) ≤ i)) && (decide ((i : Int) < (((List.map Use.enc l).length : Nat) : Int)))) then (((l)[i.toNat]?).bind fun y14 => (bif y14.Put then (bif last then (some (.inl (.s11 l up n t i (decide ((others : Int) < n))))) else (some (.inl (.s11 l up n t i false)))) else (some (.inl (.s11 l up n t i false))))) else none))
noncomputable def law20_StickyKeeps_2 (l : List Use) (up : Bool) (n : Int) (tlo : Nat) (tln : Nat) (tcp : Nat) (i : Int) (k : Int) (t : List Seat) : Option (law20_StickyKeeps_S ⊕ Bool) := (bif (decide ((k : Int) < ((tln : Nat) : Int))) then (some (.inl (.s6 l up n tlo tln tcp i k 0 t))) else (some (.inl (.s1 l up n tlo tln tcp (IntKind.i64.wrap (i + 1)) t))))
noncomputable def law20_StickyKeeps_9 (l : List Use) (up : Bool) (n : Int) (t : List Seat) (i : Int) (others : Int) (last : Bool) (k : Int) : Option (law20_StickyKeeps_S ⊕ Bool) := (some (.inl (.s5 l up n t i (IntKind.i64.wrap (others + 1)) last (IntKind.i64.wrap (k + 1)))))
noncomputable def law20_StickyKeeps_11 (l : List Use) (up : Bool) (n : Int) (t : List Seat) (i : Int) (t143 : Bool) : Option (law20_StickyKeeps_S ⊕ Bool) := (bif t143 then (some (.inl (.s10 l up n t i))) else (some (.inl (.s4 l up n t (IntKind.i64.wrap (i + 1))))))
noncomputable def law20_StickyKeeps_6 (l : List Use) (up : Bool) (n : Int) (tlo : Nat) (tln : Nat) (tcp : Nat) (i : Int) (k : Int) (m : Int) (t : List Seat) : Option (law20_StickyKeeps_S ⊕ Bool) := (bif (decide ((m : Int) < k)) then (bif ((decide ((0 : Int) ≤ k)) && (decide ((k : Int) < ((tln : Nat) : Int)))) then (((t)[(tlo + k.toNat)]?).bind fun y3 => (bif ((decide ((0 : Int) ≤ m)) && (decide ((m : Int) < ((tln : Nat) : Int)))) then (((t)[(tlo + m.toNat)]?).bind fun y6 => (bif (((List.map b8 y3.Session) : List UInt8) == (List.map b8 y6.Session)) then (some (.inr false)) else (some (.inl (.s6 l up n tlo tln tcp i k (IntKind.i64.wrap (m + 1)) t))))) else none)) else none) else (some (.inl (.s2 l up n tlo tln tcp i (IntKind.i64.wrap (k + 1)) t))))
noncomputable def law20_StickyKeeps_10 (l : List Use) (up : Bool) (n : Int) (t : List Seat) (i : Int) : Option (law20_StickyKeeps_S ⊕ Bool) := (bif ((decide ((0 : Int) ≤ i)) && (decide ((i : Int) < (((List.map Use.enc l).length : Nat) : Int)))) then (((l)[i.toNat]?).bind fun y2 => ((sticky_Get t y2.Session).bind fun y4 => (bif ((decide ((0 : Int) ≤ i)) && (decide ((i : Int) < (((List.map Use.enc l).length : Nat) : Int)))) then (((l)[i.toNat]?).bind fun y6 => (bif ((y4.1 : Int) != y6.Target) then (some (.inr false)) else (some (.inl (.s4 l up n t (IntKind.i64.wrap (i + 1))))))) else none))) else none)
noncomputable def law20_StickyKeeps_step : law20_StickyKeeps_S → Option (law20_StickyKeeps_S ⊕ Bool)
  | .s0 room l => law20_StickyKeeps_0 room l
  | .s1 l up n tlo tln tcp i t => law20_StickyKeeps_1 l up n tlo tln tcp i t
  | .s7 l up n t i => law20_StickyKeeps_7 l up n t i
  | .s8 l up n t i => law20_StickyKeeps_8 l up n t i
  | .s4 l up n t i => law20_StickyKeeps_4 l up n t i
  | .s3 l up n tlo tln tcp i t => law20_StickyKeeps_3 l up n tlo tln tcp i t
  | .s5 l up n t i others last k => law20_StickyKeeps_5 l up n t i others last k
  | .s2 l up n tlo tln tcp i k t => law20_StickyKeeps_2 l up n tlo tln tcp i k t
  | .s9 l up n t i others last k => law20_StickyKeeps_9 l up n t i others last k
  | .s11 l up n t i t143 => law20_StickyKeeps_11 l up n t i t143
  | .s6 l up n tlo tln tcp i k m t => law20_StickyKeeps_6 l up n tlo tln tcp i k m t
  | .s10 l up n t i => law20_StickyKeeps_10 l up n t i
theorem law20_StickyKeeps_0_ok {room : Int} {l : List Use} {r : Bool} {x : law20_StickyKeeps_S ⊕ Bool} (h : law20_StickyKeeps_0 room l = some x) (ha : After E ⟨Try.f4, false, 0⟩ law20_StickyKeeps_Q law20_StickyKeeps_M r x) : FinQ E ⟨Try.f4, false, 0⟩ (QW (law20_StickyKeeps_Q r)) (.go (law20_StickyKeeps_M (.s0 room l))) := by
  unfold law20_StickyKeeps_0 at h
  refine adv_ok hm 7 _ ?_
  have ok1 := fun (y : Bool) (hy : law20_head  = some y) => law20_head_ok hy
  refine p_callE [] (args1 := []) (args := []) (fun y1 => D.bool y1) (fun y1 => []) h (by kernel_rfl) ⟨rfl, rfl⟩ ok1 (fun y1 h1 h => ?_)
  refine adv_ok hm 19 _ ?_
  refine p_split h (by kernel_rfl) (fun h2 h => ?_) (fun h2 h => ?_)
  · -- true
    refine adv_ok hm 6 _ ?_
    obtain rfl := Option.some.inj h
    have hv := ha
    simp only [After] at hv
    subst hv
    exact r_retF [] (d := D.bool y1) (s := []) (by kernel_rfl) ⟨rfl, rfl⟩
  · -- false
    refine adv_ok hm 13 _ ?_
    obtain rfl := Option.some.inj h
    refine r_cut 482 [.mat 7 2] (m' := { td := [It.lpc (codeAt (bodyOf Try.f4) [1, 1, 1, 1, 1, 0, 1, 0, 0]) 482, It.blk 0, It.code (codeAt (bodyOf Try.f4) [1, 1, 1, 1, 1, 1])], fr := [(1, D.sl false 3 (List.map Use.enc l)), (5, D.bool y1), (6, D.int .i64 (IntKind.i64.wrap ((1 : Int) + (IntKind.i64.wrap ((Int.tmod room 10)))))), (7, D.msl 0 0 0 0 false), (8, D.int .i64 0)], st := [some { sz := 2, deep := false, rows := [] }] }) (by kernel_rfl) ?_
    refine r_len (n1 := 0) (n2 := 0) (fun n => .go { td := [It.lpc (codeAt (bodyOf Try.f4) [1, 1, 1, 1, 1, 0, 1, 0, 0]) 482, It.blk 0, It.code (codeAt (bodyOf Try.f4) [1, 1, 1, 1, 1, 1])], fr := [(1, D.sl false 3 (List.map Use.enc l)), (5, D.bool y1), (6, D.int .i64 (IntKind.i64.wrap ((1 : Int) + (IntKind.i64.wrap ((Int.tmod room 10)))))), (7, D.msl 0 0 n n false), (8, D.int .i64 0)], st := [some { sz := 2, deep := false, rows := [] }] }) (by simp) ?_
    exact ha
theorem law20_StickyKeeps_1_ok {l : List Use} {up : Bool} {n : Int} {tlo : Nat} {tln : Nat} {tcp : Nat} {i : Int} {t : List Seat} {r : Bool} {x : law20_StickyKeeps_S ⊕ Bool} (h : law20_StickyKeeps_1 l up n tlo tln tcp i t = some x) (ha : After E ⟨Try.f4, false, 0⟩ law20_StickyKeeps_Q law20_StickyKeeps_M r x) : FinQ E ⟨Try.f4, false, 0⟩ (QW (law20_StickyKeeps_Q r)) (.go (law20_StickyKeeps_M (.s1 l up n tlo tln tcp i t))) := by
  unfold law20_StickyKeeps_1 at h
  refine adv_ok hm 10 _ ?_
  refine p_split h (by kernel_rfl) (fun h1 h => ?_) (fun h1 h => ?_)
  · -- true
    refine adv_ok hm 9 _ ?_
    refine p_need h (by kernel_rfl) (fun h2 h => ?_)
    refine adv_ok hm 2 _ ?_
    refine p_row (((List.map Use.enc l))[i.toNat]?) Use.enc h (by kernel_rfl) List.getElem?_map (fun y3 h4 h => ?_)
    refine adv_ok hm 2 _ ?_
    refine p_split h (by kernel_rfl) (fun h5 h => ?_) (fun h5 h => ?_)
    · -- true
      refine p_fzT 7 (n1 := (tlo + tln)) (n2 := ((List.map Seat.enc t).length)) (raw := (List.take tln (List.drop tlo (List.map Seat.enc t)))) (rs := (List.map Seat.enc (List.take tln (List.drop tlo t)))) h (by kernel_rfl) (by simp only [take_full, take_full', List.map_take, List.map_drop]) (fun h6 h => ?_)
      obtain rfl := Option.some.inj h
      exact r_cut 482 [] (m' := (law20_StickyKeeps_M (.s7 l up n (List.take tln (List.drop tlo t)) i))) (by kernel_rfl) ha
    · -- false
      refine adv_ok hm 1 _ ?_
      refine p_fzT 7 (n1 := (tlo + tln)) (n2 := ((List.map Seat.enc t).length)) (raw := (List.take tln (List.drop tlo (List.map Seat.enc t)))) (rs := (List.map Seat.enc (List.take tln (List.drop tlo t)))) h (by kernel_rfl) (by simp only [take_full, take_full', List.map_take, List.map_drop]) (fun h7 h => ?_)
      obtain rfl := Option.some.inj h
      exact r_cut 482 [] (m' := (law20_StickyKeeps_M (.s8 l up n (List.take tln (List.drop tlo t)) i))) (by kernel_rfl) ha
  · -- false
    refine adv_ok hm 9 _ ?_
    refine p_fzT 7 (n1 := (tlo + tln)) (n2 := ((List.map Seat.enc t).length)) (raw := (List.take tln (List.drop tlo (List.map Seat.enc t)))) (rs := (List.map Seat.enc (List.take tln (List.drop tlo t)))) h (by kernel_rfl) (by simp only [take_full, take_full', List.map_take, List.map_drop]) (fun h8 h => ?_)
    obtain rfl := Option.some.inj h
    exact r_cut 8418 [] (m' := (law20_StickyKeeps_M (.s4 l up n (List.take tln (List.drop tlo t)) 0))) (by kernel_rfl) ha
theorem law20_StickyKeeps_7_ok {l : List Use} {up : Bool} {n : Int} {t : List Seat} {i : Int} {r : Bool} {x : law20_StickyKeeps_S ⊕ Bool} (h : law20_StickyKeeps_7 l up n t i = some x) (ha : After E ⟨Try.f4, false, 0⟩ law20_StickyKeeps_Q law20_StickyKeeps_M r x) : FinQ E ⟨Try.f4, false, 0⟩ (QW (law20_StickyKeeps_Q r)) (.go (law20_StickyKeeps_M (.s7 l up n t i))) := by
  unfold law20_StickyKeeps_7 at h
  refine adv_ok hm 1 _ ?_
  refine p_need h (by kernel_rfl) (fun h1 h => ?_)
  refine p_row (((List.map Use.enc l))[i.toNat]?) Use.enc h (by kernel_rfl) List.getElem?_map (fun y2 h3 h => ?_)
  refine p_need h (by kernel_rfl) (fun h4 h => ?_)
  refine p_row (((List.map Use.enc l))[i.toNat]?) Use.enc h (by kernel_rfl) List.getElem?_map (fun y5 h6 h => ?_)
  have ok7 := fun (y : Nat × Nat × Nat × (List Seat)) (hy : sticky_Put t n y2.Session y5.Target = some y) => sticky_Put_ok hy
  refine p_callE [] (args1 := [D.sl false 2 (List.map Seat.enc t), D.int .i64 n, D.sl false 1 (List.map (eInt .u8) y2.Session), D.int .i64 y5.Target]) (args := [D.sl false 2 (List.map Seat.enc t), D.int .i64 n, D.sl false 1 (List.map (eInt .u8) y2.Session), D.int .i64 y5.Target]) (fun y7 => D.msl 0 y7.1 y7.2.1 y7.2.2.1 false) (fun y7 => [some { sz := 2, deep := false, rows := (List.map Seat.enc y7.2.2.2) }]) h (by kernel_rfl) ⟨rfl, rfl⟩ ok7 (fun y7 h7 h => ?_)
  obtain rfl := Option.some.inj h
  exact r_cut 482 [] (m' := (law20_StickyKeeps_M (.s3 l up n y7.1 y7.2.1 y7.2.2.1 i y7.2.2.2))) (by kernel_rfl) ha
theorem law20_StickyKeeps_8_ok {l : List Use} {up : Bool} {n : Int} {t : List Seat} {i : Int} {r : Bool} {x : law20_StickyKeeps_S ⊕ Bool} (h : law20_StickyKeeps_8 l up n t i = some x) (ha : After E ⟨Try.f4, false, 0⟩ law20_StickyKeeps_Q law20_StickyKeeps_M r x) : FinQ E ⟨Try.f4, false, 0⟩ (QW (law20_StickyKeeps_Q r)) (.go (law20_StickyKeeps_M (.s8 l up n t i))) := by
  unfold law20_StickyKeeps_8 at h
  refine adv_ok hm 5 _ ?_
  refine p_need h (by kernel_rfl) (fun h1 h => ?_)
  refine adv_ok hm 2 _ ?_
  refine p_row (((List.map Use.enc l))[i.toNat]?) Use.enc h (by kernel_rfl) List.getElem?_map (fun y2 h3 h => ?_)
  refine adv_ok hm 1 _ ?_
  have ok4 := fun (y : Int × Nat × Nat × Nat × (List Seat)) (hy : sticky_Get t y2.Session = some y) => sticky_Get_ok hy
  refine p_callE [] (args1 := [D.sl false 2 (List.map Seat.enc t), D.sl false 1 (List.map (eInt .u8) y2.Session)]) (args := [D.sl false 2 (List.map Seat.enc t), D.sl false 1 (List.map (eInt .u8) y2.Session)]) (fun y4 => D.tup [D.int .i64 y4.1, D.msl 0 y4.2.1 y4.2.2.1 y4.2.2.2.1 true]) (fun y4 => [some { sz := 2, deep := false, rows := (List.map Seat.enc y4.2.2.2.2) }]) h (by kernel_rfl) ⟨rfl, rfl⟩ ok4 (fun y4 h4 h => ?_)
  refine adv_ok hm 10 _ ?_
  obtain rfl := Option.some.inj h
  exact r_cut 482 [.unex 7] (m' := (law20_StickyKeeps_M (.s3 l up n y4.2.1 y4.2.2.1 y4.2.2.2.1 i y4.2.2.2.2))) (by kernel_rfl) ha
theorem law20_StickyKeeps_4_ok {l : List Use} {up : Bool} {n : Int} {t : List Seat} {i : Int} {r : Bool} {x : law20_StickyKeeps_S ⊕ Bool} (h : law20_StickyKeeps_4 l up n t i = some x) (ha : After E ⟨Try.f4, false, 0⟩ law20_StickyKeeps_Q law20_StickyKeeps_M r x) : FinQ E ⟨Try.f4, false, 0⟩ (QW (law20_StickyKeeps_Q r)) (.go (law20_StickyKeeps_M (.s4 l up n t i))) := by
  unfold law20_StickyKeeps_4 at h
  refine adv_ok hm 10 _ ?_
  refine p_split h (by kernel_rfl) (fun h1 h => ?_) (fun h1 h => ?_)
  · -- true
    refine adv_ok hm 21 _ ?_
    obtain rfl := Option.some.inj h
    exact r_to (q' := .go (law20_StickyKeeps_M (.s5 l up n t i 0 true (IntKind.i64.wrap (i + 1))))) (by kernel_rfl) ha
  · -- false
    refine adv_ok hm 7 _ ?_
    obtain rfl := Option.some.inj h
    have hv := ha
    simp only [After] at hv
    subst hv
    exact r_retF [] (d := D.bool up) (s := []) (by kernel_rfl) ⟨rfl, rfl⟩
theorem law20_StickyKeeps_3_ok {l : List Use} {up : Bool} {n : Int} {tlo : Nat} {tln : Nat} {tcp : Nat} {i : Int} {t : List Seat} {r : Bool} {x : law20_StickyKeeps_S ⊕ Bool} (h : law20_StickyKeeps_3 l up n tlo tln tcp i t = some x) (ha : After E ⟨Try.f4, false, 0⟩ law20_StickyKeeps_Q law20_StickyKeeps_M r x) : FinQ E ⟨Try.f4, false, 0⟩ (QW (law20_StickyKeeps_Q r)) (.go (law20_StickyKeeps_M (.s3 l up n tlo tln tcp i t))) := by
  unfold law20_StickyKeeps_3 at h
  refine adv_ok hm 9 _ ?_
  refine p_split h (by kernel_rfl) (fun h1 h => ?_) (fun h1 h => ?_)
  · -- true
    refine adv_ok hm 5 _ ?_
    obtain rfl := Option.some.inj h
    have hv := ha
    simp only [After] at hv
    subst hv
    exact r_retF [] (d := D.bool false) (s := []) (by kernel_rfl) ⟨rfl, rfl⟩
  · -- false
    refine adv_ok hm 8 _ ?_
    obtain rfl := Option.some.inj h
    exact r_to (q' := .go (law20_StickyKeeps_M (.s2 l up n tlo tln tcp i 0 t))) (by kernel_rfl) ha
theorem law20_StickyKeeps_5_ok {l : List Use} {up : Bool} {n : Int} {t : List Seat} {i : Int} {others : Int} {last : Bool} {k : Int} {r : Bool} {x : law20_StickyKeeps_S ⊕ Bool} (h : law20_StickyKeeps_5 l up n t i others last k = some x) (ha : After E ⟨Try.f4, false, 0⟩ law20_StickyKeeps_Q law20_StickyKeeps_M r x) : FinQ E ⟨Try.f4, false, 0⟩ (QW (law20_StickyKeeps_Q r)) (.go (law20_StickyKeeps_M (.s5 l up n t i others last k))) := by
  unfold law20_StickyKeeps_5 at h
  refine adv_ok hm 10 _ ?_
  refine p_split h (by kernel_rfl) (fun h1 h => ?_) (fun h1 h => ?_)
  · -- true
    refine adv_ok hm 5 _ ?_
    refine p_split h (by kernel_rfl) (fun h2 h => ?_) (fun h2 h => ?_)
    · -- true
      refine adv_ok hm 2 _ ?_
      refine p_need h (by kernel_rfl) (fun h3 h => ?_)
      refine adv_ok hm 2 _ ?_
      refine p_row (((List.map Use.enc l))[k.toNat]?) Use.enc h (by kernel_rfl) List.getElem?_map (fun y4 h5 h => ?_)
      refine adv_ok hm 1 _ ?_
      refine r_str (rowsStr (List.map (eInt .u8) y4.Session)) (List.map b8 y4.Session) (by kernel_rfl) (rows_bytes _) ?_
      refine adv_ok hm 3 _ ?_
      refine p_need h (by kernel_rfl) (fun h6 h => ?_)
      refine adv_ok hm 2 _ ?_
      refine p_row (((List.map Use.enc l))[i.toNat]?) Use.enc h (by kernel_rfl) List.getElem?_map (fun y7 h8 h => ?_)
      refine adv_ok hm 1 _ ?_
      refine r_str (rowsStr (List.map (eInt .u8) y7.Session)) (List.map b8 y7.Session) (by kernel_rfl) (rows_bytes _) ?_
      refine adv_ok hm 2 _ ?_
      refine p_split h (by kernel_rfl) (fun h9 h => ?_) (fun h9 h => ?_)
      · -- true
        refine adv_ok hm 8 _ ?_
        obtain rfl := Option.some.inj h
        exact r_cut 123106 [] (m' := (law20_StickyKeeps_M (.s9 l up n t i others true k))) (by kernel_rfl) ha
      · -- false
        refine adv_ok hm 2 _ ?_
        refine p_need h (by kernel_rfl) (fun h10 h => ?_)
        refine adv_ok hm 2 _ ?_
        refine p_row (((List.map Use.enc l))[k.toNat]?) Use.enc h (by kernel_rfl) List.getElem?_map (fun y11 h12 h => ?_)
        refine adv_ok hm 4 _ ?_
        obtain rfl := Option.some.inj h
        exact r_cut 123106 [] (m' := (law20_StickyKeeps_M (.s9 l up n t i others (!y11.Put) k))) (by kernel_rfl) ha
    · -- false
      refine adv_ok hm 15 _ ?_
      obtain rfl := Option.some.inj h
      exact r_cut 123106 [] (m' := (law20_StickyKeeps_M (.s9 l up n t i others false k))) (by kernel_rfl) ha
  · -- false
    refine adv_ok hm 6 _ ?_
    refine p_need h (by kernel_rfl) (fun h13 h => ?_)
    refine adv_ok hm 2 _ ?_
    refine p_row (((List.map Use.enc l))[i.toNat]?) Use.enc h (by kernel_rfl) List.getElem?_map (fun y14 h15 h => ?_)
    refine adv_ok hm 2 _ ?_
    refine p_split h (by kernel_rfl) (fun h16 h => ?_) (fun h16 h => ?_)
    · -- true
      refine adv_ok hm 4 _ ?_
      refine p_split h (by kernel_rfl) (fun h17 h => ?_) (fun h17 h => ?_)
      · -- true
        refine adv_ok hm 7 _ ?_
        obtain rfl := Option.some.inj h
        exact r_cut 11150372599265311570767859136324180752998626 [] (m' := (law20_StickyKeeps_M (.s11 l up n t i (decide ((others : Int) < n))))) (by kernel_rfl) ha
      · -- false
        refine adv_ok hm 7 _ ?_
        obtain rfl := Option.some.inj h
        exact r_cut 11150372599265311570767859136324180752998626 [] (m' := (law20_StickyKeeps_M (.s11 l up n t i false))) (by kernel_rfl) ha
    · -- false
      refine adv_ok hm 12 _ ?_
      obtain rfl := Option.some.inj h
      exact r_cut 11150372599265311570767859136324180752998626 [] (m' := (law20_StickyKeeps_M (.s11 l up n t i false))) (by kernel_rfl) ha
theorem law20_StickyKeeps_2_ok {l : List Use} {up : Bool} {n : Int} {tlo : Nat} {tln : Nat} {tcp : Nat} {i : Int} {k : Int} {t : List Seat} {r : Bool} {x : law20_StickyKeeps_S ⊕ Bool} (h : law20_StickyKeeps_2 l up n tlo tln tcp i k t = some x) (ha : After E ⟨Try.f4, false, 0⟩ law20_StickyKeeps_Q law20_StickyKeeps_M r x) : FinQ E ⟨Try.f4, false, 0⟩ (QW (law20_StickyKeeps_Q r)) (.go (law20_StickyKeeps_M (.s2 l up n tlo tln tcp i k t))) := by
  unfold law20_StickyKeeps_2 at h
  refine adv_ok hm 10 _ ?_
  refine p_split h (by kernel_rfl) (fun h1 h => ?_) (fun h1 h => ?_)
  · -- true
    refine adv_ok hm 10 _ ?_
    obtain rfl := Option.some.inj h
    exact r_to (q' := .go (law20_StickyKeeps_M (.s6 l up n tlo tln tcp i k 0 t))) (by kernel_rfl) ha
  · -- false
    refine adv_ok hm 8 _ ?_
    obtain rfl := Option.some.inj h
    exact r_to (q' := .go (law20_StickyKeeps_M (.s1 l up n tlo tln tcp (IntKind.i64.wrap (i + 1)) t))) (by kernel_rfl) ha
theorem law20_StickyKeeps_9_ok {l : List Use} {up : Bool} {n : Int} {t : List Seat} {i : Int} {others : Int} {last : Bool} {k : Int} {r : Bool} {x : law20_StickyKeeps_S ⊕ Bool} (h : law20_StickyKeeps_9 l up n t i others last k = some x) (ha : After E ⟨Try.f4, false, 0⟩ law20_StickyKeeps_Q law20_StickyKeeps_M r x) : FinQ E ⟨Try.f4, false, 0⟩ (QW (law20_StickyKeeps_Q r)) (.go (law20_StickyKeeps_M (.s9 l up n t i others last k))) := by
  unfold law20_StickyKeeps_9 at h
  refine adv_ok hm 12 _ ?_
  obtain rfl := Option.some.inj h
  exact r_to (q' := .go (law20_StickyKeeps_M (.s5 l up n t i (IntKind.i64.wrap (others + 1)) last (IntKind.i64.wrap (k + 1))))) (by kernel_rfl) ha
theorem law20_StickyKeeps_11_ok {l : List Use} {up : Bool} {n : Int} {t : List Seat} {i : Int} {t143 : Bool} {r : Bool} {x : law20_StickyKeeps_S ⊕ Bool} (h : law20_StickyKeeps_11 l up n t i t143 = some x) (ha : After E ⟨Try.f4, false, 0⟩ law20_StickyKeeps_Q law20_StickyKeeps_M r x) : FinQ E ⟨Try.f4, false, 0⟩ (QW (law20_StickyKeeps_Q r)) (.go (law20_StickyKeeps_M (.s11 l up n t i t143))) := by
  unfold law20_StickyKeeps_11 at h
  refine adv_ok hm 1 _ ?_
  refine p_split h (by kernel_rfl) (fun h1 h => ?_) (fun h1 h => ?_)
  · -- true
    refine adv_ok hm 1 _ ?_
    obtain rfl := Option.some.inj h
    exact r_cut 8418 [] (m' := (law20_StickyKeeps_M (.s10 l up n t i))) (by kernel_rfl) ha
  · -- false
    refine adv_ok hm 8 _ ?_
    obtain rfl := Option.some.inj h
    exact r_to (q' := .go (law20_StickyKeeps_M (.s4 l up n t (IntKind.i64.wrap (i + 1))))) (by kernel_rfl) ha
theorem law20_StickyKeeps_6_ok {l : List Use} {up : Bool} {n : Int} {tlo : Nat} {tln : Nat} {tcp : Nat} {i : Int} {k : Int} {m : Int} {t : List Seat} {r : Bool} {x : law20_StickyKeeps_S ⊕ Bool} (h : law20_StickyKeeps_6 l up n tlo tln tcp i k m t = some x) (ha : After E ⟨Try.f4, false, 0⟩ law20_StickyKeeps_Q law20_StickyKeeps_M r x) : FinQ E ⟨Try.f4, false, 0⟩ (QW (law20_StickyKeeps_Q r)) (.go (law20_StickyKeeps_M (.s6 l up n tlo tln tcp i k m t))) := by
  unfold law20_StickyKeeps_6 at h
  refine adv_ok hm 9 _ ?_
  refine p_split h (by kernel_rfl) (fun h1 h => ?_) (fun h1 h => ?_)
  · -- true
    refine adv_ok hm 5 _ ?_
    refine p_need h (by kernel_rfl) (fun h2 h => ?_)
    refine p_row (((List.map Seat.enc t))[(tlo + k.toNat)]?) Seat.enc h (by kernel_rfl) List.getElem?_map (fun y3 h4 h => ?_)
    refine r_str (rowsStr (List.map (eInt .u8) y3.Session)) (List.map b8 y3.Session) (by kernel_rfl) (rows_bytes _) ?_
    refine p_need h (by kernel_rfl) (fun h5 h => ?_)
    refine p_row (((List.map Seat.enc t))[(tlo + m.toNat)]?) Seat.enc h (by kernel_rfl) List.getElem?_map (fun y6 h7 h => ?_)
    refine r_str (rowsStr (List.map (eInt .u8) y6.Session)) (List.map b8 y6.Session) (by kernel_rfl) (rows_bytes _) ?_
    refine adv_ok hm 1 _ ?_
    refine p_split h (by kernel_rfl) (fun h8 h => ?_) (fun h8 h => ?_)
    · -- true
      refine adv_ok hm 5 _ ?_
      obtain rfl := Option.some.inj h
      have hv := ha
      simp only [After] at hv
      subst hv
      exact r_retF [] (d := D.bool false) (s := []) (by kernel_rfl) ⟨rfl, rfl⟩
    · -- false
      refine adv_ok hm 8 _ ?_
      obtain rfl := Option.some.inj h
      exact r_to (q' := .go (law20_StickyKeeps_M (.s6 l up n tlo tln tcp i k (IntKind.i64.wrap (m + 1)) t))) (by kernel_rfl) ha
  · -- false
    refine adv_ok hm 8 _ ?_
    obtain rfl := Option.some.inj h
    exact r_to (q' := .go (law20_StickyKeeps_M (.s2 l up n tlo tln tcp i (IntKind.i64.wrap (k + 1)) t))) (by kernel_rfl) ha
theorem law20_StickyKeeps_10_ok {l : List Use} {up : Bool} {n : Int} {t : List Seat} {i : Int} {r : Bool} {x : law20_StickyKeeps_S ⊕ Bool} (h : law20_StickyKeeps_10 l up n t i = some x) (ha : After E ⟨Try.f4, false, 0⟩ law20_StickyKeeps_Q law20_StickyKeeps_M r x) : FinQ E ⟨Try.f4, false, 0⟩ (QW (law20_StickyKeeps_Q r)) (.go (law20_StickyKeeps_M (.s10 l up n t i))) := by
  unfold law20_StickyKeeps_10 at h
  refine adv_ok hm 5 _ ?_
  refine p_need h (by kernel_rfl) (fun h1 h => ?_)
  refine adv_ok hm 2 _ ?_
  refine p_row (((List.map Use.enc l))[i.toNat]?) Use.enc h (by kernel_rfl) List.getElem?_map (fun y2 h3 h => ?_)
  refine adv_ok hm 1 _ ?_
  have ok4 := fun (y : Int × Nat × Nat × Nat × (List Seat)) (hy : sticky_Get t y2.Session = some y) => sticky_Get_ok hy
  refine p_callE [] (args1 := [D.sl false 2 (List.map Seat.enc t), D.sl false 1 (List.map (eInt .u8) y2.Session)]) (args := [D.sl false 2 (List.map Seat.enc t), D.sl false 1 (List.map (eInt .u8) y2.Session)]) (fun y4 => D.tup [D.int .i64 y4.1, D.msl 0 y4.2.1 y4.2.2.1 y4.2.2.2.1 true]) (fun y4 => [some { sz := 2, deep := false, rows := (List.map Seat.enc y4.2.2.2.2) }]) h (by kernel_rfl) ⟨rfl, rfl⟩ ok4 (fun y4 h4 h => ?_)
  refine adv_ok hm 12 _ ?_
  refine p_need h (by kernel_rfl) (fun h5 h => ?_)
  refine adv_ok hm 2 _ ?_
  refine p_row (((List.map Use.enc l))[i.toNat]?) Use.enc h (by kernel_rfl) List.getElem?_map (fun y6 h7 h => ?_)
  refine adv_ok hm 3 _ ?_
  refine p_split h (by kernel_rfl) (fun h8 h => ?_) (fun h8 h => ?_)
  · -- true
    refine adv_ok hm 5 _ ?_
    obtain rfl := Option.some.inj h
    have hv := ha
    simp only [After] at hv
    subst hv
    exact r_retF [] (d := D.bool false) (s := []) (by kernel_rfl) ⟨rfl, rfl⟩
  · -- false
    refine adv_ok hm 8 _ ?_
    obtain rfl := Option.some.inj h
    exact r_to (q' := .go (law20_StickyKeeps_M (.s4 l up n t (IntKind.i64.wrap (i + 1))))) (by kernel_rfl) ha
theorem law20_StickyKeeps_ev {room : Int} {l : List Use} {r : Bool} (h : Ev law20_StickyKeeps_step (.s0 room l) r) : Sound E 4 [D.int .u8 room, D.sl false 3 (List.map Use.enc l)] [] (law20_StickyKeeps_Q r) :=
  sound_ofW (m := law20_StickyKeeps_M (.s0 room l)) (fn := Try.f4) (by kernel_rfl) (by kernel_rfl) (ev_run (C := ⟨Try.f4, false, 0⟩) (fun s x r hs ha => by
    cases s with
    | s0 => exact law20_StickyKeeps_0_ok hs ha
    | s1 => exact law20_StickyKeeps_1_ok hs ha
    | s7 => exact law20_StickyKeeps_7_ok hs ha
    | s8 => exact law20_StickyKeeps_8_ok hs ha
    | s4 => exact law20_StickyKeeps_4_ok hs ha
    | s3 => exact law20_StickyKeeps_3_ok hs ha
    | s5 => exact law20_StickyKeeps_5_ok hs ha
    | s2 => exact law20_StickyKeeps_2_ok hs ha
    | s9 => exact law20_StickyKeeps_9_ok hs ha
    | s11 => exact law20_StickyKeeps_11_ok hs ha
    | s6 => exact law20_StickyKeeps_6_ok hs ha
    | s10 => exact law20_StickyKeeps_10_ok hs ha) h)
noncomputable def law20_StickyKeeps (room : Int) (l : List Use) : Option Bool := evf law20_StickyKeeps_step (.s0 room l)
theorem law20_StickyKeeps_ok {room : Int} {l : List Use} {r : Bool} (h : law20_StickyKeeps room l = some r) : Sound E 4 [D.int .u8 room, D.sl false 3 (List.map Use.enc l)] [] (law20_StickyKeeps_Q r) := law20_StickyKeeps_ev (evf_ev h)
end Go.RX.L

set_option linter.unusedSimpArgs false
set_option linter.unusedVariables false
set_option maxRecDepth 100000
namespace Go.RX.L
open Go Go.RX Go.Proofs
theorem law20_StickyKeeps_of_t5 {n : Nat} {ds : List D} (h : wtF Try.prog (n + 1) 5 ds) : ∃ x : Int, ds = (eInt .u8) x ∧ inK .u8 x := by
  obtain ⟨m, rfl, o⟩ := wt_int (k := .u8) (by kernel_rfl) h
  exact ⟨m, rfl, o⟩
theorem law20_StickyKeeps_of_t23 {n : Nat} {ds : List D} (h : wtF Try.prog (n + 2) 23 ds) : ∃ x : List Int, ds = (eSl 1 (eInt .u8)) x ∧ (x.length * 1 ≤ reachBytes ∧ ∀ y ∈ x, inK .u8 y) := by
  obtain ⟨rows, rfl, o, w⟩ := wt_slice (n := n + 1) (e := 5) (sz := 1) (by_ := 1) (by kernel_rfl) (by kernel_rfl) (by kernel_rfl) h
  obtain ⟨l, rfl, q⟩ := wt_rows (en := (eInt .u8)) (Ok := fun y => inK .u8 y) (fun r hr => law20_StickyKeeps_of_t5 (n := n + 0) hr) rows w
  exact ⟨l, rfl, by simpa using o, q⟩
theorem law20_StickyKeeps_of_t3 {n : Nat} {ds : List D} (h : wtF Try.prog (n + 1) 3 ds) : ∃ x : Int, ds = (eInt .i64) x ∧ inK .i64 x := by
  obtain ⟨m, rfl, o⟩ := wt_int (k := .i64) (by kernel_rfl) h
  exact ⟨m, rfl, o⟩
theorem law20_StickyKeeps_of_t4 {n : Nat} {ds : List D} (h : wtF Try.prog (n + 1) 4 ds) : ∃ x : Bool, ds = eBool x ∧ True := by
  obtain ⟨m, rfl⟩ := wt_bool (by kernel_rfl) h
  exact ⟨m, rfl, trivial⟩
theorem law20_StickyKeeps_of_t34 {n : Nat} {ds : List D} (h : wtF Try.prog (n + 3) 34 ds) : ∃ x : Use, ds = Use.enc x ∧ x.Ok := by
  have h0 := wt_struct (n := n + 2) (ts := [23, 3, 4]) (by kernel_rfl) h
  obtain ⟨a0, b0, rfl, w0, h1⟩ := wtL_cons h0
  obtain ⟨x0, rfl, o0⟩ := law20_StickyKeeps_of_t23 (n := n + 0) w0
  obtain ⟨a1, b1, rfl, w1, h2⟩ := wtL_cons h1
  obtain ⟨x1, rfl, o1⟩ := law20_StickyKeeps_of_t3 (n := n + 1) w1
  obtain ⟨a2, b2, rfl, w2, h3⟩ := wtL_cons h2
  obtain ⟨x2, rfl, o2⟩ := law20_StickyKeeps_of_t4 (n := n + 1) w2
  obtain rfl := wtL_nil h3
  exact ⟨⟨x0, x1, x2⟩, rfl, o0, o1, o2⟩
theorem law20_StickyKeeps_of_t32 {n : Nat} {ds : List D} (h : wtF Try.prog (n + 4) 32 ds) : ∃ x : List Use, ds = (eSl 3 Use.enc) x ∧ (x.length * 40 ≤ reachBytes ∧ ∀ y ∈ x, y.Ok) := by
  obtain ⟨rows, rfl, o, w⟩ := wt_slice (n := n + 3) (e := 34) (sz := 3) (by_ := 40) (by kernel_rfl) (by kernel_rfl) (by kernel_rfl) h
  obtain ⟨l, rfl, q⟩ := wt_rows (en := Use.enc) (Ok := fun y => y.Ok) (fun r hr => law20_StickyKeeps_of_t34 (n := n + 0) hr) rows w
  exact ⟨l, rfl, by simpa using o, q⟩
theorem law20_StickyKeeps_sound (H : ∀ (room : Int) (l : List Use), inK .u8 room → (l.length * 40 ≤ reachBytes ∧ ∀ y ∈ l, y.Ok) → law20_StickyKeeps room l = some true) : ∀ xs, wtA Try.prog Try.f4.params.toList xs → Sound E 4 xs [] fun d _ => d = .bool true := by
  intro xs h
  have h0 : wtA Try.prog [5, 32] xs := h
  obtain ⟨d0, r0, rfl, w0, h1⟩ := wtA_cons h0
  have v0 := wtP_flat (by kernel_rfl) w0
  obtain ⟨x0, e0, o0⟩ := law20_StickyKeeps_of_t5 (n := 5) v0
  obtain ⟨rfl, -⟩ := List.cons.inj e0
  obtain ⟨d1, r1, rfl, w1, h2⟩ := wtA_cons h1
  have v1 := wtP_flat (by kernel_rfl) w1
  obtain ⟨x1, e1, o1⟩ := law20_StickyKeeps_of_t32 (n := 2) v1
  obtain ⟨rfl, -⟩ := List.cons.inj e1
  obtain rfl := wtA_nil h2
  exact (law20_StickyKeeps_ok (H x0 x1 o0 o1)).mono fun d s h => h.1
end Go.RX.L
