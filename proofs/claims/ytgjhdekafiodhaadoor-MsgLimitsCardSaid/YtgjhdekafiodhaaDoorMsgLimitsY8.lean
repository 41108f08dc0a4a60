/-
  Words and walks for MsgLimits. No condition.
-/
import Derived.Test.YtgjhdekafiodhaaDoorMsgLimitsY7
set_option linter.unusedSimpArgs false
set_option linter.unusedVariables false
set_option maxRecDepth 100000
set_option maxHeartbeats 4000000
namespace Go.RX.L
open Go Go.RX Go.Proofs
attribute [local irreducible] FinQ
def ref04_Right_Q (y : Bool) (d : D) (s : Sto) : Prop := d = D.bool y ∧ s = []
inductive ref04_Right_S where
  | s0 (p_ : Plan)
  | s1 (t47 : Bool) (p_ : Plan)
  | s2 (t85 : Bool) (p_ : Plan)
  | s3 (i : Int) (p_ : Plan)
  | s4 (i : Int) (p_ : Plan)
noncomputable def ref04_Right_M : ref04_Right_S → M
  | .s0 p_ => ⟨[.code (bodyOf Tryd.f32)], [(0, D.agg (Plan.enc p_))], []⟩
  | .s1 t47 p_ => { td := [It.code (codeAt (bodyOf Tryd.f32) [1, 0, 1]), It.code (codeAt (bodyOf Tryd.f32) [1, 1])], fr := [(1, D.ptr 0 0 0), (47, D.bool t47)], st := [some { sz := 12, deep := false, rows := [(Plan.enc p_)] }] }
  | .s2 t85 p_ => { td := [It.code (codeAt (bodyOf Tryd.f32) [1, 1, 0, 1]), It.code (codeAt (bodyOf Tryd.f32) [1, 1, 1])], fr := [(1, D.ptr 0 0 0), (85, D.bool t85)], st := [some { sz := 12, deep := false, rows := [(Plan.enc p_)] }] }
  | .s3 i p_ => { td := [It.lpc (codeAt (bodyOf Tryd.f32) [1, 1, 1, 0, 1, 0, 0]) 10, It.blk 0, It.code (codeAt (bodyOf Tryd.f32) [1, 1, 1, 1])], fr := [(1, D.ptr 0 0 0), (3, D.int .i64 i)], st := [some { sz := 12, deep := false, rows := [(Plan.enc p_)] }] }
  | .s4 i p_ => { td := [It.lpc (codeAt (bodyOf Tryd.f32) [1, 1, 1, 1, 0, 1, 0, 0]) 18, It.blk 2, It.code (codeAt (bodyOf Tryd.f32) [1, 1, 1, 1, 1])], fr := [(1, D.ptr 0 0 0), (4, D.int .i64 i)], st := [some { sz := 12, deep := false, rows := [(Plan.enc p_)] }] }
noncomputable def ref04_Right_0 (p_ : Plan) : Option (ref04_Right_S ⊕ Bool) := (bif (decide ((p_.Epoch : Int) < 0)) then (some (.inl (.s1 true p_))) else (bif (decide ((p_.Target : Int) < (-1))) then (some (.inl (.s1 true p_))) else (bif (decide ((p_.Target : Int) ≥ 16)) then (some (.inl (.s1 true p_))) else (bif (decide ((p_.Prev : Int) < (-1))) then (some (.inl (.s1 true p_))) else (bif (decide ((p_.Prev : Int) ≥ 16)) then (some (.inl (.s1 true p_))) else (bif (decide ((p_.Spill : Int) < (-1))) then (some (.inl (.s1 true p_))) else (bif (decide ((p_.Spill : Int) ≥ 16)) then (some (.inl (.s1 true p_))) else (bif (decide ((p_.Percent : Int) < 0)) then (some (.inl (.s1 true p_))) else (some (.inl (.s1 (decide ((p_.Percent : Int) > 100)) p_)))))))))))
noncomputable def ref04_Right_1 (t47 : Bool) (p_ : Plan) : Option (ref04_Right_S ⊕ Bool) := (bif t47 then (some (.inr false)) else ((ref04_in p_.Stamp 0 1099511627776).bind fun y2 => (bif (!y2) then (some (.inl (.s2 true p_))) else ((ref04_in p_.Since 0 1099511627776).bind fun y4 => (bif (!y4) then (some (.inl (.s2 true p_))) else ((ref04_in p_.Ramped 0 1099511627776).bind fun y6 => (bif (!y6) then (some (.inl (.s2 true p_))) else (bif (decide ((p_.Up : Int) > 65535)) then (some (.inl (.s2 true p_))) else (bif (decide ((p_.Sup : Int) > 65535)) then (some (.inl (.s2 true p_))) else (bif (decide (((((List.map (eInt .i64) p_.Pen).length : Nat) : Int) : Int) > 16)) then (some (.inl (.s2 true p_))) else (some (.inl (.s2 (decide (((((List.map (eInt .i64) p_.Changes).length : Nat) : Int) : Int) > 8)) p_)))))))))))))
noncomputable def ref04_Right_2 (t85 : Bool) (p_ : Plan) : Option (ref04_Right_S ⊕ Bool) := (bif t85 then (some (.inr false)) else (some (.inl (.s3 0 p_))))
noncomputable def ref04_Right_3 (i : Int) (p_ : Plan) : Option (ref04_Right_S ⊕ Bool) := (bif (decide ((i : Int) < (((List.map (eInt .i64) p_.Pen).length : Nat) : Int))) then (bif ((decide ((0 : Int) ≤ i)) && (decide ((i : Int) < (((List.map (eInt .i64) p_.Pen).length : Nat) : Int)))) then (((p_.Pen)[i.toNat]?).bind fun y3 => (bif (decide ((y3 : Int) < 0)) then (some (.inr false)) else (bif ((decide ((0 : Int) ≤ i)) && (decide ((i : Int) < (((List.map (eInt .i64) p_.Pen).length : Nat) : Int)))) then (((p_.Pen)[i.toNat]?).bind fun y7 => (bif (decide ((y7 : Int) > 1000000)) then (some (.inr false)) else (some (.inl (.s3 (IntKind.i64.wrap (i + 1)) p_))))) else none))) else none) else (some (.inl (.s4 0 p_))))
noncomputable def ref04_Right_4 (i : Int) (p_ : Plan) : Option (ref04_Right_S ⊕ Bool) := (bif (decide ((i : Int) < (((List.map (eInt .i64) p_.Changes).length : Nat) : Int))) then (bif ((decide ((0 : Int) ≤ i)) && (decide ((i : Int) < (((List.map (eInt .i64) p_.Changes).length : Nat) : Int)))) then (((p_.Changes)[i.toNat]?).bind fun y3 => ((ref04_in y3 0 1099511627776).bind fun y5 => (bif (!y5) then (some (.inr false)) else (bif (decide ((i : Int) > 0)) then (bif ((decide ((0 : Int) ≤ (IntKind.i64.wrap (i - 1)))) && (decide (((IntKind.i64.wrap (i - 1)) : Int) < (((List.map (eInt .i64) p_.Changes).length : Nat) : Int)))) then (((p_.Changes)[(IntKind.i64.wrap (i - 1)).toNat]?).bind fun y9 => (bif ((decide ((0 : Int) ≤ i)) && (decide ((i : Int) < (((List.map (eInt .i64) p_.Changes).length : Nat) : Int)))) then (((p_.Changes)[i.toNat]?).bind fun y12 => (bif (decide ((y9 : Int) > y12)) then (some (.inr false)) else (some (.inl (.s4 (IntKind.i64.wrap (i + 1)) p_))))) else none)) else none) else (some (.inl (.s4 (IntKind.i64.wrap (i + 1)) p_))))))) else none) else (some (.inr true)))
noncomputable def ref04_Right_step : ref04_Right_S → Option (ref04_Right_S ⊕ Bool)
  | .s0 p_ => ref04_Right_0 p_
  | .s1 t47 p_ => ref04_Right_1 t47 p_
  | .s2 t85 p_ => ref04_Right_2 t85 p_
  | .s3 i p_ => ref04_Right_3 i p_
  | .s4 i p_ => ref04_Right_4 i p_
theorem ref04_Right_0_ok {p_ : Plan} {r : Bool} {x : ref04_Right_S ⊕ Bool} (h : ref04_Right_0 p_ = some x) (ha : After E (Cx.of Tryd.f32 false 0) ref04_Right_Q ref04_Right_M r x) : FinQ E (Cx.of Tryd.f32 false 0) (QW (ref04_Right_Q r)) (.go (ref04_Right_M (.s0 p_))) := by
  unfold ref04_Right_0 at h
  refine adv_ok hm 14 _ ?_
  refine p_split h (by kernel_rfl) (fun h1 h => ?_) (fun h1 h => ?_)
  · -- true
    refine adv_ok hm 70 _ ?_
    obtain rfl := Option.some.inj h
    exact r_cut 140737488355330 [] (m' := (ref04_Right_M (.s1 true p_))) (by kernel_rfl) ha
  · -- false
    refine adv_ok hm 9 _ ?_
    refine p_split h (by kernel_rfl) (fun h2 h => ?_) (fun h2 h => ?_)
    · -- true
      refine adv_ok hm 61 _ ?_
      obtain rfl := Option.some.inj h
      exact r_cut 140737488355330 [] (m' := (ref04_Right_M (.s1 true p_))) (by kernel_rfl) ha
    · -- false
      refine adv_ok hm 9 _ ?_
      refine p_split h (by kernel_rfl) (fun h3 h => ?_) (fun h3 h => ?_)
      · -- true
        refine adv_ok hm 52 _ ?_
        obtain rfl := Option.some.inj h
        exact r_cut 140737488355330 [] (m' := (ref04_Right_M (.s1 true p_))) (by kernel_rfl) ha
      · -- false
        refine adv_ok hm 9 _ ?_
        refine p_split h (by kernel_rfl) (fun h4 h => ?_) (fun h4 h => ?_)
        · -- true
          refine adv_ok hm 43 _ ?_
          obtain rfl := Option.some.inj h
          exact r_cut 140737488355330 [] (m' := (ref04_Right_M (.s1 true p_))) (by kernel_rfl) ha
        · -- false
          refine adv_ok hm 9 _ ?_
          refine p_split h (by kernel_rfl) (fun h5 h => ?_) (fun h5 h => ?_)
          · -- true
            refine adv_ok hm 34 _ ?_
            obtain rfl := Option.some.inj h
            exact r_cut 140737488355330 [] (m' := (ref04_Right_M (.s1 true p_))) (by kernel_rfl) ha
          · -- false
            refine adv_ok hm 9 _ ?_
            refine p_split h (by kernel_rfl) (fun h6 h => ?_) (fun h6 h => ?_)
            · -- true
              refine adv_ok hm 25 _ ?_
              obtain rfl := Option.some.inj h
              exact r_cut 140737488355330 [] (m' := (ref04_Right_M (.s1 true p_))) (by kernel_rfl) ha
            · -- false
              refine adv_ok hm 9 _ ?_
              refine p_split h (by kernel_rfl) (fun h7 h => ?_) (fun h7 h => ?_)
              · -- true
                refine adv_ok hm 16 _ ?_
                obtain rfl := Option.some.inj h
                exact r_cut 140737488355330 [] (m' := (ref04_Right_M (.s1 true p_))) (by kernel_rfl) ha
              · -- false
                refine adv_ok hm 9 _ ?_
                refine p_split h (by kernel_rfl) (fun h8 h => ?_) (fun h8 h => ?_)
                · -- true
                  refine adv_ok hm 7 _ ?_
                  obtain rfl := Option.some.inj h
                  exact r_cut 140737488355330 [] (m' := (ref04_Right_M (.s1 true p_))) (by kernel_rfl) ha
                · -- false
                  refine adv_ok hm 8 _ ?_
                  obtain rfl := Option.some.inj h
                  exact r_cut 140737488355330 [] (m' := (ref04_Right_M (.s1 (decide ((p_.Percent : Int) > 100)) p_))) (by kernel_rfl) ha
theorem ref04_Right_1_ok {t47 : Bool} {p_ : Plan} {r : Bool} {x : ref04_Right_S ⊕ Bool} (h : ref04_Right_1 t47 p_ = some x) (ha : After E (Cx.of Tryd.f32 false 0) ref04_Right_Q ref04_Right_M r x) : FinQ E (Cx.of Tryd.f32 false 0) (QW (ref04_Right_Q r)) (.go (ref04_Right_M (.s1 t47 p_))) := by
  unfold ref04_Right_1 at h
  refine adv_ok hm 1 _ ?_
  refine p_split h (by kernel_rfl) (fun h1 h => ?_) (fun h1 h => ?_)
  · -- true
    refine adv_ok hm 5 _ ?_
    obtain rfl := Option.some.inj h
    have hv := ha
    simp only [After] at hv
    subst hv
    exact r_retF [] (d := D.bool false) (s := []) (by kernel_rfl) Cx.fin_of ⟨rfl, rfl⟩
  · -- false
    refine adv_ok hm 8 _ ?_
    have ok2 := fun (y : Bool) (hy : ref04_in p_.Stamp 0 1099511627776 = some y) => ref04_in_ok hy
    refine p_callR [] h (by kernel_rfl) ok2 (fun y2 h2 h => ?_)
    refine adv_ok hm 3 _ ?_
    refine p_split h (by kernel_rfl) (fun h3 h => ?_) (fun h3 h => ?_)
    · -- true
      refine adv_ok hm 60 _ ?_
      obtain rfl := Option.some.inj h
      exact r_cut 38685626227668133590597634 [] (m' := (ref04_Right_M (.s2 true p_))) (by kernel_rfl) ha
    · -- false
      refine adv_ok hm 5 _ ?_
      have ok4 := fun (y : Bool) (hy : ref04_in p_.Since 0 1099511627776 = some y) => ref04_in_ok hy
      refine p_callR [] h (by kernel_rfl) ok4 (fun y4 h4 h => ?_)
      refine adv_ok hm 6 _ ?_
      refine p_split h (by kernel_rfl) (fun h5 h => ?_) (fun h5 h => ?_)
      · -- true
        refine adv_ok hm 49 _ ?_
        obtain rfl := Option.some.inj h
        exact r_cut 38685626227668133590597634 [] (m' := (ref04_Right_M (.s2 true p_))) (by kernel_rfl) ha
      · -- false
        refine adv_ok hm 5 _ ?_
        have ok6 := fun (y : Bool) (hy : ref04_in p_.Ramped 0 1099511627776 = some y) => ref04_in_ok hy
        refine p_callR [] h (by kernel_rfl) ok6 (fun y6 h6 h => ?_)
        refine adv_ok hm 6 _ ?_
        refine p_split h (by kernel_rfl) (fun h7 h => ?_) (fun h7 h => ?_)
        · -- true
          refine adv_ok hm 38 _ ?_
          obtain rfl := Option.some.inj h
          exact r_cut 38685626227668133590597634 [] (m' := (ref04_Right_M (.s2 true p_))) (by kernel_rfl) ha
        · -- false
          refine adv_ok hm 9 _ ?_
          refine p_split h (by kernel_rfl) (fun h8 h => ?_) (fun h8 h => ?_)
          · -- true
            refine adv_ok hm 29 _ ?_
            obtain rfl := Option.some.inj h
            exact r_cut 38685626227668133590597634 [] (m' := (ref04_Right_M (.s2 true p_))) (by kernel_rfl) ha
          · -- false
            refine adv_ok hm 9 _ ?_
            refine p_split h (by kernel_rfl) (fun h9 h => ?_) (fun h9 h => ?_)
            · -- true
              refine adv_ok hm 20 _ ?_
              obtain rfl := Option.some.inj h
              exact r_cut 38685626227668133590597634 [] (m' := (ref04_Right_M (.s2 true p_))) (by kernel_rfl) ha
            · -- false
              refine adv_ok hm 11 _ ?_
              refine p_split h (by kernel_rfl) (fun h10 h => ?_) (fun h10 h => ?_)
              · -- true
                refine adv_ok hm 9 _ ?_
                obtain rfl := Option.some.inj h
                exact r_cut 38685626227668133590597634 [] (m' := (ref04_Right_M (.s2 true p_))) (by kernel_rfl) ha
              · -- false
                refine adv_ok hm 10 _ ?_
                obtain rfl := Option.some.inj h
                exact r_cut 38685626227668133590597634 [] (m' := (ref04_Right_M (.s2 (decide (((((List.map (eInt .i64) p_.Changes).length : Nat) : Int) : Int) > 8)) p_))) (by kernel_rfl) ha
theorem ref04_Right_2_ok {t85 : Bool} {p_ : Plan} {r : Bool} {x : ref04_Right_S ⊕ Bool} (h : ref04_Right_2 t85 p_ = some x) (ha : After E (Cx.of Tryd.f32 false 0) ref04_Right_Q ref04_Right_M r x) : FinQ E (Cx.of Tryd.f32 false 0) (QW (ref04_Right_Q r)) (.go (ref04_Right_M (.s2 t85 p_))) := by
  unfold ref04_Right_2 at h
  refine adv_ok hm 1 _ ?_
  refine p_split h (by kernel_rfl) (fun h1 h => ?_) (fun h1 h => ?_)
  · -- true
    refine adv_ok hm 5 _ ?_
    obtain rfl := Option.some.inj h
    have hv := ha
    simp only [After] at hv
    subst hv
    exact r_retF [] (d := D.bool false) (s := []) (by kernel_rfl) Cx.fin_of ⟨rfl, rfl⟩
  · -- false
    refine adv_ok hm 9 _ ?_
    obtain rfl := Option.some.inj h
    exact r_to (q' := .go (ref04_Right_M (.s3 0 p_))) (by kernel_rfl) ha
theorem ref04_Right_3_ok {i : Int} {p_ : Plan} {r : Bool} {x : ref04_Right_S ⊕ Bool} (h : ref04_Right_3 i p_ = some x) (ha : After E (Cx.of Tryd.f32 false 0) ref04_Right_Q ref04_Right_M r x) : FinQ E (Cx.of Tryd.f32 false 0) (QW (ref04_Right_Q r)) (.go (ref04_Right_M (.s3 i p_))) := by
  unfold ref04_Right_3 at h
  refine adv_ok hm 12 _ ?_
  refine p_split h (by kernel_rfl) (fun h1 h => ?_) (fun h1 h => ?_)
  · -- true
    refine adv_ok hm 10 _ ?_
    refine p_need h (by kernel_rfl) (fun h2 h => ?_)
    refine adv_ok hm 1 _ ?_
    refine p_row (((List.map (eInt .i64) p_.Pen))[i.toNat]?) (eInt .i64) h (by kernel_rfl) List.getElem?_map (fun y3 h4 h => ?_)
    refine adv_ok hm 3 _ ?_
    refine p_split h (by kernel_rfl) (fun h5 h => ?_) (fun h5 h => ?_)
    · -- true
      refine adv_ok hm 20 _ ?_
      obtain rfl := Option.some.inj h
      have hv := ha
      simp only [After] at hv
      subst hv
      exact r_retF [] (d := D.bool false) (s := []) (by kernel_rfl) Cx.fin_of ⟨rfl, rfl⟩
    · -- false
      refine adv_ok hm 7 _ ?_
      refine p_need h (by kernel_rfl) (fun h6 h => ?_)
      refine adv_ok hm 2 _ ?_
      refine p_row (((List.map (eInt .i64) p_.Pen))[i.toNat]?) (eInt .i64) h (by kernel_rfl) List.getElem?_map (fun y7 h8 h => ?_)
      refine adv_ok hm 6 _ ?_
      refine p_split h (by kernel_rfl) (fun h9 h => ?_) (fun h9 h => ?_)
      · -- true
        refine adv_ok hm 5 _ ?_
        obtain rfl := Option.some.inj h
        have hv := ha
        simp only [After] at hv
        subst hv
        exact r_retF [] (d := D.bool false) (s := []) (by kernel_rfl) Cx.fin_of ⟨rfl, rfl⟩
      · -- false
        refine adv_ok hm 8 _ ?_
        obtain rfl := Option.some.inj h
        exact r_to (q' := .go (ref04_Right_M (.s3 (IntKind.i64.wrap (i + 1)) p_))) (by kernel_rfl) ha
  · -- false
    refine adv_ok hm 9 _ ?_
    obtain rfl := Option.some.inj h
    exact r_to (q' := .go (ref04_Right_M (.s4 0 p_))) (by kernel_rfl) ha
theorem ref04_Right_4_ok {i : Int} {p_ : Plan} {r : Bool} {x : ref04_Right_S ⊕ Bool} (h : ref04_Right_4 i p_ = some x) (ha : After E (Cx.of Tryd.f32 false 0) ref04_Right_Q ref04_Right_M r x) : FinQ E (Cx.of Tryd.f32 false 0) (QW (ref04_Right_Q r)) (.go (ref04_Right_M (.s4 i p_))) := by
  unfold ref04_Right_4 at h
  refine adv_ok hm 12 _ ?_
  refine p_split h (by kernel_rfl) (fun h1 h => ?_) (fun h1 h => ?_)
  · -- true
    refine adv_ok hm 6 _ ?_
    refine p_need h (by kernel_rfl) (fun h2 h => ?_)
    refine p_row (((List.map (eInt .i64) p_.Changes))[i.toNat]?) (eInt .i64) h (by kernel_rfl) List.getElem?_map (fun y3 h4 h => ?_)
    have ok5 := fun (y : Bool) (hy : ref04_in y3 0 1099511627776 = some y) => ref04_in_ok hy
    refine p_callDR [] h (by kernel_rfl) ok5 (fun y5 h5 h => ?_)
    refine p_split h (by kernel_rfl) (fun h6 h => ?_) (fun h6 h => ?_)
    · -- true
      refine adv_ok hm 11 _ ?_
      obtain rfl := Option.some.inj h
      have hv := ha
      simp only [After] at hv
      subst hv
      exact r_retF [] (d := D.bool false) (s := []) (by kernel_rfl) Cx.fin_of ⟨rfl, rfl⟩
    · -- false
      refine adv_ok hm 2 _ ?_
      refine p_split h (by kernel_rfl) (fun h7 h => ?_) (fun h7 h => ?_)
      · -- true
        refine adv_ok hm 5 _ ?_
        refine p_need h (by kernel_rfl) (fun h8 h => ?_)
        refine adv_ok hm 1 _ ?_
        refine p_row (((List.map (eInt .i64) p_.Changes))[(IntKind.i64.wrap (i - 1)).toNat]?) (eInt .i64) h (by kernel_rfl) List.getElem?_map (fun y9 h10 h => ?_)
        refine adv_ok hm 5 _ ?_
        refine p_need h (by kernel_rfl) (fun h11 h => ?_)
        refine adv_ok hm 1 _ ?_
        refine p_row (((List.map (eInt .i64) p_.Changes))[i.toNat]?) (eInt .i64) h (by kernel_rfl) List.getElem?_map (fun y12 h13 h => ?_)
        refine adv_ok hm 5 _ ?_
        refine p_split h (by kernel_rfl) (fun h14 h => ?_) (fun h14 h => ?_)
        · -- true
          refine adv_ok hm 5 _ ?_
          obtain rfl := Option.some.inj h
          have hv := ha
          simp only [After] at hv
          subst hv
          exact r_retF [] (d := D.bool false) (s := []) (by kernel_rfl) Cx.fin_of ⟨rfl, rfl⟩
        · -- false
          refine adv_ok hm 8 _ ?_
          obtain rfl := Option.some.inj h
          exact r_to (q' := .go (ref04_Right_M (.s4 (IntKind.i64.wrap (i + 1)) p_))) (by kernel_rfl) ha
      · -- false
        refine adv_ok hm 24 _ ?_
        obtain rfl := Option.some.inj h
        exact r_to (q' := .go (ref04_Right_M (.s4 (IntKind.i64.wrap (i + 1)) p_))) (by kernel_rfl) ha
  · -- false
    refine adv_ok hm 6 _ ?_
    obtain rfl := Option.some.inj h
    have hv := ha
    simp only [After] at hv
    subst hv
    exact r_retF [] (d := D.bool true) (s := []) (by kernel_rfl) Cx.fin_of ⟨rfl, rfl⟩
theorem ref04_Right_ev {p_ : Plan} {r : Bool} (h : Ev ref04_Right_step (.s0 p_) r) : Sound E 32 [D.agg (Plan.enc p_)] [] (ref04_Right_Q r) :=
  sound_ofW (m := ref04_Right_M (.s0 p_)) (fn := Tryd.f32) (by kernel_rfl) (by kernel_rfl) (ev_run (C := (Cx.of Tryd.f32 false 0)) (fun s x r hs ha => by
    cases s with
    | s0 => exact ref04_Right_0_ok hs ha
    | s1 => exact ref04_Right_1_ok hs ha
    | s2 => exact ref04_Right_2_ok hs ha
    | s3 => exact ref04_Right_3_ok hs ha
    | s4 => exact ref04_Right_4_ok hs ha) h)
noncomputable def ref04_Right (p_ : Plan) : Option Bool := evf ref04_Right_step (.s0 p_)
theorem ref04_Right_ok {p_ : Plan} {r : Bool} (h : ref04_Right p_ = some r) : Sound E 32 [D.agg (Plan.enc p_)] [] (ref04_Right_Q r) := ref04_Right_ev (evf_ev h)
end Go.RX.L

set_option linter.unusedSimpArgs false
set_option linter.unusedVariables false
set_option maxRecDepth 100000
set_option maxHeartbeats 4000000
namespace Go.RX.L
open Go Go.RX Go.Proofs
attribute [local irreducible] FinQ
def ref04_Put_Q (y : (List Int) × Int) (d : D) (s : Sto) : Prop := d = D.tup [D.sl false 1 (List.map (eInt .u8) y.1), D.int .i64 y.2] ∧ s = []
inductive ref04_Put_S where
  | s0 (p_ : Plan)
  | s1 (i : Int) (p_ : Plan) (pen : List Int)
noncomputable def ref04_Put_M : ref04_Put_S → M
  | .s0 p_ => ⟨[.code (bodyOf Tryd.f28)], [(0, D.agg (Plan.enc p_))], []⟩
  | .s1 i p_ pen => { td := [It.lpc (codeAt (bodyOf Tryd.f28) [1, 1, 1, 1, 0, 1, 0, 0]) 98, It.blk 0, It.code (codeAt (bodyOf Tryd.f28) [1, 1, 1, 1, 1])], fr := [(1, D.ptr 0 0 0), (5, D.msl 1 0 ((List.map (eInt .i64) pen).length) ((List.map (eInt .i64) pen).length) false), (6, D.int .i64 i)], st := [some { sz := 12, deep := false, rows := [(Plan.enc p_)] }, some { sz := 1, deep := false, rows := (List.map (eInt .i64) pen) }] }
noncomputable def ref04_Put_0 (p_ : Plan) : Option (ref04_Put_S ⊕ ((List Int) × Int)) := ((ref04_Right p_).bind fun y1 => (bif (!y1) then (some (.inr ([], 41))) else (some (.inl (.s1 0 p_ ([]))))))
noncomputable def ref04_Put_1 (i : Int) (p_ : Plan) (pen : List Int) : Option (ref04_Put_S ⊕ ((List Int) × Int)) := (bif (decide ((i : Int) < (((List.map (eInt .i64) p_.Pen).length : Nat) : Int))) then (bif ((decide ((0 : Int) ≤ i)) && (decide ((i : Int) < (((List.map (eInt .i64) p_.Pen).length : Nat) : Int)))) then (((p_.Pen)[i.toNat]?).bind fun y3 => (bif (decide (((List.map (eInt .i64) pen).length + 1) * 8 ≤ bytesLim)) then (some (.inl (.s1 (IntKind.i64.wrap (i + 1)) p_ (pen ++ [y3])))) else none)) else none) else ((ref01_PutInts ([p_.Epoch, p_.Target, p_.Prev, p_.Spill, p_.Percent, p_.Stamp, p_.Since, p_.Ramped, (IntKind.i64.wrap (p_.Up)), (IntKind.i64.wrap (p_.Sup))])).bind fun y6 => ((ref01_PutInts pen).bind fun y7 => ((ref01_PutInts p_.Changes).bind fun y8 => (bif (decide (((List.map (eInt .u8) y6.2).length + (List.take ((List.map (eInt .u8) y7.2).length) (List.drop 0 (List.map (eInt .u8) y7.2))).length) * 1 ≤ bytesLim)) then (bif (decide (((List.map (eInt .u8) (y6.2 ++ y7.2)).length + (List.take ((List.map (eInt .u8) y8.2).length) (List.drop 0 (List.map (eInt .u8) y8.2))).length) * 1 ≤ bytesLim)) then (some (.inr (((y6.2 ++ y7.2) ++ y8.2), 0))) else none) else none)))))
noncomputable def ref04_Put_step : ref04_Put_S → Option (ref04_Put_S ⊕ ((List Int) × Int))
  | .s0 p_ => ref04_Put_0 p_
  | .s1 i p_ pen => ref04_Put_1 i p_ pen
theorem ref04_Put_0_ok {p_ : Plan} {r : (List Int) × Int} {x : ref04_Put_S ⊕ ((List Int) × Int)} (h : ref04_Put_0 p_ = some x) (ha : After E (Cx.of Tryd.f28 false 0) ref04_Put_Q ref04_Put_M r x) : FinQ E (Cx.of Tryd.f28 false 0) (QW (ref04_Put_Q r)) (.go (ref04_Put_M (.s0 p_))) := by
  unfold ref04_Put_0 at h
  refine adv_ok hm 11 _ ?_
  have ok1 := fun (y : Bool) (hy : ref04_Right p_ = some y) => ref04_Right_ok hy
  refine p_callR [] h (by kernel_rfl) ok1 (fun y1 h1 h => ?_)
  refine adv_ok hm 9 _ ?_
  refine p_split h (by kernel_rfl) (fun h2 h => ?_) (fun h2 h => ?_)
  · -- true
    refine adv_ok hm 6 _ ?_
    obtain rfl := Option.some.inj h
    have hv := ha
    simp only [After] at hv
    subst hv
    exact r_retF [.slot 0 [some 1]] (d := D.tup [D.sl false 1 [], D.int .i64 41]) (s := []) (by kernel_rfl) Cx.fin_of ⟨rfl, rfl⟩
  · -- false
    refine adv_ok hm 13 _ ?_
    obtain rfl := Option.some.inj h
    refine r_cut 98 [.mat 5 1] (m' := { td := [It.lpc (codeAt (bodyOf Tryd.f28) [1, 1, 1, 1, 0, 1, 0, 0]) 98, It.blk 0, It.code (codeAt (bodyOf Tryd.f28) [1, 1, 1, 1, 1])], fr := [(1, D.ptr 0 0 0), (5, D.msl 1 0 0 0 false), (6, D.int .i64 0)], st := [some { sz := 12, deep := false, rows := [(Plan.enc p_)] }, some { sz := 1, deep := false, rows := [] }] }) (by kernel_rfl) ?_
    refine r_len (n1 := 0) (n2 := (List.map (eInt .i64) ([])).length) (fun n_len => .go { td := [It.lpc (codeAt (bodyOf Tryd.f28) [1, 1, 1, 1, 0, 1, 0, 0]) 98, It.blk 0, It.code (codeAt (bodyOf Tryd.f28) [1, 1, 1, 1, 1])], fr := [(1, D.ptr 0 0 0), (5, D.msl 1 0 n_len n_len false), (6, D.int .i64 0)], st := [some { sz := 12, deep := false, rows := [[D.int .i64 p_.Epoch, D.int .i64 p_.Target, D.int .i64 p_.Prev, D.int .i64 p_.Spill, D.int .i64 p_.Percent, D.int .i64 p_.Stamp, D.int .i64 p_.Since, D.int .i64 p_.Ramped, D.int .u64 p_.Up, D.int .u64 p_.Sup, D.sl false 1 (List.map (eInt .i64) p_.Pen), D.sl false 1 (List.map (eInt .i64) p_.Changes)]] }, some { sz := 1, deep := false, rows := [] }] }) (by simp) ?_
    exact ha
theorem ref04_Put_1_ok {i : Int} {p_ : Plan} {pen : List Int} {r : (List Int) × Int} {x : ref04_Put_S ⊕ ((List Int) × Int)} (h : ref04_Put_1 i p_ pen = some x) (ha : After E (Cx.of Tryd.f28 false 0) ref04_Put_Q ref04_Put_M r x) : FinQ E (Cx.of Tryd.f28 false 0) (QW (ref04_Put_Q r)) (.go (ref04_Put_M (.s1 i p_ pen))) := by
  unfold ref04_Put_1 at h
  refine adv_ok hm 12 _ ?_
  refine p_split h (by kernel_rfl) (fun h1 h => ?_) (fun h1 h => ?_)
  · -- true
    refine adv_ok hm 10 _ ?_
    refine p_need h (by kernel_rfl) (fun h2 h => ?_)
    refine adv_ok hm 1 _ ?_
    refine p_row (((List.map (eInt .i64) p_.Pen))[i.toNat]?) (eInt .i64) h (by kernel_rfl) List.getElem?_map (fun y3 h4 h => ?_)
    refine adv_ok hm 3 _ ?_
    refine p_need h (by kernel_rfl) (fun h5 h => ?_)
    refine r_needT (b := (Nat.ble (0 + (List.map (eInt .i64) pen).length) ((List.map (eInt .i64) pen).length))) (by kernel_rfl) (ble_full _) ?_
    refine r_rows (List.take ((List.map (eInt .i64) pen).length) (List.drop 0 (List.map (eInt .i64) pen)) ++ (List.map (eInt .i64) ([y3]))) (List.map (eInt .i64) (pen ++ [y3])) (by kernel_rfl) (rows_app _ _ _) ?_
    refine adv_ok hm 9 _ ?_
    obtain rfl := Option.some.inj h
    exact r_to (q' := .go (ref04_Put_M (.s1 (IntKind.i64.wrap (i + 1)) p_ (pen ++ [y3])))) (by kernel_rfl) ha
  · -- false
    refine adv_ok hm 38 _ ?_
    have ok6 := fun (y : Int × (List Int)) (hy : ref01_PutInts ([p_.Epoch, p_.Target, p_.Prev, p_.Spill, p_.Percent, p_.Stamp, p_.Since, p_.Ramped, (IntKind.i64.wrap (p_.Up)), (IntKind.i64.wrap (p_.Sup))]) = some y) => ref01_PutInts_ok hy
    refine p_callR [] h (by kernel_rfl) ok6 (fun y6 h6 h => ?_)
    refine adv_ok hm 10 _ ?_
    refine r_needT (b := (Nat.ble (0 + (List.map (eInt .i64) pen).length) ((List.map (eInt .i64) pen).length))) (by kernel_rfl) (ble_full _) ?_
    have ok7 := fun (y : Int × (List Int)) (hy : ref01_PutInts pen = some y) => ref01_PutInts_ok hy
    refine p_callS [] (args1 := [D.sl false 1 (List.take ((List.map (eInt .i64) pen).length) (List.drop 0 (List.map (eInt .i64) pen)))]) h (by kernel_rfl) ⟨by simp [List.take_of_length_le, List.map_take, List.map_drop, Msg.enc, Plan.enc, reader.enc, place.enc], rfl⟩ ok7 (fun y7 h7 h => ?_)
    refine adv_ok hm 12 _ ?_
    have ok8 := fun (y : Int × (List Int)) (hy : ref01_PutInts p_.Changes = some y) => ref01_PutInts_ok hy
    refine p_callR [] h (by kernel_rfl) ok8 (fun y8 h8 h => ?_)
    refine adv_ok hm 11 _ ?_
    refine r_needT (b := (Nat.beq ((List.take ((List.map (eInt .u8) y7.2).length) (List.drop 0 (List.map (eInt .u8) y7.2))).length) ((List.map (eInt .u8) y7.2).length))) (by kernel_rfl) (by simp) ?_
    refine p_need h (by kernel_rfl) (fun h9 h => ?_)
    refine r_needT (b := (Nat.ble (0 + (List.map (eInt .u8) y6.2).length) ((List.map (eInt .u8) y6.2).length))) (by kernel_rfl) (ble_full _) ?_
    refine r_rows (List.take ((List.map (eInt .u8) y6.2).length) (List.drop 0 (List.map (eInt .u8) y6.2)) ++ (List.take ((List.map (eInt .u8) y7.2).length) (List.drop 0 (List.map (eInt .u8) y7.2)))) (List.map (eInt .u8) (y6.2 ++ y7.2)) (by kernel_rfl) (by simp only [take_full, take_full', List.map_append]) ?_
    refine adv_ok hm 2 _ ?_
    refine r_needT (b := (Nat.beq ((List.take ((List.map (eInt .u8) y8.2).length) (List.drop 0 (List.map (eInt .u8) y8.2))).length) ((List.map (eInt .u8) y8.2).length))) (by kernel_rfl) (by simp) ?_
    refine p_need h (by kernel_rfl) (fun h10 h => ?_)
    refine r_needT (b := (Nat.ble (0 + (List.map (eInt .u8) (y6.2 ++ y7.2)).length) ((List.map (eInt .u8) (y6.2 ++ y7.2)).length))) (by kernel_rfl) (ble_full _) ?_
    refine r_rows (List.take ((List.map (eInt .u8) (y6.2 ++ y7.2)).length) (List.drop 0 (List.map (eInt .u8) (y6.2 ++ y7.2))) ++ (List.take ((List.map (eInt .u8) y8.2).length) (List.drop 0 (List.map (eInt .u8) y8.2)))) (List.map (eInt .u8) ((y6.2 ++ y7.2) ++ y8.2)) (by kernel_rfl) (by simp only [take_full, take_full', List.map_append]) ?_
    refine adv_ok hm 4 _ ?_
    refine r_needT (b := (Nat.ble (0 + (List.map (eInt .u8) ((y6.2 ++ y7.2) ++ y8.2)).length) ((List.map (eInt .u8) ((y6.2 ++ y7.2) ++ y8.2)).length))) (by kernel_rfl) (ble_full _) ?_
    obtain rfl := Option.some.inj h
    have hv := ha
    simp only [After] at hv
    subst hv
    exact r_retE [] (d1 := D.tup [D.sl false 1 (List.take ((List.map (eInt .u8) ((y6.2 ++ y7.2) ++ y8.2)).length) (List.drop 0 (List.map (eInt .u8) ((y6.2 ++ y7.2) ++ y8.2)))), D.int .i64 0]) (d := D.tup [D.sl false 1 (List.map (eInt .u8) ((y6.2 ++ y7.2) ++ y8.2)), D.int .i64 0]) (s1 := []) (s := []) (by kernel_rfl) ⟨by simp [List.take_of_length_le, List.map_take, List.map_drop], rfl⟩ ⟨rfl, rfl⟩ Cx.fin_of
theorem ref04_Put_ev {p_ : Plan} {r : (List Int) × Int} (h : Ev ref04_Put_step (.s0 p_) r) : Sound E 28 [D.agg (Plan.enc p_)] [] (ref04_Put_Q r) :=
  sound_ofW (m := ref04_Put_M (.s0 p_)) (fn := Tryd.f28) (by kernel_rfl) (by kernel_rfl) (ev_run (C := (Cx.of Tryd.f28 false 0)) (fun s x r hs ha => by
    cases s with
    | s0 => exact ref04_Put_0_ok hs ha
    | s1 => exact ref04_Put_1_ok hs ha) h)
noncomputable def ref04_Put (p_ : Plan) : Option ((List Int) × Int) := evf ref04_Put_step (.s0 p_)
theorem ref04_Put_ok {p_ : Plan} {r : (List Int) × Int} (h : ref04_Put p_ = some r) : Sound E 28 [D.agg (Plan.enc p_)] [] (ref04_Put_Q r) := ref04_Put_ev (evf_ev h)
end Go.RX.L

set_option linter.unusedSimpArgs false
set_option linter.unusedVariables false
set_option maxRecDepth 100000
set_option maxHeartbeats 4000000
namespace Go.RX.L
open Go Go.RX Go.Proofs
attribute [local irreducible] FinQ
def ref04_small_Q (y : Int) (d : D) (s : Sto) : Prop := d = D.int .i64 y ∧ s = []
noncomputable def ref04_small (n : Int) : Option Int := ((ref04_in n (-1) 1000000).bind fun y1 => (bif (!y1) then (some (-2)) else (some n)))
theorem ref04_small_ok {n : Int} {r : Int} (h : ref04_small n = some r) : Sound E 63 [D.int .i64 n] [] (ref04_small_Q r) := by
  refine sound_ofW (m := ⟨[.code (bodyOf Tryd.f63)], [(0, D.int .i64 n)], []⟩) (fn := Tryd.f63) (by kernel_rfl) (by kernel_rfl) ?_
  show FinQ E (Cx.of Tryd.f63 false 0) (QW (ref04_small_Q r)) _
  unfold ref04_small at h
  refine adv_ok hm 9 _ ?_
  have ok1 := fun (y : Bool) (hy : ref04_in n (-1) 1000000 = some y) => ref04_in_ok hy
  refine p_callR [] h (by kernel_rfl) ok1 (fun y1 h1 h => ?_)
  refine adv_ok hm 3 _ ?_
  refine p_split h (by kernel_rfl) (fun h2 h => ?_) (fun h2 h => ?_)
  · -- true
    refine adv_ok hm 5 _ ?_
    obtain rfl := Option.some.inj h
    exact r_retF [] (d := D.int .i64 (-2)) (s := []) (by kernel_rfl) Cx.fin_of ⟨rfl, rfl⟩
  · -- false
    refine adv_ok hm 7 _ ?_
    obtain rfl := Option.some.inj h
    exact r_retF [] (d := D.int .i64 n) (s := []) (by kernel_rfl) Cx.fin_of ⟨rfl, rfl⟩
end Go.RX.L

set_option linter.unusedSimpArgs false
set_option linter.unusedVariables false
set_option maxRecDepth 100000
set_option maxHeartbeats 4000000
namespace Go.RX.L
open Go Go.RX Go.Proofs
attribute [local irreducible] FinQ
def ref04_Get_Q (y : Plan × Int) (d : D) (s : Sto) : Prop := d = D.tup [D.agg (Plan.enc y.1), D.int .i64 y.2] ∧ s = []
inductive ref04_Get_S where
  | s0 (b : List Int)
  | s1 (b : List Int) (l_ : List Int) (at_ : Int) (t24 : Bool) (b0 : Plan)
  | s2 (l_ : List Int) (pen : List Int) (changes : List Int) (t62 : Bool) (b0 : Plan)
  | s3 (pen : List Int) (i : Int) (b0 : Plan) (Epoch_ : Int) (Target_ : Int) (Prev_ : Int) (Spill_ : Int) (Percent_ : Int) (Stamp_ : Int) (Since_ : Int) (Ramped_ : Int) (Up_ : Int) (Sup_ : Int) (Changes_ : List Int) (b2 : List Int)
noncomputable def ref04_Get_M : ref04_Get_S → M
  | .s0 b => ⟨[.code (bodyOf Tryd.f42)], [(0, D.sl false 1 (List.map (eInt .u8) b))], []⟩
  | .s1 b l_ at_ t24 b0 => { td := [It.code (codeAt (bodyOf Tryd.f42) [1, 1, 0, 1]), It.code (codeAt (bodyOf Tryd.f42) [1, 1, 1])], fr := [(0, D.sl false 1 (List.map (eInt .u8) b)), (2, D.ptr 0 0 0), (4, D.sl false 1 (List.map (eInt .i64) l_)), (5, D.int .i64 at_), (24, D.bool t24)], st := [some { sz := 12, deep := false, rows := [(Plan.enc b0)] }] }
  | .s2 l_ pen changes t62 b0 => { td := [It.code (codeAt (bodyOf Tryd.f42) [1, 1, 1, 1, 1, 1, 0, 1]), It.code (codeAt (bodyOf Tryd.f42) [1, 1, 1, 1, 1, 1, 1])], fr := [(2, D.ptr 0 0 0), (4, D.sl false 1 (List.map (eInt .i64) l_)), (7, D.sl false 1 (List.map (eInt .i64) pen)), (8, D.sl false 1 (List.map (eInt .i64) changes)), (62, D.bool t62)], st := [some { sz := 12, deep := false, rows := [(Plan.enc b0)] }] }
  | .s3 pen i b0 Epoch_ Target_ Prev_ Spill_ Percent_ Stamp_ Since_ Ramped_ Up_ Sup_ Changes_ b2 => { td := [It.lpc (codeAt (bodyOf Tryd.f42) [1, 1, 1, 1, 1, 1, 1, 1, 0, 1, 0, 0]) 1668, It.blk 0, It.code (codeAt (bodyOf Tryd.f42) [1, 1, 1, 1, 1, 1, 1, 1, 1])], fr := [(2, D.ptr 0 0 0), (7, D.sl false 1 (List.map (eInt .i64) pen)), (9, D.ptr 1 0 0), (10, D.int .i64 i)], st := [some { sz := 12, deep := false, rows := [(Plan.enc b0)] }, some { sz := 12, deep := true, rows := [[D.int .i64 Epoch_, D.int .i64 Target_, D.int .i64 Prev_, D.int .i64 Spill_, D.int .i64 Percent_, D.int .i64 Stamp_, D.int .i64 Since_, D.int .i64 Ramped_, D.int .u64 Up_, D.int .u64 Sup_, D.msl 2 0 ((List.map (eInt .i64) b2).length) ((List.map (eInt .i64) b2).length) false, D.sl false 1 (List.map (eInt .i64) Changes_)]] }, some { sz := 1, deep := false, rows := (List.map (eInt .i64) b2) }] }
noncomputable def ref04_Get_0 (b : List Int) : Option (ref04_Get_S ⊕ (Plan × Int)) := ((ref01_Ints b 0).bind fun y1 => (bif ((y1.2.2 : Int) != 0) then (some (.inl (.s1 b y1.1 y1.2.1 true (⟨0, 0, 0, 0, 0, 0, 0, 0, 0, 0, [], []⟩ : Plan)))) else (some (.inl (.s1 b y1.1 y1.2.1 (((((List.map (eInt .i64) y1.1).length : Nat) : Int) : Int) != 10) (⟨0, 0, 0, 0, 0, 0, 0, 0, 0, 0, [], []⟩ : Plan))))))
noncomputable def ref04_Get_1 (b : List Int) (l_ : List Int) (at_ : Int) (t24 : Bool) (b0 : Plan) : Option (ref04_Get_S ⊕ (Plan × Int)) := (bif t24 then (some (.inr ((⟨0, 0, 0, 0, 0, 0, 0, 0, 0, 0, [], []⟩ : Plan), 41))) else ((ref01_Ints b at_).bind fun y2 => (bif ((y2.2.2 : Int) != 0) then (some (.inr ((⟨0, 0, 0, 0, 0, 0, 0, 0, 0, 0, [], []⟩ : Plan), 41))) else ((ref01_Ints b y2.2.1).bind fun y4 => (bif ((y4.2.2 : Int) != 0) then (some (.inl (.s2 l_ y2.1 y4.1 true b0))) else (bif ((y4.2.1 : Int) != (((List.map (eInt .u8) b).length : Nat) : Int)) then (some (.inl (.s2 l_ y2.1 y4.1 true b0))) else (bif (decide ((8 : Int) < (((List.map (eInt .i64) l_).length : Nat) : Int))) then (((l_)[8]?).bind fun y8 => (bif (decide ((y8 : Int) < 0)) then (some (.inl (.s2 l_ y2.1 y4.1 true b0))) else (bif (decide ((9 : Int) < (((List.map (eInt .i64) l_).length : Nat) : Int))) then (((l_)[9]?).bind fun y12 => (some (.inl (.s2 l_ y2.1 y4.1 (decide ((y12 : Int) < 0)) b0)))) else none))) else none)))))))
noncomputable def ref04_Get_2 (l_ : List Int) (pen : List Int) (changes : List Int) (t62 : Bool) (b0 : Plan) : Option (ref04_Get_S ⊕ (Plan × Int)) := (bif t62 then (some (.inr ((⟨0, 0, 0, 0, 0, 0, 0, 0, 0, 0, [], []⟩ : Plan), 41))) else (bif (decide ((0 : Int) < (((List.map (eInt .i64) l_).length : Nat) : Int))) then (((l_)[0]?).bind fun y3 => (bif (decide ((1 : Int) < (((List.map (eInt .i64) l_).length : Nat) : Int))) then (((l_)[1]?).bind fun y6 => ((ref04_small y6).bind fun y8 => (bif (decide ((2 : Int) < (((List.map (eInt .i64) l_).length : Nat) : Int))) then (((l_)[2]?).bind fun y10 => ((ref04_small y10).bind fun y12 => (bif (decide ((3 : Int) < (((List.map (eInt .i64) l_).length : Nat) : Int))) then (((l_)[3]?).bind fun y14 => ((ref04_small y14).bind fun y16 => (bif (decide ((4 : Int) < (((List.map (eInt .i64) l_).length : Nat) : Int))) then (((l_)[4]?).bind fun y18 => ((ref04_small y18).bind fun y20 => (bif (decide ((5 : Int) < (((List.map (eInt .i64) l_).length : Nat) : Int))) then (((l_)[5]?).bind fun y22 => (bif (decide ((6 : Int) < (((List.map (eInt .i64) l_).length : Nat) : Int))) then (((l_)[6]?).bind fun y25 => (bif (decide ((7 : Int) < (((List.map (eInt .i64) l_).length : Nat) : Int))) then (((l_)[7]?).bind fun y28 => (bif (decide ((8 : Int) < (((List.map (eInt .i64) l_).length : Nat) : Int))) then (((l_)[8]?).bind fun y31 => (bif (decide ((9 : Int) < (((List.map (eInt .i64) l_).length : Nat) : Int))) then (((l_)[9]?).bind fun y34 => (some (.inl (.s3 pen 0 b0 y3 y8 y12 y16 y20 y22 y25 y28 (IntKind.u64.wrap (y31)) (IntKind.u64.wrap (y34)) changes ([]))))) else none)) else none)) else none)) else none)) else none))) else none))) else none))) else none))) else none)) else none))
noncomputable def ref04_Get_3 (pen : List Int) (i : Int) (b0 : Plan) (Epoch_ : Int) (Target_ : Int) (Prev_ : Int) (Spill_ : Int) (Percent_ : Int) (Stamp_ : Int) (Since_ : Int) (Ramped_ : Int) (Up_ : Int) (Sup_ : Int) (Changes_ : List Int) (b2 : List Int) : Option (ref04_Get_S ⊕ (Plan × Int)) := (bif (decide ((i : Int) < (((List.map (eInt .i64) pen).length : Nat) : Int))) then (bif ((decide ((0 : Int) ≤ i)) && (decide ((i : Int) < (((List.map (eInt .i64) pen).length : Nat) : Int)))) then (((pen)[i.toNat]?).bind fun y3 => ((ref04_small y3).bind fun y5 => (bif (decide (((List.map (eInt .i64) b2).length + 1) * 8 ≤ bytesLim)) then (some (.inl (.s3 pen (IntKind.i64.wrap (i + 1)) b0 Epoch_ Target_ Prev_ Spill_ Percent_ Stamp_ Since_ Ramped_ Up_ Sup_ Changes_ (b2 ++ [y5])))) else none))) else none) else ((ref04_Right (⟨Epoch_, Target_, Prev_, Spill_, Percent_, Stamp_, Since_, Ramped_, Up_, Sup_, b2, Changes_⟩ : Plan)).bind fun y7 => (bif (!y7) then (some (.inr ((⟨0, 0, 0, 0, 0, 0, 0, 0, 0, 0, [], []⟩ : Plan), 41))) else (some (.inr ((⟨Epoch_, Target_, Prev_, Spill_, Percent_, Stamp_, Since_, Ramped_, Up_, Sup_, b2, Changes_⟩ : Plan), 0))))))
noncomputable def ref04_Get_step : ref04_Get_S → Option (ref04_Get_S ⊕ (Plan × Int))
  | .s0 b => ref04_Get_0 b
  | .s1 b l_ at_ t24 b0 => ref04_Get_1 b l_ at_ t24 b0
  | .s2 l_ pen changes t62 b0 => ref04_Get_2 l_ pen changes t62 b0
  | .s3 pen i b0 Epoch_ Target_ Prev_ Spill_ Percent_ Stamp_ Since_ Ramped_ Up_ Sup_ Changes_ b2 => ref04_Get_3 pen i b0 Epoch_ Target_ Prev_ Spill_ Percent_ Stamp_ Since_ Ramped_ Up_ Sup_ Changes_ b2
theorem ref04_Get_0_ok {b : List Int} {r : Plan × Int} {x : ref04_Get_S ⊕ (Plan × Int)} (h : ref04_Get_0 b = some x) (ha : After E (Cx.of Tryd.f42 false 0) ref04_Get_Q ref04_Get_M r x) : FinQ E (Cx.of Tryd.f42 false 0) (QW (ref04_Get_Q r)) (.go (ref04_Get_M (.s0 b))) := by
  unfold ref04_Get_0 at h
  refine adv_ok hm 9 _ ?_
  have ok1 := fun (y : (List Int) × Int × Int) (hy : ref01_Ints b 0 = some y) => ref01_Ints_ok hy
  refine p_callR [] h (by kernel_rfl) ok1 (fun y1 h1 h => ?_)
  refine adv_ok hm 15 _ ?_
  refine p_split h (by kernel_rfl) (fun h2 h => ?_) (fun h2 h => ?_)
  · -- true
    refine adv_ok hm 7 _ ?_
    obtain rfl := Option.some.inj h
    exact r_cut 16777269 [.blk 0 [some 1, some 1]] (m' := (ref04_Get_M (.s1 b y1.1 y1.2.1 true (⟨0, 0, 0, 0, 0, 0, 0, 0, 0, 0, [], []⟩ : Plan)))) (by kernel_rfl) ha
  · -- false
    refine adv_ok hm 7 _ ?_
    obtain rfl := Option.some.inj h
    exact r_cut 16777269 [.blk 0 [some 1, some 1]] (m' := (ref04_Get_M (.s1 b y1.1 y1.2.1 (((((List.map (eInt .i64) y1.1).length : Nat) : Int) : Int) != 10) (⟨0, 0, 0, 0, 0, 0, 0, 0, 0, 0, [], []⟩ : Plan)))) (by kernel_rfl) ha
theorem ref04_Get_1_ok {b : List Int} {l_ : List Int} {at_ : Int} {t24 : Bool} {b0 : Plan} {r : Plan × Int} {x : ref04_Get_S ⊕ (Plan × Int)} (h : ref04_Get_1 b l_ at_ t24 b0 = some x) (ha : After E (Cx.of Tryd.f42 false 0) ref04_Get_Q ref04_Get_M r x) : FinQ E (Cx.of Tryd.f42 false 0) (QW (ref04_Get_Q r)) (.go (ref04_Get_M (.s1 b l_ at_ t24 b0))) := by
  unfold ref04_Get_1 at h
  refine adv_ok hm 1 _ ?_
  refine p_split h (by kernel_rfl) (fun h1 h => ?_) (fun h1 h => ?_)
  · -- true
    refine adv_ok hm 10 _ ?_
    obtain rfl := Option.some.inj h
    have hv := ha
    simp only [After] at hv
    subst hv
    exact r_retF [.slot 0 [some 1, some 1]] (d := D.tup [D.agg [D.int .i64 0, D.int .i64 0, D.int .i64 0, D.int .i64 0, D.int .i64 0, D.int .i64 0, D.int .i64 0, D.int .i64 0, D.int .u64 0, D.int .u64 0, D.sl false 1 [], D.sl false 1 []], D.int .i64 41]) (s := []) (by kernel_rfl) Cx.fin_of ⟨rfl, rfl⟩
  · -- false
    refine adv_ok hm 6 _ ?_
    have ok2 := fun (y : (List Int) × Int × Int) (hy : ref01_Ints b at_ = some y) => ref01_Ints_ok hy
    refine p_callR [] h (by kernel_rfl) ok2 (fun y2 h2 h => ?_)
    refine adv_ok hm 15 _ ?_
    refine p_split h (by kernel_rfl) (fun h3 h => ?_) (fun h3 h => ?_)
    · -- true
      refine adv_ok hm 10 _ ?_
      obtain rfl := Option.some.inj h
      have hv := ha
      simp only [After] at hv
      subst hv
      exact r_retF [.slot 0 [some 1, some 1]] (d := D.tup [D.agg [D.int .i64 0, D.int .i64 0, D.int .i64 0, D.int .i64 0, D.int .i64 0, D.int .i64 0, D.int .i64 0, D.int .i64 0, D.int .u64 0, D.int .u64 0, D.sl false 1 [], D.sl false 1 []], D.int .i64 41]) (s := []) (by kernel_rfl) Cx.fin_of ⟨rfl, rfl⟩
    · -- false
      refine adv_ok hm 6 _ ?_
      have ok4 := fun (y : (List Int) × Int × Int) (hy : ref01_Ints b y2.2.1 = some y) => ref01_Ints_ok hy
      refine p_callR [] h (by kernel_rfl) ok4 (fun y4 h4 h => ?_)
      refine adv_ok hm 15 _ ?_
      refine p_split h (by kernel_rfl) (fun h5 h => ?_) (fun h5 h => ?_)
      · -- true
        refine adv_ok hm 31 _ ?_
        obtain rfl := Option.some.inj h
        exact r_cut 4611686018427388308 [] (m' := (ref04_Get_M (.s2 l_ y2.1 y4.1 true b0))) (by kernel_rfl) ha
      · -- false
        refine adv_ok hm 10 _ ?_
        refine p_split h (by kernel_rfl) (fun h6 h => ?_) (fun h6 h => ?_)
        · -- true
          refine adv_ok hm 20 _ ?_
          obtain rfl := Option.some.inj h
          exact r_cut 4611686018427388308 [] (m' := (ref04_Get_M (.s2 l_ y2.1 y4.1 true b0))) (by kernel_rfl) ha
        · -- false
          refine adv_ok hm 2 _ ?_
          refine p_need h (by kernel_rfl) (fun h7 h => ?_)
          refine adv_ok hm 2 _ ?_
          refine p_row (((List.map (eInt .i64) l_))[8]?) (eInt .i64) h (by kernel_rfl) List.getElem?_map (fun y8 h9 h => ?_)
          refine adv_ok hm 6 _ ?_
          refine p_split h (by kernel_rfl) (fun h10 h => ?_) (fun h10 h => ?_)
          · -- true
            refine adv_ok hm 9 _ ?_
            obtain rfl := Option.some.inj h
            exact r_cut 4611686018427388308 [] (m' := (ref04_Get_M (.s2 l_ y2.1 y4.1 true b0))) (by kernel_rfl) ha
          · -- false
            refine adv_ok hm 2 _ ?_
            refine p_need h (by kernel_rfl) (fun h11 h => ?_)
            refine adv_ok hm 2 _ ?_
            refine p_row (((List.map (eInt .i64) l_))[9]?) (eInt .i64) h (by kernel_rfl) List.getElem?_map (fun y12 h13 h => ?_)
            refine adv_ok hm 5 _ ?_
            obtain rfl := Option.some.inj h
            exact r_cut 4611686018427388308 [] (m' := (ref04_Get_M (.s2 l_ y2.1 y4.1 (decide ((y12 : Int) < 0)) b0))) (by kernel_rfl) ha
theorem ref04_Get_2_ok {l_ : List Int} {pen : List Int} {changes : List Int} {t62 : Bool} {b0 : Plan} {r : Plan × Int} {x : ref04_Get_S ⊕ (Plan × Int)} (h : ref04_Get_2 l_ pen changes t62 b0 = some x) (ha : After E (Cx.of Tryd.f42 false 0) ref04_Get_Q ref04_Get_M r x) : FinQ E (Cx.of Tryd.f42 false 0) (QW (ref04_Get_Q r)) (.go (ref04_Get_M (.s2 l_ pen changes t62 b0))) := by
  unfold ref04_Get_2 at h
  refine adv_ok hm 1 _ ?_
  refine p_split h (by kernel_rfl) (fun h1 h => ?_) (fun h1 h => ?_)
  · -- true
    refine adv_ok hm 10 _ ?_
    obtain rfl := Option.some.inj h
    have hv := ha
    simp only [After] at hv
    subst hv
    exact r_retF [.slot 0 [some 1, some 1]] (d := D.tup [D.agg [D.int .i64 0, D.int .i64 0, D.int .i64 0, D.int .i64 0, D.int .i64 0, D.int .i64 0, D.int .i64 0, D.int .i64 0, D.int .u64 0, D.int .u64 0, D.sl false 1 [], D.sl false 1 []], D.int .i64 41]) (s := []) (by kernel_rfl) Cx.fin_of ⟨rfl, rfl⟩
  · -- false
    refine adv_ok hm 3 _ ?_
    refine p_need h (by kernel_rfl) (fun h2 h => ?_)
    refine p_row (((List.map (eInt .i64) l_))[0]?) (eInt .i64) h (by kernel_rfl) List.getElem?_map (fun y3 h4 h => ?_)
    refine p_need h (by kernel_rfl) (fun h5 h => ?_)
    refine p_row (((List.map (eInt .i64) l_))[1]?) (eInt .i64) h (by kernel_rfl) List.getElem?_map (fun y6 h7 h => ?_)
    have ok8 := fun (y : Int) (hy : ref04_small y6 = some y) => ref04_small_ok hy
    refine p_callDR [] h (by kernel_rfl) ok8 (fun y8 h8 h => ?_)
    refine p_need h (by kernel_rfl) (fun h9 h => ?_)
    refine p_row (((List.map (eInt .i64) l_))[2]?) (eInt .i64) h (by kernel_rfl) List.getElem?_map (fun y10 h11 h => ?_)
    have ok12 := fun (y : Int) (hy : ref04_small y10 = some y) => ref04_small_ok hy
    refine p_callDR [] h (by kernel_rfl) ok12 (fun y12 h12 h => ?_)
    refine p_need h (by kernel_rfl) (fun h13 h => ?_)
    refine p_row (((List.map (eInt .i64) l_))[3]?) (eInt .i64) h (by kernel_rfl) List.getElem?_map (fun y14 h15 h => ?_)
    have ok16 := fun (y : Int) (hy : ref04_small y14 = some y) => ref04_small_ok hy
    refine p_callDR [] h (by kernel_rfl) ok16 (fun y16 h16 h => ?_)
    refine p_need h (by kernel_rfl) (fun h17 h => ?_)
    refine p_row (((List.map (eInt .i64) l_))[4]?) (eInt .i64) h (by kernel_rfl) List.getElem?_map (fun y18 h19 h => ?_)
    have ok20 := fun (y : Int) (hy : ref04_small y18 = some y) => ref04_small_ok hy
    refine p_callDR [] h (by kernel_rfl) ok20 (fun y20 h20 h => ?_)
    refine p_need h (by kernel_rfl) (fun h21 h => ?_)
    refine p_row (((List.map (eInt .i64) l_))[5]?) (eInt .i64) h (by kernel_rfl) List.getElem?_map (fun y22 h23 h => ?_)
    refine p_need h (by kernel_rfl) (fun h24 h => ?_)
    refine p_row (((List.map (eInt .i64) l_))[6]?) (eInt .i64) h (by kernel_rfl) List.getElem?_map (fun y25 h26 h => ?_)
    refine p_need h (by kernel_rfl) (fun h27 h => ?_)
    refine p_row (((List.map (eInt .i64) l_))[7]?) (eInt .i64) h (by kernel_rfl) List.getElem?_map (fun y28 h29 h => ?_)
    refine p_need h (by kernel_rfl) (fun h30 h => ?_)
    refine p_row (((List.map (eInt .i64) l_))[8]?) (eInt .i64) h (by kernel_rfl) List.getElem?_map (fun y31 h32 h => ?_)
    refine p_need h (by kernel_rfl) (fun h33 h => ?_)
    refine p_row (((List.map (eInt .i64) l_))[9]?) (eInt .i64) h (by kernel_rfl) List.getElem?_map (fun y34 h35 h => ?_)
    refine adv_ok hm 10 _ ?_
    obtain rfl := Option.some.inj h
    refine r_cut 1668 [.matc 1 0 10 1] (m' := { td := [It.lpc (codeAt (bodyOf Tryd.f42) [1, 1, 1, 1, 1, 1, 1, 1, 0, 1, 0, 0]) 1668, It.blk 0, It.code (codeAt (bodyOf Tryd.f42) [1, 1, 1, 1, 1, 1, 1, 1, 1])], fr := [(2, D.ptr 0 0 0), (7, D.sl false 1 (List.map (eInt .i64) pen)), (9, D.ptr 1 0 0), (10, D.int .i64 0)], st := [some { sz := 12, deep := false, rows := [(Plan.enc b0)] }, some { sz := 12, deep := true, rows := [[D.int .i64 y3, D.int .i64 y8, D.int .i64 y12, D.int .i64 y16, D.int .i64 y20, D.int .i64 y22, D.int .i64 y25, D.int .i64 y28, D.int .u64 (IntKind.u64.wrap (y31)), D.int .u64 (IntKind.u64.wrap (y34)), D.msl 2 0 0 0 false, D.sl false 1 (List.map (eInt .i64) changes)]] }, some { sz := 1, deep := false, rows := [] }] }) (by kernel_rfl) ?_
    refine r_len (n1 := 0) (n2 := (List.map (eInt .i64) ([])).length) (fun n_len => .go { td := [It.lpc (codeAt (bodyOf Tryd.f42) [1, 1, 1, 1, 1, 1, 1, 1, 0, 1, 0, 0]) 1668, It.blk 0, It.code (codeAt (bodyOf Tryd.f42) [1, 1, 1, 1, 1, 1, 1, 1, 1])], fr := [(2, D.ptr 0 0 0), (7, D.sl false 1 (List.map (eInt .i64) pen)), (9, D.ptr 1 0 0), (10, D.int .i64 0)], st := [some { sz := 12, deep := false, rows := [[D.int .i64 b0.Epoch, D.int .i64 b0.Target, D.int .i64 b0.Prev, D.int .i64 b0.Spill, D.int .i64 b0.Percent, D.int .i64 b0.Stamp, D.int .i64 b0.Since, D.int .i64 b0.Ramped, D.int .u64 b0.Up, D.int .u64 b0.Sup, D.sl false 1 (List.map (eInt .i64) b0.Pen), D.sl false 1 (List.map (eInt .i64) b0.Changes)]] }, some { sz := 12, deep := true, rows := [[D.int .i64 y3, D.int .i64 y8, D.int .i64 y12, D.int .i64 y16, D.int .i64 y20, D.int .i64 y22, D.int .i64 y25, D.int .i64 y28, D.int .u64 (IntKind.u64.wrap (y31)), D.int .u64 (IntKind.u64.wrap (y34)), D.msl 2 0 n_len n_len false, D.sl false 1 (List.map (eInt .i64) changes)]] }, some { sz := 1, deep := false, rows := [] }] }) (by simp) ?_
    exact ha
theorem ref04_Get_3_ok {pen : List Int} {i : Int} {b0 : Plan} {Epoch_ : Int} {Target_ : Int} {Prev_ : Int} {Spill_ : Int} {Percent_ : Int} {Stamp_ : Int} {Since_ : Int} {Ramped_ : Int} {Up_ : Int} {Sup_ : Int} {Changes_ : List Int} {b2 : List Int} {r : Plan × Int} {x : ref04_Get_S ⊕ (Plan × Int)} (h : ref04_Get_3 pen i b0 Epoch_ Target_ Prev_ Spill_ Percent_ Stamp_ Since_ Ramped_ Up_ Sup_ Changes_ b2 = some x) (ha : After E (Cx.of Tryd.f42 false 0) ref04_Get_Q ref04_Get_M r x) : FinQ E (Cx.of Tryd.f42 false 0) (QW (ref04_Get_Q r)) (.go (ref04_Get_M (.s3 pen i b0 Epoch_ Target_ Prev_ Spill_ Percent_ Stamp_ Since_ Ramped_ Up_ Sup_ Changes_ b2))) := by
  unfold ref04_Get_3 at h
  refine adv_ok hm 10 _ ?_
  refine p_split h (by kernel_rfl) (fun h1 h => ?_) (fun h1 h => ?_)
  · -- true
    refine adv_ok hm 5 _ ?_
    refine p_need h (by kernel_rfl) (fun h2 h => ?_)
    refine p_row (((List.map (eInt .i64) pen))[i.toNat]?) (eInt .i64) h (by kernel_rfl) List.getElem?_map (fun y3 h4 h => ?_)
    have ok5 := fun (y : Int) (hy : ref04_small y3 = some y) => ref04_small_ok hy
    refine p_callDR [] h (by kernel_rfl) ok5 (fun y5 h5 h => ?_)
    refine adv_ok hm 1 _ ?_
    refine p_need h (by kernel_rfl) (fun h6 h => ?_)
    refine r_needT (b := (Nat.ble (0 + (List.map (eInt .i64) b2).length) ((List.map (eInt .i64) b2).length))) (by kernel_rfl) (ble_full _) ?_
    refine r_rows (List.take ((List.map (eInt .i64) b2).length) (List.drop 0 (List.map (eInt .i64) b2)) ++ (List.map (eInt .i64) ([y5]))) (List.map (eInt .i64) (b2 ++ [y5])) (by kernel_rfl) (rows_app _ _ _) ?_
    refine adv_ok hm 9 _ ?_
    obtain rfl := Option.some.inj h
    exact r_to (q' := .go (ref04_Get_M (.s3 pen (IntKind.i64.wrap (i + 1)) b0 Epoch_ Target_ Prev_ Spill_ Percent_ Stamp_ Since_ Ramped_ Up_ Sup_ Changes_ (b2 ++ [y5])))) (by kernel_rfl) ha
  · -- false
    refine adv_ok hm 6 _ ?_
    refine r_needT (b := (Nat.ble (0 + (List.map (eInt .i64) b2).length) ((List.map (eInt .i64) b2).length))) (by kernel_rfl) (ble_full _) ?_
    have ok7 := fun (y : Bool) (hy : ref04_Right (⟨Epoch_, Target_, Prev_, Spill_, Percent_, Stamp_, Since_, Ramped_, Up_, Sup_, b2, Changes_⟩ : Plan) = some y) => ref04_Right_ok hy
    refine p_callS [] (args1 := [D.agg [D.int .i64 Epoch_, D.int .i64 Target_, D.int .i64 Prev_, D.int .i64 Spill_, D.int .i64 Percent_, D.int .i64 Stamp_, D.int .i64 Since_, D.int .i64 Ramped_, D.int .u64 Up_, D.int .u64 Sup_, D.sl false 1 (List.take ((List.map (eInt .i64) b2).length) (List.drop 0 (List.map (eInt .i64) b2))), D.sl false 1 (List.map (eInt .i64) Changes_)]]) h (by kernel_rfl) ⟨by simp [List.take_of_length_le, List.map_take, List.map_drop, Msg.enc, Plan.enc, reader.enc, place.enc], rfl⟩ ok7 (fun y7 h7 h => ?_)
    refine adv_ok hm 9 _ ?_
    refine p_split h (by kernel_rfl) (fun h8 h => ?_) (fun h8 h => ?_)
    · -- true
      refine adv_ok hm 10 _ ?_
      obtain rfl := Option.some.inj h
      have hv := ha
      simp only [After] at hv
      subst hv
      exact r_retF [.slot 0 [some 1, some 1]] (d := D.tup [D.agg [D.int .i64 0, D.int .i64 0, D.int .i64 0, D.int .i64 0, D.int .i64 0, D.int .i64 0, D.int .i64 0, D.int .i64 0, D.int .u64 0, D.int .u64 0, D.sl false 1 [], D.sl false 1 []], D.int .i64 41]) (s := []) (by kernel_rfl) Cx.fin_of ⟨rfl, rfl⟩
    · -- false
      refine adv_ok hm 12 _ ?_
      refine r_needT (b := (Nat.ble (0 + (List.map (eInt .i64) b2).length) ((List.map (eInt .i64) b2).length))) (by kernel_rfl) (ble_full _) ?_
      obtain rfl := Option.some.inj h
      have hv := ha
      simp only [After] at hv
      subst hv
      exact r_retE [] (d1 := D.tup [D.agg [D.int .i64 Epoch_, D.int .i64 Target_, D.int .i64 Prev_, D.int .i64 Spill_, D.int .i64 Percent_, D.int .i64 Stamp_, D.int .i64 Since_, D.int .i64 Ramped_, D.int .u64 Up_, D.int .u64 Sup_, D.sl false 1 (List.take ((List.map (eInt .i64) b2).length) (List.drop 0 (List.map (eInt .i64) b2))), D.sl false 1 (List.map (eInt .i64) Changes_)], D.int .i64 0]) (d := D.tup [D.agg [D.int .i64 Epoch_, D.int .i64 Target_, D.int .i64 Prev_, D.int .i64 Spill_, D.int .i64 Percent_, D.int .i64 Stamp_, D.int .i64 Since_, D.int .i64 Ramped_, D.int .u64 Up_, D.int .u64 Sup_, D.sl false 1 (List.map (eInt .i64) b2), D.sl false 1 (List.map (eInt .i64) Changes_)], D.int .i64 0]) (s1 := []) (s := []) (by kernel_rfl) ⟨by simp [List.take_of_length_le, List.map_take, List.map_drop], rfl⟩ ⟨rfl, rfl⟩ Cx.fin_of
theorem ref04_Get_ev {b : List Int} {r : Plan × Int} (h : Ev ref04_Get_step (.s0 b) r) : Sound E 42 [D.sl false 1 (List.map (eInt .u8) b)] [] (ref04_Get_Q r) :=
  sound_ofW (m := ref04_Get_M (.s0 b)) (fn := Tryd.f42) (by kernel_rfl) (by kernel_rfl) (ev_run (C := (Cx.of Tryd.f42 false 0)) (fun s x r hs ha => by
    cases s with
    | s0 => exact ref04_Get_0_ok hs ha
    | s1 => exact ref04_Get_1_ok hs ha
    | s2 => exact ref04_Get_2_ok hs ha
    | s3 => exact ref04_Get_3_ok hs ha) h)
noncomputable def ref04_Get (b : List Int) : Option (Plan × Int) := evf ref04_Get_step (.s0 b)
theorem ref04_Get_ok {b : List Int} {r : Plan × Int} (h : ref04_Get b = some r) : Sound E 42 [D.sl false 1 (List.map (eInt .u8) b)] [] (ref04_Get_Q r) := ref04_Get_ev (evf_ev h)
end Go.RX.L

set_option linter.unusedSimpArgs false
set_option linter.unusedVariables false
set_option maxRecDepth 100000
set_option maxHeartbeats 4000000
namespace Go.RX.L
open Go Go.RX Go.Proofs
attribute [local irreducible] FinQ
def ref01_Same_Q (y : Bool) (d : D) (s : Sto) : Prop := d = D.bool y ∧ s = []
inductive ref01_Same_S where
  | s0 (a : List Int) (b : List Int)
  | s1 (a : List Int) (b : List Int) (i : Int)
noncomputable def ref01_Same_M : ref01_Same_S → M
  | .s0 a b => ⟨[.code (bodyOf Tryd.f43)], [(0, D.sl false 1 (List.map (eInt .i64) a)), (1, D.sl false 1 (List.map (eInt .i64) b))], []⟩
  | .s1 a b i => { td := [It.lpc (codeAt (bodyOf Tryd.f43) [1, 1, 0, 1, 0, 0]) 35, It.blk 0, It.code (codeAt (bodyOf Tryd.f43) [1, 1, 1])], fr := [(0, D.sl false 1 (List.map (eInt .i64) a)), (1, D.sl false 1 (List.map (eInt .i64) b)), (5, D.int .i64 i)], st := [] }
noncomputable def ref01_Same_0 (a : List Int) (b : List Int) : Option (ref01_Same_S ⊕ Bool) := (bif (((((List.map (eInt .i64) a).length : Nat) : Int) : Int) != (((List.map (eInt .i64) b).length : Nat) : Int)) then (some (.inr false)) else (some (.inl (.s1 a b 0))))
noncomputable def ref01_Same_1 (a : List Int) (b : List Int) (i : Int) : Option (ref01_Same_S ⊕ Bool) := (bif (decide ((i : Int) < (((List.map (eInt .i64) a).length : Nat) : Int))) then (bif ((decide ((0 : Int) ≤ i)) && (decide ((i : Int) < (((List.map (eInt .i64) a).length : Nat) : Int)))) then (((a)[i.toNat]?).bind fun y3 => (bif ((decide ((0 : Int) ≤ i)) && (decide ((i : Int) < (((List.map (eInt .i64) b).length : Nat) : Int)))) then (((b)[i.toNat]?).bind fun y6 => (bif ((y3 : Int) != y6) then (some (.inr false)) else (some (.inl (.s1 a b (IntKind.i64.wrap (i + 1))))))) else none)) else none) else (some (.inr true)))
noncomputable def ref01_Same_step : ref01_Same_S → Option (ref01_Same_S ⊕ Bool)
  | .s0 a b => ref01_Same_0 a b
  | .s1 a b i => ref01_Same_1 a b i
theorem ref01_Same_0_ok {a : List Int} {b : List Int} {r : Bool} {x : ref01_Same_S ⊕ Bool} (h : ref01_Same_0 a b = some x) (ha : After E (Cx.of Tryd.f43 false 0) ref01_Same_Q ref01_Same_M r x) : FinQ E (Cx.of Tryd.f43 false 0) (QW (ref01_Same_Q r)) (.go (ref01_Same_M (.s0 a b))) := by
  unfold ref01_Same_0 at h
  refine adv_ok hm 14 _ ?_
  refine p_split h (by kernel_rfl) (fun h1 h => ?_) (fun h1 h => ?_)
  · -- true
    refine adv_ok hm 5 _ ?_
    obtain rfl := Option.some.inj h
    have hv := ha
    simp only [After] at hv
    subst hv
    exact r_retF [] (d := D.bool false) (s := []) (by kernel_rfl) Cx.fin_of ⟨rfl, rfl⟩
  · -- false
    refine adv_ok hm 9 _ ?_
    obtain rfl := Option.some.inj h
    exact r_to (q' := .go (ref01_Same_M (.s1 a b 0))) (by kernel_rfl) ha
theorem ref01_Same_1_ok {a : List Int} {b : List Int} {i : Int} {r : Bool} {x : ref01_Same_S ⊕ Bool} (h : ref01_Same_1 a b i = some x) (ha : After E (Cx.of Tryd.f43 false 0) ref01_Same_Q ref01_Same_M r x) : FinQ E (Cx.of Tryd.f43 false 0) (QW (ref01_Same_Q r)) (.go (ref01_Same_M (.s1 a b i))) := by
  unfold ref01_Same_1 at h
  refine adv_ok hm 10 _ ?_
  refine p_split h (by kernel_rfl) (fun h1 h => ?_) (fun h1 h => ?_)
  · -- true
    refine adv_ok hm 5 _ ?_
    refine p_need h (by kernel_rfl) (fun h2 h => ?_)
    refine p_row (((List.map (eInt .i64) a))[i.toNat]?) (eInt .i64) h (by kernel_rfl) List.getElem?_map (fun y3 h4 h => ?_)
    refine p_need h (by kernel_rfl) (fun h5 h => ?_)
    refine p_row (((List.map (eInt .i64) b))[i.toNat]?) (eInt .i64) h (by kernel_rfl) List.getElem?_map (fun y6 h7 h => ?_)
    refine adv_ok hm 1 _ ?_
    refine p_split h (by kernel_rfl) (fun h8 h => ?_) (fun h8 h => ?_)
    · -- true
      refine adv_ok hm 5 _ ?_
      obtain rfl := Option.some.inj h
      have hv := ha
      simp only [After] at hv
      subst hv
      exact r_retF [] (d := D.bool false) (s := []) (by kernel_rfl) Cx.fin_of ⟨rfl, rfl⟩
    · -- false
      refine adv_ok hm 8 _ ?_
      obtain rfl := Option.some.inj h
      exact r_to (q' := .go (ref01_Same_M (.s1 a b (IntKind.i64.wrap (i + 1))))) (by kernel_rfl) ha
  · -- false
    refine adv_ok hm 6 _ ?_
    obtain rfl := Option.some.inj h
    have hv := ha
    simp only [After] at hv
    subst hv
    exact r_retF [] (d := D.bool true) (s := []) (by kernel_rfl) Cx.fin_of ⟨rfl, rfl⟩
theorem ref01_Same_ev {a : List Int} {b : List Int} {r : Bool} (h : Ev ref01_Same_step (.s0 a b) r) : Sound E 43 [D.sl false 1 (List.map (eInt .i64) a), D.sl false 1 (List.map (eInt .i64) b)] [] (ref01_Same_Q r) :=
  sound_ofW (m := ref01_Same_M (.s0 a b)) (fn := Tryd.f43) (by kernel_rfl) (by kernel_rfl) (ev_run (C := (Cx.of Tryd.f43 false 0)) (fun s x r hs ha => by
    cases s with
    | s0 => exact ref01_Same_0_ok hs ha
    | s1 => exact ref01_Same_1_ok hs ha) h)
noncomputable def ref01_Same (a : List Int) (b : List Int) : Option Bool := evf ref01_Same_step (.s0 a b)
theorem ref01_Same_ok {a : List Int} {b : List Int} {r : Bool} (h : ref01_Same a b = some r) : Sound E 43 [D.sl false 1 (List.map (eInt .i64) a), D.sl false 1 (List.map (eInt .i64) b)] [] (ref01_Same_Q r) := ref01_Same_ev (evf_ev h)
end Go.RX.L

set_option linter.unusedSimpArgs false
set_option linter.unusedVariables false
set_option maxRecDepth 100000
set_option maxHeartbeats 4000000
namespace Go.RX.L
open Go Go.RX Go.Proofs
attribute [local irreducible] FinQ
def ref04_Same_Q (y : Bool) (d : D) (s : Sto) : Prop := d = D.bool y ∧ s = []
inductive ref04_Same_S where
  | s0 (a : Plan) (b : Plan)
  | s1 (t82 : Bool) (a : Plan) (b : Plan)
  | s2 (i : Int) (a : Plan) (b : Plan)
noncomputable def ref04_Same_M : ref04_Same_S → M
  | .s0 a b => ⟨[.code (bodyOf Tryd.f33)], [(0, D.agg (Plan.enc a)), (1, D.agg (Plan.enc b))], []⟩
  | .s1 t82 a b => { td := [It.code (codeAt (bodyOf Tryd.f33) [1, 0, 1]), It.code (codeAt (bodyOf Tryd.f33) [1, 1])], fr := [(2, D.ptr 0 0 0), (3, D.ptr 1 0 0), (82, D.bool t82)], st := [some { sz := 12, deep := false, rows := [(Plan.enc a)] }, some { sz := 12, deep := false, rows := [(Plan.enc b)] }] }
  | .s2 i a b => { td := [It.lpc (codeAt (bodyOf Tryd.f33) [1, 1, 0, 1, 0, 0]) 44, It.blk 0, It.code (codeAt (bodyOf Tryd.f33) [1, 1, 1])], fr := [(2, D.ptr 0 0 0), (3, D.ptr 1 0 0), (5, D.int .i64 i)], st := [some { sz := 12, deep := false, rows := [(Plan.enc a)] }, some { sz := 12, deep := false, rows := [(Plan.enc b)] }] }
noncomputable def ref04_Same_0 (a : Plan) (b : Plan) : Option (ref04_Same_S ⊕ Bool) := (bif ((a.Epoch : Int) != b.Epoch) then (some (.inl (.s1 true a b))) else (bif ((a.Target : Int) != b.Target) then (some (.inl (.s1 true a b))) else (bif ((a.Prev : Int) != b.Prev) then (some (.inl (.s1 true a b))) else (bif ((a.Spill : Int) != b.Spill) then (some (.inl (.s1 true a b))) else (bif ((a.Percent : Int) != b.Percent) then (some (.inl (.s1 true a b))) else (bif ((a.Stamp : Int) != b.Stamp) then (some (.inl (.s1 true a b))) else (bif ((a.Since : Int) != b.Since) then (some (.inl (.s1 true a b))) else (bif ((a.Ramped : Int) != b.Ramped) then (some (.inl (.s1 true a b))) else (bif ((a.Up : Int) != b.Up) then (some (.inl (.s1 true a b))) else (bif ((a.Sup : Int) != b.Sup) then (some (.inl (.s1 true a b))) else (some (.inl (.s1 (((((List.map (eInt .i64) a.Pen).length : Nat) : Int) : Int) != (((List.map (eInt .i64) b.Pen).length : Nat) : Int)) a b)))))))))))))
noncomputable def ref04_Same_1 (t82 : Bool) (a : Plan) (b : Plan) : Option (ref04_Same_S ⊕ Bool) := (bif t82 then (some (.inr false)) else (some (.inl (.s2 0 a b))))
noncomputable def ref04_Same_2 (i : Int) (a : Plan) (b : Plan) : Option (ref04_Same_S ⊕ Bool) := (bif (decide ((i : Int) < (((List.map (eInt .i64) a.Pen).length : Nat) : Int))) then (bif ((decide ((0 : Int) ≤ i)) && (decide ((i : Int) < (((List.map (eInt .i64) a.Pen).length : Nat) : Int)))) then (((a.Pen)[i.toNat]?).bind fun y3 => (bif ((decide ((0 : Int) ≤ i)) && (decide ((i : Int) < (((List.map (eInt .i64) b.Pen).length : Nat) : Int)))) then (((b.Pen)[i.toNat]?).bind fun y6 => (bif ((y3 : Int) != y6) then (some (.inr false)) else (some (.inl (.s2 (IntKind.i64.wrap (i + 1)) a b))))) else none)) else none) else ((ref01_Same a.Changes b.Changes).bind fun y9 => (some (.inr y9))))
noncomputable def ref04_Same_step : ref04_Same_S → Option (ref04_Same_S ⊕ Bool)
  | .s0 a b => ref04_Same_0 a b
  | .s1 t82 a b => ref04_Same_1 t82 a b
  | .s2 i a b => ref04_Same_2 i a b
theorem ref04_Same_0_ok {a : Plan} {b : Plan} {r : Bool} {x : ref04_Same_S ⊕ Bool} (h : ref04_Same_0 a b = some x) (ha : After E (Cx.of Tryd.f33 false 0) ref04_Same_Q ref04_Same_M r x) : FinQ E (Cx.of Tryd.f33 false 0) (QW (ref04_Same_Q r)) (.go (ref04_Same_M (.s0 a b))) := by
  unfold ref04_Same_0 at h
  refine adv_ok hm 18 _ ?_
  refine p_split h (by kernel_rfl) (fun h1 h => ?_) (fun h1 h => ?_)
  · -- true
    refine adv_ok hm 132 _ ?_
    obtain rfl := Option.some.inj h
    exact r_cut 4835703278458516698824716 [] (m' := (ref04_Same_M (.s1 true a b))) (by kernel_rfl) ha
  · -- false
    refine adv_ok hm 14 _ ?_
    refine p_split h (by kernel_rfl) (fun h2 h => ?_) (fun h2 h => ?_)
    · -- true
      refine adv_ok hm 119 _ ?_
      obtain rfl := Option.some.inj h
      exact r_cut 4835703278458516698824716 [] (m' := (ref04_Same_M (.s1 true a b))) (by kernel_rfl) ha
    · -- false
      refine adv_ok hm 14 _ ?_
      refine p_split h (by kernel_rfl) (fun h3 h => ?_) (fun h3 h => ?_)
      · -- true
        refine adv_ok hm 106 _ ?_
        obtain rfl := Option.some.inj h
        exact r_cut 4835703278458516698824716 [] (m' := (ref04_Same_M (.s1 true a b))) (by kernel_rfl) ha
      · -- false
        refine adv_ok hm 14 _ ?_
        refine p_split h (by kernel_rfl) (fun h4 h => ?_) (fun h4 h => ?_)
        · -- true
          refine adv_ok hm 93 _ ?_
          obtain rfl := Option.some.inj h
          exact r_cut 4835703278458516698824716 [] (m' := (ref04_Same_M (.s1 true a b))) (by kernel_rfl) ha
        · -- false
          refine adv_ok hm 14 _ ?_
          refine p_split h (by kernel_rfl) (fun h5 h => ?_) (fun h5 h => ?_)
          · -- true
            refine adv_ok hm 80 _ ?_
            obtain rfl := Option.some.inj h
            exact r_cut 4835703278458516698824716 [] (m' := (ref04_Same_M (.s1 true a b))) (by kernel_rfl) ha
          · -- false
            refine adv_ok hm 14 _ ?_
            refine p_split h (by kernel_rfl) (fun h6 h => ?_) (fun h6 h => ?_)
            · -- true
              refine adv_ok hm 67 _ ?_
              obtain rfl := Option.some.inj h
              exact r_cut 4835703278458516698824716 [] (m' := (ref04_Same_M (.s1 true a b))) (by kernel_rfl) ha
            · -- false
              refine adv_ok hm 14 _ ?_
              refine p_split h (by kernel_rfl) (fun h7 h => ?_) (fun h7 h => ?_)
              · -- true
                refine adv_ok hm 54 _ ?_
                obtain rfl := Option.some.inj h
                exact r_cut 4835703278458516698824716 [] (m' := (ref04_Same_M (.s1 true a b))) (by kernel_rfl) ha
              · -- false
                refine adv_ok hm 14 _ ?_
                refine p_split h (by kernel_rfl) (fun h8 h => ?_) (fun h8 h => ?_)
                · -- true
                  refine adv_ok hm 41 _ ?_
                  obtain rfl := Option.some.inj h
                  exact r_cut 4835703278458516698824716 [] (m' := (ref04_Same_M (.s1 true a b))) (by kernel_rfl) ha
                · -- false
                  refine adv_ok hm 14 _ ?_
                  refine p_split h (by kernel_rfl) (fun h9 h => ?_) (fun h9 h => ?_)
                  · -- true
                    refine adv_ok hm 28 _ ?_
                    obtain rfl := Option.some.inj h
                    exact r_cut 4835703278458516698824716 [] (m' := (ref04_Same_M (.s1 true a b))) (by kernel_rfl) ha
                  · -- false
                    refine adv_ok hm 14 _ ?_
                    refine p_split h (by kernel_rfl) (fun h10 h => ?_) (fun h10 h => ?_)
                    · -- true
                      refine adv_ok hm 15 _ ?_
                      obtain rfl := Option.some.inj h
                      exact r_cut 4835703278458516698824716 [] (m' := (ref04_Same_M (.s1 true a b))) (by kernel_rfl) ha
                    · -- false
                      refine adv_ok hm 17 _ ?_
                      obtain rfl := Option.some.inj h
                      exact r_cut 4835703278458516698824716 [] (m' := (ref04_Same_M (.s1 (((((List.map (eInt .i64) a.Pen).length : Nat) : Int) : Int) != (((List.map (eInt .i64) b.Pen).length : Nat) : Int)) a b))) (by kernel_rfl) ha
theorem ref04_Same_1_ok {t82 : Bool} {a : Plan} {b : Plan} {r : Bool} {x : ref04_Same_S ⊕ Bool} (h : ref04_Same_1 t82 a b = some x) (ha : After E (Cx.of Tryd.f33 false 0) ref04_Same_Q ref04_Same_M r x) : FinQ E (Cx.of Tryd.f33 false 0) (QW (ref04_Same_Q r)) (.go (ref04_Same_M (.s1 t82 a b))) := by
  unfold ref04_Same_1 at h
  refine adv_ok hm 1 _ ?_
  refine p_split h (by kernel_rfl) (fun h1 h => ?_) (fun h1 h => ?_)
  · -- true
    refine adv_ok hm 5 _ ?_
    obtain rfl := Option.some.inj h
    have hv := ha
    simp only [After] at hv
    subst hv
    exact r_retF [] (d := D.bool false) (s := []) (by kernel_rfl) Cx.fin_of ⟨rfl, rfl⟩
  · -- false
    refine adv_ok hm 9 _ ?_
    obtain rfl := Option.some.inj h
    exact r_to (q' := .go (ref04_Same_M (.s2 0 a b))) (by kernel_rfl) ha
theorem ref04_Same_2_ok {i : Int} {a : Plan} {b : Plan} {r : Bool} {x : ref04_Same_S ⊕ Bool} (h : ref04_Same_2 i a b = some x) (ha : After E (Cx.of Tryd.f33 false 0) ref04_Same_Q ref04_Same_M r x) : FinQ E (Cx.of Tryd.f33 false 0) (QW (ref04_Same_Q r)) (.go (ref04_Same_M (.s2 i a b))) := by
  unfold ref04_Same_2 at h
  refine adv_ok hm 12 _ ?_
  refine p_split h (by kernel_rfl) (fun h1 h => ?_) (fun h1 h => ?_)
  · -- true
    refine adv_ok hm 6 _ ?_
    refine p_need h (by kernel_rfl) (fun h2 h => ?_)
    refine p_row (((List.map (eInt .i64) a.Pen))[i.toNat]?) (eInt .i64) h (by kernel_rfl) List.getElem?_map (fun y3 h4 h => ?_)
    refine adv_ok hm 1 _ ?_
    refine p_need h (by kernel_rfl) (fun h5 h => ?_)
    refine p_row (((List.map (eInt .i64) b.Pen))[i.toNat]?) (eInt .i64) h (by kernel_rfl) List.getElem?_map (fun y6 h7 h => ?_)
    refine adv_ok hm 1 _ ?_
    refine p_split h (by kernel_rfl) (fun h8 h => ?_) (fun h8 h => ?_)
    · -- true
      refine adv_ok hm 5 _ ?_
      obtain rfl := Option.some.inj h
      have hv := ha
      simp only [After] at hv
      subst hv
      exact r_retF [] (d := D.bool false) (s := []) (by kernel_rfl) Cx.fin_of ⟨rfl, rfl⟩
    · -- false
      refine adv_ok hm 8 _ ?_
      obtain rfl := Option.some.inj h
      exact r_to (q' := .go (ref04_Same_M (.s2 (IntKind.i64.wrap (i + 1)) a b))) (by kernel_rfl) ha
  · -- false
    refine adv_ok hm 10 _ ?_
    have ok9 := fun (y : Bool) (hy : ref01_Same a.Changes b.Changes = some y) => ref01_Same_ok hy
    refine p_callR [] h (by kernel_rfl) ok9 (fun y9 h9 h => ?_)
    refine adv_ok hm 3 _ ?_
    obtain rfl := Option.some.inj h
    have hv := ha
    simp only [After] at hv
    subst hv
    exact r_retF [] (d := D.bool y9) (s := []) (by kernel_rfl) Cx.fin_of ⟨rfl, rfl⟩
theorem ref04_Same_ev {a : Plan} {b : Plan} {r : Bool} (h : Ev ref04_Same_step (.s0 a b) r) : Sound E 33 [D.agg (Plan.enc a), D.agg (Plan.enc b)] [] (ref04_Same_Q r) :=
  sound_ofW (m := ref04_Same_M (.s0 a b)) (fn := Tryd.f33) (by kernel_rfl) (by kernel_rfl) (ev_run (C := (Cx.of Tryd.f33 false 0)) (fun s x r hs ha => by
    cases s with
    | s0 => exact ref04_Same_0_ok hs ha
    | s1 => exact ref04_Same_1_ok hs ha
    | s2 => exact ref04_Same_2_ok hs ha) h)
noncomputable def ref04_Same (a : Plan) (b : Plan) : Option Bool := evf ref04_Same_step (.s0 a b)
theorem ref04_Same_ok {a : Plan} {b : Plan} {r : Bool} (h : ref04_Same a b = some r) : Sound E 33 [D.agg (Plan.enc a), D.agg (Plan.enc b)] [] (ref04_Same_Q r) := ref04_Same_ev (evf_ev h)
end Go.RX.L

set_option linter.unusedSimpArgs false
set_option linter.unusedVariables false
namespace Go.RX.L
open Go Go.RX

def btw (lo hi : Int) (l : List Int) : Bool := l.all fun n => decide (lo ≤ n ∧ n ≤ hi)
theorem btw_cons (lo hi x : Int) (l : List Int) : btw lo hi (x :: l) = (decide (lo ≤ x ∧ x ≤ hi) && btw lo hi l) := rfl
theorem btw_iff {lo hi : Int} {l : List Int} : btw lo hi l = true ↔ ∀ x ∈ l, lo ≤ x ∧ x ≤ hi := by simp [btw]

theorem ix_loop (l : List Int) (lo hi : Int) (hl : l.length < 9223372036854775807) : ∀ (j k : Nat), k + j = l.length → ∃ r : Int, Ev slices_IndexFunc__all_1_step (.s1 l lo hi l.length k) r ∧ decide (r ≥ 0) = !(btw lo hi (l.drop k)) := by
  intro j
  induction j with
  | zero =>
    intro k hk
    refine ⟨-1, .done ?_, ?_⟩
    · simp [slices_IndexFunc__all_1_step, slices_IndexFunc__all_1_1, show ¬ (k : Int) < l.length by omega]
    · rw [List.drop_eq_nil_of_le (by omega)]; rfl
  | succ j ih =>
    intro k hk
    have hlt : k < l.length := by omega
    rw [List.drop_eq_getElem_cons hlt, btw_cons]
    by_cases h : lo ≤ l[k] ∧ l[k] ≤ hi
    · obtain ⟨r, h1, h2⟩ := ih (k + 1) (by omega)
      refine ⟨r, .next (s' := .s1 l lo hi l.length ((k + 1 : Nat) : Int)) ?_ h1, ?_⟩
      · have e1 : decide (l[k] < lo) = false := by simp; omega
        have e2 : decide (l[k] > hi) = false := by simp; omega
        simp only [slices_IndexFunc__all_1_step, slices_IndexFunc__all_1_1, List.length_map, ltB hlt, le0, Bool.and_self, cond_true, Int.toNat_natCast, List.getE hlt, Option.bind_some, plan_all_1, e1, e2, cond_false, wS (show k < 9223372036854775807 by omega)]
      · rw [h2, decide_eq_true h, Bool.true_and]
    · refine ⟨k, .done ?_, ?_⟩
      · have e : plan_all_1 l[k] lo hi = some true := by
          unfold plan_all_1
          by_cases h1 : l[k] < lo
          · rw [decide_eq_true h1]; rfl
          · have h2 : l[k] > hi := by omega
            rw [decide_eq_false h1, decide_eq_true h2]; rfl
        simp only [slices_IndexFunc__all_1_step, slices_IndexFunc__all_1_1, List.length_map, ltB hlt, le0, Bool.and_self, cond_true, Int.toNat_natCast, List.getE hlt, Option.bind_some, e]
      · rw [decide_eq_false h, Bool.false_and]; simp

theorem all_ok (lo hi : Int) {l : List Int} (hl : l.length < 9223372036854775807) : plan_all lo hi l = some (btw lo hi l) := by
  obtain ⟨r, h1, h2⟩ := ix_loop l lo hi hl l.length 0 (by omega)
  have h3 : slices_IndexFunc__all_1 l lo hi = some r := evf_of (.next (s' := .s1 l lo hi l.length 0) (by simp [slices_IndexFunc__all_1_step, slices_IndexFunc__all_1_0]) h1)
  simp only [plan_all, slices_ContainsFunc__all_1, h3, Option.bind_some, h2]
  simp

theorem ix_v2_loop (l : List Int) (lo hi : Int) (hl : l.length < 9223372036854775807) : ∀ (j k : Nat), k + j = l.length → ∃ r : Int, Ev slices_IndexFunc__all_1_v2_step (.s1 l lo hi l.length k) r ∧ decide (r ≥ 0) = !(btw lo hi (l.drop k)) := by
  intro j
  induction j with
  | zero =>
    intro k hk
    refine ⟨-1, .done ?_, ?_⟩
    · simp [slices_IndexFunc__all_1_v2_step, slices_IndexFunc__all_1_v2_1, show ¬ (k : Int) < l.length by omega]
    · rw [List.drop_eq_nil_of_le (by omega)]; rfl
  | succ j ih =>
    intro k hk
    have hlt : k < l.length := by omega
    rw [List.drop_eq_getElem_cons hlt, btw_cons]
    by_cases h : lo ≤ l[k] ∧ l[k] ≤ hi
    · obtain ⟨r, h1, h2⟩ := ih (k + 1) (by omega)
      refine ⟨r, .next (s' := .s1 l lo hi l.length ((k + 1 : Nat) : Int)) ?_ h1, ?_⟩
      · have e1 : decide (l[k] < lo) = false := by simp; omega
        have e2 : decide (l[k] > hi) = false := by simp; omega
        simp only [slices_IndexFunc__all_1_v2_step, slices_IndexFunc__all_1_v2_1, List.length_map, ltB hlt, le0, Bool.and_self, cond_true, Int.toNat_natCast, List.getE hlt, Option.bind_some, plan_all_1_v2, e1, e2, cond_false, wS (show k < 9223372036854775807 by omega)]
      · rw [h2, decide_eq_true h, Bool.true_and]
    · refine ⟨k, .done ?_, ?_⟩
      · have e : plan_all_1_v2 l[k] lo hi = some true := by
          unfold plan_all_1_v2
          by_cases h1 : l[k] < lo
          · rw [decide_eq_true h1]; rfl
          · have h2 : l[k] > hi := by omega
            rw [decide_eq_false h1, decide_eq_true h2]; rfl
        simp only [slices_IndexFunc__all_1_v2_step, slices_IndexFunc__all_1_v2_1, List.length_map, ltB hlt, le0, Bool.and_self, cond_true, Int.toNat_natCast, List.getE hlt, Option.bind_some, e]
      · rw [decide_eq_false h, Bool.false_and]; simp

theorem all_v2_ok (lo hi : Int) {l : List Int} (hl : l.length < 9223372036854775807) : plan_all_v2 lo hi l = some (btw lo hi l) := by
  obtain ⟨r, h1, h2⟩ := ix_v2_loop l lo hi hl l.length 0 (by omega)
  have h3 : slices_IndexFunc__all_1_v2 l lo hi = some r := evf_of (.next (s' := .s1 l lo hi l.length 0) (by simp [slices_IndexFunc__all_1_v2_step, slices_IndexFunc__all_1_v2_0]) h1)
  simp only [plan_all_v2, slices_ContainsFunc__all_1_v2, h3, Option.bind_some, h2]
  simp

theorem eq_loop (a b : List Int) (hl : a.length < 9223372036854775807) (hab : a.length = b.length) : ∀ (j k : Nat), k + j = a.length → Ev slices_Equal_step (.s1 a b a.length k) (decide (a.drop k = b.drop k)) := by
  intro j
  induction j with
  | zero =>
    intro k hk
    refine .done ?_
    rw [List.drop_eq_nil_of_le (by omega), List.drop_eq_nil_of_le (by omega)]
    simp [slices_Equal_step, slices_Equal_1, show ¬ (k : Int) < a.length by omega]
  | succ j ih =>
    intro k hk
    have h1 : k < a.length := by omega
    have h2 : k < b.length := by omega
    rw [List.drop_eq_getElem_cons h1, List.drop_eq_getElem_cons h2]
    by_cases h : a[k] = b[k]
    · refine .next (s' := .s1 a b a.length ((k + 1 : Nat) : Int)) ?_ ?_
      · have e : (a[k] != b[k]) = false := by simp [h]
        simp only [slices_Equal_step, slices_Equal_1, List.length_map, ltB h1, ltB h2, le0, Bool.and_self, cond_true, Int.toNat_natCast, List.getE h1, List.getE h2, Option.bind_some, e, cond_false, wS (show k < 9223372036854775807 by omega)]
      · rw [show (decide (a[k] :: a.drop (k + 1) = b[k] :: b.drop (k + 1))) = decide (a.drop (k + 1) = b.drop (k + 1)) by simp only [h, List.cons.injEq, true_and]]
        exact ih (k + 1) (by omega)
    · refine .done ?_
      have e : (a[k] != b[k]) = true := by simp [h]
      simp only [slices_Equal_step, slices_Equal_1, List.length_map, ltB h1, ltB h2, le0, Bool.and_self, cond_true, Int.toNat_natCast, List.getE h1, List.getE h2, Option.bind_some, e]
      rw [show (decide (a[k] :: a.drop (k + 1) = b[k] :: b.drop (k + 1))) = false by simp only [h, List.cons.injEq, false_and, decide_false]]

theorem equal_ok {a b : List Int} (hl : a.length < 9223372036854775807) : slices_Equal a b = some (decide (a = b)) := by
  by_cases hab : a.length = b.length
  · refine evf_of (.next (s' := .s1 a b a.length 0) (by simp [slices_Equal_step, slices_Equal_0, hab]) ?_)
    simpa using eq_loop a b hl hab a.length 0 (by omega)
  · refine evf_of (.done ?_)
    have e : (((a.length : Nat) : Int) != ((b.length : Nat) : Int)) = true := by simp; omega
    have hne : a ≠ b := fun h => hab (by rw [h])
    simp [slices_Equal_step, slices_Equal_0, e, hne]

theorem eq_v2_loop (a b : List Int) (hl : a.length < 9223372036854775807) (hab : a.length = b.length) : ∀ (j k : Nat), k + j = a.length → Ev slices_Equal_v2_step (.s1 a b a.length k) (decide (a.drop k = b.drop k)) := by
  intro j
  induction j with
  | zero =>
    intro k hk
    refine .done ?_
    rw [List.drop_eq_nil_of_le (by omega), List.drop_eq_nil_of_le (by omega)]
    simp [slices_Equal_v2_step, slices_Equal_v2_1, show ¬ (k : Int) < a.length by omega]
  | succ j ih =>
    intro k hk
    have h1 : k < a.length := by omega
    have h2 : k < b.length := by omega
    rw [List.drop_eq_getElem_cons h1, List.drop_eq_getElem_cons h2]
    by_cases h : a[k] = b[k]
    · refine .next (s' := .s1 a b a.length ((k + 1 : Nat) : Int)) ?_ ?_
      · have e : (a[k] != b[k]) = false := by simp [h]
        simp only [slices_Equal_v2_step, slices_Equal_v2_1, List.length_map, ltB h1, ltB h2, le0, Bool.and_self, cond_true, Int.toNat_natCast, List.getE h1, List.getE h2, Option.bind_some, e, cond_false, wS (show k < 9223372036854775807 by omega)]
      · rw [show (decide (a[k] :: a.drop (k + 1) = b[k] :: b.drop (k + 1))) = decide (a.drop (k + 1) = b.drop (k + 1)) by simp only [h, List.cons.injEq, true_and]]
        exact ih (k + 1) (by omega)
    · refine .done ?_
      have e : (a[k] != b[k]) = true := by simp [h]
      simp only [slices_Equal_v2_step, slices_Equal_v2_1, List.length_map, ltB h1, ltB h2, le0, Bool.and_self, cond_true, Int.toNat_natCast, List.getE h1, List.getE h2, Option.bind_some, e]
      rw [show (decide (a[k] :: a.drop (k + 1) = b[k] :: b.drop (k + 1))) = false by simp only [h, List.cons.injEq, false_and, decide_false]]

theorem equal_v2_ok {a b : List Int} (hl : a.length < 9223372036854775807) : slices_Equal_v2 a b = some (decide (a = b)) := by
  by_cases hab : a.length = b.length
  · refine evf_of (.next (s' := .s1 a b a.length 0) (by simp [slices_Equal_v2_step, slices_Equal_v2_0, hab]) ?_)
    simpa using eq_v2_loop a b hl hab a.length 0 (by omega)
  · refine evf_of (.done ?_)
    have e : (((a.length : Nat) : Int) != ((b.length : Nat) : Int)) = true := by simp; omega
    have hne : a ≠ b := fun h => hab (by rw [h])
    simp [slices_Equal_v2_step, slices_Equal_v2_0, e, hne]

/-- The first n steps do not fall. -/
def srtB (l : List Int) (n : Nat) : Bool := (List.range n).all fun i => decide (l.getD i 0 ≤ l.getD (i + 1) 0)
def srt (l : List Int) : Bool := srtB l (l.length - 1)
theorem srtB_succ (l : List Int) (n : Nat) : srtB l (n + 1) = (srtB l n && decide (l.getD n 0 ≤ l.getD (n + 1) 0)) := by
  simp [srtB, List.range_succ, Bool.and_comm]

theorem sorted_loop (l : List Int) (hl : l.length < 9223372036854775807) : ∀ (i : Nat), i < l.length ∨ i = 0 → Ev slices_IsSorted_step (.s1 l i) (srtB l i)
  | 0, _ => .done (by simp [slices_IsSorted_step, slices_IsSorted_1, srtB])
  | i + 1, h => by
    have h1 : i + 1 < l.length := by omega
    have h0 : i < l.length := by omega
    have e0 : decide (((i + 1 : Nat) : Int) > 0) = true := decide_eq_true (by omega)
    have e1 : IntKind.i64.wrap (((i + 1 : Nat) : Int) - 1) = (i : Int) := by rw [wI64 (by omega) (by omega)]; omega
    have less : ∀ x y : Int, cmp_Less x y = some (decide (x < y)) := fun x y => by
      simp only [cmp_Less, cmp_isNaN, Option.bind_some]
      simp
    rw [srtB_succ]
    have g1 : l.getD i 0 = l[i] := by simp [h0]
    have g2 : l.getD (i + 1) 0 = l[i + 1] := by simp [h1]
    rw [g1, g2]
    by_cases hle : l[i] ≤ l[i + 1]
    · rw [decide_eq_true hle, Bool.and_true]
      refine .next (s' := .s1 l i) ?_ (sorted_loop l hl i (.inl h0))
      have e2 : decide (l[i + 1] < l[i]) = false := by simp; omega
      simp only [slices_IsSorted_step, slices_IsSorted_1, List.length_map, e0, e1, ltB h0, ltB h1, le0, Bool.and_self, cond_true, Int.toNat_natCast, List.getE h0, List.getE h1, Option.bind_some, less, e2, cond_false]
    · rw [decide_eq_false hle, Bool.and_false]
      refine .done ?_
      have e2 : decide (l[i + 1] < l[i]) = true := by simp; omega
      simp only [slices_IsSorted_step, slices_IsSorted_1, List.length_map, e0, e1, ltB h0, ltB h1, le0, Bool.and_self, cond_true, Int.toNat_natCast, List.getE h0, List.getE h1, Option.bind_some, less, e2]

theorem sorted_ok {l : List Int} (hl : l.length < 9223372036854775807) : slices_IsSorted l = some (srt l) := by
  by_cases h0 : l.length = 0
  · have : l = [] := List.eq_nil_of_length_eq_zero h0
    subst this
    refine evf_of (.next (s' := .s1 [] (-1)) (by simp [slices_IsSorted_step, slices_IsSorted_0]; rfl) (.done (by simp [slices_IsSorted_step, slices_IsSorted_1, srt, srtB])))
  · refine evf_of (.next (s' := .s1 l ((l.length - 1 : Nat) : Int)) ?_ (sorted_loop l hl (l.length - 1) (.inl (by omega))))
    have : IntKind.i64.wrap ((l.length : Int) - 1) = ((l.length - 1 : Nat) : Int) := by rw [wI64 (by omega) (by omega)]; omega
    simp [slices_IsSorted_step, slices_IsSorted_0, this]

/-! ### right -/
def right0 (p : Plan) : Bool := decide (0 ≤ p.Epoch) && (btw (-1) 15 [p.Target, p.Prev, p.Spill] && btw 0 100 [p.Percent])
def right1 (p : Plan) : Bool := btw 0 1099511627776 [p.Stamp, p.Since, p.Ramped] && (decide (p.Up ≤ 65535) && decide (p.Sup ≤ 65535))
def right2 (p : Plan) : Bool := decide (p.Pen.length ≤ 16) && decide (p.Changes.length ≤ 8)
def right3 (p : Plan) : Bool := btw 0 1000000 p.Pen && (btw 0 1099511627776 p.Changes && srt p.Changes)
/-- May it be a plan? -/
def rightP (p : Plan) : Bool := right0 p && (right1 p && (right2 p && right3 p))

structure Rt (p : Plan) : Prop where
  epoch : 0 ≤ p.Epoch
  tps : ∀ x ∈ [p.Target, p.Prev, p.Spill], -1 ≤ x ∧ x ≤ 15
  pc : 0 ≤ p.Percent ∧ p.Percent ≤ 100
  times : ∀ x ∈ [p.Stamp, p.Since, p.Ramped], 0 ≤ x ∧ x ≤ 1099511627776
  up : p.Up ≤ 65535
  sup : p.Sup ≤ 65535
  penl : p.Pen.length ≤ 16
  chl : p.Changes.length ≤ 8
  pen : ∀ x ∈ p.Pen, 0 ≤ x ∧ x ≤ 1000000
  ch : ∀ x ∈ p.Changes, 0 ≤ x ∧ x ≤ 1099511627776
  srt : srt p.Changes = true

theorem rightP_iff {p : Plan} : rightP p = true ↔ Rt p := by
  constructor
  · intro h
    simp only [rightP, right0, right1, right2, right3, Bool.and_eq_true, decide_eq_true_eq, btw_iff] at h
    obtain ⟨⟨a1, a2, a3⟩, ⟨b1, b2, b3⟩, ⟨c1, c2⟩, d1, d2, d3⟩ := h
    exact ⟨a1, a2, a3 _ (by simp), b1, b2, b3, c1, c2, d1, d2, d3⟩
  · rintro ⟨a1, a2, a3, b1, b2, b3, c1, c2, d1, d2, d3⟩
    simp only [rightP, right0, right1, right2, right3, Bool.and_eq_true, decide_eq_true_eq, btw_iff]
    exact ⟨⟨a1, a2, fun x hx => by simp at hx; subst hx; exact a3⟩, ⟨b1, b2, b3⟩, ⟨c1, c2⟩, d1, d2, d3⟩

/-- Short enough. -/
structure Shrt (a : Plan) : Prop where
  pen : a.Pen.length < 9223372036854775807
  ch : a.Changes.length < 9223372036854775807
theorem short {l : List Int} (h : l.length * 8 ≤ reachBytes) : l.length < 9223372036854775807 := by
  have : reachBytes ≤ 9223372036854775807 := by decide
  omega
theorem Plan.Ok.shrt {a : Plan} (h : a.Ok) : Shrt a := by
  obtain ⟨-, -, -, -, -, -, -, -, -, -, h1, h2⟩ := h
  exact ⟨short h1.1, short h2.1⟩
theorem Rt.shrt {p : Plan} (h : Rt p) : Shrt p := ⟨by have := h.penl; omega, by have := h.chl; omega⟩

theorem right_ok {p : Plan} (hs : Shrt p) (hu : 0 ≤ p.Up) (hv : 0 ≤ p.Sup) : plan_Right p = some (rightP p) := by
  have k1 : plan_Right_1 false p = some (right3 p) := by
    simp only [plan_Right_1, cond_false, all_v2_ok 0 1000000 hs.pen, all_ok 0 1099511627776 hs.ch, sorted_ok hs.ch, Option.bind_some, right3]
    cases btw 0 1000000 p.Pen <;> cases btw 0 1099511627776 p.Changes <;> cases srt p.Changes <;> rfl
  have k2 : plan_Right_2 false p = some (right2 p && right3 p) := by
    simp only [plan_Right_2, cond_false, List.length_map, right2]
    by_cases h1 : p.Pen.length ≤ 16
    · have e1 : decide (((p.Pen.length : Nat) : Int) > 16) = false := by simp; omega
      rw [e1, decide_eq_true h1]
      by_cases h2 : p.Changes.length ≤ 8
      · have e2 : decide (((p.Changes.length : Nat) : Int) > 8) = false := by simp; omega
        rw [e2, decide_eq_true h2, cond_false, k1]; rfl
      · have e2 : decide (((p.Changes.length : Nat) : Int) > 8) = true := by simp; omega
        rw [e2, decide_eq_false h2]; rfl
    · have e1 : decide (((p.Pen.length : Nat) : Int) > 16) = true := by simp; omega
      rw [e1, decide_eq_false h1]; rfl
  have k3 : plan_Right_3 false p = some (right1 p && (right2 p && right3 p)) := by
    simp only [plan_Right_3, cond_false, all_ok 0 1099511627776 (l := [p.Stamp, p.Since, p.Ramped]) (by simp), Option.bind_some, right1]
    cases hb : btw 0 1099511627776 [p.Stamp, p.Since, p.Ramped] with
    | false => rfl
    | true =>
      have e : decide (mxI p.Up p.Sup ≥ 65536) = !(decide (p.Up ≤ 65535) && decide (p.Sup ≤ 65535)) := by
        unfold mxI
        by_cases h1 : p.Up ≤ 65535 <;> by_cases h2 : p.Sup ≤ 65535 <;> simp [h1, h2] <;> split <;> omega
      simp only [Bool.not_true, cond_false, e]
      cases (decide (p.Up ≤ 65535) && decide (p.Sup ≤ 65535)) with
      | false => rfl
      | true => simp only [Bool.not_true, k2]; rfl
  simp only [plan_Right, rightP, right0]
  by_cases h0 : p.Epoch < 0
  · rw [decide_eq_true h0, decide_eq_false (by omega : ¬ 0 ≤ p.Epoch)]; rfl
  · rw [decide_eq_false h0, decide_eq_true (by omega : 0 ≤ p.Epoch)]
    simp only [cond_false, all_v2_ok (-1) 15 (l := [p.Target, p.Prev, p.Spill]) (by simp), all_v2_ok 0 100 (l := [p.Percent]) (by simp), Option.bind_some]
    cases btw (-1) 15 [p.Target, p.Prev, p.Spill] with
    | false => rfl
    | true =>
      cases btw 0 100 [p.Percent] with
      | false => rfl
      | true => simp only [Bool.not_true, cond_false, k3]; rfl

theorem in_ok (n lo hi : Int) : ref04_in n lo hi = some (decide (lo ≤ n ∧ n ≤ hi)) := by
  unfold ref04_in
  by_cases h : n ≥ lo
  · by_cases h2 : n ≤ hi
    · rw [decide_eq_true h, decide_eq_true h2, decide_eq_true ⟨h, h2⟩]; rfl
    · rw [decide_eq_true h, decide_eq_false h2, decide_eq_false (p := lo ≤ n ∧ n ≤ hi) (by omega)]; rfl
  · rw [decide_eq_false h, decide_eq_false (p := lo ≤ n ∧ n ≤ hi) (by omega)]; rfl

theorem rpen_loop {p : Plan} (hs : Shrt p) {r : Bool} (h4 : Ev ref04_Right_step (.s4 0 p) r) : ∀ (j k : Nat), k + j = p.Pen.length → Ev ref04_Right_step (.s3 k p) (btw 0 1000000 (p.Pen.drop k) && r) := by
  intro j
  induction j with
  | zero =>
    intro k hk
    rw [List.drop_eq_nil_of_le (by omega)]
    refine .next (s' := .s4 0 p) ?_ h4
    simp only [ref04_Right_step, ref04_Right_3, List.length_map, geB (show p.Pen.length ≤ k by omega), cond_false]
  | succ j ih =>
    intro k hk
    have hlt : k < p.Pen.length := by omega
    have := hs.pen
    rw [List.drop_eq_getElem_cons hlt, btw_cons]
    by_cases h1 : p.Pen[k] < 0
    · rw [decide_eq_false (by omega), Bool.false_and, Bool.false_and]
      refine .done ?_
      simp only [ref04_Right_step, ref04_Right_3, List.length_map, ltB hlt, le0, Bool.and_self, cond_true, Int.toNat_natCast, List.getE hlt, Option.bind_some, decide_eq_true h1]
    · by_cases h2 : p.Pen[k] > 1000000
      · rw [decide_eq_false (by omega), Bool.false_and, Bool.false_and]
        refine .done ?_
        simp only [ref04_Right_step, ref04_Right_3, List.length_map, ltB hlt, le0, Bool.and_self, cond_true, Int.toNat_natCast, List.getE hlt, Option.bind_some, decide_eq_false h1, cond_false, decide_eq_true h2]
      · rw [decide_eq_true (by omega), Bool.true_and]
        refine .next (s' := .s3 ((k + 1 : Nat) : Int) p) ?_ (ih (k + 1) (by omega))
        simp only [ref04_Right_step, ref04_Right_3, List.length_map, ltB hlt, le0, Bool.and_self, cond_true, Int.toNat_natCast, List.getE hlt, Option.bind_some, decide_eq_false h1, cond_false, decide_eq_false h2, wS (show k < 9223372036854775807 by omega)]

/-- From place k on: all between, and none falls. -/
def chk (l : List Int) : Nat → Nat → Bool
  | _, 0 => true
  | k, j + 1 => decide (0 ≤ l.getD k 0 ∧ l.getD k 0 ≤ 1099511627776) && ((decide (k = 0) || decide (l.getD (k - 1) 0 ≤ l.getD k 0)) && chk l (k + 1) j)

theorem rch_loop {p : Plan} (hs : Shrt p) : ∀ (j k : Nat), k + j = p.Changes.length → Ev ref04_Right_step (.s4 k p) (chk p.Changes k j) := by
  intro j
  have hl := hs.ch
  induction j with
  | zero =>
    intro k hk
    refine .done ?_
    simp only [ref04_Right_step, ref04_Right_4, List.length_map, geB (show p.Changes.length ≤ k by omega), cond_false, chk]
  | succ j ih =>
    intro k hk
    have hlt : k < p.Changes.length := by omega
    have g : p.Changes.getD k 0 = p.Changes[k] := by simp [hlt]
    simp only [chk, g]
    by_cases h1 : 0 ≤ p.Changes[k] ∧ p.Changes[k] ≤ 1099511627776
    · rw [decide_eq_true h1, Bool.true_and]
      have hin : ref04_in p.Changes[k] 0 1099511627776 = some true := by rw [in_ok, decide_eq_true h1]
      cases k with
      | zero =>
        simp only [decide_true, Bool.true_or, Bool.true_and]
        refine .next (s' := .s4 ((0 + 1 : Nat) : Int) p) ?_ (ih 1 (by omega))
        have := ltB hlt
        simp only [ref04_Right_step, ref04_Right_4, List.length_map, ltB hlt, le0, Bool.and_self, cond_true, Int.toNat_natCast, List.getE hlt, Option.bind_some, hin, Bool.not_true, cond_false, wS (show 0 < 9223372036854775807 by omega)]
        rfl
      | succ k =>
        have hk0 : k < p.Changes.length := by omega
        have e0 : decide (((k + 1 : Nat) : Int) > 0) = true := decide_eq_true (by omega)
        have e1 : IntKind.i64.wrap (((k + 1 : Nat) : Int) - 1) = (k : Int) := by rw [wI64 (by omega) (by omega)]; omega
        have g0 : p.Changes.getD (k + 1 - 1) 0 = p.Changes[k] := by simp [hk0]
        rw [g0, decide_eq_false (by omega : ¬ k + 1 = 0), Bool.false_or]
        by_cases h2 : p.Changes[k] ≤ p.Changes[k + 1]
        · rw [decide_eq_true h2, Bool.true_and]
          refine .next (s' := .s4 ((k + 1 + 1 : Nat) : Int) p) ?_ (ih (k + 2) (by omega))
          have e2 : decide (p.Changes[k] > p.Changes[k + 1]) = false := by simp; omega
          simp only [ref04_Right_step, ref04_Right_4, List.length_map, ltB hlt, ltB hk0, le0, Bool.and_self, cond_true, Int.toNat_natCast, List.getE hlt, List.getE hk0, Option.bind_some, hin, Bool.not_true, cond_false, e0, e1, e2, wS (show k + 1 < 9223372036854775807 by omega)]
        · rw [decide_eq_false h2, Bool.false_and]
          refine .done ?_
          have e2 : decide (p.Changes[k] > p.Changes[k + 1]) = true := by simp; omega
          simp only [ref04_Right_step, ref04_Right_4, List.length_map, ltB hlt, ltB hk0, le0, Bool.and_self, cond_true, Int.toNat_natCast, List.getE hlt, List.getE hk0, Option.bind_some, hin, Bool.not_true, cond_false, e0, e1, e2]
    · rw [decide_eq_false h1, Bool.false_and]
      refine .done ?_
      have hin : ref04_in p.Changes[k] 0 1099511627776 = some false := by rw [in_ok, decide_eq_false h1]
      simp only [ref04_Right_step, ref04_Right_4, List.length_map, ltB hlt, le0, Bool.and_self, cond_true, Int.toNat_natCast, List.getE hlt, Option.bind_some, hin, Bool.not_false]

theorem chk_iff {l : List Int} : ∀ (j k : Nat), k + j = l.length → (chk l k j = true ↔ (∀ x ∈ l.drop k, 0 ≤ x ∧ x ≤ 1099511627776) ∧ ∀ i, k ≤ i → 0 < i → i < l.length → l.getD (i - 1) 0 ≤ l.getD i 0)
  | 0, k, hk => by
    rw [List.drop_eq_nil_of_le (by omega)]
    simp only [chk, true_iff]
    exact ⟨fun x hx => by simp at hx, fun i h1 h2 h3 => by omega⟩
  | j + 1, k, hk => by
    have hlt : k < l.length := by omega
    have ih := chk_iff (l := l) j (k + 1) (by omega)
    have g : l.getD k 0 = l[k] := by simp [hlt]
    simp only [chk, Bool.and_eq_true, Bool.or_eq_true, decide_eq_true_eq, ih]
    rw [List.drop_eq_getElem_cons hlt, g]
    constructor
    · rintro ⟨h1, h2, h3, h4⟩
      refine ⟨fun x hx => ?_, fun i i1 i2 i3 => ?_⟩
      · rcases List.mem_cons.1 hx with rfl | hx
        · exact h1
        · exact h3 x hx
      · rcases Nat.lt_or_ge k i with h | h
        · exact h4 i h i2 i3
        · have : i = k := by omega
          subst this
          rw [g]
          exact h2.resolve_left (by omega)
    · rintro ⟨h1, h2⟩
      refine ⟨h1 _ (List.mem_cons_self ..), ?_, fun x hx => h1 x (List.mem_cons_of_mem _ hx), fun i i1 i2 i3 => h2 i (by omega) i2 i3⟩
      rcases Nat.eq_zero_or_pos k with h | h
      · exact .inl h
      · have := h2 k (Nat.le_refl _) h hlt
        rw [g] at this
        exact .inr this

theorem srt_iff {l : List Int} : srt l = true ↔ ∀ i, 0 < i → i < l.length → l.getD (i - 1) 0 ≤ l.getD i 0 := by
  simp only [srt, srtB, List.all_eq_true, List.mem_range, decide_eq_true_eq]
  constructor
  · intro h i h1 h2
    have := h (i - 1) (by omega)
    rwa [show i - 1 + 1 = i by omega] at this
  · intro h i hi
    have := h (i + 1) (by omega) (by omega)
    simpa using this

theorem chk_all (l : List Int) : chk l 0 l.length = (btw 0 1099511627776 l && srt l) := by
  have h1 := chk_iff (l := l) l.length 0 (by omega)
  rw [Bool.eq_iff_iff, h1, Bool.and_eq_true, btw_iff, srt_iff]
  simp only [List.drop_zero, Nat.zero_le, true_implies]

theorem rright_ok {p : Plan} (hs : Shrt p) : ref04_Right p = some (rightP p) := by
  have h4 := rch_loop hs p.Changes.length 0 (by omega)
  rw [chk_all] at h4
  have h3 := rpen_loop hs h4 p.Pen.length 0 (by omega)
  rw [List.drop_zero] at h3
  have h2 : Ev ref04_Right_step (.s2 (!(right2 p)) p) (right2 p && right3 p) := by
    cases hr : right2 p with
    | false => exact .done rfl
    | true => exact .next (s' := .s3 0 p) rfl h3
  have h2t : Ev ref04_Right_step (.s2 true p) false := .done rfl
  have h1 : Ev ref04_Right_step (.s1 false p) (right1 p && (right2 p && right3 p)) := by
    simp only [right1, btw_cons]
    by_cases c1 : 0 ≤ p.Stamp ∧ p.Stamp ≤ 1099511627776
    · rw [decide_eq_true c1]
      by_cases c2 : 0 ≤ p.Since ∧ p.Since ≤ 1099511627776
      · rw [decide_eq_true c2]
        by_cases c3 : 0 ≤ p.Ramped ∧ p.Ramped ≤ 1099511627776
        · rw [decide_eq_true c3]
          by_cases c4 : p.Up ≤ 65535
          · rw [decide_eq_true c4]
            have d4 : decide (p.Up > 65535) = false := by simp; omega
            by_cases c5 : p.Sup ≤ 65535
            · rw [decide_eq_true c5]
              have d5 : decide (p.Sup > 65535) = false := by simp; omega
              refine .next (s' := .s2 (!(right2 p)) p) ?_ (by simpa [btw] using h2)
              simp only [ref04_Right_step, ref04_Right_1, cond_false, in_ok, decide_eq_true c1, decide_eq_true c2, decide_eq_true c3, Option.bind_some, Bool.not_true, d4, d5, List.length_map, right2]
              by_cases c6 : p.Pen.length ≤ 16
              · have d6 : decide (((p.Pen.length : Nat) : Int) > 16) = false := by simp; omega
                rw [d6, decide_eq_true c6]
                have d7 : decide (((p.Changes.length : Nat) : Int) > 8) = !(decide (p.Changes.length ≤ 8)) := by
                  by_cases c7 : p.Changes.length ≤ 8 <;> simp [c7] <;> omega
                rw [d7]; rfl
              · have d6 : decide (((p.Pen.length : Nat) : Int) > 16) = true := by simp; omega
                rw [d6, decide_eq_false c6]; rfl
            · rw [decide_eq_false c5]
              have d5 : decide (p.Sup > 65535) = true := by simp; omega
              refine .next (s' := .s2 true p) ?_ (by simpa [btw] using h2t)
              simp only [ref04_Right_step, ref04_Right_1, cond_false, in_ok, decide_eq_true c1, decide_eq_true c2, decide_eq_true c3, Option.bind_some, Bool.not_true, d4, d5, cond_true]
          · rw [decide_eq_false c4]
            have d4 : decide (p.Up > 65535) = true := by simp; omega
            refine .next (s' := .s2 true p) ?_ (by simpa [btw] using h2t)
            simp only [ref04_Right_step, ref04_Right_1, cond_false, in_ok, decide_eq_true c1, decide_eq_true c2, decide_eq_true c3, Option.bind_some, Bool.not_true, d4, cond_true]
        · rw [decide_eq_false c3]
          refine .next (s' := .s2 true p) ?_ (by simpa [btw] using h2t)
          simp only [ref04_Right_step, ref04_Right_1, cond_false, in_ok, decide_eq_true c1, decide_eq_true c2, decide_eq_false c3, Option.bind_some, Bool.not_true, Bool.not_false, cond_true]
      · rw [decide_eq_false c2]
        refine .next (s' := .s2 true p) ?_ (by simpa [btw] using h2t)
        simp only [ref04_Right_step, ref04_Right_1, cond_false, in_ok, decide_eq_true c1, decide_eq_false c2, Option.bind_some, Bool.not_true, Bool.not_false, cond_true]
    · rw [decide_eq_false c1]
      refine .next (s' := .s2 true p) ?_ (by simpa [btw] using h2t)
      simp only [ref04_Right_step, ref04_Right_1, cond_false, in_ok, decide_eq_false c1, Option.bind_some, Bool.not_false, cond_true]
  have h1t : Ev ref04_Right_step (.s1 true p) false := .done rfl
  have h0 : ref04_Right_step (.s0 p) = some (.inl (.s1 (!(right0 p)) p)) := by
    simp only [ref04_Right_step, ref04_Right_0, right0, btw_cons]
    by_cases c0 : p.Epoch < 0
    · rw [decide_eq_true c0, decide_eq_false (by omega : ¬ 0 ≤ p.Epoch)]; rfl
    rw [decide_eq_false c0, decide_eq_true (by omega : 0 ≤ p.Epoch)]
    by_cases c1 : p.Target < -1
    · rw [decide_eq_true c1, decide_eq_false (by omega : ¬ (-1 ≤ p.Target ∧ p.Target ≤ 15))]; rfl
    rw [decide_eq_false c1]
    by_cases c2 : p.Target ≥ 16
    · rw [decide_eq_true c2, decide_eq_false (by omega : ¬ (-1 ≤ p.Target ∧ p.Target ≤ 15))]; rfl
    rw [decide_eq_false c2, decide_eq_true (by omega : -1 ≤ p.Target ∧ p.Target ≤ 15)]
    by_cases c3 : p.Prev < -1
    · rw [decide_eq_true c3, decide_eq_false (by omega : ¬ (-1 ≤ p.Prev ∧ p.Prev ≤ 15))]; rfl
    rw [decide_eq_false c3]
    by_cases c4 : p.Prev ≥ 16
    · rw [decide_eq_true c4, decide_eq_false (by omega : ¬ (-1 ≤ p.Prev ∧ p.Prev ≤ 15))]; rfl
    rw [decide_eq_false c4, decide_eq_true (by omega : -1 ≤ p.Prev ∧ p.Prev ≤ 15)]
    by_cases c5 : p.Spill < -1
    · rw [decide_eq_true c5, decide_eq_false (by omega : ¬ (-1 ≤ p.Spill ∧ p.Spill ≤ 15))]; rfl
    rw [decide_eq_false c5]
    by_cases c6 : p.Spill ≥ 16
    · rw [decide_eq_true c6, decide_eq_false (by omega : ¬ (-1 ≤ p.Spill ∧ p.Spill ≤ 15))]; rfl
    rw [decide_eq_false c6, decide_eq_true (by omega : -1 ≤ p.Spill ∧ p.Spill ≤ 15)]
    by_cases c7 : p.Percent < 0
    · rw [decide_eq_true c7, decide_eq_false (by omega : ¬ (0 ≤ p.Percent ∧ p.Percent ≤ 100))]; rfl
    rw [decide_eq_false c7]
    by_cases c8 : p.Percent > 100
    · rw [decide_eq_true c8, decide_eq_false (by omega : ¬ (0 ≤ p.Percent ∧ p.Percent ≤ 100))]; rfl
    rw [decide_eq_false c8, decide_eq_true (by omega : 0 ≤ p.Percent ∧ p.Percent ≤ 100)]; rfl
  refine evf_of (.next h0 ?_)
  unfold rightP
  cases right0 p with
  | false => exact h1t
  | true => exact h1
end Go.RX.L

set_option linter.unusedSimpArgs false
set_option linter.unusedVariables false
namespace Go.RX.L
open Go Go.RX

/-- A plan of words. -/
structure Fine (p : Plan) : Prop where
  e : inK .i64 p.Epoch
  up : 0 ≤ p.Up
  sup : 0 ≤ p.Sup
  s : Shrt p
theorem Plan.Ok.fine {p : Plan} (h : p.Ok) : Fine p := by
  have hs := h.shrt
  obtain ⟨a, -, -, -, -, -, -, -, b, c, -, -⟩ := h
  exact ⟨a, (inU64.1 b).1, (inU64.1 c).1, hs⟩

def nums (p : Plan) : List Int := [p.Epoch, p.Target, p.Prev, p.Spill, p.Percent, p.Stamp, p.Since, p.Ramped, p.Up, p.Sup]
def encP (p : Plan) : List Int := encL (nums p) ++ (encL p.Pen ++ encL p.Changes)

theorem nums_in {p : Plan} (hf : Fine p) (h : Rt p) : I64s (nums p) := by
  have t1 := h.tps p.Target (by simp)
  have t2 := h.tps p.Prev (by simp)
  have t3 := h.tps p.Spill (by simp)
  have u1 := h.times p.Stamp (by simp)
  have u2 := h.times p.Since (by simp)
  have u3 := h.times p.Ramped (by simp)
  have v1 := h.up
  have v2 := h.sup
  have v3 := hf.up
  have v4 := hf.sup
  have pc := h.pc
  intro x hx
  simp only [nums, List.mem_cons, List.not_mem_nil, or_false] at hx
  rcases hx with rfl | rfl | rfl | rfl | rfl | rfl | rfl | rfl | rfl | rfl
  · exact hf.e
  all_goals exact inI64.2 (by omega)
theorem pen_in {p : Plan} (h : Rt p) : I64s p.Pen := fun x hx => inI64.2 (by have := h.pen x hx; omega)
theorem ch_in {p : Plan} (h : Rt p) : I64s p.Changes := fun x hx => inI64.2 (by have := h.ch x hx; omega)

theorem encP_bytes (p : Plan) : Bytes (encP p) := fun c hc => by
  rcases List.mem_append.1 hc with h | h
  · exact encL_bytes _ c h
  · rcases List.mem_append.1 h with h | h <;> exact encL_bytes _ c h
theorem encP_len {p : Plan} (hf : Fine p) (h : Rt p) : (encP p).length ≤ 1950 := by
  have h1 := encL_len (nums_in hf h) (by simp [nums])
  have h2 := encL_len (pen_in h) (by have := h.penl; omega)
  have h3 := encL_len (ch_in h) (by have := h.chl; omega)
  simp only [encP, List.length_append]; omega

/-! ### written -/
def putP (p : Plan) : List Int × Int := if rightP p = true then (encP p, 0) else ([], 41)

theorem put_s2 {l0 l1 l2 : List Int} (h0 : I64s l0) (h1 : I64s l1) (h2 : I64s l2) (k0 : l0.length ≤ 64) (k1 : l1.length ≤ 64) (k2 : l2.length ≤ 64) : Ev plan_Put_step (.s2 0 [] [l0, l1, l2]) (encL l0 ++ (encL l1 ++ encL l2), 0) := by
  have n0 := encL_len h0 k0
  have n1 := encL_len h1 k1
  have n2 := encL_len h2 k2
  refine .next (s' := .s2 1 (encL l0) [l0, l1, l2]) ?_ (.next (s' := .s2 2 (encL l0 ++ encL l1) [l0, l1, l2]) ?_ (.next (s' := .s2 3 (encL l0 ++ encL l1 ++ encL l2) [l0, l1, l2]) ?_ (.done ?_)))
  · have hl : decide (((List.map (eInt .u8) ([] : List Int)).length + (List.map (eInt .u8) (encL l0)).length) * 1 ≤ bytesLim) = true := limOk (by simp; omega)
    simp only [plan_Put_step, plan_Put_2, take_full]
    simp only [show (0 + (0 : Int).toNat) = 0 from rfl, List.getElem?_cons_zero, Option.bind_some, putInts_ok h0 k0, hl]
    rfl
  · have hl : decide (((List.map (eInt .u8) (encL l0)).length + (List.map (eInt .u8) (encL l1)).length) * 1 ≤ bytesLim) = true := limOk (by simp; omega)
    simp only [plan_Put_step, plan_Put_2, take_full]
    simp only [show (0 + (1 : Int).toNat) = 1 from rfl, List.getElem?_cons_succ, List.getElem?_cons_zero, Option.bind_some, putInts_ok h1 k1, hl]
    rfl
  · have hl : decide (((List.map (eInt .u8) (encL l0 ++ encL l1)).length + (List.map (eInt .u8) (encL l2)).length) * 1 ≤ bytesLim) = true := limOk (by simp; omega)
    simp only [plan_Put_step, plan_Put_2, take_full]
    simp only [show (0 + (2 : Int).toNat) = 2 from rfl, List.getElem?_cons_succ, List.getElem?_cons_zero, Option.bind_some, putInts_ok h2 k2, hl]
    rfl
  · rw [List.append_assoc]; rfl

theorem put_s1 {p : Plan} (hf : Fine p) (h : Rt p) : ∀ (j k : Nat), k + j = p.Pen.length → Ev plan_Put_step (.s1 p.Pen p.Pen.length k p (p.Pen.take k)) (encP p, 0) := by
  intro j
  have hpl := h.penl
  induction j with
  | zero =>
    intro k hk
    have hup := h.up
    have hsup := h.sup
    have e1 : IntKind.i64.wrap p.Up = p.Up := wI64 (by have := hf.up; omega) (by omega)
    have e2 : IntKind.i64.wrap p.Sup = p.Sup := wI64 (by have := hf.sup; omega) (by omega)
    rw [List.take_of_length_le (by omega)]
    refine .next (s' := .s2 0 [] [nums p, p.Pen, p.Changes]) ?_ (put_s2 (nums_in hf h) (pen_in h) (ch_in h) (by simp [nums]) (by omega) (by have := h.chl; omega))
    simp only [plan_Put_step, plan_Put_1, geB (show p.Pen.length ≤ k by omega), cond_false, plan_numbers, Option.bind_some, e1, e2, nums]
  | succ j ih =>
    intro k hk
    have hlt : k < p.Pen.length := by omega
    refine .next (s' := .s1 p.Pen p.Pen.length ((k + 1 : Nat) : Int) p (p.Pen.take (k + 1))) ?_ (ih (k + 1) (by omega))
    have hl : decide (((List.map (eInt .i64) (p.Pen.take k)).length + 1) * 8 ≤ bytesLim) = true := limOk (by simp; omega)
    simp only [plan_Put_step, plan_Put_1, ltB hlt, cond_true, List.length_map] at hl ⊢
    simp only [ltB hlt, le0, Bool.and_self, cond_true, Int.toNat_natCast, List.getE hlt, Option.bind_some, hl, wS (show k < 9223372036854775807 by omega), take_snoc hlt]

theorem put_ok {p : Plan} (hf : Fine p) : plan_Put p = some (putP p) := by
  unfold putP
  by_cases hr : rightP p = true
  · rw [if_pos hr]
    refine evf_of (.next (s' := .s1 p.Pen p.Pen.length 0 p []) ?_ (put_s1 hf (rightP_iff.1 hr) p.Pen.length 0 (by omega)))
    simp only [plan_Put_step, plan_Put_0, right_ok hf.s hf.up hf.sup, hr, Option.bind_some, List.length_map]
    rfl
  · rw [if_neg hr]
    refine evf_of (.done ?_)
    simp only [plan_Put_step, plan_Put_0, right_ok hf.s hf.up hf.sup, Option.bind_some]
    rw [Bool.eq_false_iff.2 hr]; rfl

theorem rput_s1 {p : Plan} (hf : Fine p) (h : Rt p) : ∀ (j k : Nat), k + j = p.Pen.length → Ev ref04_Put_step (.s1 k p (p.Pen.take k)) (encP p, 0) := by
  intro j
  have hpl := h.penl
  induction j with
  | zero =>
    intro k hk
    have hup := h.up
    have hsup := h.sup
    have e1 : IntKind.i64.wrap p.Up = p.Up := wI64 (by have := hf.up; omega) (by omega)
    have e2 : IntKind.i64.wrap p.Sup = p.Sup := wI64 (by have := hf.sup; omega) (by omega)
    rw [List.take_of_length_le (by omega)]
    have h1 := nums_in hf h
    have n0 := encL_len h1 (by simp [nums])
    have n1 := encL_len (pen_in h) (by omega)
    have n2 := encL_len (ch_in h) (by have := h.chl; omega)
    have r0 := rputInts_ok h1 (by simp [nums])
    have r1 := rputInts_ok (pen_in h) (by omega)
    have r2 := rputInts_ok (ch_in h) (by have := h.chl; omega)
    refine .done ?_
    simp only [ref04_Put_step, ref04_Put_1, List.length_map, geB (show p.Pen.length ≤ k by omega), cond_false, e1, e2]
    rw [show [p.Epoch, p.Target, p.Prev, p.Spill, p.Percent, p.Stamp, p.Since, p.Ramped, p.Up, p.Sup] = nums p from rfl, r0, r1, r2]
    have hl1 : decide (((encL (nums p)).length + (List.take (encL p.Pen).length (List.drop 0 (List.map (eInt .u8) (encL p.Pen)))).length) * 1 ≤ bytesLim) = true := limOk (by simp; omega)
    have hl2 : decide (((encL (nums p) ++ encL p.Pen).length + (List.take (encL p.Changes).length (List.drop 0 (List.map (eInt .u8) (encL p.Changes)))).length) * 1 ≤ bytesLim) = true := limOk (by simp; omega)
    simp only [Option.bind_some, hl1, hl2, cond_true, encP, List.append_assoc]
  | succ j ih =>
    intro k hk
    have hlt : k < p.Pen.length := by omega
    refine .next (s' := .s1 ((k + 1 : Nat) : Int) p (p.Pen.take (k + 1))) ?_ (ih (k + 1) (by omega))
    have hl : decide (((List.map (eInt .i64) (p.Pen.take k)).length + 1) * 8 ≤ bytesLim) = true := limOk (by simp; omega)
    simp only [ref04_Put_step, ref04_Put_1, List.length_map] at hl ⊢
    simp only [ltB hlt, le0, Bool.and_self, cond_true, Int.toNat_natCast, List.getE hlt, Option.bind_some, hl, wS (show k < 9223372036854775807 by omega), take_snoc hlt]

theorem rput_ok {p : Plan} (hf : Fine p) : ref04_Put p = some (putP p) := by
  unfold putP
  by_cases hr : rightP p = true
  · rw [if_pos hr]
    refine evf_of (.next (s' := .s1 0 p []) ?_ (rput_s1 hf (rightP_iff.1 hr) p.Pen.length 0 (by omega)))
    simp only [ref04_Put_step, ref04_Put_0, rright_ok hf.s, hr, Option.bind_some]
    rfl
  · rw [if_neg hr]
    refine evf_of (.done ?_)
    simp only [ref04_Put_step, ref04_Put_0, rright_ok hf.s, Option.bind_some]
    rw [Bool.eq_false_iff.2 hr]; rfl

/-! ### read -/
def zeroPl : Plan := ⟨0, 0, 0, 0, 0, 0, 0, 0, 0, 0, [], []⟩
/-- Three lists, and nothing behind them. -/
def parse3 (b : List Int) : Option (List Int × List Int × List Int) := match pL b with
  | .inl _ => none
  | .inr (l, k1) => (match pL (b.drop k1) with
    | .inl _ => none
    | .inr (pen, k2) => (match pL (b.drop (k1 + k2)) with
      | .inl _ => none
      | .inr (ch, k3) => if k1 + k2 + k3 = b.length then some (l, pen, ch) else none))
def planOf (l pen ch : List Int) : Plan := ⟨l.getD 0 0, l.getD 1 0, l.getD 2 0, l.getD 3 0, l.getD 4 0, l.getD 5 0, l.getD 6 0, l.getD 7 0, l.getD 8 0, l.getD 9 0, pen, ch⟩
/-- Do these lists make a plan? -/
def okOf (l pen ch : List Int) : Bool := decide (l.length = 10) && (decide (0 ≤ l.getD 8 0) && (decide (0 ≤ l.getD 9 0) && rightP (planOf l pen ch)))
def getP (b : List Int) : Plan × Int := match parse3 b with
  | none => (zeroPl, 41)
  | some (l, pen, ch) => if okOf l pen ch = true then (planOf l pen ch, 0) else (zeroPl, 41)

theorem parse3_enc {p : Plan} (hf : Fine p) (h : Rt p) : parse3 (encP p) = some (nums p, p.Pen, p.Changes) := by
  have h1 := pL_enc (nums_in hf h) (by simp [nums]) (encL p.Pen ++ encL p.Changes)
  have h2 := pL_enc (pen_in h) (by have := h.penl; omega) (encL p.Changes)
  have h3 := pL_enc (ch_in h) (by have := h.chl; omega) []
  rw [List.append_nil] at h3
  unfold parse3 encP
  rw [h1]
  simp only [List.drop_left]
  rw [h2]
  have e : (encL (nums p) ++ (encL p.Pen ++ encL p.Changes)).drop ((encL (nums p)).length + (encL p.Pen).length) = encL p.Changes := by
    rw [← List.drop_drop, List.drop_left, List.drop_left]
  simp only [e]
  rw [h3]
  simp [Nat.add_assoc]

theorem planOf_nums (p : Plan) : planOf (nums p) p.Pen p.Changes = p := rfl
theorem getP_enc {p : Plan} (hf : Fine p) (h : rightP p = true) : getP (encP p) = (p, 0) := by
  unfold getP
  rw [parse3_enc hf (rightP_iff.1 h)]
  have hk : okOf (nums p) p.Pen p.Changes = true := by
    simp only [okOf, planOf_nums, h, Bool.and_true, Bool.and_eq_true, decide_eq_true_eq]
    exact ⟨rfl, hf.up, hf.sup⟩
  simp only [hk, if_true, planOf_nums]

theorem parse3_dec {b l pen ch : List Int} (hb : Bytes b) (h : parse3 b = some (l, pen, ch)) : encL l ++ (encL pen ++ encL ch) = b ∧ I64s l ∧ I64s pen ∧ I64s ch ∧ l.length ≤ 64 ∧ pen.length ≤ 64 ∧ ch.length ≤ 64 := by
  unfold parse3 at h
  split at h
  · cases h
  · rename_i l' k1 h1
    split at h
    · cases h
    · rename_i pen' k2 h2
      split at h
      · cases h
      · rename_i ch' k3 h3
        split at h
        · rename_i hk
          simp only [Option.some.injEq, Prod.mk.injEq] at h
          obtain ⟨rfl, rfl, rfl⟩ := h
          obtain ⟨a1, a2, a3, a4, a5⟩ := pL_dec hb h1
          obtain ⟨b1, b2, b3, b4, b5⟩ := pL_dec (fun c hc => hb c (List.mem_of_mem_drop hc)) h2
          obtain ⟨c1, c2, c3, c4, c5⟩ := pL_dec (fun c hc => hb c (List.mem_of_mem_drop hc)) h3
          refine ⟨?_, a5, b5, c5, a4, b4, c4⟩
          rw [← a1, ← b1, ← c1]
          have e1 : List.take k3 (List.drop (k1 + k2) b) = List.drop (k1 + k2) b := List.take_of_length_le (by rw [List.length_drop]; omega)
          rw [e1, ← List.drop_drop, List.take_append_drop, List.take_append_drop]
        · cases h

theorem nums_planOf {l : List Int} (h : l.length = 10) (pen ch : List Int) : nums (planOf l pen ch) = l := by
  match l, h with
  | [_, _, _, _, _, _, _, _, _, _], _ => rfl

theorem getP_dec {b : List Int} (hb : Bytes b) {p : Plan} (h : getP b = (p, 0)) : rightP p = true ∧ Fine p ∧ encP p = b := by
  unfold getP at h
  split at h
  · cases h
  · rename_i l pen ch hp
    split at h
    · rename_i hk
      simp only [Prod.mk.injEq, and_true] at h
      subst h
      obtain ⟨h1, h2, h3, h4, h5, h6, h7⟩ := parse3_dec hb hp
      simp only [okOf, Bool.and_eq_true, decide_eq_true_eq] at hk
      obtain ⟨k1, k2, k3, k4⟩ := hk
      have hlen0 : 0 < l.length := by omega
      refine ⟨k4, ⟨?_, k2, k3, ⟨by show pen.length < _; omega, by show ch.length < _; omega⟩⟩, ?_⟩
      · show inK .i64 (l.getD 0 0)
        have : l.getD 0 0 = l[0] := by simp [hlen0]
        rw [this]; exact h2 _ (List.getElem_mem hlen0)
      · unfold encP
        rw [nums_planOf k1]
        exact h1
    · cases h

theorem getP_snd (b : List Int) : (getP b).2 = 0 ∨ getP b = (zeroPl, 41) := by
  unfold getP
  split
  · exact .inr rfl
  · split
    · exact .inl rfl
    · exact .inr rfl

theorem get_done {s : plan_Get_S} {r : Plan × Int} (h : plan_Get_step s = some (.inr r)) : Ev plan_Get_step s r := .done h
theorem rL_le {b : List Int} (hb : Bytes b) {at_ : Nat} {xs : List Int} {k : Nat} (h : pL (b.drop at_) = .inr (xs, k)) : k ≤ b.length - at_ := by
  have := (pL_dec (fun c hc => hb c (List.mem_of_mem_drop hc)) h).2.1
  rwa [List.length_drop] at this
theorem pL_err {l : List Int} {e : Int} (h : pL l = .inl e) : (e != 0) = true := by
  unfold pL at h
  split at h
  · rename_i e' he
    obtain rfl := Sum.inl.inj h
    exact err_ne he
  · split at h
    · obtain rfl := Sum.inl.inj h; rfl
    · split at h
      · rename_i n k hn hno e' hN
        obtain rfl := Sum.inl.inj h
        have key : ∀ (n : Nat) (l : List Int) (e : Int), pN n l = .inl e → (e != 0) = true := by
          intro n
          induction n with
          | zero => intro l e h; simp [pN] at h
          | succ n ih =>
            intro l e h
            simp only [pN] at h
            split at h
            · rename_i e' he
              obtain rfl := Sum.inl.inj h
              exact err_ne he
            · split at h
              · rename_i e' he
                obtain rfl := Sum.inl.inj h
                exact ih _ _ he
              · cases h
        exact key _ _ _ hN
      · cases h

theorem get_s3 {pen ch : List Int} {a0 a1 a2 a3 a4 a5 a6 a7 a8 a9 : Int} {z : Plan} (h8 : 0 ≤ a8) (h9 : 0 ≤ a9) (hp : pen.length ≤ 64) (hc : ch.length ≤ 64) : ∀ (j k : Nat), k + j = pen.length →
    Ev plan_Get_step (.s3 pen pen.length k z a0 a1 a2 a3 a4 a5 a6 a7 a8 a9 ch (pen.take k)) (if rightP ⟨a0, a1, a2, a3, a4, a5, a6, a7, a8, a9, pen, ch⟩ = true then (⟨a0, a1, a2, a3, a4, a5, a6, a7, a8, a9, pen, ch⟩, 0) else (zeroPl, 41)) := by
  intro j
  induction j with
  | zero =>
    intro k hk
    rw [List.take_of_length_le (by omega)]
    refine .done ?_
    have hr := right_ok (p := ⟨a0, a1, a2, a3, a4, a5, a6, a7, a8, a9, pen, ch⟩) ⟨by show pen.length < _; omega, by show ch.length < _; omega⟩ h8 h9
    simp only [plan_Get_step, plan_Get_3, geB (show pen.length ≤ k by omega), cond_false, hr, Option.bind_some]
    cases rightP ⟨a0, a1, a2, a3, a4, a5, a6, a7, a8, a9, pen, ch⟩ <;> rfl
  | succ j ih =>
    intro k hk
    have hlt : k < pen.length := by omega
    refine .next (s' := .s3 pen pen.length ((k + 1 : Nat) : Int) z a0 a1 a2 a3 a4 a5 a6 a7 a8 a9 ch (pen.take (k + 1))) ?_ (ih (k + 1) (by omega))
    have hl : decide (((List.map (eInt .i64) (pen.take k)).length + 1) * 8 ≤ bytesLim) = true := limOk (by simp; omega)
    simp only [plan_Get_step, plan_Get_3, List.length_map] at hl ⊢
    simp only [ltB hlt, le0, Bool.and_self, cond_true, Int.toNat_natCast, List.getE hlt, Option.bind_some, hl, wS (show k < 9223372036854775807 by omega), take_snoc hlt]

/-- Three lists, read; is the place behind them the end? -/
theorem get_s1 {b l pen ch : List Int} {at_ : Nat} {z : Plan} (hl64 : l.length ≤ 64) (hp : pen.length ≤ 64) (hc : ch.length ≤ 64) :
    Ev plan_Get_step (.s1 b at_ 3 z [l, pen, ch]) (if at_ = b.length ∧ okOf l pen ch = true then (planOf l pen ch, 0) else (zeroPl, 41)) := by
  have bad : Ev plan_Get_step (.s2 l true z [l, pen, ch]) (zeroPl, 41) := .done rfl
  by_cases hat : at_ = b.length
  · have e1 : ((at_ : Int) != ((b.length : Nat) : Int)) = false := by simp [hat]
    by_cases h10 : l.length = 10
    · match l, h10 with
      | [a0, a1, a2, a3, a4, a5, a6, a7, a8, a9], _ =>
        have c1 := all_ok (-1) 1048576 (l := [a1, a2, a3, a4]) (by simp)
        have c2 := all_ok 0 1048576 (l := [a8, a9]) (by simp)
        have c3 := all_ok 0 1000000 (l := pen) (by omega)
        have key : plan_Get_step (.s1 b at_ 3 z [[a0, a1, a2, a3, a4, a5, a6, a7, a8, a9], pen, ch]) = some (.inl (.s2 [a0, a1, a2, a3, a4, a5, a6, a7, a8, a9] (!(btw (-1) 1048576 [a1, a2, a3, a4] && (btw 0 1048576 [a8, a9] && btw 0 1000000 pen))) z [[a0, a1, a2, a3, a4, a5, a6, a7, a8, a9], pen, ch])) := by
          simp only [plan_Get_step, plan_Get_1, List.length_map, e1]
          simp only [List.getElem?_cons_zero, List.getElem?_cons_succ, Option.bind_some, show decide ((3 : Int) < 3) = false from rfl, cond_false, List.length_cons, List.length_nil]
          simp only [show ((((0 + 1 + 1 + 1 + 1 + 1 + 1 + 1 + 1 + 1 + 1 : Nat) : Int)) != 10) = false from rfl, cond_false]
          simp only [show decide ((1 : Int) < ((0 + 1 + 1 + 1 + 1 + 1 + 1 + 1 + 1 + 1 + 1 : Nat) : Int)) = true from rfl, show decide ((2 : Int) < ((0 + 1 + 1 + 1 + 1 + 1 + 1 + 1 + 1 + 1 + 1 : Nat) : Int)) = true from rfl, show decide ((3 : Int) < ((0 + 1 + 1 + 1 + 1 + 1 + 1 + 1 + 1 + 1 + 1 : Nat) : Int)) = true from rfl, show decide ((4 : Int) < ((0 + 1 + 1 + 1 + 1 + 1 + 1 + 1 + 1 + 1 + 1 : Nat) : Int)) = true from rfl, show decide ((8 : Int) ≤ ((0 + 1 + 1 + 1 + 1 + 1 + 1 + 1 + 1 + 1 + 1 : Nat) : Int)) = true from rfl, cond_true, c1, Option.bind_some]
          rw [show List.drop 8 (List.take (0 + 1 + 1 + 1 + 1 + 1 + 1 + 1 + 1 + 1 + 1) [a0, a1, a2, a3, a4, a5, a6, a7, a8, a9]) = [a8, a9] from rfl, c2, c3]
          cases btw (-1) 1048576 [a1, a2, a3, a4] with
          | false => rfl
          | true =>
            cases btw 0 1048576 [a8, a9] with
            | false => rfl
            | true => rfl
        refine .next key ?_
        by_cases hok : (btw (-1) 1048576 [a1, a2, a3, a4] && (btw 0 1048576 [a8, a9] && btw 0 1000000 pen)) = true
        · rw [hok]
          simp only [Bool.and_eq_true, btw_iff] at hok
          obtain ⟨k1, k2, k3⟩ := hok
          have b8' := k2 a8 (by simp)
          have b9' := k2 a9 (by simp)
          have w8 : IntKind.u64.wrap a8 = a8 := wU64 (by omega) (by omega)
          have w9 : IntKind.u64.wrap a9 = a9 := wU64 (by omega) (by omega)
          have h3 := get_s3 (pen := pen) (ch := ch) (a0 := a0) (a1 := a1) (a2 := a2) (a3 := a3) (a4 := a4) (a5 := a5) (a6 := a6) (a7 := a7) (z := z) b8'.1 b9'.1 hp hc pen.length 0 (by omega)
          have hres : (if at_ = b.length ∧ okOf [a0, a1, a2, a3, a4, a5, a6, a7, a8, a9] pen ch = true then (planOf [a0, a1, a2, a3, a4, a5, a6, a7, a8, a9] pen ch, (0 : Int)) else (zeroPl, 41)) = (if rightP ⟨a0, a1, a2, a3, a4, a5, a6, a7, a8, a9, pen, ch⟩ = true then (⟨a0, a1, a2, a3, a4, a5, a6, a7, a8, a9, pen, ch⟩, 0) else (zeroPl, 41)) := by
            have : okOf [a0, a1, a2, a3, a4, a5, a6, a7, a8, a9] pen ch = rightP ⟨a0, a1, a2, a3, a4, a5, a6, a7, a8, a9, pen, ch⟩ := by
              simp [okOf, planOf, b8'.1, b9'.1]
            rw [this]
            simp only [hat, true_and]
            rfl
          rw [hres]
          refine .next (s' := .s3 pen pen.length 0 z a0 a1 a2 a3 a4 a5 a6 a7 a8 a9 ch []) ?_ h3
          simp only [plan_Get_step, plan_Get_2, Bool.not_true, cond_false, List.length_map]
          simp only [List.getElem?_cons_zero, List.getElem?_cons_succ, Option.bind_some, List.length_cons, List.length_nil, w8, w9]
          rfl
        · have hf : okOf [a0, a1, a2, a3, a4, a5, a6, a7, a8, a9] pen ch = false := by
            rw [Bool.eq_false_iff]
            intro hk
            simp only [okOf, Bool.and_eq_true, decide_eq_true_eq] at hk
            obtain ⟨-, q1, q2, q3⟩ := hk
            have r := rightP_iff.1 q3
            refine hok ?_
            simp only [Bool.and_eq_true, btw_iff]
            have t1 : -1 ≤ a1 ∧ a1 ≤ 15 := r.tps a1 (by simp [planOf])
            have t2 : -1 ≤ a2 ∧ a2 ≤ 15 := r.tps a2 (by simp [planOf])
            have t3 : -1 ≤ a3 ∧ a3 ≤ 15 := r.tps a3 (by simp [planOf])
            have t4 : 0 ≤ a4 ∧ a4 ≤ 100 := r.pc
            have t5 : a8 ≤ 65535 := r.up
            have t6 : a9 ≤ 65535 := r.sup
            have q1 : 0 ≤ a8 := q1
            have q2 : 0 ≤ a9 := q2
            refine ⟨fun x hx => ?_, fun x hx => ?_, r.pen⟩
            · simp only [List.mem_cons, List.not_mem_nil, or_false] at hx
              rcases hx with rfl | rfl | rfl | rfl <;> omega
            · simp only [List.mem_cons, List.not_mem_nil, or_false] at hx
              rcases hx with rfl | rfl <;> omega
          rw [if_neg (by rw [hf]; simp), Bool.eq_false_iff.2 hok]
          exact .done rfl
    · have hf : okOf l pen ch = false := by simp [okOf, h10]
      rw [if_neg (by rw [hf]; simp)]
      have e2 : (((l.length : Nat) : Int) != 10) = true := by simp; omega
      refine .next (s' := .s2 l true z [l, pen, ch]) ?_ bad
      simp only [plan_Get_step, plan_Get_1, List.length_map, e1, cond_false]
      simp only [List.getElem?_cons_zero, Option.bind_some, show decide ((3 : Int) < 3) = false from rfl, cond_false, e2, cond_true]
  · rw [if_neg (by simp [hat])]
    have e1 : ((at_ : Int) != ((b.length : Nat) : Int)) = true := by simp; omega
    refine .next (s' := .s2 l true z [l, pen, ch]) ?_ bad
    simp only [plan_Get_step, plan_Get_1, List.length_map, e1]
    simp only [List.getElem?_cons_zero, Option.bind_some, show decide ((3 : Int) < 3) = false from rfl, cond_false, cond_true]

theorem get_ok {b : List Int} (hb : Bytes b) (hm : b.length ≤ memB) : plan_Get b = some (getP b) := by
  refine evf_of (.next (s' := .s1 b 0 0 zeroPl [[], [], []]) rfl ?_)
  have i1 : wire_Ints b 0 = some (rL 0 (pL b)) := by
    have := ints_ok hb hm (at_ := 0) (by omega)
    rwa [List.drop_zero] at this
  cases h1 : pL b with
  | inl e =>
    rw [h1] at i1
    have : getP b = (zeroPl, 41) := by simp [getP, parse3, h1]
    rw [this]
    refine .done ?_
    have he := pL_err h1
    simp only [plan_Get_step, plan_Get_1, i1, rL, Option.bind_some, he]
    rfl
  | inr x =>
    obtain ⟨l, k1⟩ := x
    rw [h1] at i1
    have g1 := rL_le hb (at_ := 0) (by rw [List.drop_zero]; exact h1)
    obtain ⟨-, -, -, l64, -⟩ := pL_dec hb h1
    refine .next (s' := .s1 b k1 1 zeroPl [l, [], []]) ?_ ?_
    · simp only [plan_Get_step, plan_Get_1, i1, rL, Option.bind_some, Nat.zero_add]
      rfl
    have i2 := ints_ok hb hm (at_ := k1) (by omega)
    cases h2 : pL (b.drop k1) with
    | inl e =>
      rw [h2] at i2
      have : getP b = (zeroPl, 41) := by simp [getP, parse3, h1, h2]
      rw [this]
      refine .done ?_
      have he := pL_err h2
      simp only [plan_Get_step, plan_Get_1, i2, rL, Option.bind_some, he]
      rfl
    | inr x =>
      obtain ⟨pen, k2⟩ := x
      rw [h2] at i2
      have g2 := rL_le hb h2
      obtain ⟨-, -, -, p64, -⟩ := pL_dec (fun c hc => hb c (List.mem_of_mem_drop hc)) h2
      refine .next (s' := .s1 b ((k1 + k2 : Nat) : Int) 2 zeroPl [l, pen, []]) ?_ ?_
      · simp only [plan_Get_step, plan_Get_1, i2, rL, Option.bind_some]
        rfl
      have i3 := ints_ok hb hm (at_ := k1 + k2) (by omega)
      cases h3 : pL (b.drop (k1 + k2)) with
      | inl e =>
        rw [h3] at i3
        have : getP b = (zeroPl, 41) := by simp [getP, parse3, h1, h2, h3]
        rw [this]
        refine .done ?_
        have he := pL_err h3
        simp only [plan_Get_step, plan_Get_1, i3, rL, Option.bind_some, he]
        rfl
      | inr x =>
        obtain ⟨ch, k3⟩ := x
        rw [h3] at i3
        obtain ⟨-, -, -, c64, -⟩ := pL_dec (fun c hc => hb c (List.mem_of_mem_drop hc)) h3
        have hres : getP b = (if k1 + k2 + k3 = b.length ∧ okOf l pen ch = true then (planOf l pen ch, 0) else (zeroPl, 41)) := by
          simp only [getP, parse3, h1, h2, h3]
          by_cases hk : k1 + k2 + k3 = b.length
          · simp [hk]
          · simp [hk]
        rw [hres]
        refine .next (s' := .s1 b ((k1 + k2 + k3 : Nat) : Int) 3 zeroPl [l, pen, ch]) ?_ (get_s1 l64 p64 c64)
        simp only [plan_Get_step, plan_Get_1, i3, rL, Option.bind_some]
        rfl
end Go.RX.L

set_option linter.unusedSimpArgs false
set_option linter.unusedVariables false
namespace Go.RX.L
open Go Go.RX

def smallP (n : Int) : Int := if -1 ≤ n ∧ n ≤ 1000000 then n else -2
theorem small_ok (n : Int) : ref04_small n = some (smallP n) := by
  simp only [ref04_small, in_ok, Option.bind_some, smallP]
  by_cases h : -1 ≤ n ∧ n ≤ 1000000
  · rw [decide_eq_true h, if_pos h]; rfl
  · rw [decide_eq_false h, if_neg h]; rfl

theorem small_map {l : List Int} : btw 0 1000000 (l.map smallP) = btw 0 1000000 l := by
  induction l with
  | nil => rfl
  | cons x l ih =>
    rw [List.map_cons, btw_cons, btw_cons, ih]
    congr 1
    unfold smallP
    split <;> simp <;> omega
theorem small_id {l : List Int} (h : btw 0 1000000 l = true) : l.map smallP = l := by
  rw [btw_iff] at h
  conv => rhs; rw [← List.map_id l]
  refine List.map_congr_left fun x hx => ?_
  have := h x hx
  simp [smallP]; omega

/-- With numbers that are too far made none, it is right just if it was. -/
theorem right_small {a0 a1 a2 a3 a4 a5 a6 a7 a8 a9 : Int} {pen ch : List Int} : rightP ⟨a0, smallP a1, smallP a2, smallP a3, smallP a4, a5, a6, a7, a8, a9, pen.map smallP, ch⟩ = rightP ⟨a0, a1, a2, a3, a4, a5, a6, a7, a8, a9, pen, ch⟩ := by
  have h1 : ∀ x : Int, decide (-1 ≤ smallP x ∧ smallP x ≤ 15) = decide (-1 ≤ x ∧ x ≤ 15) := fun x => by
    unfold smallP; split <;> simp <;> omega
  have h2 : ∀ x : Int, decide (0 ≤ smallP x ∧ smallP x ≤ 100) = decide (0 ≤ x ∧ x ≤ 100) := fun x => by
    unfold smallP; split <;> simp <;> omega
  simp only [rightP, right0, right1, right2, right3, btw_cons, h1, h2, small_map, List.length_map]
theorem small_eq {a0 a1 a2 a3 a4 a5 a6 a7 a8 a9 : Int} {pen ch : List Int} (h : rightP ⟨a0, a1, a2, a3, a4, a5, a6, a7, a8, a9, pen, ch⟩ = true) : (⟨a0, smallP a1, smallP a2, smallP a3, smallP a4, a5, a6, a7, a8, a9, pen.map smallP, ch⟩ : Plan) = ⟨a0, a1, a2, a3, a4, a5, a6, a7, a8, a9, pen, ch⟩ := by
  have r := rightP_iff.1 h
  have t1 : -1 ≤ a1 ∧ a1 ≤ 15 := r.tps a1 (by simp)
  have t2 : -1 ≤ a2 ∧ a2 ≤ 15 := r.tps a2 (by simp)
  have t3 : -1 ≤ a3 ∧ a3 ≤ 15 := r.tps a3 (by simp)
  have t4 : 0 ≤ a4 ∧ a4 ≤ 100 := r.pc
  have e : ∀ x : Int, -1 ≤ x ∧ x ≤ 100 → smallP x = x := fun x hx => by simp [smallP]; omega
  rw [e a1 (by omega), e a2 (by omega), e a3 (by omega), e a4 (by omega), small_id (btw_iff.2 r.pen)]

theorem rget_s3 {pen ch : List Int} {a0 a1 a2 a3 a4 a5 a6 a7 a8 a9 : Int} {z : Plan} (hp : pen.length ≤ 64) (hc : ch.length ≤ 64) : ∀ (j k : Nat), k + j = pen.length →
    Ev ref04_Get_step (.s3 pen k z a0 (smallP a1) (smallP a2) (smallP a3) (smallP a4) a5 a6 a7 a8 a9 ch ((pen.take k).map smallP)) (if rightP ⟨a0, a1, a2, a3, a4, a5, a6, a7, a8, a9, pen, ch⟩ = true then (⟨a0, a1, a2, a3, a4, a5, a6, a7, a8, a9, pen, ch⟩, 0) else (zeroPl, 41)) := by
  intro j
  induction j with
  | zero =>
    intro k hk
    rw [List.take_of_length_le (by omega)]
    refine .done ?_
    have hr := rright_ok (p := ⟨a0, smallP a1, smallP a2, smallP a3, smallP a4, a5, a6, a7, a8, a9, pen.map smallP, ch⟩) ⟨by show (pen.map smallP).length < _; rw [List.length_map]; omega, by show ch.length < _; omega⟩
    rw [right_small] at hr
    simp only [ref04_Get_step, ref04_Get_3, List.length_map, geB (show pen.length ≤ k by omega), cond_false, hr, Option.bind_some]
    cases hq : rightP ⟨a0, a1, a2, a3, a4, a5, a6, a7, a8, a9, pen, ch⟩ with
    | false => rfl
    | true => rw [small_eq hq]; rfl
  | succ j ih =>
    intro k hk
    have hlt : k < pen.length := by omega
    refine .next (s' := .s3 pen ((k + 1 : Nat) : Int) z a0 (smallP a1) (smallP a2) (smallP a3) (smallP a4) a5 a6 a7 a8 a9 ch ((pen.take (k + 1)).map smallP)) ?_ (ih (k + 1) (by omega))
    have hl : decide (((List.map (eInt .i64) ((pen.take k).map smallP)).length + 1) * 8 ≤ bytesLim) = true := limOk (by simp; omega)
    simp only [ref04_Get_step, ref04_Get_3, List.length_map] at hl ⊢
    simp only [ltB hlt, le0, Bool.and_self, cond_true, Int.toNat_natCast, List.getE hlt, Option.bind_some, small_ok, hl, wS (show k < 9223372036854775807 by omega), take_snoc hlt, List.map_append, List.map_cons, List.map_nil]

theorem rget_s2 {l pen ch : List Int} {z : Plan} (h10 : l.length = 10) (hi : I64s l) (h8 : 0 ≤ l.getD 8 0) (h9 : 0 ≤ l.getD 9 0) (hp : pen.length ≤ 64) (hc : ch.length ≤ 64) :
    Ev ref04_Get_step (.s2 l pen ch false z) (if okOf l pen ch = true then (planOf l pen ch, 0) else (zeroPl, 41)) := by
  match l, h10, h8, h9, hi with
  | [a0, a1, a2, a3, a4, a5, a6, a7, a8, a9], _, h8, h9, hi =>
    have h8 : 0 ≤ a8 := h8
    have h9 : 0 ≤ a9 := h9
    have i8' := inI64.1 (hi a8 (by simp))
    have i9' := inI64.1 (hi a9 (by simp))
    have w8 : IntKind.u64.wrap a8 = a8 := wU64 (by omega) (by omega)
    have w9 : IntKind.u64.wrap a9 = a9 := wU64 (by omega) (by omega)
    have hok : okOf [a0, a1, a2, a3, a4, a5, a6, a7, a8, a9] pen ch = rightP ⟨a0, a1, a2, a3, a4, a5, a6, a7, a8, a9, pen, ch⟩ := by simp [okOf, planOf, h8, h9]
    rw [hok]
    refine .next (s' := .s3 pen 0 z a0 (smallP a1) (smallP a2) (smallP a3) (smallP a4) a5 a6 a7 a8 a9 ch []) ?_ (rget_s3 hp hc pen.length 0 (by omega))
    simp only [ref04_Get_step, ref04_Get_2, cond_false, List.length_map, List.getElem?_cons_zero, List.getElem?_cons_succ, Option.bind_some, small_ok, List.length_cons, List.length_nil, w8, w9]
    rfl

theorem rget_ok {b : List Int} (hb : Bytes b) (hm : b.length ≤ memB) : ref04_Get b = some (getP b) := by
  have i1 : ref01_Ints b 0 = some (rL 0 (pL b)) := by
    have := rints_ok hb hm (at_ := 0) (by omega)
    rwa [List.drop_zero] at this
  have bad1 : ∀ {l : List Int} {a : Int}, Ev ref04_Get_step (.s1 b l a true zeroPl) (zeroPl, 41) := .done rfl
  have bad2 : ∀ {l pen ch : List Int}, Ev ref04_Get_step (.s2 l pen ch true zeroPl) (zeroPl, 41) := .done rfl
  cases h1 : pL b with
  | inl e =>
    rw [h1] at i1
    have : getP b = (zeroPl, 41) := by simp [getP, parse3, h1]
    rw [this]
    refine evf_of (.next (s' := .s1 b [] 0 true zeroPl) ?_ bad1)
    have he := pL_err h1
    simp only [ref04_Get_step, ref04_Get_0, i1, rL, Option.bind_some, he]
    rfl
  | inr x =>
    obtain ⟨l, k1⟩ := x
    rw [h1] at i1
    have g1 := rL_le hb (at_ := 0) (by rw [List.drop_zero]; exact h1)
    obtain ⟨-, -, -, l64, li⟩ := pL_dec hb h1
    refine evf_of (.next (s' := .s1 b l k1 (((l.length : Nat) : Int) != 10) zeroPl) ?_ ?_)
    · simp only [ref04_Get_step, ref04_Get_0, i1, rL, Option.bind_some, Nat.zero_add, List.length_map]
      rfl
    have i2 := rints_ok hb hm (at_ := k1) (by omega)
    by_cases h10 : l.length = 10
    rotate_left
    · have e : (((l.length : Nat) : Int) != 10) = true := by simp; omega
      rw [e]
      have hg : getP b = (zeroPl, 41) := by
        simp only [getP, parse3, h1]
        split
        · rfl
        · rename_i l' pen' ch' hx
          split at hx
          · cases hx
          · split at hx
            · cases hx
            · split at hx
              · simp only [Option.some.injEq, Prod.mk.injEq] at hx
                obtain ⟨rfl, -, -⟩ := hx
                simp [okOf, h10]
              · cases hx
      rw [hg]
      exact bad1
    have e : (((l.length : Nat) : Int) != 10) = false := by simp [h10]
    rw [e]
    cases h2 : pL (b.drop k1) with
    | inl e =>
      rw [h2] at i2
      have : getP b = (zeroPl, 41) := by simp [getP, parse3, h1, h2]
      rw [this]
      refine .done ?_
      have he := pL_err h2
      simp only [ref04_Get_step, ref04_Get_1, cond_false, i2, rL, Option.bind_some, he]
      rfl
    | inr x =>
      obtain ⟨pen, k2⟩ := x
      rw [h2] at i2
      have g2 := rL_le hb h2
      obtain ⟨-, -, -, p64, -⟩ := pL_dec (fun c hc => hb c (List.mem_of_mem_drop hc)) h2
      have i3 := rints_ok hb hm (at_ := k1 + k2) (by omega)
      cases h3 : pL (b.drop (k1 + k2)) with
      | inl e =>
        rw [h3] at i3
        have : getP b = (zeroPl, 41) := by simp [getP, parse3, h1, h2, h3]
        rw [this]
        refine .next (s' := .s2 l pen [] true zeroPl) ?_ bad2
        have he := pL_err h3
        simp only [ref04_Get_step, ref04_Get_1, cond_false, i2, i3, rL, Option.bind_some, he, bne_self_eq_false, cond_true]
      | inr x =>
        obtain ⟨ch, k3⟩ := x
        rw [h3] at i3
        obtain ⟨-, -, -, c64, -⟩ := pL_dec (fun c hc => hb c (List.mem_of_mem_drop hc)) h3
        have hres : getP b = (if k1 + k2 + k3 = b.length ∧ okOf l pen ch = true then (planOf l pen ch, 0) else (zeroPl, 41)) := by
          simp only [getP, parse3, h1, h2, h3]
          by_cases hk : k1 + k2 + k3 = b.length
          · simp [hk]
          · simp [hk]
        rw [hres]
        by_cases hk : k1 + k2 + k3 = b.length
        rotate_left
        · rw [if_neg (by simp [hk])]
          refine .next (s' := .s2 l pen ch true zeroPl) ?_ bad2
          have ek : ((((k1 + k2 + k3 : Nat) : Int)) != ((b.length : Nat) : Int)) = true := by simp; omega
          simp only [ref04_Get_step, ref04_Get_1, cond_false, i2, i3, rL, Option.bind_some, bne_self_eq_false, List.length_map, ek, cond_true]
        have ek : ((((k1 + k2 + k3 : Nat) : Int)) != ((b.length : Nat) : Int)) = false := by simp [← hk]
        have L8 : l[8]? = some (l.getD 8 0) := by simp [h10]
        have L9 : l[9]? = some (l.getD 9 0) := by simp [h10]
        have q8 : decide ((8 : Int) < ((l.length : Nat) : Int)) = true := by simp [h10]
        have q9 : decide ((9 : Int) < ((l.length : Nat) : Int)) = true := by simp [h10]
        have step : ref04_Get_step (.s1 b l k1 false zeroPl) = some (.inl (.s2 l pen ch (bif decide (l.getD 8 0 < 0) then true else decide (l.getD 9 0 < 0)) zeroPl)) := by
          simp only [ref04_Get_step, ref04_Get_1, cond_false, i2, i3, rL, Option.bind_some, bne_self_eq_false, List.length_map, ek, q8, q9, cond_true, L8, L9]
          cases decide (l.getD 8 0 < 0) <;> rfl
        refine .next step ?_
        by_cases n8 : l.getD 8 0 < 0
        · rw [decide_eq_true n8, cond_true, if_neg (fun hh => by simp only [okOf, Bool.and_eq_true, decide_eq_true_eq] at hh; omega)]
          exact bad2
        by_cases n9 : l.getD 9 0 < 0
        · rw [decide_eq_false n8, decide_eq_true n9, cond_false, if_neg (fun hh => by simp only [okOf, Bool.and_eq_true, decide_eq_true_eq] at hh; omega)]
          exact bad2
        rw [decide_eq_false n8, decide_eq_false n9, cond_false]
        have := rget_s2 (z := zeroPl) h10 li (by omega) (by omega) p64 c64
        simp only [hk, true_and]
        exact this

/-! ### alike -/
theorem rsame_loop (a b : List Int) (hl : a.length < 9223372036854775807) (hab : a.length = b.length) : ∀ (j k : Nat), k + j = a.length → Ev ref01_Same_step (.s1 a b k) (decide (a.drop k = b.drop k)) := by
  intro j
  induction j with
  | zero =>
    intro k hk
    refine .done ?_
    rw [List.drop_eq_nil_of_le (by omega), List.drop_eq_nil_of_le (by omega)]
    simp [ref01_Same_step, ref01_Same_1, show ¬ (k : Int) < a.length by omega]
  | succ j ih =>
    intro k hk
    have h1 : k < a.length := by omega
    have h2 : k < b.length := by omega
    rw [List.drop_eq_getElem_cons h1, List.drop_eq_getElem_cons h2]
    by_cases h : a[k] = b[k]
    · refine .next (s' := .s1 a b ((k + 1 : Nat) : Int)) ?_ ?_
      · have e : (a[k] != b[k]) = false := by simp [h]
        simp only [ref01_Same_step, ref01_Same_1, List.length_map, ltB h1, ltB h2, le0, Bool.and_self, cond_true, Int.toNat_natCast, List.getE h1, List.getE h2, Option.bind_some, e, cond_false, wS (show k < 9223372036854775807 by omega)]
      · rw [show (decide (a[k] :: a.drop (k + 1) = b[k] :: b.drop (k + 1))) = decide (a.drop (k + 1) = b.drop (k + 1)) by simp only [h, List.cons.injEq, true_and]]
        exact ih (k + 1) (by omega)
    · refine .done ?_
      have e : (a[k] != b[k]) = true := by simp [h]
      simp only [ref01_Same_step, ref01_Same_1, List.length_map, ltB h1, ltB h2, le0, Bool.and_self, cond_true, Int.toNat_natCast, List.getE h1, List.getE h2, Option.bind_some, e]
      rw [show (decide (a[k] :: a.drop (k + 1) = b[k] :: b.drop (k + 1))) = false by simp only [h, List.cons.injEq, false_and, decide_false]]
theorem rsame1_ok {a b : List Int} (hl : a.length < 9223372036854775807) : ref01_Same a b = some (decide (a = b)) := by
  by_cases hab : a.length = b.length
  · refine evf_of (.next (s' := .s1 a b 0) (by simp [ref01_Same_step, ref01_Same_0, hab]) ?_)
    simpa using rsame_loop a b hl hab a.length 0 (by omega)
  · refine evf_of (.done ?_)
    have e : (((a.length : Nat) : Int) != ((b.length : Nat) : Int)) = true := by simp; omega
    have hne : a ≠ b := fun h => hab (by rw [h])
    simp [ref01_Same_step, ref01_Same_0, e, hne]

theorem rsame4_loop (a b : Plan) (hs : Shrt a) (hab : a.Pen.length = b.Pen.length) : ∀ (j k : Nat), k + j = a.Pen.length → Ev ref04_Same_step (.s2 k a b) (decide (a.Pen.drop k = b.Pen.drop k) && decide (a.Changes = b.Changes)) := by
  intro j
  have hl := hs.pen
  induction j with
  | zero =>
    intro k hk
    refine .done ?_
    rw [List.drop_eq_nil_of_le (by omega), List.drop_eq_nil_of_le (by omega)]
    simp only [ref04_Same_step, ref04_Same_2, List.length_map, geB (show a.Pen.length ≤ k by omega), cond_false, rsame1_ok hs.ch, Option.bind_some]
    simp
  | succ j ih =>
    intro k hk
    have h1 : k < a.Pen.length := by omega
    have h2 : k < b.Pen.length := by omega
    rw [List.drop_eq_getElem_cons h1, List.drop_eq_getElem_cons h2]
    by_cases h : a.Pen[k] = b.Pen[k]
    · refine .next (s' := .s2 ((k + 1 : Nat) : Int) a b) ?_ ?_
      · have e : (a.Pen[k] != b.Pen[k]) = false := by simp [h]
        simp only [ref04_Same_step, ref04_Same_2, List.length_map, ltB h1, ltB h2, le0, Bool.and_self, cond_true, Int.toNat_natCast, List.getE h1, List.getE h2, Option.bind_some, e, cond_false, wS (show k < 9223372036854775807 by omega)]
      · rw [show (decide (a.Pen[k] :: a.Pen.drop (k + 1) = b.Pen[k] :: b.Pen.drop (k + 1))) = decide (a.Pen.drop (k + 1) = b.Pen.drop (k + 1)) by simp only [h, List.cons.injEq, true_and]]
        exact ih (k + 1) (by omega)
    · refine .done ?_
      have e : (a.Pen[k] != b.Pen[k]) = true := by simp [h]
      simp only [ref04_Same_step, ref04_Same_2, List.length_map, ltB h1, ltB h2, le0, Bool.and_self, cond_true, Int.toNat_natCast, List.getE h1, List.getE h2, Option.bind_some, e]
      rw [show (decide (a.Pen[k] :: a.Pen.drop (k + 1) = b.Pen[k] :: b.Pen.drop (k + 1))) = false by simp only [h, List.cons.injEq, false_and, decide_false]]
      rfl

def sameN (a b : Plan) : Bool := decide (a.Epoch = b.Epoch) && (decide (a.Target = b.Target) && (decide (a.Prev = b.Prev) && (decide (a.Spill = b.Spill) && (decide (a.Percent = b.Percent) && (decide (a.Stamp = b.Stamp) && (decide (a.Since = b.Since) && (decide (a.Ramped = b.Ramped) && (decide (a.Up = b.Up) && decide (a.Sup = b.Sup)))))))))
/-- Are two alike? -/
def sameP (a b : Plan) : Bool := sameN a b && (decide (a.Pen = b.Pen) && decide (a.Changes = b.Changes))
theorem sameP_iff {a b : Plan} : sameP a b = true ↔ a = b := by
  cases a; cases b
  simp only [sameP, sameN, Bool.and_eq_true, decide_eq_true_eq, Plan.mk.injEq, and_assoc]

theorem rsame_ok {a b : Plan} (hs : Shrt a) : ref04_Same a b = some (sameP a b) := by
  have bad : Ev ref04_Same_step (.s1 true a b) false := .done rfl
  have hstep : ref04_Same_step (.s0 a b) = some (.inl (.s1 (!(sameN a b) || !(decide (a.Pen.length = b.Pen.length))) a b)) := by
    have hb : ∀ x y : Int, (x != y) = !(decide (x = y)) := fun x y => by by_cases h : x = y <;> simp [h]
    simp only [ref04_Same_step, ref04_Same_0, hb, sameN, List.length_map]
    cases decide (a.Epoch = b.Epoch) <;> cases decide (a.Target = b.Target) <;> cases decide (a.Prev = b.Prev) <;> cases decide (a.Spill = b.Spill) <;> cases decide (a.Percent = b.Percent) <;> cases decide (a.Stamp = b.Stamp) <;> cases decide (a.Since = b.Since) <;> cases decide (a.Ramped = b.Ramped) <;> cases decide (a.Up = b.Up) <;> cases decide (a.Sup = b.Sup) <;> first | rfl | (simp; done) | (simp; omega)
  refine evf_of (.next hstep ?_)
  unfold sameP
  cases hn : sameN a b with
  | false => exact bad
  | true =>
    by_cases hab : a.Pen.length = b.Pen.length
    · rw [decide_eq_true hab]
      refine .next (s' := .s2 0 a b) rfl ?_
      simpa using rsame4_loop a b hs hab a.Pen.length 0 (by omega)
    · have hne : a.Pen ≠ b.Pen := fun h => hab (by rw [h])
      rw [decide_eq_false hab, decide_eq_false hne]
      exact bad

theorem wrapI_inj {x y : Int} (hx : inK .u64 x) (hy : inK .u64 y) : (IntKind.i64.wrap x == IntKind.i64.wrap y) = decide (x = y) := by
  obtain ⟨n, rfl⟩ := Int.eq_ofNat_of_zero_le (inU64.1 hx).1
  obtain ⟨m, rfl⟩ := Int.eq_ofNat_of_zero_le (inU64.1 hy).1
  have h1 := (inU64.1 hx).2
  have h2 := (inU64.1 hy).2
  rw [wrapI64_nat n (by omega), wrapI64_nat m (by omega)]
  rw [Bool.eq_iff_iff]
  simp only [beq_iff_eq, decide_eq_true_eq]
  split <;> split <;> omega

theorem wrapI_inj' {x y : Int} (hx : inK .u64 x) (hy : inK .u64 y) : decide (IntKind.i64.wrap x = IntKind.i64.wrap y) = decide (x = y) := by
  rw [← wrapI_inj hx hy, Bool.eq_iff_iff]; simp

theorem same_ok {a b : Plan} (hs : Shrt a) (h1 : inK .u64 a.Up) (h2 : inK .u64 b.Up) (h3 : inK .u64 a.Sup) (h4 : inK .u64 b.Sup) : plan_Same a b = some (sameP a b) := by
  have hb : ∀ x y : Int, (x == y) = decide (x = y) := fun x y => by by_cases h : x = y <;> simp [h]
  simp only [plan_Same, plan_numbers, Option.bind_some, wrapI_inj' h1 h2, wrapI_inj' h3 h4, hb, Bool.and_true, equal_ok hs.pen, equal_v2_ok hs.ch]
  rw [show (decide (a.Epoch = b.Epoch) && (decide (a.Target = b.Target) && (decide (a.Prev = b.Prev) && (decide (a.Spill = b.Spill) && (decide (a.Percent = b.Percent) && (decide (a.Stamp = b.Stamp) && (decide (a.Since = b.Since) && (decide (a.Ramped = b.Ramped) && (decide (a.Up = b.Up) && decide (a.Sup = b.Sup)))))))))) = sameN a b from rfl]
  unfold sameP
  cases sameN a b with
  | false => rfl
  | true => cases decide (a.Pen = b.Pen) <;> rfl

/-! ### the head -/
def namesP (p : Plan) (t : Int) : Bool := decide (0 ≤ t) && (decide (t = p.Target) || ((decide (t = p.Prev) && decide (p.Percent < 100)) || decide (t = p.Spill)))
def headPl : Plan := ⟨0, 1, 0, 2, 100, 0, 0, 0, 0, 0, [], []⟩
theorem headPl_fine : Fine headPl := ⟨inI64.2 (by simp [headPl]), by simp [headPl], by simp [headPl], ⟨by simp [headPl], by simp [headPl]⟩⟩
theorem headPl_right : rightP headPl = true := by decide
theorem b8_inj {a b : List Int} (ha : Bytes a) (hb : Bytes b) : (List.map b8 a == List.map b8 b) = decide (a = b) := by
  rw [Bool.eq_iff_iff, beq_iff_eq, decide_eq_true_eq]
  refine ⟨fun h => ?_, fun h => by rw [h]⟩
  have hlen : a.length = b.length := by simpa using congrArg List.length h
  refine List.ext_getElem hlen fun i h1 h2 => ?_
  have := congrArg (fun l => l[i]?) h
  simp only [List.getElem?_map, List.getElem?_eq_getElem h1, List.getElem?_eq_getElem h2, Option.map_some, Option.some.injEq] at this
  have q1 := ha _ (List.getElem_mem h1)
  have q2 := hb _ (List.getElem_mem h2)
  have := congrArg UInt8.toNat this
  simp only [b8, UInt8.toNat_ofNat'] at this
  omega
theorem bytesOf {b : List Int} (h : b.length * 1 ≤ reachBytes ∧ ∀ y ∈ b, inK .u8 y) : Bytes b ∧ b.length ≤ memB := by
  refine ⟨fun c hc => inU8.1 (h.2 c hc), ?_⟩
  have : reachBytes ≤ memB := by decide
  omega
end Go.RX.L

set_option linter.unusedSimpArgs false
set_option linter.unusedVariables false
set_option maxRecDepth 100000
set_option maxHeartbeats 4000000
namespace Go.RX.L
open Go Go.RX Go.Proofs
attribute [local irreducible] FinQ
def msg_Right_Q (y : Bool) (d : D) (s : Sto) : Prop := d = D.bool y ∧ s = []
noncomputable def msg_Right_1M (t30 : Bool) (m : Msg) : M := { td := [It.code (codeAt (bodyOf Tryd.f14) [1, 0, 0, 1, 1, 1]), It.blk 0, It.code (codeAt (bodyOf Tryd.f14) [1, 1])], fr := [(1, D.ptr 0 0 0), (30, D.bool t30)], st := [some { sz := 26, deep := false, rows := [(Msg.enc m)] }] }
noncomputable def msg_Right_1 (t30 : Bool) (m : Msg) : Option Bool := (bif t30 then (some false) else (bif m.HasPlan then ((plan_Right m.Plan).bind fun y3 => (some y3)) else ((plan_Same m.Plan (⟨0, 0, 0, 0, 0, 0, 0, 0, 0, 0, [], []⟩ : Plan)).bind fun y4 => (some y4))))
theorem msg_Right_1_ok {t30 : Bool} {m : Msg} {r : Bool} (h : msg_Right_1 t30 m = some r) : FinQ E (Cx.of Tryd.f14 false 0) (QW (msg_Right_Q r)) (.go (msg_Right_1M t30 m)) := by
  unfold msg_Right_1 at h
  refine adv_ok hm 1 _ ?_
  refine p_split h (by kernel_rfl) (fun h1 h => ?_) (fun h1 h => ?_)
  · -- true
    refine adv_ok hm 5 _ ?_
    obtain rfl := Option.some.inj h
    exact r_retF [] (d := D.bool false) (s := []) (by kernel_rfl) Cx.fin_of ⟨rfl, rfl⟩
  · -- false
    refine adv_ok hm 8 _ ?_
    refine p_split h (by kernel_rfl) (fun h2 h => ?_) (fun h2 h => ?_)
    · -- true
      refine adv_ok hm 6 _ ?_
      have ok3 := fun (y : Bool) (hy : plan_Right m.Plan = some y) => plan_Right_ok hy
      refine p_callR [] h (by kernel_rfl) ok3 (fun y3 h3 h => ?_)
      refine adv_ok hm 3 _ ?_
      obtain rfl := Option.some.inj h
      exact r_retF [] (d := D.bool y3) (s := []) (by kernel_rfl) Cx.fin_of ⟨rfl, rfl⟩
    · -- false
      refine adv_ok hm 9 _ ?_
      have ok4 := fun (y : Bool) (hy : plan_Same m.Plan (⟨0, 0, 0, 0, 0, 0, 0, 0, 0, 0, [], []⟩ : Plan) = some y) => plan_Same_ok hy
      refine p_callR [some 1, some 1] h (by kernel_rfl) ok4 (fun y4 h4 h => ?_)
      refine adv_ok hm 3 _ ?_
      obtain rfl := Option.some.inj h
      exact r_retF [] (d := D.bool y4) (s := []) (by kernel_rfl) Cx.fin_of ⟨rfl, rfl⟩
noncomputable def msg_Right_2M (t30 : Bool) (m : Msg) : M := { td := [It.code (codeAt (bodyOf Tryd.f14) [1, 0, 0, 1, 1, 0, 1]), It.code (codeAt (bodyOf Tryd.f14) [1, 0, 0, 1, 1, 1]), It.blk 0, It.code (codeAt (bodyOf Tryd.f14) [1, 1])], fr := [(1, D.ptr 0 0 0), (30, D.bool t30)], st := [some { sz := 26, deep := false, rows := [(Msg.enc m)] }] }
noncomputable def msg_Right_2 (t30 : Bool) (m : Msg) : Option Bool := (bif t30 then (msg_Right_1 t30 m) else (bif (decide (((((List.map (eInt .u8) m.Session).length : Nat) : Int) : Int) > 64)) then (msg_Right_1 (decide (((((List.map (eInt .u8) m.Session).length : Nat) : Int) : Int) > 64)) m) else (msg_Right_1 (decide (((((List.map (eInt .u8) m.Payload).length : Nat) : Int) : Int) > 1024)) m)))
theorem msg_Right_2_ok {t30 : Bool} {m : Msg} {r : Bool} (h : msg_Right_2 t30 m = some r) : FinQ E (Cx.of Tryd.f14 false 0) (QW (msg_Right_Q r)) (.go (msg_Right_2M t30 m)) := by
  unfold msg_Right_2 at h
  refine adv_ok hm 1 _ ?_
  refine p_split h (by kernel_rfl) (fun h1 h => ?_) (fun h1 h => ?_)
  · -- true
    refine adv_ok hm 1 _ ?_
    exact r_cut 1073741826 [] (m' := (msg_Right_1M t30 m)) (by kernel_rfl) (msg_Right_1_ok h)
  · -- false
    refine adv_ok hm 10 _ ?_
    refine p_split h (by kernel_rfl) (fun h2 h => ?_) (fun h2 h => ?_)
    · -- true
      refine adv_ok hm 1 _ ?_
      exact r_cut 1073741826 [] (m' := (msg_Right_1M (decide (((((List.map (eInt .u8) m.Session).length : Nat) : Int) : Int) > 64)) m)) (by kernel_rfl) (msg_Right_1_ok h)
    · -- false
      refine adv_ok hm 8 _ ?_
      exact r_cut 1073741826 [] (m' := (msg_Right_1M (decide (((((List.map (eInt .u8) m.Payload).length : Nat) : Int) : Int) > 1024)) m)) (by kernel_rfl) (msg_Right_1_ok h)
noncomputable def msg_Right_3M (t3 : Bool) (m : Msg) : M := { td := [It.code (codeAt (bodyOf Tryd.f14) [1, 0, 0, 1]), It.blk 0, It.code (codeAt (bodyOf Tryd.f14) [1, 1])], fr := [(1, D.ptr 0 0 0), (3, D.bool t3)], st := [some { sz := 26, deep := false, rows := [(Msg.enc m)] }] }
noncomputable def msg_Right_3 (t3 : Bool) (m : Msg) : Option Bool := (bif t3 then (some false) else (bif (decide (((((List.map (eInt .i64) m.ID).length : Nat) : Int) : Int) > 0)) then (msg_Right_2 (((((List.map (eInt .i64) m.ID).length : Nat) : Int) : Int) != 3) m) else (msg_Right_2 false m)))
theorem msg_Right_3_ok {t3 : Bool} {m : Msg} {r : Bool} (h : msg_Right_3 t3 m = some r) : FinQ E (Cx.of Tryd.f14 false 0) (QW (msg_Right_Q r)) (.go (msg_Right_3M t3 m)) := by
  unfold msg_Right_3 at h
  refine adv_ok hm 1 _ ?_
  refine p_split h (by kernel_rfl) (fun h1 h => ?_) (fun h1 h => ?_)
  · -- true
    refine adv_ok hm 5 _ ?_
    obtain rfl := Option.some.inj h
    exact r_retF [] (d := D.bool false) (s := []) (by kernel_rfl) Cx.fin_of ⟨rfl, rfl⟩
  · -- false
    refine adv_ok hm 10 _ ?_
    refine p_split h (by kernel_rfl) (fun h2 h => ?_) (fun h2 h => ?_)
    · -- true
      refine adv_ok hm 11 _ ?_
      exact r_cut 1073741826 [] (m' := (msg_Right_2M (((((List.map (eInt .i64) m.ID).length : Nat) : Int) : Int) != 3) m)) (by kernel_rfl) (msg_Right_2_ok h)
    · -- false
      refine adv_ok hm 10 _ ?_
      exact r_cut 1073741826 [] (m' := (msg_Right_2M false m)) (by kernel_rfl) (msg_Right_2_ok h)
noncomputable def msg_Right (m : Msg) : Option Bool := (bif (decide ((m.Kind : Int) < 1)) then (msg_Right_3 (decide ((m.Kind : Int) < 1)) m) else (bif (decide ((m.Kind : Int) > 19)) then (msg_Right_3 (decide ((m.Kind : Int) > 19)) m) else (bif (decide (((mnI (mnI m.From m.To) m.Code) : Int) < 0)) then (msg_Right_3 (decide (((mnI (mnI m.From m.To) m.Code) : Int) < 0)) m) else (bif (decide (((mxI m.From m.To) : Int) > 255)) then (msg_Right_3 (decide (((mxI m.From m.To) : Int) > 255)) m) else (bif (decide ((m.Code : Int) > 1000)) then (msg_Right_3 (decide ((m.Code : Int) > 1000)) m) else (msg_Right_3 (decide ((m.Up : Int) ≥ 65536)) m))))))
theorem msg_Right_ok {m : Msg} {r : Bool} (h : msg_Right m = some r) : Sound E 14 [D.agg (Msg.enc m)] [] (msg_Right_Q r) := by
  refine sound_ofW (m := ⟨[.code (bodyOf Tryd.f14)], [(0, D.agg (Msg.enc m))], []⟩) (fn := Tryd.f14) (by kernel_rfl) (by kernel_rfl) ?_
  show FinQ E (Cx.of Tryd.f14 false 0) (QW (msg_Right_Q r)) _
  unfold msg_Right at h
  refine adv_ok hm 17 _ ?_
  refine p_split h (by kernel_rfl) (fun h1 h => ?_) (fun h1 h => ?_)
  · -- true
    refine adv_ok hm 1 _ ?_
    exact r_cut 10 [] (m' := (msg_Right_3M (decide ((m.Kind : Int) < 1)) m)) (by kernel_rfl) (msg_Right_3_ok h)
  · -- false
    refine adv_ok hm 9 _ ?_
    refine p_split h (by kernel_rfl) (fun h2 h => ?_) (fun h2 h => ?_)
    · -- true
      refine adv_ok hm 1 _ ?_
      exact r_cut 10 [] (m' := (msg_Right_3M (decide ((m.Kind : Int) > 19)) m)) (by kernel_rfl) (msg_Right_3_ok h)
    · -- false
      refine adv_ok hm 16 _ ?_
      refine p_split h (by kernel_rfl) (fun h3 h => ?_) (fun h3 h => ?_)
      · -- true
        refine adv_ok hm 1 _ ?_
        exact r_cut 10 [] (m' := (msg_Right_3M (decide (((mnI (mnI m.From m.To) m.Code) : Int) < 0)) m)) (by kernel_rfl) (msg_Right_3_ok h)
      · -- false
        refine adv_ok hm 13 _ ?_
        refine p_split h (by kernel_rfl) (fun h4 h => ?_) (fun h4 h => ?_)
        · -- true
          refine adv_ok hm 1 _ ?_
          exact r_cut 10 [] (m' := (msg_Right_3M (decide (((mxI m.From m.To) : Int) > 255)) m)) (by kernel_rfl) (msg_Right_3_ok h)
        · -- false
          refine adv_ok hm 9 _ ?_
          refine p_split h (by kernel_rfl) (fun h5 h => ?_) (fun h5 h => ?_)
          · -- true
            refine adv_ok hm 1 _ ?_
            exact r_cut 10 [] (m' := (msg_Right_3M (decide ((m.Code : Int) > 1000)) m)) (by kernel_rfl) (msg_Right_3_ok h)
          · -- false
            refine adv_ok hm 7 _ ?_
            exact r_cut 10 [] (m' := (msg_Right_3M (decide ((m.Up : Int) ≥ 65536)) m)) (by kernel_rfl) (msg_Right_3_ok h)
end Go.RX.L

set_option linter.unusedSimpArgs false
set_option linter.unusedVariables false
set_option maxRecDepth 100000
set_option maxHeartbeats 4000000
namespace Go.RX.L
open Go Go.RX Go.Proofs
attribute [local irreducible] FinQ
def msg_Body_Q (y : Int × (List Int) × Int) (d : D) (s : Sto) : Prop := d = D.tup [D.int .u8 y.1, D.sl false 1 (List.map (eInt .u8) y.2.1), D.int .i64 y.2.2] ∧ s = []
inductive msg_Body_S where
  | s0 (m : Msg)
  | s3 (m : Msg) (l_ : List Int)
  | s2 (m : Msg) (b : List Int)
  | s1 (t81 : Int) (m : Msg) (b : List Int) (b2 : List (List Int))
noncomputable def msg_Body_M : msg_Body_S → M
  | .s0 m => ⟨[.code (bodyOf Tryd.f12)], [(0, D.agg (Msg.enc m))], []⟩
  | .s3 m l_ => { td := [It.code (codeAt (bodyOf Tryd.f12) [1, 1, 1, 1])], fr := [(1, D.ptr 0 0 0), (5, D.msl 1 0 ((List.map (eInt .i64) l_).length) ((List.map (eInt .i64) l_).length) true)], st := [some { sz := 26, deep := false, rows := [(Msg.enc m)] }, some { sz := 1, deep := false, rows := (List.map (eInt .i64) l_) }] }
  | .s2 m b => { td := [It.code (codeAt (bodyOf Tryd.f12) [1, 1, 1, 1, 1, 1])], fr := [(1, D.ptr 0 0 0), (6, D.msl 1 0 ((List.map (eInt .u8) b).length) ((List.map (eInt .u8) b).length) false)], st := [some { sz := 26, deep := false, rows := [(Msg.enc m)] }, some { sz := 1, deep := false, rows := (List.map (eInt .u8) b) }] }
  | .s1 t81 m b b2 => { td := [It.lpc (codeAt (bodyOf Tryd.f12) [1, 1, 1, 1, 1, 1, 1, 1, 0, 1, 0, 0]) 4231240368651202111471682, It.blk 0, It.code (codeAt (bodyOf Tryd.f12) [1, 1, 1, 1, 1, 1, 1, 1, 1])], fr := [(1, D.ptr 0 0 0), (6, D.msl 1 0 ((List.map (eInt .u8) b).length) ((List.map (eInt .u8) b).length) false), (79, D.msl 2 0 ((List.map (eSl 1 (eInt .u8)) b2).length) ((List.map (eSl 1 (eInt .u8)) b2).length) true), (80, D.int .i64 2), (81, D.int .i64 t81)], st := [some { sz := 26, deep := false, rows := [(Msg.enc m)] }, some { sz := 1, deep := false, rows := (List.map (eInt .u8) b) }, some { sz := 1, deep := false, rows := (List.map (eSl 1 (eInt .u8)) b2) }] }
noncomputable def msg_Body_0 (m : Msg) : Option (msg_Body_S ⊕ (Int × (List Int) × Int)) := ((msg_Right m).bind fun y1 => (bif (!y1) then (some (.inr (0, [], 51))) else (bif m.HasPlan then (some (.inl (.s3 m ([m.From, m.To, m.Epoch, m.Ballot, m.Accepted, m.Nonce, m.Time, (IntKind.i64.wrap (m.Up)), m.Code, 1])))) else (some (.inl (.s3 m ([m.From, m.To, m.Epoch, m.Ballot, m.Accepted, m.Nonce, m.Time, (IntKind.i64.wrap (m.Up)), m.Code, 0])))))))
noncomputable def msg_Body_3 (m : Msg) (l_ : List Int) : Option (msg_Body_S ⊕ (Int × (List Int) × Int)) := ((wire_PutInts l_).bind fun y1 => (bif m.HasPlan then ((plan_Put m.Plan).bind fun y3 => ((wire_PutText y3.1).bind fun y4 => (bif (decide (((List.map (eInt .u8) y1.2).length + (List.take ((List.map (eInt .u8) y4.2).length) (List.drop 0 (List.map (eInt .u8) y4.2))).length) * 1 ≤ bytesLim)) then (some (.inl (.s2 m (y1.2 ++ y4.2)))) else none))) else (some (.inl (.s2 m y1.2)))))
noncomputable def msg_Body_2 (m : Msg) (b : List Int) : Option (msg_Body_S ⊕ (Int × (List Int) × Int)) := ((wire_PutInts m.ID).bind fun y1 => (bif (decide (((List.map (eInt .u8) b).length + (List.take ((List.map (eInt .u8) y1.2).length) (List.drop 0 (List.map (eInt .u8) y1.2))).length) * 1 ≤ bytesLim)) then (some (.inl (.s1 0 m (b ++ y1.2) ([m.Session, m.Payload])))) else none))
noncomputable def msg_Body_1 (t81 : Int) (m : Msg) (b : List Int) (b2 : List (List Int)) : Option (msg_Body_S ⊕ (Int × (List Int) × Int)) := (bif (decide ((t81 : Int) < 2)) then (bif ((decide ((0 : Int) ≤ t81)) && (decide ((t81 : Int) < (((List.map (eSl 1 (eInt .u8)) b2).length : Nat) : Int)))) then (((b2)[(0 + t81.toNat)]?).bind fun y3 => ((wire_PutText y3).bind fun y5 => (bif (decide (((List.map (eInt .u8) b).length + (List.take ((List.map (eInt .u8) y5.2).length) (List.drop 0 (List.map (eInt .u8) y5.2))).length) * 1 ≤ bytesLim)) then (some (.inl (.s1 (IntKind.i64.wrap (t81 + 1)) m (b ++ y5.2) b2))) else none))) else none) else (some (.inr ((IntKind.u8.wrap (m.Kind)), b, 0))))
noncomputable def msg_Body_step : msg_Body_S → Option (msg_Body_S ⊕ (Int × (List Int) × Int))
  | .s0 m => msg_Body_0 m
  | .s3 m l_ => msg_Body_3 m l_
  | .s2 m b => msg_Body_2 m b
  | .s1 t81 m b b2 => msg_Body_1 t81 m b b2
theorem msg_Body_0_ok {m : Msg} {r : Int × (List Int) × Int} {x : msg_Body_S ⊕ (Int × (List Int) × Int)} (h : msg_Body_0 m = some x) (ha : After E (Cx.of Tryd.f12 false 0) msg_Body_Q msg_Body_M r x) : FinQ E (Cx.of Tryd.f12 false 0) (QW (msg_Body_Q r)) (.go (msg_Body_M (.s0 m))) := by
  unfold msg_Body_0 at h
  refine adv_ok hm 13 _ ?_
  have ok1 := fun (y : Bool) (hy : msg_Right m = some y) => msg_Right_ok hy
  refine p_callR [] h (by kernel_rfl) ok1 (fun y1 h1 h => ?_)
  refine adv_ok hm 3 _ ?_
  refine p_split h (by kernel_rfl) (fun h2 h => ?_) (fun h2 h => ?_)
  · -- true
    refine adv_ok hm 7 _ ?_
    obtain rfl := Option.some.inj h
    have hv := ha
    simp only [After] at hv
    subst hv
    exact r_retF [.slot 0 [some 1]] (d := D.tup [D.int .u8 0, D.sl false 1 [], D.int .i64 51]) (s := []) (by kernel_rfl) Cx.fin_of ⟨rfl, rfl⟩
  · -- false
    refine adv_ok hm 42 _ ?_
    refine p_split h (by kernel_rfl) (fun h3 h => ?_) (fun h3 h => ?_)
    · -- true
      refine adv_ok hm 8 _ ?_
      obtain rfl := Option.some.inj h
      refine r_cut 34 [] (m' := { td := [It.code (codeAt (bodyOf Tryd.f12) [1, 1, 1, 1])], fr := [(1, D.ptr 0 0 0), (5, D.msl 1 0 10 10 true)], st := [some { sz := 26, deep := false, rows := [(Msg.enc m)] }, some { sz := 1, deep := false, rows := [[D.int .i64 m.From], [D.int .i64 m.To], [D.int .i64 m.Epoch], [D.int .i64 m.Ballot], [D.int .i64 m.Accepted], [D.int .i64 m.Nonce], [D.int .i64 m.Time], [D.int .i64 (IntKind.i64.wrap (m.Up))], [D.int .i64 m.Code], [D.int .i64 1]] }] }) (by kernel_rfl) ?_
      refine r_len (n1 := 10) (n2 := (List.map (eInt .i64) ([m.From, m.To, m.Epoch, m.Ballot, m.Accepted, m.Nonce, m.Time, (IntKind.i64.wrap (m.Up)), m.Code, 1])).length) (fun n_len => .go { td := [It.code (codeAt (bodyOf Tryd.f12) [1, 1, 1, 1])], fr := [(1, D.ptr 0 0 0), (5, D.msl 1 0 n_len n_len true)], st := [some { sz := 26, deep := false, rows := [[D.int .i64 m.Kind, D.int .i64 m.From, D.int .i64 m.To, D.int .i64 m.Epoch, D.int .i64 m.Ballot, D.int .i64 m.Accepted, D.int .i64 m.Nonce, D.int .i64 m.Time, D.int .u64 m.Up, D.int .i64 m.Code, D.bool m.HasPlan, D.int .i64 m.Plan.Epoch, D.int .i64 m.Plan.Target, D.int .i64 m.Plan.Prev, D.int .i64 m.Plan.Spill, D.int .i64 m.Plan.Percent, D.int .i64 m.Plan.Stamp, D.int .i64 m.Plan.Since, D.int .i64 m.Plan.Ramped, D.int .u64 m.Plan.Up, D.int .u64 m.Plan.Sup, D.sl false 1 (List.map (eInt .i64) m.Plan.Pen), D.sl false 1 (List.map (eInt .i64) m.Plan.Changes), D.sl false 1 (List.map (eInt .i64) m.ID), D.sl false 1 (List.map (eInt .u8) m.Session), D.sl false 1 (List.map (eInt .u8) m.Payload)]] }, some { sz := 1, deep := false, rows := [[D.int .i64 m.From], [D.int .i64 m.To], [D.int .i64 m.Epoch], [D.int .i64 m.Ballot], [D.int .i64 m.Accepted], [D.int .i64 m.Nonce], [D.int .i64 m.Time], [D.int .i64 (IntKind.i64.wrap (m.Up))], [D.int .i64 m.Code], [D.int .i64 1]] }] }) (by simp) ?_
      exact ha
    · -- false
      refine adv_ok hm 1 _ ?_
      obtain rfl := Option.some.inj h
      refine r_cut 34 [] (m' := { td := [It.code (codeAt (bodyOf Tryd.f12) [1, 1, 1, 1])], fr := [(1, D.ptr 0 0 0), (5, D.msl 1 0 10 10 true)], st := [some { sz := 26, deep := false, rows := [(Msg.enc m)] }, some { sz := 1, deep := false, rows := [[D.int .i64 m.From], [D.int .i64 m.To], [D.int .i64 m.Epoch], [D.int .i64 m.Ballot], [D.int .i64 m.Accepted], [D.int .i64 m.Nonce], [D.int .i64 m.Time], [D.int .i64 (IntKind.i64.wrap (m.Up))], [D.int .i64 m.Code], [D.int .i64 0]] }] }) (by kernel_rfl) ?_
      refine r_len (n1 := 10) (n2 := (List.map (eInt .i64) ([m.From, m.To, m.Epoch, m.Ballot, m.Accepted, m.Nonce, m.Time, (IntKind.i64.wrap (m.Up)), m.Code, 0])).length) (fun n_len => .go { td := [It.code (codeAt (bodyOf Tryd.f12) [1, 1, 1, 1])], fr := [(1, D.ptr 0 0 0), (5, D.msl 1 0 n_len n_len true)], st := [some { sz := 26, deep := false, rows := [[D.int .i64 m.Kind, D.int .i64 m.From, D.int .i64 m.To, D.int .i64 m.Epoch, D.int .i64 m.Ballot, D.int .i64 m.Accepted, D.int .i64 m.Nonce, D.int .i64 m.Time, D.int .u64 m.Up, D.int .i64 m.Code, D.bool m.HasPlan, D.int .i64 m.Plan.Epoch, D.int .i64 m.Plan.Target, D.int .i64 m.Plan.Prev, D.int .i64 m.Plan.Spill, D.int .i64 m.Plan.Percent, D.int .i64 m.Plan.Stamp, D.int .i64 m.Plan.Since, D.int .i64 m.Plan.Ramped, D.int .u64 m.Plan.Up, D.int .u64 m.Plan.Sup, D.sl false 1 (List.map (eInt .i64) m.Plan.Pen), D.sl false 1 (List.map (eInt .i64) m.Plan.Changes), D.sl false 1 (List.map (eInt .i64) m.ID), D.sl false 1 (List.map (eInt .u8) m.Session), D.sl false 1 (List.map (eInt .u8) m.Payload)]] }, some { sz := 1, deep := false, rows := [[D.int .i64 m.From], [D.int .i64 m.To], [D.int .i64 m.Epoch], [D.int .i64 m.Ballot], [D.int .i64 m.Accepted], [D.int .i64 m.Nonce], [D.int .i64 m.Time], [D.int .i64 (IntKind.i64.wrap (m.Up))], [D.int .i64 m.Code], [D.int .i64 0]] }] }) (by simp) ?_
      exact ha
theorem msg_Body_3_ok {m : Msg} {l_ : List Int} {r : Int × (List Int) × Int} {x : msg_Body_S ⊕ (Int × (List Int) × Int)} (h : msg_Body_3 m l_ = some x) (ha : After E (Cx.of Tryd.f12 false 0) msg_Body_Q msg_Body_M r x) : FinQ E (Cx.of Tryd.f12 false 0) (QW (msg_Body_Q r)) (.go (msg_Body_M (.s3 m l_))) := by
  unfold msg_Body_3 at h
  refine adv_ok hm 4 _ ?_
  refine r_needT (b := (Nat.ble (0 + (List.map (eInt .i64) l_).length) ((List.map (eInt .i64) l_).length))) (by kernel_rfl) (ble_full _) ?_
  have ok1 := fun (y : Int × (List Int)) (hy : wire_PutInts l_ = some y) => wire_PutInts_ok hy
  refine p_callS [] (args1 := [D.sl false 1 (List.take ((List.map (eInt .i64) l_).length) (List.drop 0 (List.map (eInt .i64) l_)))]) h (by kernel_rfl) ⟨by simp [List.take_of_length_le, List.map_take, List.map_drop, Msg.enc, Plan.enc, reader.enc, place.enc], rfl⟩ ok1 (fun y1 h1 h => ?_)
  refine adv_ok hm 14 _ ?_
  refine p_split h (by kernel_rfl) (fun h2 h => ?_) (fun h2 h => ?_)
  · -- true
    refine adv_ok hm 6 _ ?_
    have ok3 := fun (y : (List Int) × Int) (hy : plan_Put m.Plan = some y) => plan_Put_ok hy
    refine p_callR [] h (by kernel_rfl) ok3 (fun y3 h3 h => ?_)
    refine adv_ok hm 10 _ ?_
    have ok4 := fun (y : Int × (List Int)) (hy : wire_PutText y3.1 = some y) => wire_PutText_ok hy
    refine p_callR [] h (by kernel_rfl) ok4 (fun y4 h4 h => ?_)
    refine adv_ok hm 10 _ ?_
    refine r_needT (b := (Nat.beq ((List.take ((List.map (eInt .u8) y4.2).length) (List.drop 0 (List.map (eInt .u8) y4.2))).length) ((List.map (eInt .u8) y4.2).length))) (by kernel_rfl) (by simp) ?_
    refine p_need h (by kernel_rfl) (fun h5 h => ?_)
    refine r_needT (b := (Nat.ble (0 + (List.map (eInt .u8) y1.2).length) ((List.map (eInt .u8) y1.2).length))) (by kernel_rfl) (ble_full _) ?_
    refine r_rows (List.take ((List.map (eInt .u8) y1.2).length) (List.drop 0 (List.map (eInt .u8) y1.2)) ++ (List.take ((List.map (eInt .u8) y4.2).length) (List.drop 0 (List.map (eInt .u8) y4.2)))) (List.map (eInt .u8) (y1.2 ++ y4.2)) (by kernel_rfl) (by simp only [take_full, take_full', List.map_append]) ?_
    refine adv_ok hm 2 _ ?_
    obtain rfl := Option.some.inj h
    exact r_cut 66 [] (m' := (msg_Body_M (.s2 m (y1.2 ++ y4.2)))) (by kernel_rfl) ha
  · -- false
    refine adv_ok hm 1 _ ?_
    obtain rfl := Option.some.inj h
    exact r_cut 66 [] (m' := (msg_Body_M (.s2 m y1.2))) (by kernel_rfl) ha
theorem msg_Body_2_ok {m : Msg} {b : List Int} {r : Int × (List Int) × Int} {x : msg_Body_S ⊕ (Int × (List Int) × Int)} (h : msg_Body_2 m b = some x) (ha : After E (Cx.of Tryd.f12 false 0) msg_Body_Q msg_Body_M r x) : FinQ E (Cx.of Tryd.f12 false 0) (QW (msg_Body_Q r)) (.go (msg_Body_M (.s2 m b))) := by
  unfold msg_Body_2 at h
  refine adv_ok hm 6 _ ?_
  have ok1 := fun (y : Int × (List Int)) (hy : wire_PutInts m.ID = some y) => wire_PutInts_ok hy
  refine p_callR [] h (by kernel_rfl) ok1 (fun y1 h1 h => ?_)
  refine adv_ok hm 11 _ ?_
  refine r_needT (b := (Nat.beq ((List.take ((List.map (eInt .u8) y1.2).length) (List.drop 0 (List.map (eInt .u8) y1.2))).length) ((List.map (eInt .u8) y1.2).length))) (by kernel_rfl) (by simp) ?_
  refine p_need h (by kernel_rfl) (fun h2 h => ?_)
  refine r_needT (b := (Nat.ble (0 + (List.map (eInt .u8) b).length) ((List.map (eInt .u8) b).length))) (by kernel_rfl) (ble_full _) ?_
  refine r_rows (List.take ((List.map (eInt .u8) b).length) (List.drop 0 (List.map (eInt .u8) b)) ++ (List.take ((List.map (eInt .u8) y1.2).length) (List.drop 0 (List.map (eInt .u8) y1.2)))) (List.map (eInt .u8) (b ++ y1.2)) (by kernel_rfl) (by simp only [take_full, take_full', List.map_append]) ?_
  refine adv_ok hm 18 _ ?_
  obtain rfl := Option.some.inj h
  refine r_to (q' := .go { td := [It.lpc (codeAt (bodyOf Tryd.f12) [1, 1, 1, 1, 1, 1, 1, 1, 0, 1, 0, 0]) 4231240368651202111471682, It.blk 0, It.code (codeAt (bodyOf Tryd.f12) [1, 1, 1, 1, 1, 1, 1, 1, 1])], fr := [(1, D.ptr 0 0 0), (6, D.msl 1 0 ((List.map (eInt .u8) (b ++ y1.2)).length) ((List.map (eInt .u8) (b ++ y1.2)).length) false), (79, D.msl 2 0 2 2 true), (80, D.int .i64 2), (81, D.int .i64 0)], st := [some { sz := 26, deep := false, rows := [(Msg.enc m)] }, some { sz := 1, deep := false, rows := (List.map (eInt .u8) (b ++ y1.2)) }, some { sz := 1, deep := false, rows := [[D.sl false 1 (List.map (eInt .u8) m.Session)], [D.sl false 1 (List.map (eInt .u8) m.Payload)]] }] }) (by kernel_rfl) ?_
  refine r_len (n1 := 2) (n2 := (List.map (eSl 1 (eInt .u8)) ([m.Session, m.Payload])).length) (fun n_len => .go { td := [It.lpc (codeAt (bodyOf Tryd.f12) [1, 1, 1, 1, 1, 1, 1, 1, 0, 1, 0, 0]) 4231240368651202111471682, It.blk 0, It.code (codeAt (bodyOf Tryd.f12) [1, 1, 1, 1, 1, 1, 1, 1, 1])], fr := [(1, D.ptr 0 0 0), (6, D.msl 1 0 ((List.map (eInt .u8) (b ++ y1.2)).length) ((List.map (eInt .u8) (b ++ y1.2)).length) false), (79, D.msl 2 0 n_len n_len true), (80, D.int .i64 2), (81, D.int .i64 0)], st := [some { sz := 26, deep := false, rows := [[D.int .i64 m.Kind, D.int .i64 m.From, D.int .i64 m.To, D.int .i64 m.Epoch, D.int .i64 m.Ballot, D.int .i64 m.Accepted, D.int .i64 m.Nonce, D.int .i64 m.Time, D.int .u64 m.Up, D.int .i64 m.Code, D.bool m.HasPlan, D.int .i64 m.Plan.Epoch, D.int .i64 m.Plan.Target, D.int .i64 m.Plan.Prev, D.int .i64 m.Plan.Spill, D.int .i64 m.Plan.Percent, D.int .i64 m.Plan.Stamp, D.int .i64 m.Plan.Since, D.int .i64 m.Plan.Ramped, D.int .u64 m.Plan.Up, D.int .u64 m.Plan.Sup, D.sl false 1 (List.map (eInt .i64) m.Plan.Pen), D.sl false 1 (List.map (eInt .i64) m.Plan.Changes), D.sl false 1 (List.map (eInt .i64) m.ID), D.sl false 1 (List.map (eInt .u8) m.Session), D.sl false 1 (List.map (eInt .u8) m.Payload)]] }, some { sz := 1, deep := false, rows := (List.map (eInt .u8) (b ++ y1.2)) }, some { sz := 1, deep := false, rows := [[D.sl false 1 (List.map (eInt .u8) m.Session)], [D.sl false 1 (List.map (eInt .u8) m.Payload)]] }] }) (by simp) ?_
  exact ha
theorem msg_Body_1_ok {t81 : Int} {m : Msg} {b : List Int} {b2 : List (List Int)} {r : Int × (List Int) × Int} {x : msg_Body_S ⊕ (Int × (List Int) × Int)} (h : msg_Body_1 t81 m b b2 = some x) (ha : After E (Cx.of Tryd.f12 false 0) msg_Body_Q msg_Body_M r x) : FinQ E (Cx.of Tryd.f12 false 0) (QW (msg_Body_Q r)) (.go (msg_Body_M (.s1 t81 m b b2))) := by
  unfold msg_Body_1 at h
  refine adv_ok hm 7 _ ?_
  refine p_split h (by kernel_rfl) (fun h1 h => ?_) (fun h1 h => ?_)
  · -- true
    refine adv_ok hm 6 _ ?_
    refine p_need h (by kernel_rfl) (fun h2 h => ?_)
    refine adv_ok hm 1 _ ?_
    refine p_row (((List.map (eSl 1 (eInt .u8)) b2))[(0 + t81.toNat)]?) (eSl 1 (eInt .u8)) h (by kernel_rfl) List.getElem?_map (fun y3 h4 h => ?_)
    refine adv_ok hm 6 _ ?_
    have ok5 := fun (y : Int × (List Int)) (hy : wire_PutText y3 = some y) => wire_PutText_ok hy
    refine p_callR [] h (by kernel_rfl) ok5 (fun y5 h5 h => ?_)
    refine adv_ok hm 10 _ ?_
    refine r_needT (b := (Nat.beq ((List.take ((List.map (eInt .u8) y5.2).length) (List.drop 0 (List.map (eInt .u8) y5.2))).length) ((List.map (eInt .u8) y5.2).length))) (by kernel_rfl) (by simp) ?_
    refine p_need h (by kernel_rfl) (fun h6 h => ?_)
    refine r_needT (b := (Nat.ble (0 + (List.map (eInt .u8) b).length) ((List.map (eInt .u8) b).length))) (by kernel_rfl) (ble_full _) ?_
    refine r_rows (List.take ((List.map (eInt .u8) b).length) (List.drop 0 (List.map (eInt .u8) b)) ++ (List.take ((List.map (eInt .u8) y5.2).length) (List.drop 0 (List.map (eInt .u8) y5.2)))) (List.map (eInt .u8) (b ++ y5.2)) (by kernel_rfl) (by simp only [take_full, take_full', List.map_append]) ?_
    refine adv_ok hm 8 _ ?_
    obtain rfl := Option.some.inj h
    exact r_to (q' := .go (msg_Body_M (.s1 (IntKind.i64.wrap (t81 + 1)) m (b ++ y5.2) b2))) (by kernel_rfl) ha
  · -- false
    refine adv_ok hm 13 _ ?_
    refine r_needT (b := (Nat.ble (0 + (List.map (eInt .u8) b).length) ((List.map (eInt .u8) b).length))) (by kernel_rfl) (ble_full _) ?_
    obtain rfl := Option.some.inj h
    have hv := ha
    simp only [After] at hv
    subst hv
    exact r_retE [] (d1 := D.tup [D.int .u8 (IntKind.u8.wrap (m.Kind)), D.sl false 1 (List.take ((List.map (eInt .u8) b).length) (List.drop 0 (List.map (eInt .u8) b))), D.int .i64 0]) (d := D.tup [D.int .u8 (IntKind.u8.wrap (m.Kind)), D.sl false 1 (List.map (eInt .u8) b), D.int .i64 0]) (s1 := []) (s := []) (by kernel_rfl) ⟨by simp [List.take_of_length_le, List.map_take, List.map_drop], rfl⟩ ⟨rfl, rfl⟩ Cx.fin_of
theorem msg_Body_ev {m : Msg} {r : Int × (List Int) × Int} (h : Ev msg_Body_step (.s0 m) r) : Sound E 12 [D.agg (Msg.enc m)] [] (msg_Body_Q r) :=
  sound_ofW (m := msg_Body_M (.s0 m)) (fn := Tryd.f12) (by kernel_rfl) (by kernel_rfl) (ev_run (C := (Cx.of Tryd.f12 false 0)) (fun s x r hs ha => by
    cases s with
    | s0 => exact msg_Body_0_ok hs ha
    | s3 => exact msg_Body_3_ok hs ha
    | s2 => exact msg_Body_2_ok hs ha
    | s1 => exact msg_Body_1_ok hs ha) h)
noncomputable def msg_Body (m : Msg) : Option (Int × (List Int) × Int) := evf msg_Body_step (.s0 m)
theorem msg_Body_ok {m : Msg} {r : Int × (List Int) × Int} (h : msg_Body m = some r) : Sound E 12 [D.agg (Msg.enc m)] [] (msg_Body_Q r) := msg_Body_ev (evf_ev h)
end Go.RX.L

set_option linter.unusedSimpArgs false
set_option linter.unusedVariables false
set_option maxRecDepth 100000
set_option maxHeartbeats 4000000
namespace Go.RX.L
open Go Go.RX Go.Proofs
attribute [local irreducible] FinQ
def msg_Put_Q (y : (List Int) × Int) (d : D) (s : Sto) : Prop := d = D.tup [D.sl false 1 (List.map (eInt .u8) y.1), D.int .i64 y.2] ∧ s = []
noncomputable def msg_Put (m : Msg) : Option ((List Int) × Int) := ((msg_Body m).bind fun y1 => (bif ((y1.2.2 : Int) != 0) then (some ([], y1.2.2)) else ((frame_Put y1.1 y1.2.1).bind fun y3 => (some (y3.1, y3.2)))))
theorem msg_Put_ok {m : Msg} {r : (List Int) × Int} (h : msg_Put m = some r) : Sound E 10 [D.agg (Msg.enc m)] [] (msg_Put_Q r) := by
  refine sound_ofW (m := ⟨[.code (bodyOf Tryd.f10)], [(0, D.agg (Msg.enc m))], []⟩) (fn := Tryd.f10) (by kernel_rfl) (by kernel_rfl) ?_
  show FinQ E (Cx.of Tryd.f10 false 0) (QW (msg_Put_Q r)) _
  unfold msg_Put at h
  refine adv_ok hm 11 _ ?_
  have ok1 := fun (y : Int × (List Int) × Int) (hy : msg_Body m = some y) => msg_Body_ok hy
  refine p_callR [] h (by kernel_rfl) ok1 (fun y1 h1 h => ?_)
  refine adv_ok hm 15 _ ?_
  refine p_split h (by kernel_rfl) (fun h2 h => ?_) (fun h2 h => ?_)
  · -- true
    refine adv_ok hm 7 _ ?_
    obtain rfl := Option.some.inj h
    exact r_retF [.slot 0 [some 1]] (d := D.tup [D.sl false 1 [], D.int .i64 y1.2.2]) (s := []) (by kernel_rfl) Cx.fin_of ⟨rfl, rfl⟩
  · -- false
    refine adv_ok hm 6 _ ?_
    have ok3 := fun (y : (List Int) × Int) (hy : frame_Put y1.1 y1.2.1 = some y) => frame_Put_ok hy
    refine p_callR [] h (by kernel_rfl) ok3 (fun y3 h3 h => ?_)
    refine adv_ok hm 6 _ ?_
    obtain rfl := Option.some.inj h
    exact r_retF [] (d := D.tup [D.sl false 1 (List.map (eInt .u8) y3.1), D.int .i64 y3.2]) (s := []) (by kernel_rfl) Cx.fin_of ⟨rfl, rfl⟩
end Go.RX.L

set_option linter.unusedSimpArgs false
set_option linter.unusedVariables false
set_option maxRecDepth 100000
set_option maxHeartbeats 4000000
namespace Go.RX.L
open Go Go.RX Go.Proofs
attribute [local irreducible] FinQ
def ref05_Right_Q (y : Bool) (d : D) (s : Sto) : Prop := d = D.bool y ∧ s = []
noncomputable def ref05_Right_2M (t67 : Bool) (m : Msg) : M := { td := [It.code (codeAt (bodyOf Tryd.f15) [1, 1, 0, 1]), It.code (codeAt (bodyOf Tryd.f15) [1, 1, 1])], fr := [(1, D.ptr 0 0 0), (67, D.bool t67)], st := [some { sz := 26, deep := false, rows := [(Msg.enc m)] }] }
noncomputable def ref05_Right_2 (t67 : Bool) (m : Msg) : Option Bool := (bif t67 then (some false) else (bif m.HasPlan then ((ref04_Right m.Plan).bind fun y3 => (some y3)) else ((ref04_Same m.Plan (⟨0, 0, 0, 0, 0, 0, 0, 0, 0, 0, [], []⟩ : Plan)).bind fun y4 => (some y4))))
theorem ref05_Right_2_ok {t67 : Bool} {m : Msg} {r : Bool} (h : ref05_Right_2 t67 m = some r) : FinQ E (Cx.of Tryd.f15 false 0) (QW (ref05_Right_Q r)) (.go (ref05_Right_2M t67 m)) := by
  unfold ref05_Right_2 at h
  refine adv_ok hm 1 _ ?_
  refine p_split h (by kernel_rfl) (fun h1 h => ?_) (fun h1 h => ?_)
  · -- true
    refine adv_ok hm 5 _ ?_
    obtain rfl := Option.some.inj h
    exact r_retF [] (d := D.bool false) (s := []) (by kernel_rfl) Cx.fin_of ⟨rfl, rfl⟩
  · -- false
    refine adv_ok hm 9 _ ?_
    refine p_split h (by kernel_rfl) (fun h2 h => ?_) (fun h2 h => ?_)
    · -- true
      refine adv_ok hm 6 _ ?_
      have ok3 := fun (y : Bool) (hy : ref04_Right m.Plan = some y) => ref04_Right_ok hy
      refine p_callR [] h (by kernel_rfl) ok3 (fun y3 h3 h => ?_)
      refine adv_ok hm 3 _ ?_
      obtain rfl := Option.some.inj h
      exact r_retF [] (d := D.bool y3) (s := []) (by kernel_rfl) Cx.fin_of ⟨rfl, rfl⟩
    · -- false
      refine adv_ok hm 8 _ ?_
      have ok4 := fun (y : Bool) (hy : ref04_Same m.Plan (⟨0, 0, 0, 0, 0, 0, 0, 0, 0, 0, [], []⟩ : Plan) = some y) => ref04_Same_ok hy
      refine p_callR [some 1, some 1] h (by kernel_rfl) ok4 (fun y4 h4 h => ?_)
      refine adv_ok hm 3 _ ?_
      obtain rfl := Option.some.inj h
      exact r_retF [] (d := D.bool y4) (s := []) (by kernel_rfl) Cx.fin_of ⟨rfl, rfl⟩
noncomputable def ref05_Right_1M (t45 : Bool) (m : Msg) : M := { td := [It.code (codeAt (bodyOf Tryd.f15) [1, 0, 1]), It.code (codeAt (bodyOf Tryd.f15) [1, 1])], fr := [(1, D.ptr 0 0 0), (45, D.bool t45)], st := [some { sz := 26, deep := false, rows := [(Msg.enc m)] }] }
noncomputable def ref05_Right_1 (t45 : Bool) (m : Msg) : Option Bool := (bif t45 then (some false) else (bif (((((List.map (eInt .i64) m.ID).length : Nat) : Int) : Int) != 0) then (bif (((((List.map (eInt .i64) m.ID).length : Nat) : Int) : Int) != 3) then (ref05_Right_2 true m) else (bif (decide (((((List.map (eInt .u8) m.Session).length : Nat) : Int) : Int) > 64)) then (ref05_Right_2 true m) else (ref05_Right_2 (decide (((((List.map (eInt .u8) m.Payload).length : Nat) : Int) : Int) > 1024)) m))) else (bif (decide (((((List.map (eInt .u8) m.Session).length : Nat) : Int) : Int) > 64)) then (ref05_Right_2 true m) else (ref05_Right_2 (decide (((((List.map (eInt .u8) m.Payload).length : Nat) : Int) : Int) > 1024)) m))))
theorem ref05_Right_1_ok {t45 : Bool} {m : Msg} {r : Bool} (h : ref05_Right_1 t45 m = some r) : FinQ E (Cx.of Tryd.f15 false 0) (QW (ref05_Right_Q r)) (.go (ref05_Right_1M t45 m)) := by
  unfold ref05_Right_1 at h
  refine adv_ok hm 1 _ ?_
  refine p_split h (by kernel_rfl) (fun h1 h => ?_) (fun h1 h => ?_)
  · -- true
    refine adv_ok hm 5 _ ?_
    obtain rfl := Option.some.inj h
    exact r_retF [] (d := D.bool false) (s := []) (by kernel_rfl) Cx.fin_of ⟨rfl, rfl⟩
  · -- false
    refine adv_ok hm 11 _ ?_
    refine p_split h (by kernel_rfl) (fun h2 h => ?_) (fun h2 h => ?_)
    · -- true
      refine adv_ok hm 11 _ ?_
      refine p_split h (by kernel_rfl) (fun h3 h => ?_) (fun h3 h => ?_)
      · -- true
        refine adv_ok hm 20 _ ?_
        exact r_cut 147573952589676412930 [] (m' := (ref05_Right_2M true m)) (by kernel_rfl) (ref05_Right_2_ok h)
      · -- false
        refine adv_ok hm 11 _ ?_
        refine p_split h (by kernel_rfl) (fun h4 h => ?_) (fun h4 h => ?_)
        · -- true
          refine adv_ok hm 9 _ ?_
          exact r_cut 147573952589676412930 [] (m' := (ref05_Right_2M true m)) (by kernel_rfl) (ref05_Right_2_ok h)
        · -- false
          refine adv_ok hm 10 _ ?_
          exact r_cut 147573952589676412930 [] (m' := (ref05_Right_2M (decide (((((List.map (eInt .u8) m.Payload).length : Nat) : Int) : Int) > 1024)) m)) (by kernel_rfl) (ref05_Right_2_ok h)
    · -- false
      refine adv_ok hm 22 _ ?_
      refine p_split h (by kernel_rfl) (fun h5 h => ?_) (fun h5 h => ?_)
      · -- true
        refine adv_ok hm 9 _ ?_
        exact r_cut 147573952589676412930 [] (m' := (ref05_Right_2M true m)) (by kernel_rfl) (ref05_Right_2_ok h)
      · -- false
        refine adv_ok hm 10 _ ?_
        exact r_cut 147573952589676412930 [] (m' := (ref05_Right_2M (decide (((((List.map (eInt .u8) m.Payload).length : Nat) : Int) : Int) > 1024)) m)) (by kernel_rfl) (ref05_Right_2_ok h)
noncomputable def ref05_Right (m : Msg) : Option Bool := (bif (decide ((m.Kind : Int) < 1)) then (ref05_Right_1 true m) else (bif (decide ((m.Kind : Int) > 19)) then (ref05_Right_1 true m) else (bif (decide ((m.From : Int) < 0)) then (ref05_Right_1 true m) else (bif (decide ((m.From : Int) > 255)) then (ref05_Right_1 true m) else (bif (decide ((m.To : Int) < 0)) then (ref05_Right_1 true m) else (bif (decide ((m.To : Int) > 255)) then (ref05_Right_1 true m) else (bif (decide ((m.Up : Int) > 65535)) then (ref05_Right_1 true m) else (bif (decide ((m.Code : Int) < 0)) then (ref05_Right_1 true m) else (ref05_Right_1 (decide ((m.Code : Int) > 1000)) m)))))))))
theorem ref05_Right_ok {m : Msg} {r : Bool} (h : ref05_Right m = some r) : Sound E 15 [D.agg (Msg.enc m)] [] (ref05_Right_Q r) := by
  refine sound_ofW (m := ⟨[.code (bodyOf Tryd.f15)], [(0, D.agg (Msg.enc m))], []⟩) (fn := Tryd.f15) (by kernel_rfl) (by kernel_rfl) ?_
  show FinQ E (Cx.of Tryd.f15 false 0) (QW (ref05_Right_Q r)) _
  unfold ref05_Right at h
  refine adv_ok hm 14 _ ?_
  refine p_split h (by kernel_rfl) (fun h1 h => ?_) (fun h1 h => ?_)
  · -- true
    refine adv_ok hm 70 _ ?_
    exact r_cut 35184372088834 [] (m' := (ref05_Right_1M true m)) (by kernel_rfl) (ref05_Right_1_ok h)
  · -- false
    refine adv_ok hm 9 _ ?_
    refine p_split h (by kernel_rfl) (fun h2 h => ?_) (fun h2 h => ?_)
    · -- true
      refine adv_ok hm 61 _ ?_
      exact r_cut 35184372088834 [] (m' := (ref05_Right_1M true m)) (by kernel_rfl) (ref05_Right_1_ok h)
    · -- false
      refine adv_ok hm 9 _ ?_
      refine p_split h (by kernel_rfl) (fun h3 h => ?_) (fun h3 h => ?_)
      · -- true
        refine adv_ok hm 52 _ ?_
        exact r_cut 35184372088834 [] (m' := (ref05_Right_1M true m)) (by kernel_rfl) (ref05_Right_1_ok h)
      · -- false
        refine adv_ok hm 9 _ ?_
        refine p_split h (by kernel_rfl) (fun h4 h => ?_) (fun h4 h => ?_)
        · -- true
          refine adv_ok hm 43 _ ?_
          exact r_cut 35184372088834 [] (m' := (ref05_Right_1M true m)) (by kernel_rfl) (ref05_Right_1_ok h)
        · -- false
          refine adv_ok hm 9 _ ?_
          refine p_split h (by kernel_rfl) (fun h5 h => ?_) (fun h5 h => ?_)
          · -- true
            refine adv_ok hm 34 _ ?_
            exact r_cut 35184372088834 [] (m' := (ref05_Right_1M true m)) (by kernel_rfl) (ref05_Right_1_ok h)
          · -- false
            refine adv_ok hm 9 _ ?_
            refine p_split h (by kernel_rfl) (fun h6 h => ?_) (fun h6 h => ?_)
            · -- true
              refine adv_ok hm 25 _ ?_
              exact r_cut 35184372088834 [] (m' := (ref05_Right_1M true m)) (by kernel_rfl) (ref05_Right_1_ok h)
            · -- false
              refine adv_ok hm 9 _ ?_
              refine p_split h (by kernel_rfl) (fun h7 h => ?_) (fun h7 h => ?_)
              · -- true
                refine adv_ok hm 16 _ ?_
                exact r_cut 35184372088834 [] (m' := (ref05_Right_1M true m)) (by kernel_rfl) (ref05_Right_1_ok h)
              · -- false
                refine adv_ok hm 9 _ ?_
                refine p_split h (by kernel_rfl) (fun h8 h => ?_) (fun h8 h => ?_)
                · -- true
                  refine adv_ok hm 7 _ ?_
                  exact r_cut 35184372088834 [] (m' := (ref05_Right_1M true m)) (by kernel_rfl) (ref05_Right_1_ok h)
                · -- false
                  refine adv_ok hm 8 _ ?_
                  exact r_cut 35184372088834 [] (m' := (ref05_Right_1M (decide ((m.Code : Int) > 1000)) m)) (by kernel_rfl) (ref05_Right_1_ok h)
end Go.RX.L
