/-
  Tally: slices.Clone, Put.
-/
import Derived.Test.YthooiaebbikjiaaT1
set_option linter.unusedSimpArgs false
set_option linter.unusedVariables false
set_option maxRecDepth 100000
namespace Go.RX.Tally
open Go Go.RX Go.Proofs

theorem call17n (sz : Nat) (n : Int) : Sound E 17 [.sl true sz [], .fn 22 [] [.iptr 1 [[.int .i64 n]] 0 0]] [] fun d s => d = .int .i64 (-1) ∧ s = [] := by
  refine sound_of (m := ⟨[.code (bodyOf Try.f17)], [(0, .sl true sz []), (1, .fn 22 [] [.iptr 1 [[.int .i64 n]] 0 0])], []⟩) (fn := Try.f17) (by kernel_rfl) (by kernel_rfl) ?_
  refine adv_ok hm 28 _ ?_
  exact r_ret (D.int IntKind.i64 (-1)) ([]) (by kernel_rfl) ⟨rfl, rfl⟩

theorem call16n (sz : Nat) : Sound E 16 [.sl true sz []] [] fun d s => d = .sl true 0 [] ∧ s = [] := by
  refine sound_of (m := ⟨[.code (bodyOf Try.f16)], [(0, .sl true sz [])], []⟩) (fn := Try.f16) (by kernel_rfl) (by kernel_rfl) ?_
  refine adv_ok hm 17 _ ?_
  exact r_ret (D.sl true 0 []) ([]) (by kernel_rfl) ⟨rfl, rfl⟩

theorem call16e : Sound E 16 [.sl false 3 []] [] fun d s => d = .msl 0 0 0 0 true ∧ s = [some ⟨3, false, []⟩] := by
  refine sound_of (m := ⟨[.code (bodyOf Try.f16)], [(0, .sl false 3 [])], []⟩) (fn := Try.f16) (by kernel_rfl) (by kernel_rfl) ?_
  refine adv_ok hm 23 _ ?_
  exact r_ret (D.msl 0 0 0 0 true) ([some { sz := 3, deep := false, rows := [] }]) (by kernel_rfl) ⟨rfl, rfl⟩

theorem call16 (l : List Vote) (hpos : 0 < l.length) (hl : l.length ≤ lim) : Sound E 16 [.sl false 3 (l.map encV)] [] fun d s => d = .msl 0 0 l.length l.length false ∧ s = [some ⟨3, false, l.map encV⟩] := by
  refine sound_of (m := ⟨[.code (bodyOf Try.f16)], [(0, .sl false 3 (l.map encV))], []⟩) (fn := Try.f16) (by kernel_rfl) (by kernel_rfl) ?_
  refine adv_ok hm 18 _ ?_
  refine r_split ((0 + (List.map encV l).length).ble 0) (by kernel_rfl) (fun h0 => ?_) (fun h0 => ?_)
  · exfalso; have := Nat.le_of_ble_eq_true h0; rw [List.length_map] at this; omega
  · refine r_need (decide ((0 + (List.map encV l).length) * 24 ≤ 140737488355328)) (by kernel_rfl) (by unfold lim at hl; simp; omega) ?_
    refine adv_ok hm 4 _ ?_
    exact r_ret (D.msl 0 0 (0 + (List.map encV l).length) (0 + (List.map encV l).length) false) ([some { sz := 3, deep := false, rows := [] ++ List.map encV l }]) (by kernel_rfl) (by simp)

def putP (l : List Vote) (v : Vote) : List Vote := if 0 ≤ idxP l v.who 0 then l.set (idxP l v.who 0).toNat v else l ++ [v]

theorem idxP_ge : ∀ (l : List Vote) (n i : Int), 0 ≤ i → idxP l n i = -1 ∨ i ≤ idxP l n i ∧ idxP l n i < i + l.length
  | [], _, _, _ => .inl rfl
  | v :: r, n, i, hi => by
    simp only [idxP]
    split
    · exact .inr ⟨by omega, by simp; omega⟩
    · rcases idxP_ge r n (i + 1) (by omega) with h | h
      · exact .inl h
      · refine .inr ⟨by omega, ?_⟩
        simp only [List.length_cons]; omega

theorem call11n (sz : Nat) (v : Vote) : Sound E 11 [.sl true sz [], .agg (encV v)] [] fun d s => d = .sl false 3 ((putP [] v).map encV) ∧ s = [] := by
  refine sound_of (m := ⟨[.code (bodyOf Try.f11)], [(0, .sl true sz []), (1, .agg (encV v))], []⟩) (fn := Try.f11) (by kernel_rfl) (by kernel_rfl) ?_
  refine adv_ok hm 9 _ ?_
  refine r_call 16 [D.sl true sz []] [] (by kernel_rfl) (call16n sz) ?_
  rintro d s ⟨rfl, rfl⟩
  refine adv_ok hm 10 _ ?_
  refine r_call 18 [D.int IntKind.i64 v.who] [] (by kernel_rfl) (call18 v.who) ?_
  rintro d s ⟨rfl, rfl⟩
  refine adv_ok hm 1 _ ?_
  refine r_call 17 [D.sl true 0 [], D.fn 22 [] [D.iptr 1 [[D.int IntKind.i64 v.who]] 0 0]] [] (by kernel_rfl) (call17n 0 v.who) ?_
  rintro d s ⟨rfl, rfl⟩
  refine adv_ok hm 24 _ ?_
  exact r_ret (D.sl false 3 [[D.int IntKind.i64 v.who, D.int IntKind.u64 v.up, D.int IntKind.i64 v.at_]]) ([]) (by kernel_rfl) ⟨rfl, rfl⟩

theorem call11e (v : Vote) : Sound E 11 [.sl false 3 [], .agg (encV v)] [] fun d s => d = .sl false 3 ((putP [] v).map encV) ∧ s = [] := by
  refine sound_of (m := ⟨[.code (bodyOf Try.f11)], [(0, .sl false 3 []), (1, .agg (encV v))], []⟩) (fn := Try.f11) (by kernel_rfl) (by kernel_rfl) ?_
  refine adv_ok hm 9 _ ?_
  refine r_call 16 [D.sl false 3 []] [] (by kernel_rfl) call16e ?_
  rintro d s ⟨rfl, rfl⟩
  refine adv_ok hm 10 _ ?_
  refine r_call 18 [D.int IntKind.i64 v.who] [] (by kernel_rfl) (call18 v.who) ?_
  rintro d s ⟨rfl, rfl⟩
  refine adv_ok hm 2 _ ?_
  refine r_call 17 [D.sl false 3 [], D.fn 22 [] [D.iptr 1 [[D.int IntKind.i64 v.who]] 0 0]] [] (by kernel_rfl) (call17 false [] v.who (by simp) (fun _ => rfl)) ?_
  rintro d s ⟨rfl, rfl⟩
  refine adv_ok hm 25 _ ?_
  exact r_ret (D.sl false 3 [[D.int IntKind.i64 v.who, D.int IntKind.u64 v.up, D.int IntKind.i64 v.at_]]) ([]) (by kernel_rfl) ⟨rfl, rfl⟩

theorem call11 (l : List Vote) (v : Vote) (h0 : 0 < l.length) (hl : l.length + 1 ≤ lim) : Sound E 11 [.sl false 3 (l.map encV), .agg (encV v)] [] fun d s => d = .sl false 3 ((putP l v).map encV) ∧ s = [] := by
  refine sound_of (m := ⟨[.code (bodyOf Try.f11)], [(0, .sl false 3 (l.map encV)), (1, .agg (encV v))], []⟩) (fn := Try.f11) (by kernel_rfl) (by kernel_rfl) ?_
  have hid : List.take l.length (List.drop 0 (List.map encV l)) = List.map encV l := by rw [List.drop_zero, List.take_of_length_le (by simp)]
  have hx := idxP_ge l v.who 0 (Int.le_refl 0)
  refine adv_ok hm 9 _ ?_
  refine r_call 16 [D.sl false 3 (List.map encV l)] [] (by kernel_rfl) (call16 l h0 (by omega)) ?_
  rintro d s ⟨rfl, rfl⟩
  refine adv_ok hm 10 _ ?_
  refine r_call 18 [D.int IntKind.i64 v.who] [] (by kernel_rfl) (call18 v.who) ?_
  rintro d s ⟨rfl, rfl⟩
  refine adv_ok hm 1 _ ?_
  refine r_need ((0 + l.length).ble (List.map encV l).length) (by kernel_rfl) (by simp) ?_
  refine r_call 17 [D.sl false 3 (List.take l.length (List.drop 0 (List.map encV l))), D.fn 22 [] [D.iptr 1 [[D.int IntKind.i64 v.who]] 0 0]] [] (by kernel_rfl) (by rw [hid]; exact call17 false l v.who (by omega) (fun h => by cases h)) ?_
  rintro d s ⟨rfl, rfl⟩
  refine adv_ok hm 8 _ ?_
  refine r_split (decide (idxP l v.who 0 ≥ 0)) (by kernel_rfl) (fun h4 => ?_) (fun h4 => ?_)
  · -- true
    have h4' : 0 ≤ idxP l v.who 0 := by simpa using h4
    have h5 : (idxP l v.who 0).toNat < l.length := by omega
    refine adv_ok hm 7 _ ?_
    refine r_need (decide (0 ≤ idxP l v.who 0) && decide (idxP l v.who 0 < ↑l.length)) (by kernel_rfl) (by simp; omega) ?_
    refine adv_ok hm 1 _ ?_
    refine r_row ((List.map encV l)[0 + (idxP l v.who 0).toNat]?) (encV l[(idxP l v.who 0).toNat]) (by kernel_rfl) (by simp [h5]) ?_
    refine adv_ok hm 7 _ ?_
    refine r_need ((0 + l.length).ble ((List.map encV l).set (0 + (idxP l v.who 0).toNat) [D.int IntKind.i64 v.who, D.int IntKind.u64 v.up, D.int IntKind.i64 v.at_]).length) (by kernel_rfl) (by simp) ?_
    refine r_ret (D.sl false 3 (List.take l.length (List.drop 0 ((List.map encV l).set (0 + (idxP l v.who 0).toNat) (encV v))))) ([]) (by kernel_rfl) ⟨?_, rfl⟩
    rw [List.drop_zero, List.take_of_length_le (by simp), putP, if_pos h4', Nat.zero_add, List.map_set]
  · -- false
    have h4' : ¬ 0 ≤ idxP l v.who 0 := by simpa using h4
    refine adv_ok hm 9 _ ?_
    refine r_split ((l.length + 1).ble l.length) (by kernel_rfl) (fun h5 => ?_) (fun h5 => ?_)
    · exfalso; have := Nat.le_of_ble_eq_true h5; omega
    · -- false
      refine r_need (decide ((l.length + 1) * 24 ≤ 140737488355328)) (by kernel_rfl) (by unfold lim at hl; simp; omega) ?_
      refine r_need ((0 + l.length).ble (List.map encV l).length) (by kernel_rfl) (by simp) ?_
      refine adv_ok hm 3 _ ?_
      refine r_need ((0 + (l.length + 1)).ble (List.take l.length (List.drop 0 (List.map encV l)) ++ [[D.int IntKind.i64 v.who, D.int IntKind.u64 v.up, D.int IntKind.i64 v.at_]]).length) (by kernel_rfl) (by simp) ?_
      refine r_ret (D.sl false 3 (List.take (l.length + 1) (List.drop 0 (List.take l.length (List.drop 0 (List.map encV l)) ++ [encV v])))) ([]) (by kernel_rfl) ⟨?_, rfl⟩
      simp [putP, h4', List.take_of_length_le]

theorem put_len (l : List Vote) (v : Vote) : (putP l v).length = l.length ∨ (putP l v).length = l.length + 1 := by
  unfold putP
  split
  · simp
  · simp

theorem put_pos (l : List Vote) (v : Vote) : 0 < (putP l v).length := by
  unfold putP
  split
  · rename_i h
    have hx := idxP_ge l v.who 0 (Int.le_refl 0)
    simp; omega
  · simp

/-- Put, of any votes. -/
theorem callPut (nl : Bool) (l : List Vote) (v : Vote) (hl : l.length + 1 ≤ lim) (hnl : nl = true → l = []) : Sound E 11 [.sl nl 3 (l.map encV), .agg (encV v)] [] fun d s => d = .sl false 3 ((putP l v).map encV) ∧ s = [] := by
  cases nl with
  | true => rw [hnl rfl]; exact call11n 3 v
  | false =>
    cases l with
    | nil => exact call11e v
    | cons a l => exact call11 (a :: l) v (by simp) hl

end Go.RX.Tally
