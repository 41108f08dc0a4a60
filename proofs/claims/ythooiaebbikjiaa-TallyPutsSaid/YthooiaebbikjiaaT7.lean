/-
  Tally: votes put in are one for each observer, the last one's: the walk.
-/
import Derived.Test.YthooiaebbikjiaaT6
import Derived.Test.YthooiaebbikjiaaT3
set_option linter.unusedSimpArgs false
set_option linter.unusedVariables false
set_option maxRecDepth 100000
namespace Go.RX.Tally
open Go Go.RX Go.Proofs

theorem loopJ {l m : List Vote} (hm2 : m.length ≤ 200) (hl : l.length ≤ 200) (hg : Good l m) {i : Nat} (hi : i < m.length) (next : FinQ E ⟨Try.f6, false, 0⟩ Yes (stI l m (i + 1))) : ∀ (n k : Nat), k + n = i → FinQ E ⟨Try.f6, false, 0⟩ Yes (stJ l m i k) := by
  intro n
  induction n with
  | zero =>
    intro k hk
    refine adv_ok hm 9 _ ?_
    refine r_split (decide ((k : Int) < (i : Int))) (by kernel_rfl) (fun h0 => ?_) (fun h0 => ?_)
    · simp at h0; omega
    · refine adv_ok hm 8 _ ?_
      refine r_to (q' := stI l m (IntKind.i64.wrap (↑i + 1))) (by kernel_rfl) ?_
      rw [wrap64 (by omega) (by omega)]
      exact next
  | succ n ih =>
    intro k hk
    have hkm : k < m.length := by omega
    refine adv_ok hm 9 _ ?_
    refine r_split (decide ((k : Int) < (i : Int))) (by kernel_rfl) (fun h0 => ?_) (fun h0 => ?_)
    · refine adv_ok hm 5 _ ?_
      refine r_need (true && decide ((k : Int) < ((List.map encV m).length : Int))) (by kernel_rfl) (inR hkm) ?_
      refine r_row ((List.map encV m)[(Int.ofNat k).toNat]?) (encV m[k]) (by kernel_rfl) (rowGet hkm) ?_
      refine r_need (true && decide ((i : Int) < ((List.map encV m).length : Int))) (by kernel_rfl) (inR hi) ?_
      refine r_row ((List.map encV m)[(Int.ofNat i).toNat]?) (encV m[i]) (by kernel_rfl) (rowGet hi) ?_
      refine adv_ok hm 1 _ ?_
      refine r_split (m[k].who == m[i].who) (by kernel_rfl) (fun h5 => ?_) (fun h5 => ?_)
      · exact absurd (eq_of_beq h5) (hg.dis i k m[i] m[k] (by omega) (by simp [hi]) (by simp [hkm]))
      · refine adv_ok hm 8 _ ?_
        refine r_to (q' := stJ l m i (IntKind.i64.wrap (↑k + 1))) (by kernel_rfl) ?_
        rw [wrap64 (by omega) (by omega)]
        exact ih (k + 1) (by omega)
    · simp at h0; omega

set_option maxHeartbeats 4000000 in
theorem loopK {l m : List Vote} (hm2 : m.length ≤ 200) (hl : l.length ≤ 200) (hg : Good l m) {i : Nat} (hi : i < m.length) (next : FinQ E ⟨Try.f6, false, 0⟩ Yes (stI l m (i + 1))) : ∀ (n k : Nat) (q : Vote), k + n = l.length → lastF (l.drop k) m[i].who q = m[i] → FinQ E ⟨Try.f6, false, 0⟩ Yes (stK l m i k q) := by
  intro n
  induction n with
  | zero =>
    intro k q hk hq
    rw [List.drop_eq_nil_of_le (by omega)] at hq
    have hq' : q = m[i] := hq
    subst hq'
    refine adv_ok hm 10 _ ?_
    refine r_split (decide ((k : Int) < ((List.map encV l).length : Int))) (by kernel_rfl) (fun h0 => ?_) (fun h0 => ?_)
    · simp at h0; omega
    · refine adv_ok hm 5 _ ?_
      refine r_need (true && decide ((i : Int) < ((List.map encV m).length : Int))) (by kernel_rfl) (inR hi) ?_
      refine r_row ((List.map encV m)[(Int.ofNat i).toNat]?) (encV m[i]) (by kernel_rfl) (rowGet hi) ?_
      refine r_split (m[i].up != m[i].up) (by kernel_rfl) (fun h3 => ?_) (fun h3 => ?_)
      · simp at h3
      · refine adv_ok hm 5 _ ?_
        refine r_need (true && decide ((i : Int) < ((List.map encV m).length : Int))) (by kernel_rfl) (inR hi) ?_
        refine adv_ok hm 2 _ ?_
        refine r_row ((List.map encV m)[(Int.ofNat i).toNat]?) (encV m[i]) (by kernel_rfl) (rowGet hi) ?_
        refine adv_ok hm 3 _ ?_
        refine r_split (m[i].at_ != m[i].at_) (by kernel_rfl) (fun h6 => ?_) (fun h6 => ?_)
        · simp at h6
        · refine adv_ok hm 8 _ ?_
          refine r_to (q' := stJ l m i 0) (by kernel_rfl) ?_
          exact loopJ hm2 hl hg hi next i 0 (by omega)
  | succ n ih =>
    intro k q hk hq
    have hkl : k < l.length := by omega
    rw [List.drop_eq_getElem_cons hkl] at hq
    have hq2 : lastF (l.drop (k + 1)) m[i].who (if l[k].who = m[i].who then l[k] else q) = m[i] := hq
    refine adv_ok hm 10 _ ?_
    refine r_split (decide ((k : Int) < ((List.map encV l).length : Int))) (by kernel_rfl) (fun h0 => ?_) (fun h0 => ?_)
    · refine adv_ok hm 5 _ ?_
      refine r_need (true && decide ((k : Int) < ((List.map encV l).length : Int))) (by kernel_rfl) (inR hkl) ?_
      refine r_row ((List.map encV l)[(Int.ofNat k).toNat]?) (encV l[k]) (by kernel_rfl) (rowGet hkl) ?_
      refine r_need (true && decide ((i : Int) < ((List.map encV m).length : Int))) (by kernel_rfl) (inR hi) ?_
      refine r_row ((List.map encV m)[(Int.ofNat i).toNat]?) (encV m[i]) (by kernel_rfl) (rowGet hi) ?_
      refine adv_ok hm 1 _ ?_
      refine r_split (l[k].who == m[i].who) (by kernel_rfl) (fun h5 => ?_) (fun h5 => ?_)
      · -- true
        refine adv_ok hm 4 _ ?_
        refine r_need (true && decide ((k : Int) < ((List.map encV l).length : Int))) (by kernel_rfl) (inR hkl) ?_
        refine adv_ok hm 1 _ ?_
        refine r_row ((List.map encV l)[(Int.ofNat k).toNat]?) (encV l[k]) (by kernel_rfl) (rowGet hkl) ?_
        refine adv_ok hm 10 _ ?_
        refine r_to (q' := stK l m i (IntKind.i64.wrap (↑k + 1)) (l[k])) (by kernel_rfl) ?_
        rw [wrap64 (by omega) (by omega)]
        exact ih (k + 1) l[k] (by omega) (by rw [if_pos (eq_of_beq h5)] at hq2; exact hq2)
      · -- false
        refine adv_ok hm 8 _ ?_
        refine r_to (q' := stK l m i (IntKind.i64.wrap (↑k + 1)) (q)) (by kernel_rfl) ?_
        rw [wrap64 (by omega) (by omega)]
        have hne : ¬ l[k].who = m[i].who := by simpa using h5
        exact ih (k + 1) q (by omega) (by rw [if_neg hne] at hq2; exact hq2)
    · simp at h0; omega

theorem loopI {l m : List Vote} (hm2 : m.length ≤ 200) (hl : l.length ≤ 200) (hg : Good l m) : ∀ (n i : Nat), i + n = m.length → FinQ E ⟨Try.f6, false, 0⟩ Yes (stI l m i) := by
  intro n
  induction n with
  | zero =>
    intro i hi
    refine adv_ok hm 10 _ ?_
    refine r_split (decide ((i : Int) < ((List.map encV m).length : Int))) (by kernel_rfl) (fun h0 => ?_) (fun h0 => ?_)
    · simp at h0; omega
    · refine adv_ok hm 24 _ ?_
      refine r_ret (D.bool ((((List.map encV l).length : Int) == 0) == (((List.map encV m).length : Int) == 0))) ([]) (by kernel_rfl) ⟨?_, rfl⟩
      have hn : l.length = 0 ↔ m.length = 0 := by rw [List.length_eq_zero_iff, List.length_eq_zero_iff]; exact hg.nil
      have e1 : (((List.map encV l).length : Int) == 0) = (((List.map encV m).length : Int) == 0) := by
        rw [Bool.eq_iff_iff]; simp only [List.length_map, beq_iff_eq]; omega
      rw [e1]
      simp
  | succ n ih =>
    intro i hi
    have him : i < m.length := by omega
    refine adv_ok hm 10 _ ?_
    refine r_split (decide ((i : Int) < ((List.map encV m).length : Int))) (by kernel_rfl) (fun h0 => ?_) (fun h0 => ?_)
    · refine adv_ok hm 18 _ ?_
      refine r_to (q' := stK l m i 0 ⟨0, 0, 0⟩) (by kernel_rfl) ?_
      exact loopK hm2 hl hg him (ih (i + 1) (by omega)) l.length 0 ⟨0, 0, 0⟩ (by omega) (by simpa using hg.last m[i] (List.getElem_mem him) ⟨0, 0, 0⟩)
    · simp at h0; omega

noncomputable abbrev stP (l : List Vote) (o : D) (i : Int) : Qy := .go { td := [It.lpc (codeAt (bodyOf Try.f6) [1, 1, 1, 1, 0, 1, 0, 0]) 57, It.blk 0, It.code (codeAt (bodyOf Try.f6) [1, 1, 1, 1, 1])], fr := [(0, D.sl false 3 (List.map encV l)), (3, D.bool true), (4, o), (5, D.int IntKind.i64 i)], st := [] }

theorem loopP {l : List Vote} (hl : l.length ≤ 200) : ∀ (n i : Nat) (m : List Vote), i + n = l.length → 0 < i → m.length ≤ i → Good (l.take i) m → FinQ E ⟨Try.f6, false, 0⟩ Yes (stP l (.sl false 3 (m.map encV)) i) := by
  intro n
  induction n with
  | zero =>
    intro i m hi h0 hmi hg
    rw [List.take_of_length_le (by omega)] at hg
    refine adv_ok hm 10 _ ?_
    refine r_split (decide ((i : Int) < ((List.map encV l).length : Int))) (by kernel_rfl) (fun h0 => ?_) (fun h0 => ?_)
    · simp at h0; omega
    · refine adv_ok hm 9 _ ?_
      refine r_to (q' := stI l m 0) (by kernel_rfl) ?_
      exact loopI (by omega) hl hg m.length 0 (by omega)
  | succ n ih =>
    intro i m hi h0 hmi hg
    have hil : i < l.length := by omega
    refine adv_ok hm 10 _ ?_
    refine r_split (decide ((i : Int) < ((List.map encV l).length : Int))) (by kernel_rfl) (fun h0 => ?_) (fun h0 => ?_)
    · refine adv_ok hm 8 _ ?_
      refine r_need (true && decide ((i : Int) < ((List.map encV l).length : Int))) (by kernel_rfl) (inR hil) ?_
      refine adv_ok hm 1 _ ?_
      refine r_row ((List.map encV l)[(Int.ofNat i).toNat]?) (encV l[i]) (by kernel_rfl) (rowGet hil) ?_
      refine adv_ok hm 1 _ ?_
      refine r_call 11 [D.sl false 3 (List.map encV m), D.agg (encV l[i])] [] (by kernel_rfl) (callPut false m l[i] (by unfold lim; omega) (fun h => by cases h)) ?_
      rintro d s ⟨rfl, rfl⟩
      refine adv_ok hm 9 _ ?_
      refine r_to (q' := stP l (.sl false 3 (List.map encV (putP m l[i]))) (IntKind.i64.wrap (↑i + 1))) (by kernel_rfl) ?_
      rw [wrap64 (by omega) (by omega)]
      have := put_len m l[i]
      exact ih (i + 1) (putP m l[i]) (by omega) (by omega) (by omega) (by rw [List.take_succ_eq_append_getElem hil]; exact hg.put _)
    · simp at h0; omega

theorem puts_nil (nl : Bool) : FinQ E ⟨Try.f6, false, 0⟩ Yes (.go ⟨[.code (bodyOf Try.f6)], [(0, .sl nl 3 [])], []⟩) := by
  cases nl
  all_goals
    refine adv_ok hm 7 _ ?_
    refine r_call 9 [] [] (by kernel_rfl) call9 ?_
    rintro d s ⟨rfl, rfl⟩
    refine adv_ok hm 79 _ ?_
    exact r_ret (D.bool true) [] (by kernel_rfl) ⟨rfl, rfl⟩

theorem puts_ok (nl : Bool) (l : List Vote) (hnl : nl = true → l = []) : Sound E 6 [.sl nl 3 (l.map encV)] [] Yes := by
  refine sound_of (m := ⟨[.code (bodyOf Try.f6)], [(0, .sl nl 3 (l.map encV))], []⟩) (fn := Try.f6) (by kernel_rfl) (by kernel_rfl) ?_
  cases l with
  | nil => exact puts_nil nl
  | cons a r =>
    have hnl' : nl = false := by cases nl with | false => rfl | true => have := hnl rfl; simp at this
    subst hnl'
    generalize hlr : a :: r = l
    have hpos : 0 < l.length := by rw [← hlr]; simp
    refine adv_ok hm 7 _ ?_
    refine r_call 9 [] [] (by kernel_rfl) call9 ?_
    rintro d s ⟨rfl, rfl⟩
    refine adv_ok hm 10 _ ?_
    refine r_split (decide (((List.map encV l).length : Int) > 200)) (by kernel_rfl) (fun h1 => ?_) (fun h1 => ?_)
    · refine adv_ok hm 6 _ ?_
      exact r_ret (D.bool true) ([]) (by kernel_rfl) ⟨rfl, rfl⟩
    · have hl : l.length ≤ 200 := by simp at h1; omega
      refine adv_ok hm 13 _ ?_
      refine r_to (q' := stP l (.sl true 0 []) 0) (by kernel_rfl) ?_
      refine adv_ok hm 10 _ ?_
      refine r_split (decide (((0 : Nat) : Int) < ((List.map encV l).length : Int))) (by kernel_rfl) (fun h0 => ?_) (fun h0 => ?_)
      · refine adv_ok hm 8 _ ?_
        refine r_need (true && decide (((0 : Nat) : Int) < ((List.map encV l).length : Int))) (by kernel_rfl) (inR hpos) ?_
        refine adv_ok hm 1 _ ?_
        refine r_row ((List.map encV l)[(Int.ofNat 0).toNat]?) (encV l[0]) (by kernel_rfl) (rowGet hpos) ?_
        refine adv_ok hm 1 _ ?_
        refine r_call 11 [D.sl true 0 [], D.agg (encV l[0])] [] (by kernel_rfl) (callPut0 l[0]) ?_
        rintro d s ⟨rfl, rfl⟩
        refine adv_ok hm 9 _ ?_
        refine r_to (q' := stP l (.sl false 3 ((putP [] l[0]).map encV)) 1) (by kernel_rfl) ?_
        have := put_len [] l[0]
        simp only [List.length_nil] at this
        exact loopP hl (l.length - 1) 1 (putP [] l[0]) (by omega) (by omega) (by rcases this with h | h <;> rw [h] <;> omega) (by
          have := Good.start.put l[0]
          have e : l.take 1 = [] ++ [l[0]] := by rw [List.take_succ_eq_append_getElem hpos]; simp
          rw [e]; exact this)
      · simp at h0; rw [h0] at hpos; simp at hpos

theorem puts_sound (xs : List D) (h : wtA E.P Try.f6.params.toList xs) : Sound E 6 xs [] fun d _ => d = .bool true := by
  have h' : wtA Try.prog [22] xs := h
  obtain ⟨d, ds, rfl, h1, rfl⟩ := h'
  obtain ⟨nl, l, rfl, hnl, _, _⟩ := slice_of h1
  exact (puts_ok nl l hnl).mono fun d s h => h.1

end Go.RX.Tally
