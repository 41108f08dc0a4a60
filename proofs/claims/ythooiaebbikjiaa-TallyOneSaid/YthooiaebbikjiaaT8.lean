/-
  Tally: what most say, the walk, whole.
-/
import Derived.Test.YthooiaebbikjiaaT5
set_option linter.unusedSimpArgs false
set_option linter.unusedVariables false
set_option maxRecDepth 100000
namespace Go.RX.Tally
open Go Go.RX Go.Proofs

theorem rows64_congr {f g : Nat → Int} (h : ∀ b, b < 64 → f b = g b) : rows64 f = rows64 g := by
  unfold rows64
  refine List.map_congr_left fun b hb => ?_
  rw [h b (by simpa using hb)]

theorem rowGet' {l : List Vote} {i : Nat} (h : i < l.length) : (List.map encV l)[(Int.ofNat i).toNat]? = some (encV l[i]) := by simp [h]
theorem inR' {l : List Vote} {i : Nat} (h : i < l.length) : (true && decide ((i : Int) < ((List.map encV l).length : Int))) = true := by simp; exact h

set_option maxHeartbeats 8000000 in
theorem loopO (nl : Bool) (l : List Vote) (o n f : Int) (hnl : nl = true → l = []) (hl : l.length ≤ lim) (hv : ∀ v ∈ l, VOk v) (ho : 1 ≤ o ∧ o ≤ 9223372036854775807) (hn : timeB n = true) (hf : timeB f = true) :
    ∀ (k i : Nat), i + k = l.length → FinQ E ⟨Try.f13, false, 0⟩ (Is (.int .u64 (upTo (fun b => decide (cntB l o n f b l.length > o - cntB l o n f b l.length)) 64))) (stO nl l o n f i (fun b => cntB l o n f b i)) := by
  intro k
  induction k with
  | zero =>
    intro i hi
    have hi' : i = l.length := by omega
    subst hi'
    refine adv_ok hm 7 _ ?_
    refine r_split (decide ((l.length : Int) < ((List.map encV l).length : Int))) (by kernel_rfl) (fun h0 => ?_) (fun h0 => ?_)
    · simp at h0
    · refine adv_ok hm 15 _ ?_
      refine r_to (q' := stF o 0 0 (fun b => cntB l o n f b l.length)) (by kernel_rfl) ?_
      exact loopF o (fun b => cntB l o n f b l.length) ho (fun b => by have := cntB_le l o n f b l.length; unfold lim at hl; omega) 64 0 rfl
  | succ k ih =>
    intro i hi
    have hil : i < l.length := by omega
    have hnl' : nl = false := by cases nl with | false => rfl | true => rw [hnl rfl] at hil; simp at hil
    subst hnl'
    have hw : IntKind.i64.wrap ((i : Int) + 1) = i + 1 := wrap64 (by omega) (by unfold lim at hl; omega)
    have hget : l[i]? = some l[i] := by simp [hil]
    have bad : validB l o n f i l[i] = false → FinQ E ⟨Try.f13, false, 0⟩ (Is (.int .u64 (upTo (fun b => decide (cntB l o n f b l.length > o - cntB l o n f b l.length)) 64))) (stO false l o n f (IntKind.i64.wrap ((i : Int) + 1)) (fun b => cntB l o n f b i)) := fun hbad => by
      have := ih (i + 1) (by omega)
      rw [hw]
      have e : (fun b => cntB l o n f b (i + 1)) = fun b => cntB l o n f b i := by funext b; simp [cntB, hget, hbad]
      rw [e] at this
      exact this
    refine adv_ok hm 7 _ ?_
    refine r_split (decide ((i : Int) < ((List.map encV l).length : Int))) (by kernel_rfl) (fun h0 => ?_) (fun h0 => ?_)
    · refine adv_ok hm 7 _ ?_
      refine r_need (true && decide ((i : Int) < ((List.map encV l).length : Int))) (by kernel_rfl) (inR' hil) ?_
      refine adv_ok hm 1 _ ?_
      refine r_row ((List.map encV l)[(Int.ofNat i).toNat]?) (encV l[i]) (by kernel_rfl) (rowGet' hil) ?_
      refine adv_ok hm 14 _ ?_
      refine r_split (decide (l[i].who < 0)) (by kernel_rfl) (fun h3 => ?_) (fun h3 => ?_)
      · refine adv_ok hm 71 _ ?_
        refine r_to (q' := stO false l o n f (IntKind.i64.wrap ((i : Int) + 1)) (fun b => cntB l o n f b i)) (by kernel_rfl) ?_
        exact bad (by simp only [validB, h3]; rfl)
      · refine adv_ok hm 11 _ ?_
        refine r_split (decide (l[i].who ≥ o)) (by kernel_rfl) (fun h4 => ?_) (fun h4 => ?_)
        · refine adv_ok hm 60 _ ?_
          refine r_to (q' := stO false l o n f (IntKind.i64.wrap ((i : Int) + 1)) (fun b => cntB l o n f b i)) (by kernel_rfl) ?_
          exact bad (by simp only [validB, h3, h4]; rfl)
        · refine adv_ok hm 5 _ ?_
          refine r_call 19 [D.int IntKind.i64 l[i].at_] [] (by kernel_rfl) (call19 l[i].at_) ?_
          rintro d s ⟨rfl, rfl⟩
          refine adv_ok hm 6 _ ?_
          refine r_split (!timeB l[i].at_) (by kernel_rfl) (fun h6 => ?_) (fun h6 => ?_)
          · refine adv_ok hm 49 _ ?_
            refine r_to (q' := stO false l o n f (IntKind.i64.wrap ((i : Int) + 1)) (fun b => cntB l o n f b i)) (by kernel_rfl) ?_
            have h6' : timeB l[i].at_ = false := by simpa using h6
            exact bad (by simp only [validB, h3, h4, h6']; rfl)
          · have h6' : timeB l[i].at_ = true := by simpa using h6
            refine adv_ok hm 11 _ ?_
            refine r_split (decide (l[i].at_ > n)) (by kernel_rfl) (fun h7 => ?_) (fun h7 => ?_)
            · refine adv_ok hm 38 _ ?_
              refine r_to (q' := stO false l o n f (IntKind.i64.wrap ((i : Int) + 1)) (fun b => cntB l o n f b i)) (by kernel_rfl) ?_
              exact bad (by simp only [validB, h3, h4, h6', h7]; rfl)
            · refine adv_ok hm 15 _ ?_
              refine r_split (decide (l[i].at_ < IntKind.i64.wrap (n - f))) (by kernel_rfl) (fun h8 => ?_) (fun h8 => ?_)
              · refine adv_ok hm 23 _ ?_
                refine r_to (q' := stO false l o n f (IntKind.i64.wrap ((i : Int) + 1)) (fun b => cntB l o n f b i)) (by kernel_rfl) ?_
                have hnf : IntKind.i64.wrap (n - f) = n - f := by simp [timeB] at hn hf; exact wrap64 (by omega) (by omega)
                rw [hnf] at h8
                exact bad (by simp only [validB, h3, h4, h6', h7, h8]; rfl)
              · have hnf : IntKind.i64.wrap (n - f) = n - f := by simp [timeB] at hn hf; exact wrap64 (by omega) (by omega)
                rw [hnf] at h8
                refine adv_ok hm 7 _ ?_
                refine r_call 18 [D.int IntKind.i64 l[i].who] [] (by kernel_rfl) (call18 l[i].who) ?_
                rintro d s ⟨rfl, rfl⟩
                refine adv_ok hm 2 _ ?_
                refine r_call 17 [D.sl false 3 (List.map encV l), D.fn 22 [] [D.iptr 1 [[D.int IntKind.i64 l[i].who]] 0 0]] [] (by kernel_rfl) (call17 false l l[i].who hl (fun h => by cases h)) ?_
                rintro d s ⟨rfl, rfl⟩
                refine adv_ok hm 8 _ ?_
                refine r_split (decide (idxP l l[i].who 0 < i)) (by kernel_rfl) (fun h11 => ?_) (fun h11 => ?_)
                · refine adv_ok hm 6 _ ?_
                  refine r_to (q' := stO false l o n f (IntKind.i64.wrap ((i : Int) + 1)) (fun b => cntB l o n f b i)) (by kernel_rfl) ?_
                  exact bad (by simp only [validB, h3, h4, h6', h7, h8, h11]; rfl)
                · refine adv_ok hm 8 _ ?_
                  refine r_to (q' := stB false l o n f i 0 l[i] (fun b => cntB l o n f b i)) (by kernel_rfl) ?_
                  have hgood : validB l o n f i l[i] = true := by simp only [validB, h3, h4, h6', h7, h8, h11]; rfl
                  have := loopB (Q := Is (.int .u64 (upTo (fun b => decide (cntB l o n f b l.length > o - cntB l o n f b l.length)) 64))) false l o n f i l[i] (fun b => cntB l o n f b i) (by omega) (hv l[i] (List.getElem_mem hil)).up.1 (fun b => cntB_le l o n f b i) (by
                    have h2 := ih (i + 1) (by omega)
                    have e : rows64 (fun b => cntB l o n f b (i + 1)) = rows64 (fun j => if j < 64 then cntB l o n f j i + bitN l[i].up j else cntB l o n f j i) := rows64_congr fun b hb => by simp [cntB, hget, hgood, hb]
                    simp only [stO] at h2 ⊢
                    rw [e] at h2
                    exact h2) 64 0 rfl
                  simpa using this
    · simp at h0; omega

theorem call13 (nl : Bool) (l : List Vote) (o n f : Int) (hnl : nl = true → l = []) (hl : l.length ≤ lim) (hv : ∀ v ∈ l, VOk v) (ho : o ≤ 9223372036854775807) :
    Sound E 13 [.sl nl 3 (l.map encV), .int .i64 o, .int .i64 n, .int .i64 f] [] (Is (.int .u64 (tallyP l o n f))) := by
  refine sound_of (m := ⟨[.code (bodyOf Try.f13)], [(0, .sl nl 3 (l.map encV)), (1, .int .i64 o), (2, .int .i64 n), (3, .int .i64 f)], []⟩) (fn := Try.f13) (by kernel_rfl) (by kernel_rfl) ?_
  refine adv_ok hm 13 _ ?_
  refine r_call 19 [D.int IntKind.i64 n] [] (by kernel_rfl) (call19 n) ?_
  rintro d s ⟨rfl, rfl⟩
  refine adv_ok hm 3 _ ?_
  refine r_split (!timeB n) (by kernel_rfl) (fun h1 => ?_) (fun h1 => ?_)
  · refine adv_ok hm 21 _ ?_
    have h1' : timeB n = false := by simpa using h1
    exact r_ret (D.int IntKind.u64 0) ([]) (by kernel_rfl) (by simp only [tallyP, h1']; exact ⟨rfl, rfl⟩)
  · have h1' : timeB n = true := by simpa using h1
    refine adv_ok hm 2 _ ?_
    refine r_call 19 [D.int IntKind.i64 f] [] (by kernel_rfl) (call19 f) ?_
    rintro d s ⟨rfl, rfl⟩
    refine adv_ok hm 6 _ ?_
    refine r_split (!timeB f) (by kernel_rfl) (fun h3 => ?_) (fun h3 => ?_)
    · refine adv_ok hm 12 _ ?_
      have h3' : timeB f = false := by simpa using h3
      exact r_ret (D.int IntKind.u64 0) ([]) (by kernel_rfl) (by simp only [tallyP, h1', h3']; exact ⟨rfl, rfl⟩)
    · have h3' : timeB f = true := by simpa using h3
      refine adv_ok hm 6 _ ?_
      refine r_split (decide (o < 1)) (by kernel_rfl) (fun h4 => ?_) (fun h4 => ?_)
      · refine adv_ok hm 5 _ ?_
        exact r_ret (D.int IntKind.u64 0) ([]) (by kernel_rfl) (by simp only [tallyP, h1', h3', h4]; exact ⟨rfl, rfl⟩)
      · have h4' : 1 ≤ o := by simp at h4; omega
        refine adv_ok hm 11 _ ?_
        have e : tallyP l o n f = upTo (fun b => decide (cntB l o n f b l.length > o - cntB l o n f b l.length)) 64 := by simp only [tallyP, h1', h3', h4]; rfl
        rw [e]
        refine r_to (q' := stO nl l o n f 0 (fun b => 0)) ?_ ?_
        · cases nl with
          | true => rw [hnl rfl]; kernel_rfl
          | false => kernel_rfl
        · exact loopO nl l o n f hnl hl hv ⟨h4', ho⟩ h1' h3' l.length 0 (by omega)

end Go.RX.Tally
