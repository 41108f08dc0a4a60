/-
  Tally: of one observer, and of two.
-/
import Derived.Test.YthooiaebbikjiaaT8
import Derived.Test.YthooiaebbikjiaaT9
set_option linter.unusedSimpArgs false
set_option linter.unusedVariables false
set_option maxRecDepth 100000
namespace Go.RX.Tally
open Go Go.RX Go.Proofs

theorem cnt1 {a n o : Int} (b : Nat) (h : timeB n = true) (ho : 1 ≤ o) : cntB [⟨0, a, n⟩] o n 0 b 1 = bitN a b := by
  have h2 : ¬ o ≤ 0 := by omega
  simp [cntB, validB, idxP, h, h2]
theorem cnt2 {a b n o : Int} (k : Nat) (h : timeB n = true) (ho : 2 ≤ o) : cntB [⟨0, a, n⟩, ⟨1, b, n⟩] o n 0 k 2 = bitN a k + bitN b k := by
  have h2 : ¬ o ≤ 0 := by omega
  have h3 : ¬ o ≤ 1 := by omega
  simp [cntB, validB, idxP, h, h2, h3]

theorem eq_bits {p : Nat → Bool} {m : Nat} (hm : m < 18446744073709551616) (h : ∀ j, j < 64 → p j = m.testBit j) : upTo p 64 = m := by
  refine Nat.eq_of_testBit_eq fun j => ?_
  rw [upTo_bit]
  by_cases hj : j < 64
  · simp [hj, h j hj]
  · have : m < 2 ^ j := Nat.lt_of_lt_of_le hm (show 2 ^ 64 ≤ 2 ^ j from Nat.pow_le_pow_right (by decide) (by omega))
    rw [Nat.testBit_lt_two_pow this]
    simp [hj]

theorem time0 : timeB 0 = true := by decide

theorem one1 {a n : Int} (ha : 0 ≤ a ∧ a ≤ 18446744073709551615) (hn : timeB n = true) : tallyP [⟨0, a, n⟩] 1 n 0 = a.toNat := by
  unfold tallyP
  rw [if_pos (by rw [hn, time0]; rfl)]
  refine eq_bits (by omega) fun j hj => ?_
  rw [show [(⟨0, a, n⟩ : Vote)].length = 1 from rfl, cnt1 j hn (by omega)]
  unfold bitN
  cases a.toNat.testBit j <;> simp
theorem one2 {a n : Int} (ha : 0 ≤ a ∧ a ≤ 18446744073709551615) (hn : timeB n = true) : tallyP [⟨0, a, n⟩] 2 n 0 = 0 := by
  unfold tallyP
  rw [if_pos (by rw [hn, time0]; rfl)]
  refine eq_bits (by omega) fun j hj => ?_
  rw [show [(⟨0, a, n⟩ : Vote)].length = 1 from rfl, cnt1 j hn (by omega)]
  unfold bitN
  cases a.toNat.testBit j <;> simp
theorem two2 {a b n o : Int} (ha : 0 ≤ a ∧ a ≤ 18446744073709551615) (hb : 0 ≤ b ∧ b ≤ 18446744073709551615) (hn : timeB n = true) (ho : o = 2 ∨ o = 3) : tallyP [⟨0, a, n⟩, ⟨1, b, n⟩] o n 0 = a.toNat &&& b.toNat := by
  unfold tallyP
  rw [if_pos (by rw [hn, time0]; rcases ho with rfl | rfl <;> rfl)]
  refine eq_bits (Nat.and_lt_two_pow (n := 64) _ (by omega)) fun j hj => ?_
  rw [show [(⟨0, a, n⟩ : Vote), ⟨1, b, n⟩].length = 2 from rfl, cnt2 j hn (by omega), Nat.testBit_and]
  unfold bitN
  rcases ho with rfl | rfl <;> cases a.toNat.testBit j <;> cases b.toNat.testBit j <;> simp
theorem two4 {a b n : Int} (ha : 0 ≤ a ∧ a ≤ 18446744073709551615) (hb : 0 ≤ b ∧ b ≤ 18446744073709551615) (hn : timeB n = true) : tallyP [⟨0, a, n⟩, ⟨1, b, n⟩] 4 n 0 = 0 := by
  unfold tallyP
  rw [if_pos (by rw [hn, time0]; rfl)]
  refine eq_bits (by omega) fun j hj => ?_
  rw [show [(⟨0, a, n⟩ : Vote), ⟨1, b, n⟩].length = 2 from rfl, cnt2 j hn (by omega)]
  unfold bitN
  cases a.toNat.testBit j <;> cases b.toNat.testBit j <;> simp

theorem andE {a b : Int} (ha : 0 ≤ a ∧ a ≤ 18446744073709551615) (hb : 0 ≤ b ∧ b ≤ 18446744073709551615) : IntKind.u64.wrap ↑(BitVec.ofInt IntKind.u64.bits a &&& BitVec.ofInt IntKind.u64.bits b).toNat = ((a.toNat &&& b.toNat : Nat) : Int) := by
  obtain ⟨x, rfl⟩ := Int.eq_ofNat_of_zero_le ha.1
  obtain ⟨y, rfl⟩ := Int.eq_ofNat_of_zero_le hb.1
  rw [BitVec.ofInt_natCast, BitVec.ofInt_natCast, show IntKind.u64.bits = 64 from rfl, BitVec.toNat_and, BitVec.toNat_ofNat, BitVec.toNat_ofNat, Nat.mod_eq_of_lt (by omega), Nat.mod_eq_of_lt (by omega)]
  simp only [Int.toNat_natCast]
  exact u64wrap (Nat.and_lt_two_pow (n := 64) _ (by omega))

set_option maxHeartbeats 4000000 in
theorem one_ok (a b n : Int) (ha : 0 ≤ a ∧ a ≤ 18446744073709551615) (hb : 0 ≤ b ∧ b ≤ 18446744073709551615) (hn : 0 ≤ n ∧ n ≤ 65535) : Sound E 8 [.int .u64 a, .int .u64 b, .int .u16 n] [] (Is (.bool true)) := by
  have hw : IntKind.i64.wrap n = n := wrap64 (by omega) (by omega)
  have ht : timeB (IntKind.i64.wrap n) = true := by rw [hw]; simp [timeB]; omega
  have hv0 : VOk ⟨0, a, IntKind.i64.wrap n⟩ := ⟨(show (-9223372036854775808 : Int) ≤ 0 ∧ (0 : Int) ≤ 9223372036854775807 by decide), ha, by rw [hw]; simp only; omega⟩
  have hv1 : VOk ⟨1, b, IntKind.i64.wrap n⟩ := ⟨(show (-9223372036854775808 : Int) ≤ 1 ∧ (1 : Int) ≤ 9223372036854775807 by decide), hb, by rw [hw]; simp only; omega⟩
  have c1 : ∀ o : Int, o ≤ 9223372036854775807 → Sound E 13 [.sl false 3 [encV ⟨0, a, IntKind.i64.wrap n⟩], .int .i64 o, .int .i64 (IntKind.i64.wrap n), .int .i64 0] [] (Is (.int .u64 (tallyP [⟨0, a, IntKind.i64.wrap n⟩] o (IntKind.i64.wrap n) 0))) := fun o ho =>
    call13 false [⟨0, a, IntKind.i64.wrap n⟩] o _ 0 (fun h => by cases h) (by unfold lim; simp) (fun v hv => by simp at hv; subst hv; exact hv0) ho
  have c2 : ∀ o : Int, o ≤ 9223372036854775807 → Sound E 13 [.sl false 3 [encV ⟨0, a, IntKind.i64.wrap n⟩, encV ⟨1, b, IntKind.i64.wrap n⟩], .int .i64 o, .int .i64 (IntKind.i64.wrap n), .int .i64 0] [] (Is (.int .u64 (tallyP [⟨0, a, IntKind.i64.wrap n⟩, ⟨1, b, IntKind.i64.wrap n⟩] o (IntKind.i64.wrap n) 0))) := fun o ho =>
    call13 false [⟨0, a, IntKind.i64.wrap n⟩, ⟨1, b, IntKind.i64.wrap n⟩] o _ 0 (fun h => by cases h) (by unfold lim; simp) (fun v hv => by simp at hv; rcases hv with rfl | rfl; exact hv0; exact hv1) ho
  refine sound_of (m := ⟨[.code (bodyOf Try.f8)], [(0, .int .u64 a), (1, .int .u64 b), (2, .int .u16 n)], []⟩) (fn := Try.f8) (by kernel_rfl) (by kernel_rfl) ?_
  refine adv_ok hm 7 _ ?_
  refine r_call 9 [] [] (by kernel_rfl) call9 ?_
  rintro d s ⟨rfl, rfl⟩
  refine adv_ok hm 9 _ ?_
  refine r_call 11 [D.sl true 0 [], D.agg (encV ⟨0, a, IntKind.i64.wrap n⟩)] [] (by kernel_rfl) (call11n 0 ⟨0, a, IntKind.i64.wrap n⟩) ?_
  rintro d s ⟨rfl, rfl⟩
  refine adv_ok hm 10 _ ?_
  refine r_call 11 [D.sl false 3 [encV ⟨0, a, IntKind.i64.wrap n⟩], D.agg (encV ⟨1, b, IntKind.i64.wrap n⟩)] [] (by kernel_rfl) (call11 [⟨0, a, IntKind.i64.wrap n⟩] ⟨1, b, IntKind.i64.wrap n⟩ (by simp) (by unfold lim; simp)) ?_
  rintro d s ⟨rfl, rfl⟩
  refine adv_ok hm 14 _ ?_
  refine r_call 13 [D.sl false 3 [encV ⟨0, a, IntKind.i64.wrap n⟩], D.int IntKind.i64 1, D.int IntKind.i64 (IntKind.i64.wrap n), D.int IntKind.i64 0] [] (by kernel_rfl) (c1 1 (by decide)) ?_
  rintro d s ⟨rfl, rfl⟩
  refine adv_ok hm 8 _ ?_
  refine r_split ((tallyP [⟨0, a, IntKind.i64.wrap n⟩] 1 (IntKind.i64.wrap n) 0 : Int) == a) (by kernel_rfl) (fun h4 => ?_) (fun h4 => ?_)
  · refine adv_ok hm 6 _ ?_
    refine r_call 13 [D.sl false 3 [encV ⟨0, a, IntKind.i64.wrap n⟩], D.int IntKind.i64 2, D.int IntKind.i64 (IntKind.i64.wrap n), D.int IntKind.i64 0] [] (by kernel_rfl) (c1 2 (by decide)) ?_
    rintro d s ⟨rfl, rfl⟩
    refine adv_ok hm 6 _ ?_
    refine r_split ((tallyP [⟨0, a, IntKind.i64.wrap n⟩] 2 (IntKind.i64.wrap n) 0 : Int) == 0) (by kernel_rfl) (fun h6 => ?_) (fun h6 => ?_)
    · refine adv_ok hm 6 _ ?_
      refine r_call 13 [D.sl false 3 [encV ⟨0, a, IntKind.i64.wrap n⟩, encV ⟨1, b, IntKind.i64.wrap n⟩], D.int IntKind.i64 2, D.int IntKind.i64 (IntKind.i64.wrap n), D.int IntKind.i64 0] [] (by kernel_rfl) (c2 2 (by decide)) ?_
      rintro d s ⟨rfl, rfl⟩
      refine adv_ok hm 12 _ ?_
      refine r_split ((tallyP [⟨0, a, IntKind.i64.wrap n⟩, ⟨1, b, IntKind.i64.wrap n⟩] 2 (IntKind.i64.wrap n) 0 : Int) == IntKind.u64.wrap ↑(BitVec.ofInt IntKind.u64.bits a &&& BitVec.ofInt IntKind.u64.bits b).toNat) (by kernel_rfl) (fun h8 => ?_) (fun h8 => ?_)
      · refine adv_ok hm 6 _ ?_
        refine r_call 13 [D.sl false 3 [encV ⟨0, a, IntKind.i64.wrap n⟩, encV ⟨1, b, IntKind.i64.wrap n⟩], D.int IntKind.i64 3, D.int IntKind.i64 (IntKind.i64.wrap n), D.int IntKind.i64 0] [] (by kernel_rfl) (c2 3 (by decide)) ?_
        rintro d s ⟨rfl, rfl⟩
        refine adv_ok hm 12 _ ?_
        refine r_split ((tallyP [⟨0, a, IntKind.i64.wrap n⟩, ⟨1, b, IntKind.i64.wrap n⟩] 3 (IntKind.i64.wrap n) 0 : Int) == IntKind.u64.wrap ↑(BitVec.ofInt IntKind.u64.bits a &&& BitVec.ofInt IntKind.u64.bits b).toNat) (by kernel_rfl) (fun h10 => ?_) (fun h10 => ?_)
        · refine adv_ok hm 6 _ ?_
          refine r_call 13 [D.sl false 3 [encV ⟨0, a, IntKind.i64.wrap n⟩, encV ⟨1, b, IntKind.i64.wrap n⟩], D.int IntKind.i64 4, D.int IntKind.i64 (IntKind.i64.wrap n), D.int IntKind.i64 0] [] (by kernel_rfl) (c2 4 (by decide)) ?_
          rintro d s ⟨rfl, rfl⟩
          refine adv_ok hm 6 _ ?_
          refine r_split ((tallyP [⟨0, a, IntKind.i64.wrap n⟩, ⟨1, b, IntKind.i64.wrap n⟩] 4 (IntKind.i64.wrap n) 0 : Int) == 0) (by kernel_rfl) (fun h12 => ?_) (fun h12 => ?_)
          · refine adv_ok hm 9 _ ?_
            exact r_ret (D.bool true) ([]) (by kernel_rfl) ⟨rfl, rfl⟩
          · rw [two4 ha hb ht] at h12; simp at h12
        · rw [two2 ha hb ht (.inr rfl), andE ha hb] at h10; simp at h10
      · rw [two2 ha hb ht (.inl rfl), andE ha hb] at h8; simp at h8
    · rw [one2 ha ht] at h6; simp at h6
  · rw [one1 ha ht] at h4; simp at h4; omega

theorem par23 (d : D) : wtP Try.prog 23 d = ∃ m, [d] = [.int .u64 m] ∧ IntKind.u64.min ≤ m ∧ m ≤ IntKind.u64.max := by kernel_rfl
theorem par35 (d : D) : wtP Try.prog 35 d = ∃ m, [d] = [.int .u16 m] ∧ IntKind.u16.min ≤ m ∧ m ≤ IntKind.u16.max := by kernel_rfl

theorem one_sound (xs : List D) (h : wtA E.P Try.f8.params.toList xs) : Sound E 8 xs [] fun d _ => d = .bool true := by
  have h' : wtA Try.prog [23, 23, 35] xs := h
  obtain ⟨d1, ds, rfl, h1, d2, ds, rfl, h2, d3, ds, rfl, h3, rfl⟩ := h'
  rw [par23] at h1 h2
  rw [par35] at h3
  obtain ⟨a, e1, ha⟩ := h1
  obtain ⟨b, e2, hb⟩ := h2
  obtain ⟨n, e3, hn⟩ := h3
  simp only [List.cons.injEq, and_true] at e1 e2 e3
  subst e1 e2 e3
  exact (one_ok a b n (u64b ha) (u64b hb) (u16b hn)).mono fun d s h => h.1

end Go.RX.Tally
