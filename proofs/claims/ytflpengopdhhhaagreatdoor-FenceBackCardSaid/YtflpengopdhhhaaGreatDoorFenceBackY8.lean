/-
  Words and walks for FenceBack. No condition.
-/
import Derived.Test.YtflpengopdhhhaaGreatDoorFenceBackX7
set_option linter.unusedSectionVars false
set_option linter.unnecessarySimpa false
set_option linter.unusedSimpArgs false
set_option linter.unusedVariables false
namespace Go.RX
open Go
/-! ### zigzag -/
def zz (n : Int) : Nat := if 0 ≤ n then 2 * n.toNat else 2 * (-n).toNat - 1
def unzz (u : Nat) : Int := if u % 2 = 0 then ((u / 2 : Nat) : Int) else -((u / 2 : Nat) : Int) - 1
theorem unzz_zz (n : Int) : unzz (zz n) = n := by
  unfold unzz zz
  split <;> split <;> omega
theorem zz_unzz (u : Nat) : zz (unzz u) = u := by
  unfold unzz zz
  split <;> split <;> omega
theorem zz_lt {n : Int} (h : inK .i64 n) : zz n < 18446744073709551616 := by
  have := inI64.1 h
  unfold zz
  split <;> omega
theorem unzz_in {u : Nat} (h : u < 18446744073709551616) : inK .i64 (unzz u) := by
  refine inI64.2 ?_
  unfold unzz
  split <;> omega
/-! ### a number's bytes -/
def venc (u : Nat) : List Int := if h : u < 128 then [(u : Int)] else ((u % 128 + 128 : Nat) : Int) :: venc (u / 128)
termination_by u
decreasing_by omega
theorem venc_lt {u : Nat} (h : u < 128) : venc u = [(u : Int)] := by rw [venc, dif_pos h]
theorem venc_ge {u : Nat} (h : 128 ≤ u) : venc u = ((u % 128 + 128 : Nat) : Int) :: venc (u / 128) := by rw [venc, dif_neg (by omega)]
theorem venc_len : ∀ (k u : Nat), u < 2 ^ (7 * k) → 0 < k → (venc u).length ≤ k
  | 0, _, _, h => absurd h (by simp)
  | k + 1, u, h, _ => by
    by_cases hu : u < 128
    · rw [venc_lt hu]; simp
    · rw [venc_ge (by omega)]
      have h' : u / 128 < 2 ^ (7 * k) := by
        rw [Nat.div_lt_iff_lt_mul (by decide)]
        have : 2 ^ (7 * (k + 1)) = 2 ^ (7 * k) * 128 := by rw [Nat.mul_succ, Nat.pow_add]
        omega
      have hk : 0 < k := by
        rcases Nat.eq_zero_or_pos k with rfl | hk
        · simp at h; omega
        · exact hk
      have := venc_len k _ h' hk
      simp; omega
theorem venc_ten {u : Nat} (h : u < 18446744073709551616) : (venc u).length ≤ 10 := venc_len 10 u (by
  have : (2 : Nat) ^ (7 * 10) = 1180591620717411303424 := by decide
  omega) (by decide)
theorem venc_byte : ∀ (u : Nat), ∀ c ∈ venc u, 0 ≤ c ∧ c ≤ 255 := by
  intro u
  induction u using Nat.strongRecOn with
  | ind u ih =>
    intro c hc
    by_cases h : u < 128
    · rw [venc_lt h] at hc; simp at hc; omega
    · rw [venc_ge (by omega)] at hc
      rcases List.mem_cons.1 hc with rfl | hc
      · omega
      · exact ih _ (by omega) c hc
def vd : Nat → List Int → Int ⊕ (Nat × Nat)
  | _, [] => .inl 11
  | i, c :: l => if (i = 9 ∧ 1 < c) ∨ (c = 0 ∧ 0 < i) then .inl 12 else if c < 128 then .inr (c.toNat, 1) else
    match vd (i + 1) l with
    | .inl e => .inl e
    | .inr (u, k) => .inr (c.toNat - 128 + 128 * u, k + 1)
def vS (c : Nat) (r : Int ⊕ (Nat × Nat)) : Int ⊕ (Nat × Nat) := match r with
  | .inl e => .inl e
  | .inr (u, k) => .inr (c - 128 + 128 * u, k + 1)
theorem vd_cons (i : Nat) (c : Int) (l : List Int) : vd i (c :: l) = if (i = 9 ∧ 1 < c) ∨ (c = 0 ∧ 0 < i) then .inl 12 else if c < 128 then .inr (c.toNat, 1) else vS c.toNat (vd (i + 1) l) := by
  simp only [vd]
  split
  · rfl
  · split
    · rfl
    · unfold vS; cases vd (i + 1) l <;> rfl
theorem pow_step {i : Nat} (h : i ≤ 8) : 2 ^ (64 - 7 * i) = 2 ^ (64 - 7 * (i + 1)) * 128 := by
  rw [show 64 - 7 * i = (64 - 7 * (i + 1)) + 7 by omega, Nat.pow_add]
theorem vd_enc : ∀ (u i : Nat) (rest : List Int), i ≤ 9 → u < 2 ^ (64 - 7 * i) → (0 < u ∨ i = 0) → vd i (venc u ++ rest) = .inr (u, (venc u).length) := by
  intro u
  induction u using Nat.strongRecOn with
  | ind u ih =>
    intro i rest hi hu h0
    by_cases h : u < 128
    · rw [venc_lt h]
      simp only [List.cons_append, List.nil_append, vd]
      rw [if_neg, if_pos (by omega)]
      · simp
      · rintro (⟨rfl, h1⟩ | ⟨h1, h2⟩)
        · simp at hu; omega
        · omega
    · have hi8 : i ≤ 8 := by
        rcases Nat.lt_or_ge i 9 with h | h
        · omega
        · have : i = 9 := by omega
          subst this
          simp at hu; omega
      rw [venc_ge (by omega)]
      simp only [List.cons_append, vd]
      have hu' : u / 128 < 2 ^ (64 - 7 * (i + 1)) := by
        rw [Nat.div_lt_iff_lt_mul (by decide), ← pow_step hi8]; exact hu
      rw [if_neg, if_neg (by omega), ih (u / 128) (by omega) (i + 1) rest (by omega) hu' (.inl (by omega))]
      · simp; omega
      · rintro (⟨rfl, h1⟩ | ⟨h1, h2⟩) <;> omega
theorem vd_dec : ∀ (l : List Int) (i u k : Nat), i ≤ 9 → (∀ c ∈ l, 0 ≤ c ∧ c ≤ 255) → vd i l = .inr (u, k) → l.take k = venc u ∧ k ≤ l.length ∧ k = (venc u).length ∧ u < 2 ^ (64 - 7 * i) ∧ (0 < i → 0 < u)
  | [], _, _, _, _, _, h => by simp [vd] at h
  | c :: l, i, u, k, hi, hb, h => by
    simp only [vd] at h
    have hc := hb c (by simp)
    split at h
    · cases h
    · rename_i hno
      simp only [not_or, not_and] at hno
      split at h
      · rename_i hlt
        simp only [Sum.inr.injEq, Prod.mk.injEq] at h
        obtain ⟨rfl, rfl⟩ := h
        have hv : venc c.toNat = [c] := by rw [venc_lt (by omega), Int.toNat_of_nonneg hc.1]
        refine ⟨by rw [hv]; simp, by simp, by rw [hv]; rfl, ?_, fun h => ?_⟩
        · rcases Nat.lt_or_ge i 9 with h9 | h9
          · have : 2 ^ 8 ≤ 2 ^ (64 - 7 * i) := Nat.pow_le_pow_right (by decide) (by omega)
            omega
          · have : i = 9 := by omega
            subst this
            have := hno.1 rfl
            simp; omega
        · have := hno.2; omega
      · rename_i hge
        split at h
        · cases h
        · rename_i u' k' hv
          simp only [Sum.inr.injEq, Prod.mk.injEq] at h
          obtain ⟨rfl, rfl⟩ := h
          have hi8 : i ≤ 8 := by
            rcases Nat.lt_or_ge i 9 with h9 | h9
            · omega
            · have : i = 9 := by omega
              have := hno.1 this
              omega
          obtain ⟨h1, h2, h3, h4, h5⟩ := vd_dec l (i + 1) u' k' (by omega) (fun c hc => hb c (by simp [hc])) hv
          have h5 := h5 (by omega)
          have e1 : (c.toNat - 128 + 128 * u') / 128 = u' := by omega
          have e2 : (c.toNat - 128 + 128 * u') % 128 + 128 = c.toNat := by omega
          have hven : venc (c.toNat - 128 + 128 * u') = c :: venc u' := by
            rw [venc_ge (by omega), e1, e2, Int.toNat_of_nonneg hc.1]
          refine ⟨by rw [hven, List.take_succ_cons, h1], by simp; omega, by rw [hven]; simp; omega, ?_, fun _ => by omega⟩
          rw [pow_step hi8]
          omega
theorem vd_err : ∀ (l : List Int) (i : Nat) (e : Int), vd i l = .inl e → e = 11 ∨ e = 12
  | [], _, e, h => by simp [vd] at h; exact .inl h.symm
  | c :: l, i, e, h => by
    simp only [vd] at h
    split at h
    · simp at h; exact .inr h.symm
    · split at h
      · cases h
      · split at h
        · rename_i e' hv
          obtain rfl := Sum.inl.inj h
          exact vd_err l _ _ hv
        · cases h
/-! ### numbers -/
def encI (n : Int) : List Int := venc (zz n)
def pI (l : List Int) : Int ⊕ (Int × Nat) := match vd 0 l with | .inl e => .inl e | .inr (u, k) => .inr (unzz u, k)
abbrev Bytes (l : List Int) : Prop := ∀ c ∈ l, 0 ≤ c ∧ c ≤ 255
theorem encI_len {n : Int} (h : inK .i64 n) : (encI n).length ≤ 10 := venc_ten (zz_lt h)
theorem encI_bytes (n : Int) : Bytes (encI n) := venc_byte _
theorem pI_enc {n : Int} (h : inK .i64 n) (rest : List Int) : pI (encI n ++ rest) = .inr (n, (encI n).length) := by
  unfold pI encI
  rw [vd_enc (zz n) 0 rest (by omega) (by have := zz_lt h; simpa using this) (.inr rfl)]
  simp [unzz_zz]
theorem pI_dec {l : List Int} {n : Int} {k : Nat} (hb : Bytes l) (h : pI l = .inr (n, k)) : l.take k = encI n ∧ k ≤ l.length ∧ k = (encI n).length ∧ inK .i64 n := by
  unfold pI at h
  split at h
  · cases h
  · rename_i u k' hv
    simp only [Sum.inr.injEq, Prod.mk.injEq] at h
    obtain ⟨rfl, rfl⟩ := h
    obtain ⟨h1, h2, h3, h4, _⟩ := vd_dec l 0 u k' (by omega) hb hv
    unfold encI
    rw [zz_unzz]
    exact ⟨h1, h2, h3, unzz_in (by simpa using h4)⟩
theorem pI_err {l : List Int} {e : Int} (h : pI l = .inl e) : e = 11 ∨ e = 12 := by
  unfold pI at h
  split at h
  · rename_i e' hv
    obtain rfl := Sum.inl.inj h
    exact vd_err _ _ _ hv
  · cases h
/-! ### lists -/
def pN : Nat → List Int → Int ⊕ (List Int × Nat)
  | 0, _ => .inr ([], 0)
  | n + 1, l => match pI l with
    | .inl e => .inl e
    | .inr (x, k) => (match pN n (l.drop k) with
      | .inl e => .inl e
      | .inr (xs, m) => .inr (x :: xs, k + m))
def pL (l : List Int) : Int ⊕ (List Int × Nat) := match pI l with
  | .inl e => .inl e
  | .inr (n, k) => if n < 0 ∨ n > 64 then .inl 2 else (match pN n.toNat (l.drop k) with
    | .inl e => .inl e
    | .inr (xs, m) => .inr (xs, k + m))
def pS (x : Int) (k : Nat) (r : Int ⊕ (List Int × Nat)) : Int ⊕ (List Int × Nat) := match r with
  | .inl e => .inl e
  | .inr (xs, m) => .inr (x :: xs, k + m)
def pK (k : Nat) (r : Int ⊕ (List Int × Nat)) : Int ⊕ (List Int × Nat) := match r with
  | .inl e => .inl e
  | .inr (xs, m) => .inr (xs, k + m)
theorem pN_inl {n : Nat} {l : List Int} {e : Int} (h : pI l = .inl e) : pN (n + 1) l = .inl e := by simp only [pN, h]
theorem pN_inr {n : Nat} {l : List Int} {x : Int} {k : Nat} (h : pI l = .inr (x, k)) : pN (n + 1) l = pS x k (pN n (l.drop k)) := by
  simp only [pN, h]; unfold pS; cases pN n (l.drop k) <;> rfl
theorem pL_inl {l : List Int} {e : Int} (h : pI l = .inl e) : pL l = .inl e := by simp only [pL, h]
theorem pL_big {l : List Int} {n : Int} {k : Nat} (h : pI l = .inr (n, k)) (hn : n < 0 ∨ n > 64) : pL l = .inl 2 := by simp only [pL, h, if_pos hn]
theorem pL_inr {l : List Int} {n : Int} {k : Nat} (h : pI l = .inr (n, k)) (hn : ¬ (n < 0 ∨ n > 64)) : pL l = pK k (pN n.toNat (l.drop k)) := by
  simp only [pL, h, if_neg hn]; unfold pK; cases pN n.toNat (l.drop k) <;> rfl
def encN (xs : List Int) : List Int := xs.flatMap encI
def encL (xs : List Int) : List Int := encI (xs.length : Int) ++ encN xs
abbrev I64s (l : List Int) : Prop := ∀ x ∈ l, inK .i64 x
theorem inLen {n : Nat} (h : n ≤ 1000000) : inK .i64 (n : Int) := inI64.2 (by omega)
theorem encN_bytes (xs : List Int) : Bytes (encN xs) := fun c hc => by
  obtain ⟨x, _, h⟩ := List.mem_flatMap.1 hc
  exact encI_bytes x c h
theorem encL_bytes (xs : List Int) : Bytes (encL xs) := fun c hc => (List.mem_append.1 hc).elim (encI_bytes _ c) (encN_bytes xs c)
theorem encN_len : ∀ {xs : List Int}, I64s xs → (encN xs).length ≤ 10 * xs.length
  | [], _ => by simp [encN]
  | x :: xs, h => by
    have h1 := encI_len (h x (by simp))
    have h2 := encN_len (xs := xs) fun y hy => h y (by simp [hy])
    simp only [encN, List.flatMap_cons, List.length_append, List.length_cons] at h2 ⊢
    omega
theorem encL_len {xs : List Int} (h : I64s xs) (hl : xs.length ≤ 64) : (encL xs).length ≤ 650 := by
  have h1 := encI_len (inLen (n := xs.length) (by omega))
  have h2 := encN_len h
  simp only [encL, List.length_append]
  omega
theorem pN_enc : ∀ (xs rest : List Int), I64s xs → pN xs.length (encN xs ++ rest) = .inr (xs, (encN xs).length)
  | [], rest, _ => rfl
  | x :: xs, rest, h => by
    have ih := pN_enc xs rest fun y hy => h y (by simp [hy])
    simp only [encN, List.flatMap_cons, List.length_cons, pN, List.append_assoc] at ih ⊢
    rw [pI_enc (h x (by simp))]
    simp only [List.drop_left, ih, List.length_append]
theorem pN_dec : ∀ (n : Nat) (l xs : List Int) (k : Nat), Bytes l → pN n l = .inr (xs, k) → l.take k = encN xs ∧ k ≤ l.length ∧ k = (encN xs).length ∧ xs.length = n ∧ I64s xs
  | 0, l, xs, k, _, h => by
    simp only [pN, Sum.inr.injEq, Prod.mk.injEq] at h
    obtain ⟨rfl, rfl⟩ := h
    exact ⟨by simp [encN], by simp, by simp [encN], rfl, fun x hx => by simp at hx⟩
  | n + 1, l, xs, k, hb, h => by
    simp only [pN] at h
    split at h
    · cases h
    · rename_i x k1 hx
      split at h
      · cases h
      · rename_i ys m hys
        simp only [Sum.inr.injEq, Prod.mk.injEq] at h
        obtain ⟨rfl, rfl⟩ := h
        obtain ⟨a1, a2, a3, a4⟩ := pI_dec hb hx
        obtain ⟨b1, b2, b3, b4, b5⟩ := pN_dec n _ _ _ (fun c hc => hb c (List.mem_of_mem_drop hc)) hys
        simp only [List.length_drop] at b2
        refine ⟨?_, by omega, ?_, by simp [b4], fun y hy => ?_⟩
        · simp only [encN, List.flatMap_cons] at b1 ⊢
          rw [← a1, ← b1, List.take_add]
        · simp only [encN, List.flatMap_cons, List.length_append] at b3 ⊢; omega
        · rcases List.mem_cons.1 hy with rfl | hy
          · exact a4
          · exact b5 y hy
theorem pL_enc {xs : List Int} (h : I64s xs) (hl : xs.length ≤ 64) (rest : List Int) : pL (encL xs ++ rest) = .inr (xs, (encL xs).length) := by
  unfold pL encL
  rw [List.append_assoc, pI_enc (inLen (n := xs.length) (by omega))]
  simp only []
  rw [if_neg (by omega)]
  simp only [List.drop_left, Int.toNat_natCast, pN_enc xs rest h, List.length_append]
theorem pL_dec {l xs : List Int} {k : Nat} (hb : Bytes l) (h : pL l = .inr (xs, k)) : l.take k = encL xs ∧ k ≤ l.length ∧ k = (encL xs).length ∧ xs.length ≤ 64 ∧ I64s xs := by
  unfold pL at h
  split at h
  · cases h
  · rename_i n k1 hn
    split at h
    · cases h
    · rename_i hno
      split at h
      · cases h
      · rename_i ys m hys
        simp only [Sum.inr.injEq, Prod.mk.injEq] at h
        obtain ⟨rfl, rfl⟩ := h
        obtain ⟨a1, a2, a3, a4⟩ := pI_dec hb hn
        obtain ⟨b1, b2, b3, b4, b5⟩ := pN_dec _ _ _ _ (fun c hc => hb c (List.mem_of_mem_drop hc)) hys
        simp only [List.length_drop] at b2
        have e : n = (ys.length : Int) := by omega
        unfold encL
        rw [← e]
        exact ⟨by rw [← a1, ← b1, List.take_add], by omega, by rw [List.length_append]; omega, by omega, b5⟩
end Go.RX

namespace Go.RX
open Go
theorem ofInt8 {n : Nat} (h : n < 256) : (BitVec.ofInt IntKind.u8.bits (n : Int)).toNat = n := by
  rw [BitVec.ofInt_natCast, show IntKind.u8.bits = 8 from rfl, BitVec.toNat_ofNat, Nat.mod_eq_of_lt (by omega)]
theorem wrapU8 {n : Nat} (h : n < 256) : IntKind.u8.wrap (n : Int) = n := wU8 (by omega) (by omega)
theorem and127 {c : Nat} (h : c < 256) : andI .u8 c 127 = ((c % 128 : Nat) : Int) := by
  unfold andI
  rw [show (127 : Int) = ((127 : Nat) : Int) from rfl, BitVec.toNat_and, ofInt8 h, ofInt8 (by omega), show (127 : Nat) = 2 ^ 7 - 1 from rfl, Nat.and_two_pow_sub_one_eq_mod, wrapU8 (by omega)]
theorem andOne {u : Nat} (h : u < 18446744073709551616) : andI .u64 u 1 = ((u % 2 : Nat) : Int) := by
  rw [show (1 : Int) = ((1 : Nat) : Int) from rfl, andI64 h (by omega), show (1 : Nat) = 2 ^ 1 - 1 from rfl, Nat.and_two_pow_sub_one_eq_mod]
theorem or128 {a : Nat} (h : a < 256) : orI .u8 a 128 = ((a % 128 + 128 : Nat) : Int) := by
  have key : ∀ a, a < 256 → a ||| 128 = a % 128 + 128 := by decide +kernel
  unfold orI
  rw [show (128 : Int) = ((128 : Nat) : Int) from rfl, BitVec.toNat_or, ofInt8 h, ofInt8 (by omega), key a h, wrapU8 (by omega)]
theorem wrapU8_mod (u : Nat) : IntKind.u8.wrap (u : Int) = ((u % 256 : Nat) : Int) := by
  simp only [IntKind.wrap, IntKind.signed, IntKind.bits]
  simp
theorem shr7 (u : Nat) : shrI .u64 u 7 = ((u / 128 : Nat) : Int) := shrI64 (a := u) (k := 7) (by decide)
theorem shr1 (u : Nat) : shrI .u64 u 1 = ((u / 2 : Nat) : Int) := shrI64 (a := u) (k := 1) (by decide)
theorem or_shl {u p s : Nat} (hu : u < 2 ^ s) (hp : u + p * 2 ^ s < 18446744073709551616) (hs : s ≤ 64) : orI .u64 u (shlI .u64 p s) = ((u + p * 2 ^ s : Nat) : Int) := by
  have h1 : shlI .u64 p s = ((p * 2 ^ s : Nat) : Int) := by
    unfold shlI
    have e : min (s : Int).toNat IntKind.u64.bits = s := by simp [IntKind.bits]; omega
    rw [e, show ((p : Int) * (2 : Int) ^ s) = ((p * 2 ^ s : Nat) : Int) by norm_cast, wrapU64 (by omega)]
  have hu' : u < 18446744073709551616 := by omega
  rw [h1, orI64 hu' (by omega)]
  congr 1
  rw [Nat.or_comm, Nat.mul_comm, ← Nat.two_pow_add_eq_or_of_lt hu, Nat.mul_comm, Nat.add_comm]
theorem wrapI64_nat (n : Nat) (h : n < 18446744073709551616) : IntKind.i64.wrap (n : Int) = if n < 9223372036854775808 then (n : Int) else (n : Int) - 18446744073709551616 := by
  simp only [IntKind.wrap, IntKind.signed, IntKind.bits]
  simp
  split <;> split <;> omega
theorem toNatI {n : Nat} (h : n < 9223372036854775808) : (BitVec.ofInt IntKind.i64.bits (n : Int)).toNat = n := by
  rw [BitVec.ofInt_natCast, show IntKind.i64.bits = 64 from rfl, BitVec.toNat_ofNat, Nat.mod_eq_of_lt (by omega)]
theorem xor_neg {n : Nat} (h : n < 9223372036854775808) : xorI .i64 n (-1) = -(n : Int) - 1 := by
  unfold xorI
  have e : BitVec.ofInt IntKind.i64.bits (-1) = BitVec.allOnes IntKind.i64.bits := by decide
  rw [e, BitVec.xor_allOnes, BitVec.toNat_not, toNatI h, show IntKind.i64.bits = 64 from rfl, wrapI64_nat _ (by omega), if_neg (by omega)]
  omega
theorem xor_zero {n : Nat} (h : n < 9223372036854775808) : xorI .i64 n 0 = n := by
  unfold xorI
  have e : BitVec.ofInt IntKind.i64.bits 0 = 0#_ := by decide
  rw [e, BitVec.xor_zero, toNatI h, wrapI64_nat _ (by omega), if_pos h]
theorem unzz_xor {u : Nat} (h : u < 18446744073709551616) : xorI .i64 (IntKind.i64.wrap (shrI .u64 u 1)) (IntKind.i64.wrap ((0 : Int) - (IntKind.i64.wrap (andI .u64 u 1)))) = unzz u := by
  rw [shr1, andOne h, wI64 (n := ((u / 2 : Nat) : Int)) (by omega) (by omega), wI64 (n := ((u % 2 : Nat) : Int)) (by omega) (by omega)]
  unfold unzz
  rcases Nat.mod_two_eq_zero_or_one u with h1 | h1
  · rw [h1, if_pos rfl]
    simp only [Int.natCast_zero, Int.sub_zero]
    rw [wI64 (by omega) (by omega), xor_zero (by omega)]
  · rw [h1, if_neg (by omega)]
    rw [wI64 (by omega) (by omega), show (0 : Int) - ((1 : Nat) : Int) = -1 by omega, xor_neg (by omega)]
theorem wrapUI (n : Int) : IntKind.u64.wrap (IntKind.i64.wrap n) = n % 18446744073709551616 := by
  simp only [IntKind.wrap, IntKind.signed, IntKind.bits]
  simp
  split <;> omega
theorem xorU_zero {n : Nat} (h : n < 18446744073709551616) : xorI .u64 n 0 = n := by
  unfold xorI
  have e : BitVec.ofInt IntKind.u64.bits 0 = 0#_ := by decide
  rw [e, BitVec.xor_zero, ofInt64 h, wrapU64 h]
theorem xorU_ones {n : Nat} (h : n < 18446744073709551616) : xorI .u64 n 18446744073709551615 = ((18446744073709551615 - n : Nat) : Int) := by
  unfold xorI
  have e : BitVec.ofInt IntKind.u64.bits 18446744073709551615 = BitVec.allOnes IntKind.u64.bits := by decide
  rw [e, BitVec.xor_allOnes, BitVec.toNat_not, ofInt64 h, show IntKind.u64.bits = 64 from rfl, show 2 ^ 64 - 1 - n = 18446744073709551615 - n by omega, wrapU64 (by omega)]
theorem zz_xor {t : Int} (h : inK .i64 t) : xorI .u64 (IntKind.u64.wrap (shlI .i64 t 1)) (IntKind.u64.wrap (shrI .i64 t 63)) = (zz t : Int) := by
  have ht := inI64.1 h
  have e1 : IntKind.u64.wrap (shlI .i64 t 1) = (t * 2) % 18446744073709551616 := by
    unfold shlI
    rw [show min (1 : Int).toNat IntKind.i64.bits = 1 from rfl, wrapUI, show (2 : Int) ^ 1 = 2 from rfl]
  have e2 : shrI .i64 t 63 = if 0 ≤ t then 0 else -1 := by
    unfold shrI
    rw [show min (63 : Int).toNat IntKind.i64.bits = 63 from rfl]
    have e63 : (2 : Int) ^ 63 = 9223372036854775808 := rfl
    rw [e63, Int.fdiv_eq_ediv_of_nonneg _ (by omega)]
    split <;> omega
  rw [e1, e2]
  unfold zz
  split
  · rename_i h0
    obtain ⟨n, rfl⟩ := Int.eq_ofNat_of_zero_le h0
    rw [show IntKind.u64.wrap 0 = 0 from rfl, show ((n : Int) * 2) % 18446744073709551616 = ((2 * n : Nat) : Int) by omega, xorU_zero (by omega)]
    simp
  · rename_i h0
    obtain ⟨n, hn⟩ := Int.eq_ofNat_of_zero_le (show 0 ≤ -t by omega)
    have : t = -(n : Int) := by omega
    subst this
    rw [show IntKind.u64.wrap (-1) = 18446744073709551615 from rfl, show (-(n : Int) * 2) % 18446744073709551616 = ((18446744073709551616 - 2 * n : Nat) : Int) by omega, xorU_ones (by omega)]
    congr 1
    simp
    omega
end Go.RX

namespace Go.RX
open Go
/-! ### one bit of a check sum -/
def cstep (r : Nat) : Nat := if r % 2 = 1 then r / 2 ^^^ 3988292384 else r / 2
def citer : Nat → Nat → Nat
  | 0, r => r
  | n + 1, r => citer n (cstep r)
theorem cstep_lt {r : Nat} (h : r < 4294967296) : cstep r < 4294967296 := by
  unfold cstep
  split
  · exact Nat.xor_lt_two_pow (n := 32) (by omega) (by decide)
  · omega
theorem citer_lt : ∀ (n : Nat) {r : Nat}, r < 4294967296 → citer n r < 4294967296
  | 0, _, h => h
  | n + 1, _, h => citer_lt n (cstep_lt h)
theorem cstep_xor (a b : Nat) : cstep (a ^^^ b) = cstep a ^^^ cstep b := by
  have h1 : (a ^^^ b) / 2 = a / 2 ^^^ b / 2 := Nat.xor_div_two
  have h2 : (a ^^^ b) % 2 = (a + b) % 2 := by
    have h := Nat.xor_mod_two_pow (a := a) (b := b) (n := 1)
    rw [show 2 ^ 1 = 2 from rfl] at h
    rw [h]
    rcases Nat.mod_two_eq_zero_or_one a with ha | ha <;> rcases Nat.mod_two_eq_zero_or_one b with hb | hb <;> rw [ha, hb]
    · show 0 = _; omega
    · show 1 = _; omega
    · show 1 = _; omega
    · show 0 = _; omega
  unfold cstep
  rw [h1, h2]
  rcases Nat.mod_two_eq_zero_or_one a with ha | ha <;> rcases Nat.mod_two_eq_zero_or_one b with hb | hb
  · rw [if_neg (by omega), if_neg (by omega), if_neg (by omega)]
  · rw [if_pos (by omega), if_neg (by omega), if_pos hb, Nat.xor_assoc]
  · rw [if_pos (by omega), if_pos ha, if_neg (by omega), Nat.xor_assoc, Nat.xor_assoc, Nat.xor_comm (b / 2)]
  · rw [if_neg (by omega), if_pos ha, if_pos hb, Nat.xor_assoc, Nat.xor_comm (b / 2) 3988292384, ← Nat.xor_assoc 3988292384, Nat.xor_self, Nat.zero_xor]
theorem citer_xor : ∀ (n a b : Nat), citer n (a ^^^ b) = citer n a ^^^ citer n b
  | 0, _, _ => rfl
  | n + 1, a, b => by simp only [citer, cstep_xor, citer_xor n]
theorem citer_shift : ∀ (n a : Nat), citer n (2 ^ n * a) = a
  | 0, a => by simp [citer]
  | n + 1, a => by
    have : cstep (2 ^ (n + 1) * a) = 2 ^ n * a := by
      rw [Nat.pow_succ, Nat.mul_comm (2 ^ n) 2, Nat.mul_assoc]
      unfold cstep
      rw [if_neg (by omega)]
      omega
    simp only [citer, this, citer_shift n a]
theorem xor_split (r : Nat) : r = 16 * (r / 16) ^^^ r % 16 := by
  have h := Nat.two_pow_add_eq_or_of_lt (i := 4) (b := r % 16) (by omega) (r / 16)
  have e : 2 ^ 4 * (r / 16) ^^^ r % 16 = 2 ^ 4 * (r / 16) ||| r % 16 := by
    refine Nat.eq_of_testBit_eq fun j => ?_
    rw [Nat.testBit_xor, Nat.testBit_or]
    by_cases hj : j < 4
    · have : (2 ^ 4 * (r / 16)).testBit j = false := by rw [Nat.testBit_two_pow_mul]; simp; omega
      rw [this]; simp
    · have : (r % 16).testBit j = false := Nat.testBit_lt_two_pow (Nat.lt_of_lt_of_le (show r % 16 < 2 ^ 4 by omega) (Nat.pow_le_pow_right (by decide) (by omega)))
      rw [this]; simp
  rw [show (16 : Nat) = 2 ^ 4 from rfl] at *
  omega
theorem citer_four (r : Nat) : citer 4 r = r / 16 ^^^ citer 4 (r % 16) := by
  conv => lhs; rw [xor_split r]
  rw [citer_xor, show (16 : Nat) = 2 ^ 4 from rfl, citer_shift]
theorem citer_add : ∀ (m n r : Nat), citer (m + n) r = citer n (citer m r)
  | 0, n, r => by simp [citer]
  | m + 1, n, r => by rw [show m + 1 + n = (m + n) + 1 by omega]; simp only [citer, citer_add m n]
/-! ### a byte, bytes -/
def cupd (r : Nat) (c : Int) : Nat := citer 8 (r ^^^ c.toNat)
def cfold : Nat → List Int → Nat
  | r, [] => r
  | r, c :: l => cfold (cupd r c) l
def crcAdd (s : Nat) (l : List Int) : Nat := 4294967295 - cfold (4294967295 - s) l
def crc (l : List Int) : Nat := crcAdd 0 l
theorem crc_lt (l : List Int) : crc l < 4294967296 := by unfold crc crcAdd; omega
/-! ### four bytes of a number -/
def be4 (s : Nat) : List Int := [((s / 16777216 % 256 : Nat) : Int), ((s / 65536 % 256 : Nat) : Int), ((s / 256 % 256 : Nat) : Int), ((s % 256 : Nat) : Int)]
def numB : Nat → List Int → Nat
  | n, [] => n
  | n, c :: l => numB (n * 256 + c.toNat) l
theorem be4_bytes (s : Nat) : Bytes (be4 s) := fun c hc => by
  simp only [be4, List.mem_cons, List.not_mem_nil, or_false] at hc
  rcases hc with rfl | rfl | rfl | rfl <;> omega
theorem numB_be4 {s : Nat} (h : s < 4294967296) : numB 0 (be4 s) = s := by
  simp only [be4, numB, Int.toNat_natCast]
  omega
theorem be4_num {a b c d : Int} (ha : 0 ≤ a ∧ a ≤ 255) (hb : 0 ≤ b ∧ b ≤ 255) (hc : 0 ≤ c ∧ c ≤ 255) (hd : 0 ≤ d ∧ d ≤ 255) : be4 (numB 0 [a, b, c, d]) = [a, b, c, d] := by
  simp only [numB, be4, List.cons.injEq, and_true]
  omega
/-! ### frames -/
def inner (k : Int) (body : List Int) : List Int := k :: ((body.length / 256 : Nat) : Int) :: ((body.length % 256 : Nat) : Int) :: body
def encF (k : Int) (body : List Int) : List Int := 247 :: (inner k body ++ be4 (crc (inner k body)))
def pF (l : List Int) : Int ⊕ (Int × List Int × Nat) := match l with
  | [] => .inl 31
  | m :: _ => if m ≠ 247 then .inl 32 else if l.length < 8 then .inl 31 else
    if 8192 < numB 0 [l.getD 2 0, l.getD 3 0] then .inl 2 else
    if l.length < numB 0 [l.getD 2 0, l.getD 3 0] + 8 then .inl 31 else
    if crc ((l.drop 1).take (numB 0 [l.getD 2 0, l.getD 3 0] + 3)) ≠ numB 0 ((l.drop (numB 0 [l.getD 2 0, l.getD 3 0] + 4)).take 4) then .inl 33 else
    .inr (l.getD 1 0, (l.drop 4).take (numB 0 [l.getD 2 0, l.getD 3 0]), numB 0 [l.getD 2 0, l.getD 3 0] + 8)
theorem inner_len (k : Int) (body : List Int) : (inner k body).length = body.length + 3 := by simp [inner]
theorem encF_len (k : Int) (body : List Int) : (encF k body).length = body.length + 8 := by simp [encF, inner_len, be4]
theorem inner_bytes {k : Int} {body : List Int} (hk : 0 ≤ k ∧ k ≤ 255) (hb : Bytes body) (hl : body.length ≤ 65535) : Bytes (inner k body) := fun c hc => by
  simp only [inner, List.mem_cons] at hc
  rcases hc with rfl | rfl | rfl | hc
  · exact hk
  · omega
  · omega
  · exact hb c hc
theorem encF_bytes {k : Int} {body : List Int} (hk : 0 ≤ k ∧ k ≤ 255) (hb : Bytes body) (hl : body.length ≤ 65535) : Bytes (encF k body) := fun c hc => by
  simp only [encF, List.mem_cons, List.mem_append] at hc
  rcases hc with rfl | hc | hc
  · omega
  · exact inner_bytes hk hb hl c hc
  · exact be4_bytes _ c hc
theorem pF_enc {k : Int} {body : List Int} (hk : 0 ≤ k ∧ k ≤ 255) (hb : Bytes body) (hl : body.length ≤ 8192) (rest : List Int) : pF (encF k body ++ rest) = .inr (k, body, body.length + 8) := by
  have hn : numB 0 [((body.length / 256 : Nat) : Int), ((body.length % 256 : Nat) : Int)] = body.length := by
    simp only [numB, Int.toNat_natCast]; omega
  have e2 : (encF k body ++ rest).getD 2 0 = ((body.length / 256 : Nat) : Int) := rfl
  have e3 : (encF k body ++ rest).getD 3 0 = ((body.length % 256 : Nat) : Int) := rfl
  have e1 : (encF k body ++ rest).getD 1 0 = k := rfl
  have hlen : (encF k body ++ rest).length = body.length + 8 + rest.length := by rw [List.length_append, encF_len]
  have d1 : ((encF k body ++ rest).drop 1).take (body.length + 3) = inner k body := by
    show ((inner k body ++ be4 _) ++ rest).take (body.length + 3) = inner k body
    rw [List.append_assoc, ← inner_len k body, List.take_left]
  have d2 : ((encF k body ++ rest).drop (body.length + 4)).take 4 = be4 (crc (inner k body)) := by
    show (((inner k body ++ be4 _) ++ rest).drop (body.length + 3)).take 4 = _
    rw [List.append_assoc, ← inner_len k body, List.drop_left]
    rfl
  have d3 : ((encF k body ++ rest).drop 4).take body.length = body := by
    show (((body ++ be4 _) ++ rest)).take body.length = body
    rw [List.append_assoc, List.take_left]
  have hx : ∃ x, encF k body ++ rest = 247 :: x := ⟨_, rfl⟩
  obtain ⟨x, hx⟩ := hx
  have key : pF (247 :: x) = .inr (k, body, body.length + 8) := by
    rw [hx] at e1 e2 e3 hlen d1 d2 d3
    simp only [pF, e1, e2, e3, hn, hlen, d1, d2, d3]
    rw [if_neg (by simp), if_neg (by omega), if_neg (by omega), if_neg (by omega), if_neg (by rw [numB_be4 (crc_lt _)]; simp)]
  rw [hx]; exact key
theorem cons3 : ∀ {l : List Int}, 3 ≤ l.length → ∃ a b c r, l = a :: b :: c :: r
  | a :: b :: c :: r, _ => ⟨a, b, c, r, rfl⟩
  | [], h => by simp at h
  | [_], h => by simp at h
  | [_, _], h => by simp at h
theorem four4 : ∀ {l : List Int}, l.length = 4 → ∃ a b c d, l = [a, b, c, d]
  | [a, b, c, d], _ => ⟨a, b, c, d, rfl⟩
theorem pF_dec {l : List Int} {k : Int} {body : List Int} {m : Nat} (hb : Bytes l) (h : pF l = .inr (k, body, m)) : l.take m = encF k body ∧ m ≤ l.length ∧ m = body.length + 8 ∧ body.length ≤ 8192 ∧ (0 ≤ k ∧ k ≤ 255) ∧ Bytes body := by
  unfold pF at h
  split at h
  · cases h
  · rename_i m0 l0
    split at h
    · cases h
    · rename_i h1
      split at h
      · cases h
      · rename_i h2
        split at h
        · cases h
        · rename_i h3
          split at h
          · cases h
          · rename_i h4
            split at h
            · cases h
            · rename_i h5
              simp only [Sum.inr.injEq, Prod.mk.injEq] at h
              obtain ⟨rfl, rfl, rfl⟩ := h
              simp only [ne_eq, Decidable.not_not] at h1 h5
              subst h1
              obtain ⟨k, a, b, r, rfl⟩ := cons3 (l := l0) (by simp only [List.length_cons] at h2; omega)
              have ha := hb a (by simp)
              have hbb := hb b (by simp)
              have hk := hb k (by simp)
              simp only [List.getD_cons_succ, List.getD_cons_zero, List.length_cons, List.drop_succ_cons, List.drop_zero] at h2 h3 h4 h5 ⊢
              generalize hn : numB 0 [a, b] = n at *
              have hn' : n = a.toNat * 256 + b.toNat := by rw [← hn]; simp [numB]
              have hlen : (r.take n).length = n := by rw [List.length_take]; omega
              have e1 : ((n / 256 : Nat) : Int) = a := by omega
              have e2 : ((n % 256 : Nat) : Int) = b := by omega
              have hin : inner k (r.take n) = (k :: a :: b :: r).take (n + 3) := by
                simp only [inner, hlen, e1, e2, List.take_succ_cons]
              have h4b : ∃ x y z u, (r.drop n).take 4 = [x, y, z, u] := by
                exact four4 (by rw [List.length_take, List.length_drop]; omega)
              obtain ⟨x, y, z, u, hxyz⟩ := h4b
              have hmem : ∀ c ∈ [x, y, z, u], 0 ≤ c ∧ c ≤ 255 := fun c hc => hb c (by
                rw [← hxyz] at hc
                simp only [List.mem_cons]
                exact .inr (.inr (.inr (.inr (List.mem_of_mem_drop (List.mem_of_mem_take hc))))))
              refine ⟨?_, by omega, by omega, by omega, hk, fun c hc => hb c (by simp only [List.mem_cons]; exact .inr (.inr (.inr (.inr (List.mem_of_mem_take hc)))))⟩
              unfold encF
              rw [hin, h5, hxyz, be4_num (hmem x (by simp)) (hmem y (by simp)) (hmem z (by simp)) (hmem u (by simp)), ← hxyz]
              rw [show n + 8 = (n + 7) + 1 from rfl, List.take_succ_cons, show n + 7 = (n + 3) + 4 from rfl, List.take_add]
              rfl
theorem pF_err {l : List Int} {e : Int} (h : pF l = .inl e) : e = 31 ∨ e = 32 ∨ e = 2 ∨ e = 33 := by
  unfold pF at h
  split at h
  · simp at h; omega
  · split at h
    · simp at h; omega
    · split at h
      · simp at h; omega
      · split at h
        · simp at h; omega
        · split at h
          · simp at h; omega
          · split at h
            · simp at h; omega
            · cases h
theorem pF_cut {k : Int} {body : List Int} (hk : 0 ≤ k ∧ k ≤ 255) (hb : Bytes body) (hl : body.length ≤ 8192) {j : Nat} (hj : j < body.length + 8) : ∃ e, pF ((encF k body).take j) = .inl e := by
  cases h : pF ((encF k body).take j) with
  | inl e => exact ⟨e, rfl⟩
  | inr x =>
    exfalso
    obtain ⟨k', body', m⟩ := x
    have hbb : Bytes ((encF k body).take j) := fun c hc => encF_bytes hk hb (by omega) c (List.mem_of_mem_take hc)
    obtain ⟨a1, a2, a3, a4, a5, a6⟩ := pF_dec hbb h
    have h1 := pF_enc hk hb hl []
    rw [List.append_nil] at h1
    have hs : encF k body = encF k' body' ++ (encF k body).drop m := by
      rw [← a1, List.take_take, Nat.min_eq_left (by rw [List.length_take] at a2; omega), List.take_append_drop]
    rw [hs, pF_enc a5 a6 a4] at h1
    simp only [Sum.inr.injEq, Prod.mk.injEq] at h1
    rw [List.length_take, encF_len] at a2
    omega
end Go.RX

set_option maxRecDepth 100000
namespace Go.RX.L
open Go Go.RX
theorem ofInt32 {n : Nat} (h : n < 4294967296) : (BitVec.ofInt IntKind.u32.bits (n : Int)).toNat = n := by
  rw [BitVec.ofInt_natCast, show IntKind.u32.bits = 32 from rfl, BitVec.toNat_ofNat, Nat.mod_eq_of_lt (by omega)]
theorem wrapU32 {n : Nat} (h : n < 4294967296) : IntKind.u32.wrap (n : Int) = n := wU32 (by omega) (by omega)
theorem xorU32 {a b : Nat} (ha : a < 4294967296) (hb : b < 4294967296) : xorI .u32 a b = ((a ^^^ b : Nat) : Int) := by
  unfold xorI
  rw [BitVec.toNat_xor, ofInt32 ha, ofInt32 hb, wrapU32 (Nat.xor_lt_two_pow (n := 32) ha hb)]
theorem andU32_15 {a : Nat} (ha : a < 4294967296) : andI .u32 a 15 = ((a % 16 : Nat) : Int) := by
  unfold andI
  rw [show (15 : Int) = ((15 : Nat) : Int) from rfl, BitVec.toNat_and, ofInt32 ha, ofInt32 (by omega), show (15 : Nat) = 2 ^ 4 - 1 from rfl, Nat.and_two_pow_sub_one_eq_mod, wrapU32 (by omega)]
theorem shrU32 {a k : Nat} (hk : k ≤ 32) : shrI .u32 a k = ((a / 2 ^ k : Nat) : Int) := by
  unfold shrI
  have e : min (k : Int).toNat IntKind.u32.bits = k := by simp [IntKind.bits]; omega
  rw [e, Int.fdiv_eq_ediv_of_nonneg _ (by exact Int.le_of_lt (Int.pow_pos (by decide)))]
  norm_cast
theorem onesU32 {n : Nat} (h : n < 4294967296) : xorI .u32 4294967295 n = ((4294967295 - n : Nat) : Int) := by
  unfold xorI
  have e : BitVec.ofInt IntKind.u32.bits 4294967295 = BitVec.allOnes IntKind.u32.bits := by decide
  rw [BitVec.xor_comm, e, BitVec.xor_allOnes, BitVec.toNat_not, ofInt32 h, show IntKind.u32.bits = 32 from rfl, show 2 ^ 32 - 1 - n = 4294967295 - n by omega, wrapU32 (by omega)]
/-! ### the program's: four bits at once -/
theorem four_get : ∀ i, i < 16 → gl_four[i]? = some ((citer 4 i : Nat) : Int) := by decide +kernel
theorem nib {r : Nat} (h : r < 4294967296) : xorI .u32 (shrI .u32 r 4) ((citer 4 (r % 16) : Nat) : Int) = ((citer 4 r : Nat) : Int) := by
  have e : shrI .u32 r 4 = ((r / 16 : Nat) : Int) := shrU32 (a := r) (k := 4) (by decide)
  rw [e, xorU32 (by omega) (citer_lt 4 (by omega)), citer_four r]
theorem lt16 (r : Nat) : decide (((r % 16 : Nat) : Int) < ((16 : Nat) : Int)) = true := ltB (by omega)
theorem add_loop {b : List Int} (hb : Bytes b) (hm : b.length < 9223372036854775807) : ∀ (j k r : Nat), k + j = b.length → r < 4294967296 → Ev crc_Add_step (.s1 r b b.length k) ((4294967295 - cfold r (b.drop k) : Nat) : Int) := by
  intro j
  induction j with
  | zero =>
    intro k r hk hr
    have e : cfold r (b.drop k) = r := by rw [List.drop_of_length_le (by omega)]; rfl
    rw [e]
    refine .done ?_
    simp only [crc_Add_step, crc_Add_1, geB (show b.length ≤ k by omega), cond_false, onesU32 hr]
  | succ j ih =>
    intro k r hk hr
    have hlt : k < b.length := by omega
    obtain ⟨c, hc⟩ : ∃ c : Nat, b[k] = (c : Int) := ⟨_, (Int.toNat_of_nonneg (hb _ (List.getElem_mem hlt)).1).symm⟩
    have hc' := hb _ (List.getElem_mem hlt)
    rw [hc] at hc'
    have h1 : r ^^^ c < 4294967296 := Nat.xor_lt_two_pow (n := 32) hr (by omega)
    have h2 := citer_lt 4 h1
    have e1 : xorI .u32 r (IntKind.u32.wrap (c : Int)) = ((r ^^^ c : Nat) : Int) := by rw [wrapU32 (by omega), xorU32 hr (by omega)]
    have hd : b.drop k = (c : Int) :: b.drop (k + 1) := by rw [← hc, List.drop_eq_getElem_cons hlt]
    have hs : cfold r (b.drop k) = cfold (citer 4 (citer 4 (r ^^^ c))) (b.drop (k + 1)) := by
      rw [hd]
      show cfold (cupd r c) _ = _
      rw [cupd, Int.toNat_natCast, show 8 = 4 + 4 from rfl, citer_add]
    rw [hs]
    refine .next (s' := .s1 ((citer 4 (citer 4 (r ^^^ c)) : Nat) : Int) b b.length ((k + 1 : Nat) : Int)) ?_ (ih (k + 1) _ (by omega) (citer_lt 4 h2))
    simp only [crc_Add_step, crc_Add_1, ltB hlt, cond_true, List.length_map, ixB hlt, le0, Bool.and_self, Int.toNat_natCast, List.getE hlt, Option.bind_some, hc, e1, andU32_15 h1, lt16]
    simp only [Nat.zero_add, four_get _ (Nat.mod_lt (r ^^^ c) (by decide : 0 < 16)), Option.bind_some, nib h1, andU32_15 h2, lt16, le0, Bool.and_self, cond_true, Int.toNat_natCast]
    simp only [four_get _ (Nat.mod_lt (citer 4 (r ^^^ c)) (by decide : 0 < 16)), Option.bind_some, nib h2, wS (show k < 9223372036854775807 by omega)]
theorem sum_ok {b : List Int} (hb : Bytes b) (hm : b.length < 9223372036854775807) : crc_Sum b = some (crc b : Int) := by
  have h : crc_Add 0 b = some (crc b : Int) := by
    refine evf_of (.next (s' := .s1 ((4294967295 : Nat) : Int) b b.length ((0 : Nat) : Int)) ?_ ?_)
    · have := onesU32 (n := 0) (by decide)
      simp only [crc_Add_step, crc_Add_0, List.length_map]
      rw [show (0 : Int) = ((0 : Nat) : Int) from rfl, this]
    · have := add_loop hb hm b.length 0 4294967295 (by omega) (by decide)
      simpa [crc, crcAdd] using this
  simp only [crc_Sum, h, Option.bind_some]
/-! ### the document's: one bit after the other -/
end Go.RX.L

namespace Go.RX.L
open Go Go.RX
abbrev memB : Nat := 140737488351232
/-! ### the program's writer -/
theorem digits_ev : ∀ (u : Nat), u < 18446744073709551616 → EvL wire_digits_1_step (.s1 u) (venc u) := by
  intro u
  induction u using Nat.strongRecOn with
  | ind u ih =>
    intro hu
    by_cases h : u < 128
    · rw [venc_lt h]
      refine .done ?_
      have h1 : decide ((u : Int) > 127) = false := by simp; omega
      simp [wire_digits_1_step, wire_digits_1_1, h1, wrapU8 (show u < 256 by omega)]
    · rw [venc_ge (by omega)]
      have h1 : decide ((u : Int) > 127) = true := by simp; omega
      refine EvL.next (l := [((u % 128 + 128 : Nat) : Int)]) (s' := .s1 ((u / 128 : Nat) : Int)) ?_ (ih (u / 128) (by omega) (by omega))
      simp only [wire_digits_1_step, wire_digits_1_1, h1, cond_true, shr7, wrapU8_mod, or128 (show u % 256 < 256 by omega)]
      simp
theorem digits_ok {n : Int} (h : inK .i64 n) : wire_digits_1 n = some (encI n) := by
  refine evl_of ?_
  have := digits_ev (zz n) (zz_lt h)
  rw [← zz_xor h] at this
  exact EvL.next (l := []) rfl this
theorem put_loop {t : Int} : ∀ (Y b : List Int), b.length + Y.length ≤ memB → Ev wire_put_step (.s2 t b Y) (b ++ Y)
  | [], b, _ => .done (by simp [wire_put_step, wire_put_2, wire_put_2n])
  | y :: Y, b, h => by
    simp only [List.length_cons, memB] at h
    have hl : decide (((List.map (eInt .u8) b).length + 1) * 1 ≤ bytesLim) = true := limOk (by simp; omega)
    have ih := put_loop (t := t) Y (b ++ [y]) (by simp only [List.length_append, List.length_cons, List.length_nil, memB]; omega)
    rw [List.append_assoc] at ih
    exact .next (s' := .s2 t (b ++ [y]) Y) (by simp only [wire_put_step, wire_put_2, wire_put_2c, hl, cond_true]) ih
theorem put0_ok {n : Int} (h : inK .i64 n) : wire_put n = some (encI n) := by
  have hl := encI_len h
  refine evf_of (.next (s' := .s1 n []) (by simp [wire_put_step, wire_put_0, wire_digits]) (.next (s' := .s2 n [] (encI n)) (by simp [wire_put_step, wire_put_1, digits_ok h]) ?_))
  exact put_loop (encI n) [] (by simp [memB]; omega)
theorem putInt_ok {n : Int} (h : inK .i64 n) : wire_PutInt n = some (encI n) := by simp [wire_PutInt, put0_ok h]
theorem put2_loop {t : Int} : ∀ (Y b : List Int), b.length + Y.length ≤ memB → Ev wire_put_v2_step (.s2 t b Y) (b ++ Y)
  | [], b, _ => .done (by simp [wire_put_v2_step, wire_put_v2_2, wire_put_v2_2n])
  | y :: Y, b, h => by
    simp only [List.length_cons, memB] at h
    have hl : decide (((List.map (eInt .u8) b).length + 1) * 1 ≤ bytesLim) = true := limOk (by simp; omega)
    have ih := put2_loop (t := t) Y (b ++ [y]) (by simp only [List.length_append, List.length_cons, List.length_nil, memB]; omega)
    rw [List.append_assoc] at ih
    exact .next (s' := .s2 t (b ++ [y]) Y) (by simp only [wire_put_v2_step, wire_put_v2_2, wire_put_v2_2c, hl, cond_true]) ih
theorem put2_ok {n : Int} (h : inK .i64 n) {b : List Int} (hb : b.length ≤ 1000000) : wire_put_v2 n b = some (b ++ encI n) := by
  have hl := encI_len h
  refine evf_of (.next (s' := .s1 n b) (by simp [wire_put_v2_step, wire_put_v2_0, wire_digits]) (.next (s' := .s2 n b (encI n)) (by simp [wire_put_v2_step, wire_put_v2_1, digits_ok h]) ?_))
  exact put2_loop (encI n) b (by simp [memB]; omega)
theorem encN_snoc (xs : List Int) (x : Int) : encN (xs ++ [x]) = encN xs ++ encI x := by simp [encN]
theorem take_snoc {l : List Int} {k : Nat} (h : k < l.length) : l.take (k + 1) = l.take k ++ [l[k]] := by rw [List.take_add_one, List.getE h]; rfl
theorem putInts_loop {l : List Int} (hl : I64s l) (h64 : l.length ≤ 64) (p : List Int) (hp : p.length ≤ 10) : ∀ (j k : Nat), k + j = l.length → Ev wire_PutInts_step (.s1 l l.length k (p ++ encN (l.take k))) (0, p ++ encN l) := by
  intro j
  induction j with
  | zero =>
    intro k hk
    refine .done ?_
    rw [List.take_of_length_le (by omega)]
    simp [wire_PutInts_step, wire_PutInts_1, show ¬ ((k : Int) < l.length) by omega]
  | succ j ih =>
    intro k hk
    have hlt : k < l.length := by omega
    have hx := hl l[k] (List.getElem_mem hlt)
    have hs := encN_len (xs := l.take k) fun y hy => hl y (List.mem_of_mem_take hy)
    rw [List.length_take] at hs
    refine .next (s' := .s1 l l.length ((k + 1 : Nat) : Int) (p ++ encN (l.take (k + 1)))) ?_ (ih (k + 1) (by omega))
    have e : put2_ok hx (b := p ++ encN (l.take k)) (by simp; omega) = put2_ok hx (b := p ++ encN (l.take k)) (by simp; omega) := rfl
    have e2 : wire_put_v2 l[k] (p ++ encN (l.take k)) = some (p ++ encN (l.take (k + 1))) := by
      rw [put2_ok hx (by simp only [List.length_append]; omega), take_snoc hlt, encN_snoc, List.append_assoc]
    simp only [wire_PutInts_step, wire_PutInts_1, List.length_map, ltB hlt, ixB hlt, le0, Bool.and_self, cond_true, Int.toNat_natCast, List.getE hlt, Option.bind_some, e2, wS (show k < 9223372036854775807 by omega)]
theorem putInts_ok {l : List Int} (hl : I64s l) (h64 : l.length ≤ 64) : wire_PutInts l = some (0, encL l) := by
  have hn := inLen (n := l.length) (by omega)
  refine evf_of (.next (s' := .s1 l l.length 0 (encI l.length)) ?_ ?_)
  · have h1 : decide ((l.length : Int) > 64) = false := by simp; omega
    simp only [wire_PutInts_step, wire_PutInts_0, List.length_map, h1, cond_false, putInt_ok hn, Option.bind_some]
  · have := putInts_loop hl h64 (encI l.length) (encI_len hn) l.length 0 (by omega)
    simpa [encN, encL] using this
/-! ### the document's writer -/
/-! ### the program's reader -/
def rI (at_ : Nat) (x : Int ⊕ (Int × Nat)) : Int × Int × Int := match x with
  | .inl e => (0, 0, e)
  | .inr (n, k) => (n, ((at_ + k : Nat) : Int), 0)
def rV (at_ i : Nat) (u : Nat) (x : Int ⊕ (Nat × Nat)) : Int × Int × Int := match x with
  | .inl e => (0, 0, e)
  | .inr (v, k) => (unzz (u + v * 2 ^ (7 * i)), ((at_ + i + k : Nat) : Int), 0)
theorem pow7 (i : Nat) : 2 ^ (7 * (i + 1)) = 2 ^ (7 * i) * 128 := by rw [Nat.mul_succ, Nat.pow_add]
theorem pow7_le8 {i : Nat} (h : i ≤ 8) : 2 ^ (7 * i) ≤ 72057594037927936 := by
  have : 2 ^ (7 * i) ≤ 2 ^ (7 * 8) := Nat.pow_le_pow_right (by decide) (by omega)
  simpa using this
theorem rV_step (at_ i u c : Nat) (r : Int ⊕ (Nat × Nat)) (h1 : 128 ≤ c) (h2 : c < 256) : rV at_ (i + 1) (u + c % 128 * 2 ^ (7 * i)) r = rV at_ i u (vS c r) := by
  cases r with
  | inl e => rfl
  | inr p =>
    obtain ⟨v, k⟩ := p
    have e : c - 128 = c % 128 := by omega
    simp only [rV, vS, e]
    have key : ∀ X : Nat, u + c % 128 * X + v * (X * 128) = u + (c % 128 + 128 * v) * X := fun X => by
      have h3 : v * (X * 128) = 128 * v * X := by rw [Nat.mul_comm X 128, ← Nat.mul_assoc, Nat.mul_comm v 128]
      rw [Nat.add_mul]; omega
    rw [pow7, key]
    refine Prod.ext rfl (Prod.ext ?_ rfl)
    show ((at_ + (i + 1) + k : Nat) : Int) = ((at_ + i + (k + 1) : Nat) : Int)
    omega
theorem acc_ok {u i c : Nat} (hu : u < 2 ^ (7 * i)) (hi : i ≤ 9) (hc : c < 256) (h9 : i = 9 → c ≤ 1) : orI .u64 u (shlI .u64 (IntKind.u64.wrap (andI .u8 c 127)) ((7 * i : Nat) : Int)) = ((u + c % 128 * 2 ^ (7 * i) : Nat) : Int) ∧ u + c % 128 * 2 ^ (7 * i) < 18446744073709551616 ∧ (i ≤ 8 → u + c % 128 * 2 ^ (7 * i) < 2 ^ (7 * (i + 1))) := by
  have hb : u + c % 128 * 2 ^ (7 * i) < 18446744073709551616 := by
    rcases Nat.lt_or_ge i 9 with h | h
    · have := pow7_le8 (show i ≤ 8 by omega)
      have : c % 128 * 2 ^ (7 * i) ≤ 127 * 2 ^ (7 * i) := Nat.mul_le_mul_right _ (by omega)
      omega
    · have e : i = 9 := by omega
      subst e
      have := h9 rfl
      have h2 : c % 128 ≤ 1 := by omega
      have h3 : c % 128 * 2 ^ (7 * 9) ≤ 1 * 2 ^ (7 * 9) := Nat.mul_le_mul_right _ h2
      simp at hu h3 ⊢
      omega
  refine ⟨?_, hb, fun _ => ?_⟩
  · rw [and127 hc, wrapU64 (by omega)]
    exact or_shl hu hb (by omega)
  · rw [pow7]
    have : c % 128 * 2 ^ (7 * i) ≤ 127 * 2 ^ (7 * i) := Nat.mul_le_mul_right _ (by omega)
    omega
theorem int_loop {L : List Int} (hb : Bytes L) (at_ : Nat) (hm : at_ + L.length ≤ memB) : ∀ (j i u : Nat), i + j = L.length → i ≤ 9 → u < 2 ^ (7 * i) → Ev wire_Int_step (.s2 at_ u ((7 * i : Nat) : Int) L L.length i) (rV at_ i u (vd i (L.drop i))) := by
  intro j
  induction j with
  | zero =>
    intro i u hi h9 hu
    rw [List.drop_eq_nil_of_le (by omega)]
    refine .done ?_
    simp [wire_Int_step, wire_Int_2, vd, rV, show ¬ ((i : Int) < L.length) by omega]
  | succ j ih =>
    intro i u hi h9 hu
    have hlt : i < L.length := by omega
    have hcb := hb L[i] (List.getElem_mem hlt)
    obtain ⟨c, hc⟩ := Int.eq_ofNat_of_zero_le hcb.1
    rw [List.drop_eq_getElem_cons hlt, vd_cons]
    simp only [memB] at hm
    have e1 : decide ((0 : Int) ≤ i) = true := by simp
    -- the first step
    have s1 : ∀ U, U = orI .u64 u (shlI .u64 (IntKind.u64.wrap (andI .u8 L[i] 127)) ((7 * i : Nat) : Int)) → wire_Int_step (.s2 at_ u ((7 * i : Nat) : Int) L L.length i) = some (.inl (.s4 at_ U ((7 * i : Nat) : Int) i L[i] L L.length i (decide (i = 9 ∧ 1 < L[i])))) := fun U hU => by
      simp only [wire_Int_step, wire_Int_2, List.length_map, ltB hlt, ixB hlt, le0, Bool.and_self, cond_true, Int.toNat_natCast, List.getE hlt, Option.bind_some, nn0, ← hU]
      by_cases h : i = 9
      · subst h
        simp
      · have : (((7 * i : Nat) : Int) == 63) = false := by simp; omega
        rw [this]
        simp [h]
    by_cases hlong : (i = 9 ∧ 1 < L[i]) ∨ (L[i] = 0 ∧ 0 < i)
    · rw [if_pos hlong]
      obtain ⟨U, hU⟩ : ∃ U, U = orI .u64 u (shlI .u64 (IntKind.u64.wrap (andI .u8 L[i] 127)) ((7 * i : Nat) : Int)) := ⟨_, rfl⟩
      refine .next (s1 U hU) (.next (s' := .s3 at_ U ((7 * i : Nat) : Int) i L[i] L L.length i true) ?_ (.done (by simp [wire_Int_step, wire_Int_3, rV])))
      by_cases h9 : i = 9 ∧ 1 < L[i]
      · simp only [wire_Int_step, wire_Int_4, decide_eq_true h9, cond_true]
      · have h0 := hlong.resolve_left h9
        simp only [wire_Int_step, wire_Int_4, decide_eq_false h9, cond_false, h0.1]
        simp
        omega
    · rw [if_neg hlong]
      have hn9 : ¬ (i = 9 ∧ 1 < L[i]) := fun h => hlong (.inl h)
      have hn0 : ¬ (L[i] = 0 ∧ 0 < i) := fun h => hlong (.inr h)
      have hc256 : c < 256 := by omega
      obtain ⟨a1, a2, a3⟩ := acc_ok hu h9 hc256 (fun h => by omega)
      rw [← hc] at a1
      refine .next (s1 _ a1.symm) (.next (s' := .s3 at_ ((u + c % 128 * 2 ^ (7 * i) : Nat) : Int) ((7 * i : Nat) : Int) i L[i] L L.length i false) ?_ ?_)
      · have : decide (i = 9 ∧ 1 < L[i]) = false := by simpa using fun h => by omega
        rw [this]
        by_cases h0 : L[i] = 0
        · have : ¬ 0 < i := fun h => hn0 ⟨h0, h⟩
          simp [wire_Int_step, wire_Int_4, h0]
          omega
        · simp [wire_Int_step, wire_Int_4, h0, beq_eq_false_iff_ne.2 h0]
      · by_cases hlt128 : L[i] < 128
        · rw [if_pos hlt128]
          refine .done ?_
          have hmod : c % 128 = c := by omega
          simp only [wire_Int_step, wire_Int_3, cond_false, decide_eq_true hlt128, cond_true, unzz_xor a2, rV]
          rw [wI64 (n := (at_ : Int) + i) (by omega) (by omega), wI64 (by omega) (by omega), hmod, hc]
          simp
        · rw [if_neg hlt128]
          have hi8 : i ≤ 8 := by
            rcases Nat.lt_or_ge i 9 with h | h
            · omega
            · exact absurd ⟨show i = 9 by omega, by omega⟩ hn9
          have := ih (i + 1) (u + c % 128 * 2 ^ (7 * i)) (by omega) (by omega) (a3 hi8)
          have hres := rV_step at_ i u c (vd (i + 1) (L.drop (i + 1))) (by omega) (by omega)
          rw [show L[i].toNat = c by omega]
          rw [← hres]
          refine .next (s' := .s2 at_ ((u + c % 128 * 2 ^ (7 * i) : Nat) : Int) ((7 * (i + 1) : Nat) : Int) L L.length ((i + 1 : Nat) : Int)) ?_ this
          have e7 : IntKind.i64.wrap (((7 * i : Nat) : Int) + 7) = ((7 * (i + 1) : Nat) : Int) := by rw [wI64 (by omega) (by omega)]; omega
          simp only [wire_Int_step, wire_Int_3, cond_false, decide_eq_false hlt128, e7, wS (show i < 9223372036854775807 by omega)]
theorem rV_rI (at_ : Nat) (L : List Int) : rV at_ 0 0 (vd 0 L) = rI at_ (pI L) := by
  unfold pI rI rV
  cases vd 0 L with
  | inl e => rfl
  | inr p => obtain ⟨v, k⟩ := p; simp
theorem int_ok {b : List Int} (hb : Bytes b) (hm : b.length ≤ memB) {at_ : Nat} (h : at_ ≤ b.length) : wire_Int b at_ = some (rI at_ (pI (b.drop at_))) := by
  refine evf_of (.next (s' := .s1 b at_ false) ?_ (.next (s' := .s2 at_ 0 0 (b.drop at_) (b.drop at_).length 0) ?_ ?_))
  · have h1 : decide ((at_ : Int) < 0) = false := by simp
    have h2 : decide ((at_ : Int) > b.length) = false := by simp; omega
    simp [wire_Int_step, wire_Int_0, h1, h2]
    exact h
  · have h1 : (decide (((0 : Nat) : Int) ≤ at_) && decide ((at_ : Int) ≤ ((b.length : Nat) : Int))) = true := by simp; omega
    simp only [wire_Int_step, wire_Int_1, cond_false, List.length_map, h1, cond_true, Int.toNat_natCast, List.take_length]
  · have := int_loop (L := b.drop at_) (fun c hc => hb c (List.mem_of_mem_drop hc)) at_ (by simp only [List.length_drop]; omega) (b.drop at_).length 0 0 (by omega) (by omega) (by simp)
    rw [List.drop_zero, rV_rI] at this
    exact this
/-! ### the document's reader -/
/-! ### lists, read -/
def rL (at_ : Nat) (x : Int ⊕ (List Int × Nat)) : List Int × Int × Int := match x with
  | .inl e => ([], 0, e)
  | .inr (xs, k) => (xs, ((at_ + k : Nat) : Int), 0)
def rN (out : List Int) (at_ : Nat) (x : Int ⊕ (List Int × Nat)) : List Int × Int × Int := match x with
  | .inl e => ([], 0, e)
  | .inr (xs, k) => (out ++ xs, ((at_ + k : Nat) : Int), 0)
theorem pI_le {l : List Int} {n : Int} {k : Nat} (hb : Bytes l) (h : pI l = .inr (n, k)) : k ≤ l.length := (pI_dec hb h).2.1
theorem err_ne {l : List Int} {e : Int} (h : pI l = .inl e) : (e != 0) = true := by rcases pI_err h with rfl | rfl <;> rfl
theorem rN_step (out : List Int) (x : Int) (b : List Int) (j at_ k : Nat) : rN (out ++ [x]) (at_ + k) (pN j (b.drop (at_ + k))) = rN out at_ (pS x k (pN j ((b.drop at_).drop k))) := by
  rw [List.drop_drop]
  cases pN j (b.drop (at_ + k)) with
  | inl e => rfl
  | inr p => obtain ⟨xs, m⟩ := p; simp [rN, pS, Nat.add_assoc]
theorem rK_step (b : List Int) (t at_ k : Nat) : rN [] (at_ + k) (pN t (b.drop (at_ + k))) = rL at_ (pK k (pN t ((b.drop at_).drop k))) := by
  rw [List.drop_drop]
  cases pN t (b.drop (at_ + k)) with
  | inl e => rfl
  | inr p => obtain ⟨xs, m⟩ := p; simp [rN, rL, pK, Nat.add_assoc]
theorem ints_loop {b : List Int} (hb : Bytes b) (hm : b.length ≤ memB) (t : Nat) (ht : t ≤ 64) : ∀ (j i at_ : Nat) (out : List Int), i + j = t → at_ ≤ b.length → out.length = i → Ev wire_Ints_step (.s1 b at_ 0 t i out) (rN out at_ (pN j (b.drop at_))) := by
  intro j
  induction j with
  | zero =>
    intro i at_ out hi hat ho
    refine .next (s' := .s2 at_ 0 out) ?_ (.done (by simp [wire_Ints_step, wire_Ints_2, pN, rN]))
    simp [wire_Ints_step, wire_Ints_1, show ¬ ((i : Int) < t) by omega]
  | succ j ih =>
    intro i at_ out hi hat ho
    have hlt : i < t := by omega
    cases hp : pI (b.drop at_) with
    | inl e =>
      rw [pN_inl hp]
      refine .next (s' := .s2 0 e out) ?_ (.done ?_)
      · simp only [wire_Ints_step, wire_Ints_1, ltB hlt, cond_true, int_ok hb hm hat, hp, rI, Option.bind_some, err_ne hp]
      · simp only [wire_Ints_step, wire_Ints_2, err_ne hp, cond_true, rN]
    | inr p =>
      obtain ⟨x, k⟩ := p
      have hk := pI_le (fun c hc => hb c (List.mem_of_mem_drop hc)) hp
      rw [List.length_drop] at hk
      have := ih (i + 1) (at_ + k) (out ++ [x]) (by omega) (by omega) (by simp [ho])
      rw [pN_inr hp, ← rN_step]
      refine .next (s' := .s1 b ((at_ + k : Nat) : Int) 0 t ((i + 1 : Nat) : Int) (out ++ [x])) ?_ this
      have hl : decide (((List.map (eInt .i64) out).length + 1) * 8 ≤ bytesLim) = true := limOk (by simp; omega)
      simp only [wire_Ints_step, wire_Ints_1, ltB hlt, cond_true, int_ok hb hm hat, hp, rI, Option.bind_some, hl, wS (show i < 9223372036854775807 by omega)]
      simp
theorem ints_ok {b : List Int} (hb : Bytes b) (hm : b.length ≤ memB) {at_ : Nat} (h : at_ ≤ b.length) : wire_Ints b at_ = some (rL at_ (pL (b.drop at_))) := by
  have hsz : ∀ x : Int × Int × Int, wire_sized b at_ 64 = some x → wire_Ints_step (.s0 b at_) = some (.inl (.s1 b x.2.1 x.2.2 x.1 0 [])) := fun x hx => by
    simp only [wire_Ints_step, wire_Ints_0, hx, Option.bind_some]
  have bad : ∀ e : Int, (e != 0) = true → wire_sized b at_ 64 = some (0, 0, e) → wire_Ints b at_ = some ([], 0, e) := fun e he hx =>
    evf_of (.next (hsz _ hx) (.next (s' := .s2 0 e []) (by simp [wire_Ints_step, wire_Ints_1]) (.done (by simp only [wire_Ints_step, wire_Ints_2, he, cond_true]))))
  cases hp : pI (b.drop at_) with
  | inl e => rw [pL_inl hp]; exact bad e (err_ne hp) (by simp only [wire_sized, int_ok hb hm h, hp, rI, Option.bind_some, err_ne hp, cond_true])
  | inr p =>
    obtain ⟨n, k⟩ := p
    have hk := pI_le (fun c hc => hb c (List.mem_of_mem_drop hc)) hp
    rw [List.length_drop] at hk
    by_cases hbig : n < 0 ∨ n > 64
    · rw [pL_big hp hbig]
      refine bad 2 rfl ?_
      simp only [wire_sized, int_ok hb hm h, hp, rI, Option.bind_some]
      by_cases h0 : n < 0
      · simp [h0, wire_sized_1]
      · have : n > 64 := by omega
        simp [h0, this, wire_sized_1]
    · have hs : wire_sized b at_ 64 = some (n, ((at_ + k : Nat) : Int), 0) := by
        simp only [wire_sized, int_ok hb hm h, hp, rI, Option.bind_some]
        simp [show ¬ n < 0 by omega, show ¬ 64 < n by omega, wire_sized_1]
      rw [pL_inr hp hbig, ← rK_step]
      obtain ⟨t, rfl⟩ := Int.eq_ofNat_of_zero_le (show 0 ≤ n by omega)
      exact evf_of (.next (hsz _ hs) (ints_loop hb hm t (by omega) t 0 (at_ + k) [] (by omega) (by omega) rfl))
end Go.RX.L

namespace Go.RX.L
open Go Go.RX
theorem shlI8 {a : Nat} (h : a < 36028797018963968) : shlI .i64 a 8 = ((a * 256 : Nat) : Int) := by
  unfold shlI
  rw [show min (8 : Int).toNat IntKind.i64.bits = 8 from rfl, show ((a : Int) * (2 : Int) ^ 8) = ((a * 256 : Nat) : Int) by norm_cast, wI64 (by omega) (by omega)]
/-! ### writing -/
def putF (k : Int) (body : List Int) : List Int × Int := if body.length ≤ 8192 then (encF k body, 0) else ([], 2)
theorem shr8 {n : Nat} : shrI .i64 n 8 = ((n / 256 : Nat) : Int) := by
  unfold shrI
  rw [show min (8 : Int).toNat IntKind.i64.bits = 8 from rfl, Int.fdiv_eq_ediv_of_nonneg _ (by decide)]
  norm_cast
theorem headB (k : Int) {body : List Int} (h : body.length ≤ 8192) : [247, k, (IntKind.u8.wrap ((shrI .i64 ((body.length : Nat) : Int) 8))), (IntKind.u8.wrap (((body.length : Nat) : Int)))] ++ body = 247 :: inner k body := by
  rw [shr8, wrapU8_mod, wrapU8_mod, Nat.mod_eq_of_lt (a := body.length / 256) (by omega)]
  rfl
theorem sumB {k : Int} {body : List Int} (h : body.length ≤ 8192) : List.take ((247 :: inner k body).length - 1) (List.drop 1 (247 :: inner k body)) = inner k body := by
  simp
theorem frame_tail {s : Nat} (hs : s < 4294967296) {b : List Int} (hb : b.length ≤ 8300) : Ev frame_Put_step (.s1 s 24 b) (b ++ be4 s, 0) := by
  have e24 : shrI .u32 s 24 = ((s / 16777216 : Nat) : Int) := shrU32 (a := s) (k := 24) (by decide)
  have e16 : shrI .u32 s 16 = ((s / 65536 : Nat) : Int) := shrU32 (a := s) (k := 16) (by decide)
  have e8 : shrI .u32 s 8 = ((s / 256 : Nat) : Int) := shrU32 (a := s) (k := 8) (by decide)
  have e0 : shrI .u32 s 0 = (s : Int) := by have := shrU32 (a := s) (k := 0) (by decide); simpa using this
  have lim : ∀ n, n ≤ 8310 → decide ((n + 1) * 1 ≤ bytesLim) = true := fun n hn => limOk (by omega)
  refine .next (s' := .s1 s 16 (b ++ [((s / 16777216 % 256 : Nat) : Int)])) ?_ (.next (s' := .s1 s 8 (b ++ [((s / 16777216 % 256 : Nat) : Int), ((s / 65536 % 256 : Nat) : Int)])) ?_ (.next (s' := .s1 s 0 (b ++ [((s / 16777216 % 256 : Nat) : Int), ((s / 65536 % 256 : Nat) : Int), ((s / 256 % 256 : Nat) : Int)])) ?_ (.next (s' := .s1 s (-8) (b ++ be4 s)) ?_ (.done ?_))))
  · simp only [frame_Put_step, frame_Put_1, e24, wrapU8_mod, List.length_map, lim b.length (by omega)]
    rfl
  · simp only [frame_Put_step, frame_Put_1, e16, wrapU8_mod, List.length_map, List.length_append, List.length_cons, List.length_nil, lim (b.length + (0 + 1)) (by omega), List.append_assoc, List.cons_append, List.nil_append]
    rfl
  · simp only [frame_Put_step, frame_Put_1, e8, wrapU8_mod, List.length_map, List.length_append, List.length_cons, List.length_nil, lim (b.length + (0 + 1 + 1)) (by omega), List.append_assoc, List.cons_append, List.nil_append]
    rfl
  · simp only [frame_Put_step, frame_Put_1, e0, wrapU8_mod, List.length_map, List.length_append, List.length_cons, List.length_nil, lim (b.length + (0 + 1 + 1 + 1)) (by omega), List.append_assoc, List.cons_append, List.nil_append]
    rfl
  · rfl
theorem framePut_ok {k : Int} {body : List Int} (hk : 0 ≤ k ∧ k ≤ 255) (hb : Bytes body) (hm : body.length ≤ memB) : frame_Put k body = some (putF k body) := by
  unfold putF
  by_cases h : body.length ≤ 8192
  · rw [if_pos h]
    have hs := sum_ok (inner_bytes hk hb (by omega)) (by rw [inner_len]; omega)
    refine evf_of (.next (s' := .s1 (crc (inner k body) : Int) 24 (247 :: inner k body)) ?_ ?_)
    · have c1 : decide (((body.length : Nat) : Int) > 8192) = false := by simp; omega
      have c2 : decide ((4 + body.length) * 1 ≤ bytesLim) = true := limOk (by omega)
      have c3 : decide ((1 : Int) ≤ (((247 :: inner k body).length : Nat) : Int)) = true := by simp [inner_len]; omega
      have c4 : Nat.ble (1 + ((247 :: inner k body).length - 1)) (247 :: inner k body).length = true := by simp; omega
      simp only [frame_Put_step, frame_Put_0, List.length_map, c1, c2, headB k h, c3, c4, cond_false, cond_true, sumB h, hs, Option.bind_some]
    · exact frame_tail (crc_lt _) (by simp [inner_len]; omega)
  · rw [if_neg h]
    refine evf_of (.done ?_)
    have c1 : decide (((body.length : Nat) : Int) > 8192) = true := by simp; omega
    simp only [frame_Put_step, frame_Put_0, List.length_map, c1, cond_true]
end Go.RX.L

namespace Go.RX.L
open Go Go.RX
def rF (at_ : Nat) (x : Int ⊕ (Int × List Int × Nat)) : Int × List Int × Int × Int := match x with
  | .inl e => (0, [], 0, e)
  | .inr (k, body, m) => (k, body, ((at_ + m : Nat) : Int), 0)
theorem pF_magic {m : Int} {l : List Int} (h : m ≠ 247) : pF (m :: l) = .inl 32 := by simp only [pF, if_pos h]
theorem pF_short {l : List Int} (h : l.length < 7) : pF (247 :: l) = .inl 31 := by
  simp only [pF, if_neg (show ¬ ((247 : Int) ≠ 247) by simp), if_pos (show (247 :: l).length < 8 by simp; omega)]
theorem pF_long {k : Int} {a c : Nat} {r : List Int} (h : 4 ≤ r.length) (hn : 8192 < a * 256 + c) : pF (247 :: k :: (a : Int) :: (c : Int) :: r) = .inl 2 := by
  have hl : ¬ (247 :: k :: (a : Int) :: (c : Int) :: r).length < 8 := by simp; omega
  have hn' : numB 0 [(a : Int), (c : Int)] = a * 256 + c := by simp [numB]
  simp only [pF, if_neg (show ¬ ((247 : Int) ≠ 247) by simp), if_neg hl, List.getD_cons_succ, List.getD_cons_zero, hn', if_pos hn]
theorem pF_cut4 {k : Int} {a c : Nat} {r : List Int} (h : 4 ≤ r.length) (hn : a * 256 + c ≤ 8192) (hc : r.length < a * 256 + c + 4) : pF (247 :: k :: (a : Int) :: (c : Int) :: r) = .inl 31 := by
  have hl : ¬ (247 :: k :: (a : Int) :: (c : Int) :: r).length < 8 := by simp; omega
  have hn' : numB 0 [(a : Int), (c : Int)] = a * 256 + c := by simp [numB]
  have h2 : (247 :: k :: (a : Int) :: (c : Int) :: r).length < a * 256 + c + 8 := by simp; omega
  simp only [pF, if_neg (show ¬ ((247 : Int) ≠ 247) by simp), if_neg hl, List.getD_cons_succ, List.getD_cons_zero, hn', if_neg (show ¬ 8192 < a * 256 + c by omega), if_pos h2]
theorem pF_whole {k : Int} {a c : Nat} {r : List Int} (h : 4 ≤ r.length) (hn : a * 256 + c ≤ 8192) (hc : a * 256 + c + 4 ≤ r.length) : pF (247 :: k :: (a : Int) :: (c : Int) :: r) =
    if crc ((k :: (a : Int) :: (c : Int) :: r).take (a * 256 + c + 3)) ≠ numB 0 ((r.drop (a * 256 + c)).take 4) then .inl 33 else .inr (k, r.take (a * 256 + c), a * 256 + c + 8) := by
  have hl : ¬ (247 :: k :: (a : Int) :: (c : Int) :: r).length < 8 := by simp; omega
  have hn' : numB 0 [(a : Int), (c : Int)] = a * 256 + c := by simp [numB]
  have h2 : ¬ (247 :: k :: (a : Int) :: (c : Int) :: r).length < a * 256 + c + 8 := by simp; omega
  simp only [pF, if_neg (show ¬ ((247 : Int) ≠ 247) by simp), if_neg hl, List.getD_cons_succ, List.getD_cons_zero, hn', if_neg (show ¬ 8192 < a * 256 + c by omega), if_neg h2, List.drop_succ_cons, List.drop_zero]
theorem number_loop {b : List Int} (hb : Bytes b) (h4 : b.length ≤ 4) : ∀ (j k n : Nat), k + j = b.length → n < 256 ^ k → Ev frame_number_step (.s1 n b b.length k) ((numB n (b.drop k) : Nat) : Int) := by
  intro j
  induction j with
  | zero =>
    intro k n hk hn
    refine .done ?_
    rw [List.drop_of_length_le (by omega)]
    simp only [frame_number_step, frame_number_1, geB (show b.length ≤ k by omega), cond_false, numB]
  | succ j ih =>
    intro k n hk hn
    have hlt : k < b.length := by omega
    have hc := hb _ (List.getElem_mem hlt)
    obtain ⟨c, hc'⟩ : ∃ c : Nat, b[k] = (c : Int) := ⟨_, (Int.toNat_of_nonneg hc.1).symm⟩
    rw [hc'] at hc
    have hk4 : 256 ^ k ≤ 256 ^ 3 := Nat.pow_le_pow_right (by decide) (by omega)
    have hd : b.drop k = (c : Int) :: b.drop (k + 1) := by rw [← hc', List.drop_eq_getElem_cons hlt]
    have e1 : IntKind.i64.wrap (shlI .i64 (n : Int) 8 + IntKind.i64.wrap (c : Int)) = ((n * 256 + c : Nat) : Int) := by
      rw [shlI8 (by omega), wI64 (n := (c : Int)) (by omega) (by omega), wI64 (by omega) (by omega)]; norm_cast
    rw [hd]
    refine .next (s' := .s1 ((n * 256 + c : Nat) : Int) b b.length ((k + 1 : Nat) : Int)) ?_ (by
      show Ev frame_number_step _ ((numB (n * 256 + (c : Int).toNat) (b.drop (k + 1)) : Nat) : Int)
      rw [Int.toNat_natCast]
      exact ih (k + 1) _ (by omega) (by rw [Nat.pow_succ]; omega))
    simp only [frame_number_step, frame_number_1, ltB hlt, cond_true, List.length_map, ixB hlt, le0, Bool.and_self, Int.toNat_natCast, List.getE hlt, Option.bind_some, hc', e1, wS (show k < 9223372036854775807 by omega)]
theorem number_ok {b : List Int} (hb : Bytes b) (h4 : b.length ≤ 4) : frame_number b = some ((numB 0 b : Nat) : Int) := by
  refine evf_of (.next (s' := .s1 ((0 : Nat) : Int) b b.length ((0 : Nat) : Int)) ?_ ?_)
  · simp only [frame_number_step, frame_number_0, List.length_map]; rfl
  · have := number_loop hb h4 b.length 0 0 (by omega) (by decide)
    simpa using this
theorem take_in {l : List Int} (hb : Bytes l) (n : Nat) : Bytes (l.take n) := fun c hc => hb c (List.mem_of_mem_take hc)
theorem drop_in {l : List Int} (hb : Bytes l) (n : Nat) : Bytes (l.drop n) := fun c hc => hb c (List.mem_of_mem_drop hc)
/-! ### the document's reader -/
end Go.RX.L

namespace Go.RX.L
open Go Go.RX
theorem dropA (P r : List Int) (k : Nat) : List.drop (P.length + k) (P ++ r) = r.drop k := by
  rw [List.drop_append, List.drop_of_length_le (by omega), List.nil_append]; congr 1; omega
theorem getA (P r : List Int) (k : Nat) : (P ++ r)[P.length + k]? = r[k]? := by
  rw [List.getElem?_append_right (by omega)]; congr 1; omega
theorem jclone {b : List Int} {at_ ln cp : Nat} (h : at_ + ln ≤ b.length) (hm : b.length ≤ memB) : bytes_CloneW at_ ln cp b = some ((b.drop at_).take ln) := by
  have e : (List.take ln (List.drop at_ (List.map (eInt .u8) b))).length = ln := by simp; omega
  have c : decide ((0 + ln) * 1 ≤ bytesLim) = true := limOk (by simp only [memB] at hm; omega)
  simp only [bytes_CloneW, e, show Nat.beq ln ln = true from Nat.beq_refl ln, cond_true, c, List.nil_append]
theorem jclone2 {b : List Int} {ln cp : Nat} (h : ln ≤ b.length) (hm : b.length ≤ memB) : bytes_CloneW_v2 ln cp b = some (b.take ln) := by
  have e : (List.take ln (List.drop 0 (List.map (eInt .u8) b))).length = ln := by simp; omega
  have c : decide ((0 + ln) * 1 ≤ bytesLim) = true := limOk (by simp only [memB] at hm; omega)
  unfold bytes_CloneW_v2
  rw [e]
  simp only [show Nat.beq ln ln = true from Nat.beq_refl ln, cond_true, c, List.nil_append, List.drop_zero]
theorem jget2_err (at_ : Int) (b : List Int) (e n : Int) (x y z : Nat) (h : e ≠ 0) : frame_Get_2 at_ b e n x y z = some (0, [], 0, e) := by
  have : (e != 0) = true := by simp [h]
  simp only [frame_Get_2, this, cond_true]
theorem jget3 {P rest : List Int} (hb : Bytes rest) (hm : P.length + rest.length ≤ memB) (h0 : rest = [] ∨ rest.head? = some 247) : frame_Get_3 P.length (P ++ rest) P.length rest.length rest.length false = some (rF P.length (pF rest)) := by
  have hm0 := hm
  simp only [memB] at hm
  have w1 : IntKind.i64.wrap (IntKind.i64.wrap (((rest.length : Nat) : Int) - 4) - 4) = (rest.length : Int) - 8 := by
    rw [wI64 (n := ((rest.length : Nat) : Int) - 4) (by omega) (by omega), wI64 (by omega) (by omega)]; omega
  by_cases h8 : rest.length < 8
  · have c1 : decide (((rest.length : Nat) : Int) < 8) = true := by simp; omega
    have e : pF rest = .inl 31 := by
      rcases h0 with rfl | h0
      · rfl
      · cases rest with
        | nil => rfl
        | cons m l =>
          obtain rfl := Option.some.inj h0
          exact pF_short (by simp at h8; omega)
    simp only [frame_Get_3, cond_false, c1, cond_true, jget2_err _ _ _ _ _ _ _ (by decide : (31 : Int) ≠ 0), e, rF]
  · have c1 : decide (((rest.length : Nat) : Int) < 8) = false := by simp; omega
    have c2 : decide ((4 : Int) ≤ ((rest.length : Nat) : Int)) = true := by simp; omega
    have hx : ∃ k a c r, rest = 247 :: k :: a :: c :: r := by
      match rest, h8, h0 with
      | m :: k :: a :: c :: r, _, h0 =>
        rcases h0 with h0 | h0
        · cases h0
        · obtain rfl := Option.some.inj h0; exact ⟨k, a, c, r, rfl⟩
      | [], h, _ => simp at h
      | [_], h, _ => simp at h
      | [_, _], h, _ => simp at h
      | [_, _, _], h, _ => simp at h
    obtain ⟨k, a', c', r, hrest⟩ := hx
    have ha := hb a' (by simp [hrest])
    have hc := hb c' (by simp [hrest])
    obtain ⟨a, rfl⟩ := Int.eq_ofNat_of_zero_le ha.1
    obtain ⟨c, rfl⟩ := Int.eq_ofNat_of_zero_le hc.1
    have hbr : Bytes r := fun x hx => hb x (by simp [hrest, hx])
    have hk := hb k (by simp [hrest])
    have hlr : rest.length = r.length + 4 := by rw [hrest]; simp
    have hr4 : 4 ≤ r.length := by omega
    have n1 : frame_number [(a : Int), (c : Int)] = some ((a * 256 + c : Nat) : Int) := by
      have := number_ok (b := [(a : Int), (c : Int)]) (fun x hx => by simp only [List.mem_cons, List.not_mem_nil, or_false] at hx; rcases hx with rfl | rfl <;> assumption) (by simp)
      rw [this]; simp [numB]
    have d1 : List.take 2 (List.drop (P.length + 2) (P ++ rest)) = [(a : Int), (c : Int)] := by rw [dropA, hrest]; simp
    have b1 : Nat.ble (P.length + 2 + 2) (List.map (eInt .u8) (P ++ rest)).length = true := by simp; omega
    generalize hn : a * 256 + c = n at *
    simp only [frame_Get_3, cond_false, c1, c2, cond_true, b1, d1, n1, Option.bind_some, w1]
    by_cases hbig : 8192 < n
    · have c3 : decide ((n : Int) > 8192) = true := by simp; omega
      rw [hrest, pF_long hr4 (by omega)]
      simp only [c3, cond_true, jget2_err _ _ _ _ _ _ _ (by decide : (2 : Int) ≠ 0), rF]
    · have c3 : decide ((n : Int) > 8192) = false := by simp; omega
      by_cases hs : r.length < n + 4
      · have c4 : decide ((n : Int) > (rest.length : Int) - 8) = true := by simp; omega
        have e : pF rest = .inl 31 := by rw [hrest]; exact pF_cut4 hr4 (by omega) (by omega)
        rw [e]
        simp only [c3, c4, cond_true, cond_false, jget2_err _ _ _ _ _ _ _ (by decide : (31 : Int) ≠ 0), rF]
      · have c4 : decide ((n : Int) > (rest.length : Int) - 8) = false := by simp; omega
        have w2 : IntKind.i64.wrap ((4 : Int) + (n : Int)) = ((n + 4 : Nat) : Int) := by rw [wI64 (by omega) (by omega)]; omega
        have w3 : IntKind.i64.wrap (((n + 4 : Nat) : Int) + 4) = ((n + 8 : Nat) : Int) := by rw [wI64 (by omega) (by omega)]; omega
        have c5 : (decide (((0 : Nat) : Int) ≤ ((n + 4 : Nat) : Int)) && decide (((n + 4 : Nat) : Int) ≤ (rest.length : Int))) = true := by simp; omega
        have c6 : decide ((1 : Int) ≤ (((n + 4 : Nat) : Nat) : Int)) = true := by simp; omega
        have c6' : decide ((4 : Int) ≤ (((n + 4 : Nat) : Nat) : Int)) = true := by simp; omega
        have c7 : (decide (((0 : Nat) : Int) ≤ ((n + 8 : Nat) : Int)) && decide (((n + 8 : Nat) : Int) ≤ (rest.length : Int))) = true := by simp; omega
        have c8 : (decide (((0 : Nat) : Int) ≤ ((n + 4 : Nat) : Int)) && decide (((n + 4 : Nat) : Int) ≤ ((n + 8 : Nat) : Int))) = true := by simp; omega
        have b2 : Nat.ble (P.length + 1 + (n + 4 - 1)) (List.map (eInt .u8) (P ++ rest)).length = true := by simp; omega
        have b3 : Nat.ble (P.length + (n + 4) + (n + 8 - (n + 4))) (List.map (eInt .u8) (P ++ rest)).length = true := by simp; omega
        have d2 : List.take (n + 4 - 1) (List.drop (P.length + 1) (P ++ rest)) = (k :: (a : Int) :: (c : Int) :: r).take (n + 3) := by rw [dropA, hrest]; simp
        have d3 : List.take (n + 8 - (n + 4)) (List.drop (P.length + (n + 4)) (P ++ rest)) = (r.drop n).take 4 := by
          rw [dropA, hrest, show n + 8 - (n + 4) = 4 by omega]; rfl
        have d4 : List.take (n + 4 - 4) (List.drop (P.length + 4) (P ++ rest)) = r.take n := by rw [dropA, hrest]; simp
        have hs1 := sum_ok (b := (k :: (a : Int) :: (c : Int) :: r).take (n + 3)) (take_in (fun x hx => hb x (by rw [hrest]; exact List.mem_cons_of_mem _ hx)) _) (by rw [List.length_take]; omega)
        have hs2 := number_ok (b := (r.drop n).take 4) (take_in (drop_in hbr _) _) (by rw [List.length_take]; omega)
        have hcl := crc_lt ((k :: (a : Int) :: (c : Int) :: r).take (n + 3))
        have ew : pF rest = if crc ((k :: (a : Int) :: (c : Int) :: r).take (n + 3)) ≠ numB 0 ((r.drop n).take 4) then .inl 33 else .inr (k, r.take n, n + 8) := by
          rw [hrest, pF_whole hr4 (by omega) (by omega), hn]
        rw [ew]
        simp only [c3, c4, cond_true, cond_false, w2, w3, c5, c6, c7, c8, b2, b3, Int.toNat_natCast, d2, d3, hs1, hs2, Option.bind_some, wI64 (n := ((crc ((k :: (a : Int) :: (c : Int) :: r).take (n + 3)) : Nat) : Int)) (by omega) (by omega)]
        by_cases hq : crc ((k :: (a : Int) :: (c : Int) :: r).take (n + 3)) = numB 0 ((r.drop n).take 4)
        · have q1 : ((((crc ((k :: (a : Int) :: (c : Int) :: r).take (n + 3)) : Nat) : Int)) != ((numB 0 ((r.drop n).take 4) : Nat) : Int)) = false := by rw [hq]; simp
          rw [q1, if_neg (by simpa using hq)]
          have c9 : decide ((1 : Int) < (rest.length : Int)) = true := by simp; omega
          have w4 : IntKind.i64.wrap (IntKind.i64.wrap (IntKind.i64.wrap ((P.length : Int) + 4) + (n : Int)) + 4) = ((P.length + (n + 8) : Nat) : Int) := by
            rw [wI64 (n := (P.length : Int) + 4) (by omega) (by omega), wI64 (n := (P.length : Int) + 4 + (n : Int)) (by omega) (by omega), wI64 (by omega) (by omega)]; omega
          have cl := jclone (b := P ++ rest) (at_ := P.length + 4) (ln := n + 4 - 4) (cp := rest.length - 4) (by simp; omega) (by simp; omega)
          have g1 : (P ++ rest)[P.length + 1]? = some k := by rw [getA, hrest]; rfl
          simp only [cond_false, frame_Get_2, bne_self_eq_false, c9, cond_true, g1, Option.bind_some, w2, c5, c6', Int.toNat_natCast, cl, d4, w4, rF]
        · have q1 : ((((crc ((k :: (a : Int) :: (c : Int) :: r).take (n + 3)) : Nat) : Int)) != ((numB 0 ((r.drop n).take 4) : Nat) : Int)) = true := bne_iff_ne.2 fun h => hq (Int.ofNat.inj h)
          rw [q1, if_pos (by simpa using hq)]
          simp only [cond_true, jget2_err _ _ _ _ _ _ _ (by decide : (33 : Int) ≠ 0), rF]
theorem jget {P rest : List Int} (hb : Bytes rest) (hm : P.length + rest.length ≤ memB) : frame_Get P.length (P ++ rest) = some (rF P.length (pF rest)) := by
  have hm' := hm
  simp only [memB] at hm'
  have c1 : decide ((P.length : Int) < 0) = false := by simp
  have c2 : decide ((P.length : Int) > (((P ++ rest).length : Nat) : Int)) = false := by simp; omega
  have c3 : (decide (((0 : Nat) : Int) ≤ (P.length : Int)) && decide ((P.length : Int) ≤ (((P ++ rest).length : Nat) : Int))) = true := by simp; omega
  have e1 : (P ++ rest).length - P.length = rest.length := by simp
  simp only [frame_Get, c1, cond_false, List.length_map, c2, frame_Get_1, c3, cond_true, Int.toNat_natCast, e1, Nat.zero_add]
  cases rest with
  | nil =>
    have := jget3 (P := P) (rest := []) hb hm (.inl rfl)
    exact this
  | cons m l =>
    have c4 : decide ((((m :: l).length : Nat) : Int) > 0) = true := by simp
    have c5 : decide ((0 : Int) < (((m :: l).length : Nat) : Int)) = true := by simp
    have g0 : (P ++ m :: l)[P.length]? = some m := by simp
    simp only [c4, c5, cond_true, g0, Option.bind_some]
    by_cases hq : m = 247
    · subst hq
      exact jget3 hb hm (.inr rfl)
    · have : (m != 247) = true := by simp [hq]
      rw [this, pF_magic hq]
      simp only [frame_Get_3, cond_true, jget2_err _ _ _ _ _ _ _ (by decide : (32 : Int) ≠ 0), rF]
/-! ### frames, one behind the other -/
/-- A frame: its kind, its body. -/
abbrev Fr1 := Int × List Int
def okFr (x : Fr1) : Prop := (0 ≤ x.1 ∧ x.1 ≤ 255) ∧ Bytes x.2 ∧ x.2.length ≤ 8192
def frs : List Fr1 → List Int
  | [] => []
  | x :: l => encF x.1 x.2 ++ frs l
theorem frs_app (a b : List Fr1) : frs (a ++ b) = frs a ++ frs b := by
  induction a with
  | nil => rfl
  | cons x a ih => simp [frs, ih]
theorem frs_bytes {l : List Fr1} (h : ∀ x ∈ l, okFr x) : Bytes (frs l) := by
  induction l with
  | nil => intro c hc; simp [frs] at hc
  | cons x l ih =>
    intro c hc
    simp only [frs, List.mem_append] at hc
    obtain ⟨h1, h2, h3⟩ := h x (by simp)
    rcases hc with hc | hc
    · exact encF_bytes h1 h2 (by omega) c hc
    · exact ih (fun y hy => h y (by simp [hy])) c hc
def tells : List Int → List Fr1 → List (Int × oneT)
  | _, [] => []
  | P, x :: l => (((P ++ encF x.1 x.2).length : Int), ⟨x.1, x.2⟩) :: tells (P ++ encF x.1 x.2) l
theorem jeach {J : List Int} {e : Int} (hJ : pF J = .inl e) (hJb : Bytes J) : ∀ (l : List Fr1) (P : List Int), (∀ x ∈ l, okFr x) → P.length + (frs l ++ J).length ≤ memB → EvL frame_each_1_step (.s1 P.length (P ++ (frs l ++ J))) (tells P l)
  | [], P, hl, hm => by
    refine .done ?_
    have := jget (P := P) (rest := J) hJb (by simpa [frs] using hm)
    have he : (e != 0) = true := by
      have := pF_err hJ
      rcases this with rfl | rfl | rfl | rfl <;> rfl
    simp only [frame_each_1_step, frame_each_1_1, frs, List.nil_append, this, hJ, rF, Option.bind_some, he, cond_true, tells]
  | x :: l, P, hl, hm => by
    obtain ⟨h1, h2, h3⟩ := hl x (by simp)
    have hl' : ∀ y ∈ l, okFr y := fun y hy => hl y (by simp [hy])
    have hb : Bytes (frs (x :: l) ++ J) := fun c hc => by
      rcases List.mem_append.1 hc with hc | hc
      · exact frs_bytes hl c hc
      · exact hJb c hc
    have hg := jget (P := P) hb hm
    have hpf : pF (frs (x :: l) ++ J) = .inr (x.1, x.2, x.2.length + 8) := by
      simp only [frs, List.append_assoc]
      exact pF_enc h1 h2 h3 _
    rw [hpf] at hg
    have hlen : ((P ++ encF x.1 x.2).length : Int) = ((P.length + (x.2.length + 8) : Nat) : Int) := by simp [encF_len]
    have ih := jeach hJ hJb l (P ++ encF x.1 x.2) hl' (by simp [frs] at hm ⊢; omega)
    refine EvL.next (l := [(((P ++ encF x.1 x.2).length : Int), (⟨x.1, x.2⟩ : oneT))]) (s' := frame_each_1_S.s1 (P ++ encF x.1 x.2).length (P ++ (frs (x :: l) ++ J))) ?_ ?_
    · simp only [frame_each_1_step, frame_each_1_1, hg, rF, Option.bind_some, bne_self_eq_false, cond_false, Option.map_some, List.nil_append, hlen]
    · rw [show P ++ (frs (x :: l) ++ J) = P ++ encF x.1 x.2 ++ (frs l ++ J) by simp [frs]]
      exact ih
theorem jall_loop {b : List Int} : ∀ (l : List Fr1) (P ks : List Int) (bs : List (List Int)), (∀ x ∈ l, okFr x) → ks.length = bs.length → bs.length + l.length ≤ 1000000000 →
    Ev (frame_All_step b) (.s2 (P.length : Int) ks bs (tells P l)) (ks ++ l.map (·.1), bs ++ l.map (·.2), ((P ++ frs l).length : Int))
  | [], P, ks, bs, hl, h1, h2 => .done (by simp [frame_All_step, frame_All_2, frame_All_2n, tells, frs])
  | x :: l, P, ks, bs, hl, h1, h2 => by
    have ih := jall_loop (b := b) l (P ++ encF x.1 x.2) (ks ++ [x.1]) (bs ++ [x.2]) (fun y hy => hl y (by simp [hy])) (by simp [h1]) (by simp at h2 ⊢; omega)
    simp only [List.length_cons] at h2
    have l1 : decide ((ks.length + 1) * 1 ≤ bytesLim) = true := limOk (by omega)
    have l2 : decide ((bs.length + 1) * 24 ≤ bytesLim) = true := limOk (by omega)
    refine .next (s' := frame_All_S.s2 ((P ++ encF x.1 x.2).length : Int) (ks ++ [x.1]) (bs ++ [x.2]) (tells (P ++ encF x.1 x.2) l)) ?_ ?_
    · simp only [frame_All_step, frame_All_2, tells, frame_All_2c, List.length_map, l1, l2, cond_true]
    · simpa [frs] using ih
theorem jall {l : List Fr1} {J : List Int} {e : Int} (hl : ∀ x ∈ l, okFr x) (hJ : pF J = .inl e) (hJb : Bytes J) (hm : (frs l ++ J).length ≤ 10000000) : frame_All (frs l ++ J) = some (l.map (·.1), l.map (·.2), ((frs l).length : Int)) := by
  have hn : l.length ≤ (frs l).length := by
    clear hm hl
    induction l with
    | nil => simp [frs]
    | cons x l ih => simp [frs, encF_len]; omega
  have h1 := jeach hJ hJb l [] hl (by simp only [memB]; simp at hm ⊢; omega)
  have h2 := jall_loop (b := frs l ++ J) l [] [] [] hl rfl (by simp at hm ⊢; omega)
  have e1 : frame_each_1 (frs l ++ J) = some (tells [] l) := evl_of (EvL.next (l := []) (s' := frame_each_1_S.s1 0 (frs l ++ J)) (by simp [frame_each_1_step, frame_each_1_0]) (by simpa using h1))
  refine evf_of (.next (s' := frame_All_S.s1 0 [] []) ?_ (.next (s' := frame_All_S.s2 0 [] [] (tells [] l)) ?_ ?_))
  · simp only [frame_All_step, frame_All_0, frame_each, Option.bind_some]
  · simp only [frame_All_step, frame_All_1, e1, Option.bind_some]
  · simpa using h2
end Go.RX.L

namespace Go.RX.L
open Go Go.RX
def encT (s : List Int) : List Int := encI (s.length : Int) ++ s
def putT (s : List Int) : Int × List Int := if s.length ≤ 4096 then (0, encT s) else (2, [])
def pT (l : List Int) : Int ⊕ (List Int × Nat) := match pI l with
  | .inl e => .inl e
  | .inr (n, k) => if n < 0 ∨ n > 4096 then .inl 2 else if n > (l.length : Int) - k then .inl 11 else .inr ((l.drop k).take n.toNat, k + n.toNat)
theorem pT_inl {l : List Int} {e : Int} (h : pI l = .inl e) : pT l = .inl e := by simp only [pT, h]
theorem pT_big {l : List Int} {n : Int} {k : Nat} (h : pI l = .inr (n, k)) (hn : n < 0 ∨ n > 4096) : pT l = .inl 2 := by simp only [pT, h, if_pos hn]
theorem pT_end {l : List Int} {n : Int} {k : Nat} (h : pI l = .inr (n, k)) (hn : ¬ (n < 0 ∨ n > 4096)) (h2 : n > (l.length : Int) - k) : pT l = .inl 11 := by simp only [pT, h, if_neg hn, if_pos h2]
theorem pT_inr {l : List Int} {n : Int} {k : Nat} (h : pI l = .inr (n, k)) (hn : ¬ (n < 0 ∨ n > 4096)) (h2 : ¬ n > (l.length : Int) - k) : pT l = .inr ((l.drop k).take n.toNat, k + n.toNat) := by simp only [pT, h, if_neg hn, if_neg h2]
theorem encT_bytes {s : List Int} (h : Bytes s) : Bytes (encT s) := fun c hc => (List.mem_append.1 hc).elim (encI_bytes _ c) (h c)
theorem encT_len {s : List Int} (h : s.length ≤ 4096) : (encT s).length ≤ s.length + 10 := by
  have := encI_len (inLen (n := s.length) (by omega))
  simp only [encT, List.length_append]; omega
theorem pT_enc {s : List Int} (h : s.length ≤ 4096) (rest : List Int) : pT (encT s ++ rest) = .inr (s, (encT s).length) := by
  have h1 := pI_enc (inLen (n := s.length) (by omega)) (s ++ rest)
  have e : encT s ++ rest = encI (s.length : Int) ++ (s ++ rest) := by simp [encT]
  rw [e, pT_inr h1 (by omega) (by simp only [List.length_append]; omega), List.drop_left, Int.toNat_natCast, List.take_left]
  simp only [encT, List.length_append]
theorem pT_dec {l s : List Int} {k : Nat} (hb : Bytes l) (h : pT l = .inr (s, k)) : l.take k = encT s ∧ k ≤ l.length ∧ k = (encT s).length ∧ s.length ≤ 4096 ∧ Bytes s := by
  cases hp : pI l with
  | inl e => rw [pT_inl hp] at h; cases h
  | inr x =>
    obtain ⟨n, j⟩ := x
    by_cases hn : n < 0 ∨ n > 4096
    · rw [pT_big hp hn] at h; cases h
    by_cases h2 : n > (l.length : Int) - j
    · rw [pT_end hp hn h2] at h; cases h
    rw [pT_inr hp hn h2] at h
    simp only [Sum.inr.injEq, Prod.mk.injEq] at h
    obtain ⟨rfl, rfl⟩ := h
    obtain ⟨a1, a2, a3, a4⟩ := pI_dec hb hp
    obtain ⟨m, rfl⟩ := Int.eq_ofNat_of_zero_le (show 0 ≤ n by omega)
    simp only [Int.toNat_natCast]
    have hl : ((l.drop j).take m).length = m := by rw [List.length_take, List.length_drop]; omega
    refine ⟨?_, by omega, ?_, by rw [hl]; omega, take_in (drop_in hb _) _⟩
    · rw [List.take_add, a1, encT, hl]
    · rw [encT, List.length_append, hl, ← a3]
theorem pT_err {l : List Int} {e : Int} (h : pT l = .inl e) : e ≠ 0 := by
  cases hp : pI l with
  | inl e' => rw [pT_inl hp] at h; obtain rfl := Sum.inl.inj h; rcases pI_err hp with rfl | rfl <;> decide
  | inr x =>
    obtain ⟨n, j⟩ := x
    by_cases hn : n < 0 ∨ n > 4096
    · rw [pT_big hp hn] at h; obtain rfl := Sum.inl.inj h; decide
    by_cases h2 : n > (l.length : Int) - j
    · rw [pT_end hp hn h2] at h; obtain rfl := Sum.inl.inj h; decide
    · rw [pT_inr hp hn h2] at h; cases h
theorem putText_ok {s : List Int} (hm : s.length ≤ memB) : wire_PutText s = some (putT s) := by
  unfold putT
  by_cases h : s.length ≤ 4096
  · rw [if_pos h]
    have hn := inLen (n := s.length) (by omega)
    have hl := encI_len hn
    have c1 : decide (((s.length : Nat) : Int) > 4096) = false := by simp; omega
    have c2 : decide (((encI (s.length : Int)).length + s.length) * 1 ≤ bytesLim) = true := limOk (by omega)
    simp only [wire_PutText, List.length_map, c1, cond_false, putInt_ok hn, Option.bind_some, c2, cond_true, encT]
  · rw [if_neg h]
    have c1 : decide (((s.length : Nat) : Int) > 4096) = true := by simp; omega
    simp only [wire_PutText, List.length_map, c1, cond_true]
theorem text_ok {b : List Int} (hb : Bytes b) (hm : b.length ≤ memB) {at_ : Nat} (h : at_ ≤ b.length) : wire_Text b at_ = some (rL at_ (pT (b.drop at_))) := by
  have hi := int_ok hb hm h
  simp only [memB] at hm
  cases hp : pI (b.drop at_) with
  | inl e =>
    rw [hp] at hi
    have he := err_ne hp
    rw [pT_inl hp]
    simp only [wire_Text, wire_sized, hi, rI, Option.bind_some, he, cond_true, rL]
  | inr x =>
    obtain ⟨n, k⟩ := x
    rw [hp] at hi
    obtain ⟨a1, a2, a3, a4⟩ := pI_dec (drop_in hb at_) hp
    rw [List.length_drop] at a2
    have a4' := inI64.1 a4
    have z : ((0 : Int) != 0) = false := rfl
    have tw : ((2 : Int) != 0) = true := rfl
    by_cases hn : n < 0 ∨ n > 4096
    · rw [pT_big hp hn]
      rcases hn with hn | hn
      · have c1 : decide (n < 0) = true := decide_eq_true hn
        simp only [wire_Text, wire_sized, wire_sized_1, hi, rI, Option.bind_some, z, cond_false, c1, cond_true, tw, rL]
      · have c1 : decide (n < 0) = false := decide_eq_false (by omega)
        have c2 : decide (n > 4096) = true := decide_eq_true hn
        simp only [wire_Text, wire_sized, wire_sized_1, hi, rI, Option.bind_some, z, cond_false, c1, c2, cond_true, tw, rL]
    · have c1 : decide (n < 0) = false := decide_eq_false (by omega)
      have c2 : decide (n > 4096) = false := decide_eq_false (by omega)
      have w1 : IntKind.i64.wrap (((b.length : Nat) : Int) - ((at_ + k : Nat) : Int)) = (b.length : Int) - ((at_ + k : Nat) : Int) := wI64 (by omega) (by omega)
      by_cases h2 : n > ((b.drop at_).length : Int) - k
      · rw [pT_end hp hn h2]
        rw [List.length_drop] at h2
        have c3 : decide (n > (b.length : Int) - ((at_ + k : Nat) : Int)) = true := decide_eq_true (by omega)
        simp only [wire_Text, wire_sized, wire_sized_1, hi, rI, Option.bind_some, z, cond_false, c1, c2, List.length_map, w1, c3, cond_true, rL]
      · rw [pT_inr hp hn h2]
        rw [List.length_drop] at h2
        obtain ⟨m, rfl⟩ := Int.eq_ofNat_of_zero_le (show 0 ≤ n by omega)
        have c3 : decide ((m : Int) > (b.length : Int) - ((at_ + k : Nat) : Int)) = false := decide_eq_false (by omega)
        have w2 : IntKind.i64.wrap (((at_ + k : Nat) : Int) + (m : Int)) = ((at_ + k + m : Nat) : Int) := by rw [wI64 (by omega) (by omega)]; omega
        have c4 : (decide (((0 : Nat) : Int) ≤ ((at_ + k + m : Nat) : Int)) && decide (((at_ + k + m : Nat) : Int) ≤ ((b.length : Nat) : Int))) = true := by simp; omega
        have c5 : (decide (((0 : Nat) : Int) ≤ ((at_ + k : Nat) : Int)) && decide (((at_ + k : Nat) : Int) ≤ ((at_ + k + m : Nat) : Int))) = true := by simp; omega
        have d : List.drop (at_ + k) (List.take (at_ + k + m) b) = ((b.drop at_).drop k).take m := by
          rw [List.drop_take, List.drop_drop, show at_ + k + m - (at_ + k) = m by omega]
        have c6 : decide ((((b.drop at_).drop k).take m).length * 1 ≤ bytesLim) = true := limOk (by rw [List.length_take]; omega)
        simp only [wire_Text, wire_sized, wire_sized_1, hi, rI, Option.bind_some, z, cond_false, c1, c2, List.length_map, w1, c3, cond_true, w2, c4, c5, Int.toNat_natCast, d, c6, rL]
        rw [Nat.add_assoc]
end Go.RX.L

set_option maxHeartbeats 4000000
namespace Go.RX.L
open Go Go.RX Go.Proofs
attribute [local irreducible] FinQ
noncomputable def ref01_Same_c := codeAt (bodyOf Tryz.f32)
noncomputable def ref01_Same_e (y : Bool) : D × Sto := (.bool y, [])
inductive ref01_Same_S where
 | s0 (a b : List Int)
 | s1 (a b : List Int) (i : Int)
noncomputable def ref01_Same_M : ref01_Same_S → M
 | .s0 a b => startM Tryz.f32 [.sl false 1 (List.map (eInt .i64) a), .sl false 1 (List.map (eInt .i64) b)] []
 | .s1 a b i => ⟨[.lpc (ref01_Same_c [1, 1, 0, 1, 0, 0]) 35, .blk 0, .code (ref01_Same_c [1, 1, 1])], [(0, .sl false 1 (List.map (eInt .i64) a)), (1, .sl false 1 (List.map (eInt .i64) b)), (5, .int .i64 i)], []⟩
abbrev ref01_Same_W := SOk E (Cx.of Tryz.f32 false 0) ref01_Same_e ref01_Same_M
noncomputable def ref01_Same_0 (a b : List Int) : Option (ref01_Same_S ⊕ Bool) := (bif (((((List.map (eInt .i64) a).length : Nat) : Int) : Int) != (((List.map (eInt .i64) b).length : Nat) : Int)) then (some (.inr false)) else (some (.inl (.s1 a b 0))))
noncomputable def ref01_Same_1 (a b : List Int) (i : Int) : Option (ref01_Same_S ⊕ Bool) := (bif (decide ((i : Int) < (((List.map (eInt .i64) a).length : Nat) : Int))) then (bif ((decide ((0 : Int) ≤ i)) && (decide ((i : Int) < (((List.map (eInt .i64) a).length : Nat) : Int)))) then (((a)[i.toNat]?).bind fun y3 => (bif ((decide ((0 : Int) ≤ i)) && (decide ((i : Int) < (((List.map (eInt .i64) b).length : Nat) : Int)))) then (((b)[i.toNat]?).bind fun y6 => (bif ((y3 : Int) != y6) then (some (.inr false)) else (some (.inl (.s1 a b (IntKind.i64.wrap (i + 1))))))) else none)) else none) else (some (.inr true)))
noncomputable def ref01_Same_step : ref01_Same_S → Option (ref01_Same_S ⊕ Bool)
 | .s0 a b => ref01_Same_0 a b
 | .s1 a b i => ref01_Same_1 a b i
theorem ref01_Same_0_ok {a b} : ref01_Same_W (.s0 a b) (ref01_Same_0 a b) := by
 intro r x h ha; unfold ref01_Same_0 at h
 refine zs 14 h (fun h => ?_) fun h => ?_
 ·
  exact zt 5 h ha
 exact zj 9 h ha
theorem ref01_Same_1_ok {a b i} : ref01_Same_W (.s1 a b i) (ref01_Same_1 a b i) := by
 intro r x h ha; unfold ref01_Same_1 at h
 refine zs 10 h (fun h => ?_) fun h => ?_
 ·
  refine zn 5 h fun h => ?_
  refine zr 0 (eInt .i64) h fun y3 h => ?_
  refine zn 0 h fun h => ?_
  refine zr 0 (eInt .i64) h fun y6 h => ?_
  refine zs 1 h (fun h => ?_) fun h => ?_
  ·
   exact zt 5 h ha
  exact zj 8 h ha
 exact zt 6 h ha
noncomputable def ref01_Same (a b : List Int) : Option Bool := evf ref01_Same_step (.s0 a b)
theorem ref01_Same_ok {a b : List Int} {r : Bool} (h : ref01_Same a b = some r) : Sound E 32 [.sl false 1 (List.map (eInt .i64) a), .sl false 1 (List.map (eInt .i64) b)] [] (Rs ref01_Same_e r) := sc (fn := Tryz.f32) (k := false) (m := 0) (stM := ref01_Same_M) h fun s => by
 cases s with
 | s0 => exact ref01_Same_0_ok
 | s1 => exact ref01_Same_1_ok
end Go.RX.L

namespace Go.RX.L
open Go Go.RX
def btw (lo hi : Int) (l : List Int) : Bool := l.all fun n => decide (lo ≤ n ∧ n ≤ hi)
theorem btw_cons (lo hi x : Int) (l : List Int) : btw lo hi (x :: l) = (decide (lo ≤ x ∧ x ≤ hi) && btw lo hi l) := rfl
theorem btw_iff {lo hi : Int} {l : List Int} : btw lo hi l = true ↔ ∀ x ∈ l, lo ≤ x ∧ x ≤ hi := by simp [btw]
theorem ix_loop (l : List Int) (lo hi : Int) (hl : l.length < 9223372036854775807) : ∀ (j k : Nat), k + j = l.length → ∃ r : Int, Ev slices_IndexFunc__all_1_step (.s1 l lo hi l.length k) r ∧ decide (r ≥ 0) = !(btw lo hi (l.drop k)) := by
  intro j
  induction j with
  | zero =>
    intro k hk
    refine ⟨-1, .done ?_, ?_⟩
    · simp [slices_IndexFunc__all_1_step, slices_IndexFunc__all_1_1, show ¬ (k : Int) < l.length by omega]
    · rw [List.drop_eq_nil_of_le (by omega)]; rfl
  | succ j ih =>
    intro k hk
    have hlt : k < l.length := by omega
    rw [List.drop_eq_getElem_cons hlt, btw_cons]
    by_cases h : lo ≤ l[k] ∧ l[k] ≤ hi
    · obtain ⟨r, h1, h2⟩ := ih (k + 1) (by omega)
      refine ⟨r, .next (s' := .s1 l lo hi l.length ((k + 1 : Nat) : Int)) ?_ h1, ?_⟩
      · have e1 : decide (l[k] < lo) = false := by simp; omega
        have e2 : decide (l[k] > hi) = false := by simp; omega
        simp only [slices_IndexFunc__all_1_step, slices_IndexFunc__all_1_1, List.length_map, ltB hlt, le0, Bool.and_self, cond_true, Int.toNat_natCast, List.getE hlt, Option.bind_some, plan_all_1, e1, e2, cond_false, wS (show k < 9223372036854775807 by omega)]
      · rw [h2, decide_eq_true h, Bool.true_and]
    · refine ⟨k, .done ?_, ?_⟩
      · have e : plan_all_1 l[k] lo hi = some true := by
          unfold plan_all_1
          by_cases h1 : l[k] < lo
          · rw [decide_eq_true h1]; rfl
          · have h2 : l[k] > hi := by omega
            rw [decide_eq_false h1, decide_eq_true h2]; rfl
        simp only [slices_IndexFunc__all_1_step, slices_IndexFunc__all_1_1, List.length_map, ltB hlt, le0, Bool.and_self, cond_true, Int.toNat_natCast, List.getE hlt, Option.bind_some, e]
      · rw [decide_eq_false h, Bool.false_and]; simp
theorem all_ok (lo hi : Int) {l : List Int} (hl : l.length < 9223372036854775807) : plan_all lo hi l = some (btw lo hi l) := by
  obtain ⟨r, h1, h2⟩ := ix_loop l lo hi hl l.length 0 (by omega)
  have h3 : slices_IndexFunc__all_1 l lo hi = some r := evf_of (.next (s' := .s1 l lo hi l.length 0) (by simp [slices_IndexFunc__all_1_step, slices_IndexFunc__all_1_0]) h1)
  simp only [plan_all, slices_ContainsFunc__all_1, h3, Option.bind_some, h2]
  simp
theorem ix_v2_loop (l : List Int) (lo hi : Int) (hl : l.length < 9223372036854775807) : ∀ (j k : Nat), k + j = l.length → ∃ r : Int, Ev slices_IndexFunc__all_1_v2_step (.s1 l lo hi l.length k) r ∧ decide (r ≥ 0) = !(btw lo hi (l.drop k)) := by
  intro j
  induction j with
  | zero =>
    intro k hk
    refine ⟨-1, .done ?_, ?_⟩
    · simp [slices_IndexFunc__all_1_v2_step, slices_IndexFunc__all_1_v2_1, show ¬ (k : Int) < l.length by omega]
    · rw [List.drop_eq_nil_of_le (by omega)]; rfl
  | succ j ih =>
    intro k hk
    have hlt : k < l.length := by omega
    rw [List.drop_eq_getElem_cons hlt, btw_cons]
    by_cases h : lo ≤ l[k] ∧ l[k] ≤ hi
    · obtain ⟨r, h1, h2⟩ := ih (k + 1) (by omega)
      refine ⟨r, .next (s' := .s1 l lo hi l.length ((k + 1 : Nat) : Int)) ?_ h1, ?_⟩
      · have e1 : decide (l[k] < lo) = false := by simp; omega
        have e2 : decide (l[k] > hi) = false := by simp; omega
        simp only [slices_IndexFunc__all_1_v2_step, slices_IndexFunc__all_1_v2_1, List.length_map, ltB hlt, le0, Bool.and_self, cond_true, Int.toNat_natCast, List.getE hlt, Option.bind_some, plan_all_1_v2, e1, e2, cond_false, wS (show k < 9223372036854775807 by omega)]
      · rw [h2, decide_eq_true h, Bool.true_and]
    · refine ⟨k, .done ?_, ?_⟩
      · have e : plan_all_1_v2 l[k] lo hi = some true := by
          unfold plan_all_1_v2
          by_cases h1 : l[k] < lo
          · rw [decide_eq_true h1]; rfl
          · have h2 : l[k] > hi := by omega
            rw [decide_eq_false h1, decide_eq_true h2]; rfl
        simp only [slices_IndexFunc__all_1_v2_step, slices_IndexFunc__all_1_v2_1, List.length_map, ltB hlt, le0, Bool.and_self, cond_true, Int.toNat_natCast, List.getE hlt, Option.bind_some, e]
      · rw [decide_eq_false h, Bool.false_and]; simp
theorem all_v2_ok (lo hi : Int) {l : List Int} (hl : l.length < 9223372036854775807) : plan_all_v2 lo hi l = some (btw lo hi l) := by
  obtain ⟨r, h1, h2⟩ := ix_v2_loop l lo hi hl l.length 0 (by omega)
  have h3 : slices_IndexFunc__all_1_v2 l lo hi = some r := evf_of (.next (s' := .s1 l lo hi l.length 0) (by simp [slices_IndexFunc__all_1_v2_step, slices_IndexFunc__all_1_v2_0]) h1)
  simp only [plan_all_v2, slices_ContainsFunc__all_1_v2, h3, Option.bind_some, h2]
  simp
theorem eq_loop (a b : List Int) (hl : a.length < 9223372036854775807) (hab : a.length = b.length) : ∀ (j k : Nat), k + j = a.length → Ev slices_Equal_step (.s1 a b a.length k) (decide (a.drop k = b.drop k)) := by
  intro j
  induction j with
  | zero =>
    intro k hk
    refine .done ?_
    rw [List.drop_eq_nil_of_le (by omega), List.drop_eq_nil_of_le (by omega)]
    simp [slices_Equal_step, slices_Equal_1, show ¬ (k : Int) < a.length by omega]
  | succ j ih =>
    intro k hk
    have h1 : k < a.length := by omega
    have h2 : k < b.length := by omega
    rw [List.drop_eq_getElem_cons h1, List.drop_eq_getElem_cons h2]
    by_cases h : a[k] = b[k]
    · refine .next (s' := .s1 a b a.length ((k + 1 : Nat) : Int)) ?_ ?_
      · have e : (a[k] != b[k]) = false := by simp [h]
        simp only [slices_Equal_step, slices_Equal_1, List.length_map, ltB h1, ltB h2, le0, Bool.and_self, cond_true, Int.toNat_natCast, List.getE h1, List.getE h2, Option.bind_some, e, cond_false, wS (show k < 9223372036854775807 by omega)]
      · rw [show (decide (a[k] :: a.drop (k + 1) = b[k] :: b.drop (k + 1))) = decide (a.drop (k + 1) = b.drop (k + 1)) by simp only [h, List.cons.injEq, true_and]]
        exact ih (k + 1) (by omega)
    · refine .done ?_
      have e : (a[k] != b[k]) = true := by simp [h]
      simp only [slices_Equal_step, slices_Equal_1, List.length_map, ltB h1, ltB h2, le0, Bool.and_self, cond_true, Int.toNat_natCast, List.getE h1, List.getE h2, Option.bind_some, e]
      rw [show (decide (a[k] :: a.drop (k + 1) = b[k] :: b.drop (k + 1))) = false by simp only [h, List.cons.injEq, false_and, decide_false]]
theorem equal_ok {a b : List Int} (hl : a.length < 9223372036854775807) : slices_Equal a b = some (decide (a = b)) := by
  by_cases hab : a.length = b.length
  · refine evf_of (.next (s' := .s1 a b a.length 0) (by simp [slices_Equal_step, slices_Equal_0, hab]) ?_)
    simpa using eq_loop a b hl hab a.length 0 (by omega)
  · refine evf_of (.done ?_)
    have e : (((a.length : Nat) : Int) != ((b.length : Nat) : Int)) = true := by simp; omega
    have hne : a ≠ b := fun h => hab (by rw [h])
    simp [slices_Equal_step, slices_Equal_0, e, hne]
theorem eq_v2_loop (a b : List Int) (hl : a.length < 9223372036854775807) (hab : a.length = b.length) : ∀ (j k : Nat), k + j = a.length → Ev slices_Equal_v2_step (.s1 a b a.length k) (decide (a.drop k = b.drop k)) := by
  intro j
  induction j with
  | zero =>
    intro k hk
    refine .done ?_
    rw [List.drop_eq_nil_of_le (by omega), List.drop_eq_nil_of_le (by omega)]
    simp [slices_Equal_v2_step, slices_Equal_v2_1, show ¬ (k : Int) < a.length by omega]
  | succ j ih =>
    intro k hk
    have h1 : k < a.length := by omega
    have h2 : k < b.length := by omega
    rw [List.drop_eq_getElem_cons h1, List.drop_eq_getElem_cons h2]
    by_cases h : a[k] = b[k]
    · refine .next (s' := .s1 a b a.length ((k + 1 : Nat) : Int)) ?_ ?_
      · have e : (a[k] != b[k]) = false := by simp [h]
        simp only [slices_Equal_v2_step, slices_Equal_v2_1, List.length_map, ltB h1, ltB h2, le0, Bool.and_self, cond_true, Int.toNat_natCast, List.getE h1, List.getE h2, Option.bind_some, e, cond_false, wS (show k < 9223372036854775807 by omega)]
      · rw [show (decide (a[k] :: a.drop (k + 1) = b[k] :: b.drop (k + 1))) = decide (a.drop (k + 1) = b.drop (k + 1)) by simp only [h, List.cons.injEq, true_and]]
        exact ih (k + 1) (by omega)
    · refine .done ?_
      have e : (a[k] != b[k]) = true := by simp [h]
      simp only [slices_Equal_v2_step, slices_Equal_v2_1, List.length_map, ltB h1, ltB h2, le0, Bool.and_self, cond_true, Int.toNat_natCast, List.getE h1, List.getE h2, Option.bind_some, e]
      rw [show (decide (a[k] :: a.drop (k + 1) = b[k] :: b.drop (k + 1))) = false by simp only [h, List.cons.injEq, false_and, decide_false]]
theorem equal_v2_ok {a b : List Int} (hl : a.length < 9223372036854775807) : slices_Equal_v2 a b = some (decide (a = b)) := by
  by_cases hab : a.length = b.length
  · refine evf_of (.next (s' := .s1 a b a.length 0) (by simp [slices_Equal_v2_step, slices_Equal_v2_0, hab]) ?_)
    simpa using eq_v2_loop a b hl hab a.length 0 (by omega)
  · refine evf_of (.done ?_)
    have e : (((a.length : Nat) : Int) != ((b.length : Nat) : Int)) = true := by simp; omega
    have hne : a ≠ b := fun h => hab (by rw [h])
    simp [slices_Equal_v2_step, slices_Equal_v2_0, e, hne]
def srtB (l : List Int) (n : Nat) : Bool := (List.range n).all fun i => decide (l.getD i 0 ≤ l.getD (i + 1) 0)
def srt (l : List Int) : Bool := srtB l (l.length - 1)
theorem srtB_succ (l : List Int) (n : Nat) : srtB l (n + 1) = (srtB l n && decide (l.getD n 0 ≤ l.getD (n + 1) 0)) := by
  simp [srtB, List.range_succ, Bool.and_comm]
theorem sorted_loop (l : List Int) (hl : l.length < 9223372036854775807) : ∀ (i : Nat), i < l.length ∨ i = 0 → Ev slices_IsSorted_step (.s1 l i) (srtB l i)
  | 0, _ => .done (by simp [slices_IsSorted_step, slices_IsSorted_1, srtB])
  | i + 1, h => by
    have h1 : i + 1 < l.length := by omega
    have h0 : i < l.length := by omega
    have e0 : decide (((i + 1 : Nat) : Int) > 0) = true := decide_eq_true (by omega)
    have e1 : IntKind.i64.wrap (((i + 1 : Nat) : Int) - 1) = (i : Int) := by rw [wI64 (by omega) (by omega)]; omega
    have less : ∀ x y : Int, cmp_Less x y = some (decide (x < y)) := fun x y => by
      simp only [cmp_Less, cmp_isNaN, Option.bind_some]
      simp
    rw [srtB_succ]
    have g1 : l.getD i 0 = l[i] := by simp [h0]
    have g2 : l.getD (i + 1) 0 = l[i + 1] := by simp [h1]
    rw [g1, g2]
    by_cases hle : l[i] ≤ l[i + 1]
    · rw [decide_eq_true hle, Bool.and_true]
      refine .next (s' := .s1 l i) ?_ (sorted_loop l hl i (.inl h0))
      have e2 : decide (l[i + 1] < l[i]) = false := by simp; omega
      simp only [slices_IsSorted_step, slices_IsSorted_1, List.length_map, e0, e1, ltB h0, ltB h1, le0, Bool.and_self, cond_true, Int.toNat_natCast, List.getE h0, List.getE h1, Option.bind_some, less, e2, cond_false]
    · rw [decide_eq_false hle, Bool.and_false]
      refine .done ?_
      have e2 : decide (l[i + 1] < l[i]) = true := by simp; omega
      simp only [slices_IsSorted_step, slices_IsSorted_1, List.length_map, e0, e1, ltB h0, ltB h1, le0, Bool.and_self, cond_true, Int.toNat_natCast, List.getE h0, List.getE h1, Option.bind_some, less, e2]
theorem sorted_ok {l : List Int} (hl : l.length < 9223372036854775807) : slices_IsSorted l = some (srt l) := by
  by_cases h0 : l.length = 0
  · have : l = [] := List.eq_nil_of_length_eq_zero h0
    subst this
    refine evf_of (.next (s' := .s1 [] (-1)) (by simp [slices_IsSorted_step, slices_IsSorted_0]; rfl) (.done (by simp [slices_IsSorted_step, slices_IsSorted_1, srt, srtB])))
  · refine evf_of (.next (s' := .s1 l ((l.length - 1 : Nat) : Int)) ?_ (sorted_loop l hl (l.length - 1) (.inl (by omega))))
    have : IntKind.i64.wrap ((l.length : Int) - 1) = ((l.length - 1 : Nat) : Int) := by rw [wI64 (by omega) (by omega)]; omega
    simp [slices_IsSorted_step, slices_IsSorted_0, this]
/-! ### right -/
def right0 (p : Plan) : Bool := decide (0 ≤ p.Epoch) && (btw (-1) 15 [p.Target, p.Prev, p.Spill] && btw 0 100 [p.Percent])
def right1 (p : Plan) : Bool := btw 0 1099511627776 [p.Stamp, p.Since, p.Ramped] && (decide (p.Up ≤ 65535) && decide (p.Sup ≤ 65535))
def right2 (p : Plan) : Bool := decide (p.Pen.length ≤ 16) && decide (p.Changes.length ≤ 8)
def right3 (p : Plan) : Bool := btw 0 1000000 p.Pen && (btw 0 1099511627776 p.Changes && srt p.Changes)
def rightP (p : Plan) : Bool := right0 p && (right1 p && (right2 p && right3 p))
structure Rt (p : Plan) : Prop where
  epoch : 0 ≤ p.Epoch
  tps : ∀ x ∈ [p.Target, p.Prev, p.Spill], -1 ≤ x ∧ x ≤ 15
  pc : 0 ≤ p.Percent ∧ p.Percent ≤ 100
  times : ∀ x ∈ [p.Stamp, p.Since, p.Ramped], 0 ≤ x ∧ x ≤ 1099511627776
  up : p.Up ≤ 65535
  sup : p.Sup ≤ 65535
  penl : p.Pen.length ≤ 16
  chl : p.Changes.length ≤ 8
  pen : ∀ x ∈ p.Pen, 0 ≤ x ∧ x ≤ 1000000
  ch : ∀ x ∈ p.Changes, 0 ≤ x ∧ x ≤ 1099511627776
  srt : srt p.Changes = true
theorem rightP_iff {p : Plan} : rightP p = true ↔ Rt p := by
  constructor
  · intro h
    simp only [rightP, right0, right1, right2, right3, Bool.and_eq_true, decide_eq_true_eq, btw_iff] at h
    obtain ⟨⟨a1, a2, a3⟩, ⟨b1, b2, b3⟩, ⟨c1, c2⟩, d1, d2, d3⟩ := h
    exact ⟨a1, a2, a3 _ (by simp), b1, b2, b3, c1, c2, d1, d2, d3⟩
  · rintro ⟨a1, a2, a3, b1, b2, b3, c1, c2, d1, d2, d3⟩
    simp only [rightP, right0, right1, right2, right3, Bool.and_eq_true, decide_eq_true_eq, btw_iff]
    exact ⟨⟨a1, a2, fun x hx => by simp at hx; subst hx; exact a3⟩, ⟨b1, b2, b3⟩, ⟨c1, c2⟩, d1, d2, d3⟩
/-- Short enough. -/
structure Shrt (a : Plan) : Prop where
  pen : a.Pen.length < 9223372036854775807
  ch : a.Changes.length < 9223372036854775807
theorem short {l : List Int} (h : l.length * 8 ≤ reachBytes) : l.length < 9223372036854775807 := by
  have : reachBytes ≤ 9223372036854775807 := by decide
  omega
theorem Plan.Ok.shrt {a : Plan} (h : a.Ok) : Shrt a := by
  obtain ⟨-, -, -, -, -, -, -, -, -, -, h1, h2⟩ := h
  exact ⟨short h1.1, short h2.1⟩
theorem Rt.shrt {p : Plan} (h : Rt p) : Shrt p := ⟨by have := h.penl; omega, by have := h.chl; omega⟩
theorem right_ok {p : Plan} (hs : Shrt p) (hu : 0 ≤ p.Up) (hv : 0 ≤ p.Sup) : plan_Right p = some (rightP p) := by
  have k1 : plan_Right_1 false p = some (right3 p) := by
    simp only [plan_Right_1, cond_false, all_v2_ok 0 1000000 hs.pen, all_ok 0 1099511627776 hs.ch, sorted_ok hs.ch, Option.bind_some, right3]
    cases btw 0 1000000 p.Pen <;> cases btw 0 1099511627776 p.Changes <;> cases srt p.Changes <;> rfl
  have k2 : plan_Right_2 false p = some (right2 p && right3 p) := by
    simp only [plan_Right_2, cond_false, List.length_map, right2]
    by_cases h1 : p.Pen.length ≤ 16
    · have e1 : decide (((p.Pen.length : Nat) : Int) > 16) = false := by simp; omega
      rw [e1, decide_eq_true h1]
      by_cases h2 : p.Changes.length ≤ 8
      · have e2 : decide (((p.Changes.length : Nat) : Int) > 8) = false := by simp; omega
        rw [e2, decide_eq_true h2, cond_false, k1]; rfl
      · have e2 : decide (((p.Changes.length : Nat) : Int) > 8) = true := by simp; omega
        rw [e2, decide_eq_false h2]; rfl
    · have e1 : decide (((p.Pen.length : Nat) : Int) > 16) = true := by simp; omega
      rw [e1, decide_eq_false h1]; rfl
  have k3 : plan_Right_3 false p = some (right1 p && (right2 p && right3 p)) := by
    simp only [plan_Right_3, cond_false, all_ok 0 1099511627776 (l := [p.Stamp, p.Since, p.Ramped]) (by simp), Option.bind_some, right1]
    cases hb : btw 0 1099511627776 [p.Stamp, p.Since, p.Ramped] with
    | false => rfl
    | true =>
      have e : decide (mxI p.Up p.Sup ≥ 65536) = !(decide (p.Up ≤ 65535) && decide (p.Sup ≤ 65535)) := by
        unfold mxI
        by_cases h1 : p.Up ≤ 65535 <;> by_cases h2 : p.Sup ≤ 65535 <;> simp [h1, h2] <;> split <;> omega
      simp only [Bool.not_true, cond_false, e]
      cases (decide (p.Up ≤ 65535) && decide (p.Sup ≤ 65535)) with
      | false => rfl
      | true => simp only [Bool.not_true, k2]; rfl
  simp only [plan_Right, rightP, right0]
  by_cases h0 : p.Epoch < 0
  · rw [decide_eq_true h0, decide_eq_false (by omega : ¬ 0 ≤ p.Epoch)]; rfl
  · rw [decide_eq_false h0, decide_eq_true (by omega : 0 ≤ p.Epoch)]
    simp only [cond_false, all_v2_ok (-1) 15 (l := [p.Target, p.Prev, p.Spill]) (by simp), all_v2_ok 0 100 (l := [p.Percent]) (by simp), Option.bind_some]
    cases btw (-1) 15 [p.Target, p.Prev, p.Spill] with
    | false => rfl
    | true =>
      cases btw 0 100 [p.Percent] with
      | false => rfl
      | true => simp only [Bool.not_true, cond_false, k3]; rfl
end Go.RX.L

namespace Go.RX.L
open Go Go.RX
/-- A plan of words. -/
structure Fine (p : Plan) : Prop where
  e : inK .i64 p.Epoch
  up : 0 ≤ p.Up
  sup : 0 ≤ p.Sup
  s : Shrt p
theorem Plan.Ok.fine {p : Plan} (h : p.Ok) : Fine p := by
  have hs := h.shrt
  obtain ⟨a, -, -, -, -, -, -, -, b, c, -, -⟩ := h
  exact ⟨a, (inU64.1 b).1, (inU64.1 c).1, hs⟩
def nums (p : Plan) : List Int := [p.Epoch, p.Target, p.Prev, p.Spill, p.Percent, p.Stamp, p.Since, p.Ramped, p.Up, p.Sup]
def encP (p : Plan) : List Int := encL (nums p) ++ (encL p.Pen ++ encL p.Changes)
theorem nums_in {p : Plan} (hf : Fine p) (h : Rt p) : I64s (nums p) := by
  have t1 := h.tps p.Target (by simp)
  have t2 := h.tps p.Prev (by simp)
  have t3 := h.tps p.Spill (by simp)
  have u1 := h.times p.Stamp (by simp)
  have u2 := h.times p.Since (by simp)
  have u3 := h.times p.Ramped (by simp)
  have v1 := h.up
  have v2 := h.sup
  have v3 := hf.up
  have v4 := hf.sup
  have pc := h.pc
  intro x hx
  simp only [nums, List.mem_cons, List.not_mem_nil, or_false] at hx
  rcases hx with rfl | rfl | rfl | rfl | rfl | rfl | rfl | rfl | rfl | rfl
  · exact hf.e
  all_goals exact inI64.2 (by omega)
theorem pen_in {p : Plan} (h : Rt p) : I64s p.Pen := fun x hx => inI64.2 (by have := h.pen x hx; omega)
theorem ch_in {p : Plan} (h : Rt p) : I64s p.Changes := fun x hx => inI64.2 (by have := h.ch x hx; omega)
theorem encP_bytes (p : Plan) : Bytes (encP p) := fun c hc => by
  rcases List.mem_append.1 hc with h | h
  · exact encL_bytes _ c h
  · rcases List.mem_append.1 h with h | h <;> exact encL_bytes _ c h
theorem encP_len {p : Plan} (hf : Fine p) (h : Rt p) : (encP p).length ≤ 1950 := by
  have h1 := encL_len (nums_in hf h) (by simp [nums])
  have h2 := encL_len (pen_in h) (by have := h.penl; omega)
  have h3 := encL_len (ch_in h) (by have := h.chl; omega)
  simp only [encP, List.length_append]; omega
/-! ### written -/
def putP (p : Plan) : List Int × Int := if rightP p = true then (encP p, 0) else ([], 41)
theorem put_s2 {l0 l1 l2 : List Int} (h0 : I64s l0) (h1 : I64s l1) (h2 : I64s l2) (k0 : l0.length ≤ 64) (k1 : l1.length ≤ 64) (k2 : l2.length ≤ 64) : Ev plan_Put_step (.s2 0 [] [l0, l1, l2]) (encL l0 ++ (encL l1 ++ encL l2), 0) := by
  have n0 := encL_len h0 k0
  have n1 := encL_len h1 k1
  have n2 := encL_len h2 k2
  refine .next (s' := .s2 1 (encL l0) [l0, l1, l2]) ?_ (.next (s' := .s2 2 (encL l0 ++ encL l1) [l0, l1, l2]) ?_ (.next (s' := .s2 3 (encL l0 ++ encL l1 ++ encL l2) [l0, l1, l2]) ?_ (.done ?_)))
  · have hl : decide (((List.map (eInt .u8) ([] : List Int)).length + (List.map (eInt .u8) (encL l0)).length) * 1 ≤ bytesLim) = true := limOk (by simp; omega)
    simp only [plan_Put_step, plan_Put_2, take_full]
    simp only [show (0 + (0 : Int).toNat) = 0 from rfl, List.getElem?_cons_zero, Option.bind_some, putInts_ok h0 k0, hl]
    rfl
  · have hl : decide (((List.map (eInt .u8) (encL l0)).length + (List.map (eInt .u8) (encL l1)).length) * 1 ≤ bytesLim) = true := limOk (by simp; omega)
    simp only [plan_Put_step, plan_Put_2, take_full]
    simp only [show (0 + (1 : Int).toNat) = 1 from rfl, List.getElem?_cons_succ, List.getElem?_cons_zero, Option.bind_some, putInts_ok h1 k1, hl]
    rfl
  · have hl : decide (((List.map (eInt .u8) (encL l0 ++ encL l1)).length + (List.map (eInt .u8) (encL l2)).length) * 1 ≤ bytesLim) = true := limOk (by simp; omega)
    simp only [plan_Put_step, plan_Put_2, take_full]
    simp only [show (0 + (2 : Int).toNat) = 2 from rfl, List.getElem?_cons_succ, List.getElem?_cons_zero, Option.bind_some, putInts_ok h2 k2, hl]
    rfl
  · rw [List.append_assoc]; rfl
theorem put_s1 {p : Plan} (hf : Fine p) (h : Rt p) : ∀ (j k : Nat), k + j = p.Pen.length → Ev plan_Put_step (.s1 p.Pen p.Pen.length k p (p.Pen.take k)) (encP p, 0) := by
  intro j
  have hpl := h.penl
  induction j with
  | zero =>
    intro k hk
    have hup := h.up
    have hsup := h.sup
    have e1 : IntKind.i64.wrap p.Up = p.Up := wI64 (by have := hf.up; omega) (by omega)
    have e2 : IntKind.i64.wrap p.Sup = p.Sup := wI64 (by have := hf.sup; omega) (by omega)
    rw [List.take_of_length_le (by omega)]
    refine .next (s' := .s2 0 [] [nums p, p.Pen, p.Changes]) ?_ (put_s2 (nums_in hf h) (pen_in h) (ch_in h) (by simp [nums]) (by omega) (by have := h.chl; omega))
    simp only [plan_Put_step, plan_Put_1, geB (show p.Pen.length ≤ k by omega), cond_false, plan_numbers, Option.bind_some, e1, e2, nums]
  | succ j ih =>
    intro k hk
    have hlt : k < p.Pen.length := by omega
    refine .next (s' := .s1 p.Pen p.Pen.length ((k + 1 : Nat) : Int) p (p.Pen.take (k + 1))) ?_ (ih (k + 1) (by omega))
    have hl : decide (((List.map (eInt .i64) (p.Pen.take k)).length + 1) * 8 ≤ bytesLim) = true := limOk (by simp; omega)
    simp only [plan_Put_step, plan_Put_1, ltB hlt, cond_true, List.length_map] at hl ⊢
    simp only [ltB hlt, le0, Bool.and_self, cond_true, Int.toNat_natCast, List.getE hlt, Option.bind_some, hl, wS (show k < 9223372036854775807 by omega), take_snoc hlt]
theorem put_ok {p : Plan} (hf : Fine p) : plan_Put p = some (putP p) := by
  unfold putP
  by_cases hr : rightP p = true
  · rw [if_pos hr]
    refine evf_of (.next (s' := .s1 p.Pen p.Pen.length 0 p []) ?_ (put_s1 hf (rightP_iff.1 hr) p.Pen.length 0 (by omega)))
    simp only [plan_Put_step, plan_Put_0, right_ok hf.s hf.up hf.sup, hr, Option.bind_some, List.length_map]
    rfl
  · rw [if_neg hr]
    refine evf_of (.done ?_)
    simp only [plan_Put_step, plan_Put_0, right_ok hf.s hf.up hf.sup, Option.bind_some]
    rw [Bool.eq_false_iff.2 hr]; rfl
/-! ### read -/
def zeroPl : Plan := ⟨0, 0, 0, 0, 0, 0, 0, 0, 0, 0, [], []⟩
def parse3 (b : List Int) : Option (List Int × List Int × List Int) := match pL b with
  | .inl _ => none
  | .inr (l, k1) => (match pL (b.drop k1) with
    | .inl _ => none
    | .inr (pen, k2) => (match pL (b.drop (k1 + k2)) with
      | .inl _ => none
      | .inr (ch, k3) => if k1 + k2 + k3 = b.length then some (l, pen, ch) else none))
def planOf (l pen ch : List Int) : Plan := ⟨l.getD 0 0, l.getD 1 0, l.getD 2 0, l.getD 3 0, l.getD 4 0, l.getD 5 0, l.getD 6 0, l.getD 7 0, l.getD 8 0, l.getD 9 0, pen, ch⟩
def okOf (l pen ch : List Int) : Bool := decide (l.length = 10) && (decide (0 ≤ l.getD 8 0) && (decide (0 ≤ l.getD 9 0) && rightP (planOf l pen ch)))
def getP (b : List Int) : Plan × Int := match parse3 b with
  | none => (zeroPl, 41)
  | some (l, pen, ch) => if okOf l pen ch = true then (planOf l pen ch, 0) else (zeroPl, 41)
theorem parse3_enc {p : Plan} (hf : Fine p) (h : Rt p) : parse3 (encP p) = some (nums p, p.Pen, p.Changes) := by
  have h1 := pL_enc (nums_in hf h) (by simp [nums]) (encL p.Pen ++ encL p.Changes)
  have h2 := pL_enc (pen_in h) (by have := h.penl; omega) (encL p.Changes)
  have h3 := pL_enc (ch_in h) (by have := h.chl; omega) []
  rw [List.append_nil] at h3
  unfold parse3 encP
  rw [h1]
  simp only [List.drop_left]
  rw [h2]
  have e : (encL (nums p) ++ (encL p.Pen ++ encL p.Changes)).drop ((encL (nums p)).length + (encL p.Pen).length) = encL p.Changes := by
    rw [← List.drop_drop, List.drop_left, List.drop_left]
  simp only [e]
  rw [h3]
  simp [Nat.add_assoc]
theorem planOf_nums (p : Plan) : planOf (nums p) p.Pen p.Changes = p := rfl
theorem getP_enc {p : Plan} (hf : Fine p) (h : rightP p = true) : getP (encP p) = (p, 0) := by
  unfold getP
  rw [parse3_enc hf (rightP_iff.1 h)]
  have hk : okOf (nums p) p.Pen p.Changes = true := by
    simp only [okOf, planOf_nums, h, Bool.and_true, Bool.and_eq_true, decide_eq_true_eq]
    exact ⟨rfl, hf.up, hf.sup⟩
  simp only [hk, if_true, planOf_nums]
theorem parse3_dec {b l pen ch : List Int} (hb : Bytes b) (h : parse3 b = some (l, pen, ch)) : encL l ++ (encL pen ++ encL ch) = b ∧ I64s l ∧ I64s pen ∧ I64s ch ∧ l.length ≤ 64 ∧ pen.length ≤ 64 ∧ ch.length ≤ 64 := by
  unfold parse3 at h
  split at h
  · cases h
  · rename_i l' k1 h1
    split at h
    · cases h
    · rename_i pen' k2 h2
      split at h
      · cases h
      · rename_i ch' k3 h3
        split at h
        · rename_i hk
          simp only [Option.some.injEq, Prod.mk.injEq] at h
          obtain ⟨rfl, rfl, rfl⟩ := h
          obtain ⟨a1, a2, a3, a4, a5⟩ := pL_dec hb h1
          obtain ⟨b1, b2, b3, b4, b5⟩ := pL_dec (fun c hc => hb c (List.mem_of_mem_drop hc)) h2
          obtain ⟨c1, c2, c3, c4, c5⟩ := pL_dec (fun c hc => hb c (List.mem_of_mem_drop hc)) h3
          refine ⟨?_, a5, b5, c5, a4, b4, c4⟩
          rw [← a1, ← b1, ← c1]
          have e1 : List.take k3 (List.drop (k1 + k2) b) = List.drop (k1 + k2) b := List.take_of_length_le (by rw [List.length_drop]; omega)
          rw [e1, ← List.drop_drop, List.take_append_drop, List.take_append_drop]
        · cases h
theorem nums_planOf {l : List Int} (h : l.length = 10) (pen ch : List Int) : nums (planOf l pen ch) = l := by
  match l, h with
  | [_, _, _, _, _, _, _, _, _, _], _ => rfl
theorem getP_dec {b : List Int} (hb : Bytes b) {p : Plan} (h : getP b = (p, 0)) : rightP p = true ∧ Fine p ∧ encP p = b := by
  unfold getP at h
  split at h
  · cases h
  · rename_i l pen ch hp
    split at h
    · rename_i hk
      simp only [Prod.mk.injEq, and_true] at h
      subst h
      obtain ⟨h1, h2, h3, h4, h5, h6, h7⟩ := parse3_dec hb hp
      simp only [okOf, Bool.and_eq_true, decide_eq_true_eq] at hk
      obtain ⟨k1, k2, k3, k4⟩ := hk
      have hlen0 : 0 < l.length := by omega
      refine ⟨k4, ⟨?_, k2, k3, ⟨by show pen.length < _; omega, by show ch.length < _; omega⟩⟩, ?_⟩
      · show inK .i64 (l.getD 0 0)
        have : l.getD 0 0 = l[0] := by simp [hlen0]
        rw [this]; exact h2 _ (List.getElem_mem hlen0)
      · unfold encP
        rw [nums_planOf k1]
        exact h1
    · cases h
theorem rL_le {b : List Int} (hb : Bytes b) {at_ : Nat} {xs : List Int} {k : Nat} (h : pL (b.drop at_) = .inr (xs, k)) : k ≤ b.length - at_ := by
  have := (pL_dec (fun c hc => hb c (List.mem_of_mem_drop hc)) h).2.1
  rwa [List.length_drop] at this
theorem pL_err {l : List Int} {e : Int} (h : pL l = .inl e) : (e != 0) = true := by
  unfold pL at h
  split at h
  · rename_i e' he
    obtain rfl := Sum.inl.inj h
    exact err_ne he
  · split at h
    · obtain rfl := Sum.inl.inj h; rfl
    · split at h
      · rename_i n k hn hno e' hN
        obtain rfl := Sum.inl.inj h
        have key : ∀ (n : Nat) (l : List Int) (e : Int), pN n l = .inl e → (e != 0) = true := by
          intro n
          induction n with
          | zero => intro l e h; simp [pN] at h
          | succ n ih =>
            intro l e h
            simp only [pN] at h
            split at h
            · rename_i e' he
              obtain rfl := Sum.inl.inj h
              exact err_ne he
            · split at h
              · rename_i e' he
                obtain rfl := Sum.inl.inj h
                exact ih _ _ he
              · cases h
        exact key _ _ _ hN
      · cases h
theorem get_s3 {pen ch : List Int} {a0 a1 a2 a3 a4 a5 a6 a7 a8 a9 : Int} {z : Plan} (h8 : 0 ≤ a8) (h9 : 0 ≤ a9) (hp : pen.length ≤ 64) (hc : ch.length ≤ 64) : ∀ (j k : Nat), k + j = pen.length →
    Ev plan_Get_step (.s3 pen pen.length k z a0 a1 a2 a3 a4 a5 a6 a7 a8 a9 ch (pen.take k)) (if rightP ⟨a0, a1, a2, a3, a4, a5, a6, a7, a8, a9, pen, ch⟩ = true then (⟨a0, a1, a2, a3, a4, a5, a6, a7, a8, a9, pen, ch⟩, 0) else (zeroPl, 41)) := by
  intro j
  induction j with
  | zero =>
    intro k hk
    rw [List.take_of_length_le (by omega)]
    refine .done ?_
    have hr := right_ok (p := ⟨a0, a1, a2, a3, a4, a5, a6, a7, a8, a9, pen, ch⟩) ⟨by show pen.length < _; omega, by show ch.length < _; omega⟩ h8 h9
    simp only [plan_Get_step, plan_Get_3, geB (show pen.length ≤ k by omega), cond_false, hr, Option.bind_some]
    cases rightP ⟨a0, a1, a2, a3, a4, a5, a6, a7, a8, a9, pen, ch⟩ <;> rfl
  | succ j ih =>
    intro k hk
    have hlt : k < pen.length := by omega
    refine .next (s' := .s3 pen pen.length ((k + 1 : Nat) : Int) z a0 a1 a2 a3 a4 a5 a6 a7 a8 a9 ch (pen.take (k + 1))) ?_ (ih (k + 1) (by omega))
    have hl : decide (((List.map (eInt .i64) (pen.take k)).length + 1) * 8 ≤ bytesLim) = true := limOk (by simp; omega)
    simp only [plan_Get_step, plan_Get_3, List.length_map] at hl ⊢
    simp only [ltB hlt, le0, Bool.and_self, cond_true, Int.toNat_natCast, List.getE hlt, Option.bind_some, hl, wS (show k < 9223372036854775807 by omega), take_snoc hlt]
theorem get_s1 {b l pen ch : List Int} {at_ : Nat} {z : Plan} (hl64 : l.length ≤ 64) (hp : pen.length ≤ 64) (hc : ch.length ≤ 64) :
    Ev plan_Get_step (.s1 b at_ 3 z [l, pen, ch]) (if at_ = b.length ∧ okOf l pen ch = true then (planOf l pen ch, 0) else (zeroPl, 41)) := by
  have bad : Ev plan_Get_step (.s2 l true z [l, pen, ch]) (zeroPl, 41) := .done rfl
  by_cases hat : at_ = b.length
  · have e1 : ((at_ : Int) != ((b.length : Nat) : Int)) = false := by simp [hat]
    by_cases h10 : l.length = 10
    · match l, h10 with
      | [a0, a1, a2, a3, a4, a5, a6, a7, a8, a9], _ =>
        have c1 := all_ok (-1) 1048576 (l := [a1, a2, a3, a4]) (by simp)
        have c2 := all_ok 0 1048576 (l := [a8, a9]) (by simp)
        have c3 := all_ok 0 1000000 (l := pen) (by omega)
        have key : plan_Get_step (.s1 b at_ 3 z [[a0, a1, a2, a3, a4, a5, a6, a7, a8, a9], pen, ch]) = some (.inl (.s2 [a0, a1, a2, a3, a4, a5, a6, a7, a8, a9] (!(btw (-1) 1048576 [a1, a2, a3, a4] && (btw 0 1048576 [a8, a9] && btw 0 1000000 pen))) z [[a0, a1, a2, a3, a4, a5, a6, a7, a8, a9], pen, ch])) := by
          simp only [plan_Get_step, plan_Get_1, List.length_map, e1]
          simp only [List.getElem?_cons_zero, List.getElem?_cons_succ, Option.bind_some, show decide ((3 : Int) < 3) = false from rfl, cond_false, List.length_cons, List.length_nil]
          simp only [show ((((0 + 1 + 1 + 1 + 1 + 1 + 1 + 1 + 1 + 1 + 1 : Nat) : Int)) != 10) = false from rfl, cond_false]
          simp only [show decide ((1 : Int) < ((0 + 1 + 1 + 1 + 1 + 1 + 1 + 1 + 1 + 1 + 1 : Nat) : Int)) = true from rfl, show decide ((2 : Int) < ((0 + 1 + 1 + 1 + 1 + 1 + 1 + 1 + 1 + 1 + 1 : Nat) : Int)) = true from rfl, show decide ((3 : Int) < ((0 + 1 + 1 + 1 + 1 + 1 + 1 + 1 + 1 + 1 + 1 : Nat) : Int)) = true from rfl, show decide ((4 : Int) < ((0 + 1 + 1 + 1 + 1 + 1 + 1 + 1 + 1 + 1 + 1 : Nat) : Int)) = true from rfl, show decide ((8 : Int) ≤ ((0 + 1 + 1 + 1 + 1 + 1 + 1 + 1 + 1 + 1 + 1 : Nat) : Int)) = true from rfl, cond_true, c1, Option.bind_some]
          rw [show List.drop 8 (List.take (0 + 1 + 1 + 1 + 1 + 1 + 1 + 1 + 1 + 1 + 1) [a0, a1, a2, a3, a4, a5, a6, a7, a8, a9]) = [a8, a9] from rfl, c2, c3]
          cases btw (-1) 1048576 [a1, a2, a3, a4] with
          | false => rfl
          | true =>
            cases btw 0 1048576 [a8, a9] with
            | false => rfl
            | true => rfl
        refine .next key ?_
        by_cases hok : (btw (-1) 1048576 [a1, a2, a3, a4] && (btw 0 1048576 [a8, a9] && btw 0 1000000 pen)) = true
        · rw [hok]
          simp only [Bool.and_eq_true, btw_iff] at hok
          obtain ⟨k1, k2, k3⟩ := hok
          have b8' := k2 a8 (by simp)
          have b9' := k2 a9 (by simp)
          have w8 : IntKind.u64.wrap a8 = a8 := wU64 (by omega) (by omega)
          have w9 : IntKind.u64.wrap a9 = a9 := wU64 (by omega) (by omega)
          have h3 := get_s3 (pen := pen) (ch := ch) (a0 := a0) (a1 := a1) (a2 := a2) (a3 := a3) (a4 := a4) (a5 := a5) (a6 := a6) (a7 := a7) (z := z) b8'.1 b9'.1 hp hc pen.length 0 (by omega)
          have hres : (if at_ = b.length ∧ okOf [a0, a1, a2, a3, a4, a5, a6, a7, a8, a9] pen ch = true then (planOf [a0, a1, a2, a3, a4, a5, a6, a7, a8, a9] pen ch, (0 : Int)) else (zeroPl, 41)) = (if rightP ⟨a0, a1, a2, a3, a4, a5, a6, a7, a8, a9, pen, ch⟩ = true then (⟨a0, a1, a2, a3, a4, a5, a6, a7, a8, a9, pen, ch⟩, 0) else (zeroPl, 41)) := by
            have : okOf [a0, a1, a2, a3, a4, a5, a6, a7, a8, a9] pen ch = rightP ⟨a0, a1, a2, a3, a4, a5, a6, a7, a8, a9, pen, ch⟩ := by
              simp [okOf, planOf, b8'.1, b9'.1]
            rw [this]
            simp only [hat, true_and]
            rfl
          rw [hres]
          refine .next (s' := .s3 pen pen.length 0 z a0 a1 a2 a3 a4 a5 a6 a7 a8 a9 ch []) ?_ h3
          simp only [plan_Get_step, plan_Get_2, Bool.not_true, cond_false, List.length_map]
          simp only [List.getElem?_cons_zero, List.getElem?_cons_succ, Option.bind_some, List.length_cons, List.length_nil, w8, w9]
          rfl
        · have hf : okOf [a0, a1, a2, a3, a4, a5, a6, a7, a8, a9] pen ch = false := by
            rw [Bool.eq_false_iff]
            intro hk
            simp only [okOf, Bool.and_eq_true, decide_eq_true_eq] at hk
            obtain ⟨-, q1, q2, q3⟩ := hk
            have r := rightP_iff.1 q3
            refine hok ?_
            simp only [Bool.and_eq_true, btw_iff]
            have t1 : -1 ≤ a1 ∧ a1 ≤ 15 := r.tps a1 (by simp [planOf])
            have t2 : -1 ≤ a2 ∧ a2 ≤ 15 := r.tps a2 (by simp [planOf])
            have t3 : -1 ≤ a3 ∧ a3 ≤ 15 := r.tps a3 (by simp [planOf])
            have t4 : 0 ≤ a4 ∧ a4 ≤ 100 := r.pc
            have t5 : a8 ≤ 65535 := r.up
            have t6 : a9 ≤ 65535 := r.sup
            have q1 : 0 ≤ a8 := q1
            have q2 : 0 ≤ a9 := q2
            refine ⟨fun x hx => ?_, fun x hx => ?_, r.pen⟩
            · simp only [List.mem_cons, List.not_mem_nil, or_false] at hx
              rcases hx with rfl | rfl | rfl | rfl <;> omega
            · simp only [List.mem_cons, List.not_mem_nil, or_false] at hx
              rcases hx with rfl | rfl <;> omega
          rw [if_neg (by rw [hf]; simp), Bool.eq_false_iff.2 hok]
          exact .done rfl
    · have hf : okOf l pen ch = false := by simp [okOf, h10]
      rw [if_neg (by rw [hf]; simp)]
      have e2 : (((l.length : Nat) : Int) != 10) = true := by simp; omega
      refine .next (s' := .s2 l true z [l, pen, ch]) ?_ bad
      simp only [plan_Get_step, plan_Get_1, List.length_map, e1, cond_false]
      simp only [List.getElem?_cons_zero, Option.bind_some, show decide ((3 : Int) < 3) = false from rfl, cond_false, e2, cond_true]
  · rw [if_neg (by simp [hat])]
    have e1 : ((at_ : Int) != ((b.length : Nat) : Int)) = true := by simp; omega
    refine .next (s' := .s2 l true z [l, pen, ch]) ?_ bad
    simp only [plan_Get_step, plan_Get_1, List.length_map, e1]
    simp only [List.getElem?_cons_zero, Option.bind_some, show decide ((3 : Int) < 3) = false from rfl, cond_false, cond_true]
theorem get_ok {b : List Int} (hb : Bytes b) (hm : b.length ≤ memB) : plan_Get b = some (getP b) := by
  refine evf_of (.next (s' := .s1 b 0 0 zeroPl [[], [], []]) rfl ?_)
  have i1 : wire_Ints b 0 = some (rL 0 (pL b)) := by
    have := ints_ok hb hm (at_ := 0) (by omega)
    rwa [List.drop_zero] at this
  cases h1 : pL b with
  | inl e =>
    rw [h1] at i1
    have : getP b = (zeroPl, 41) := by simp [getP, parse3, h1]
    rw [this]
    refine .done ?_
    have he := pL_err h1
    simp only [plan_Get_step, plan_Get_1, i1, rL, Option.bind_some, he]
    rfl
  | inr x =>
    obtain ⟨l, k1⟩ := x
    rw [h1] at i1
    have g1 := rL_le hb (at_ := 0) (by rw [List.drop_zero]; exact h1)
    obtain ⟨-, -, -, l64, -⟩ := pL_dec hb h1
    refine .next (s' := .s1 b k1 1 zeroPl [l, [], []]) ?_ ?_
    · simp only [plan_Get_step, plan_Get_1, i1, rL, Option.bind_some, Nat.zero_add]
      rfl
    have i2 := ints_ok hb hm (at_ := k1) (by omega)
    cases h2 : pL (b.drop k1) with
    | inl e =>
      rw [h2] at i2
      have : getP b = (zeroPl, 41) := by simp [getP, parse3, h1, h2]
      rw [this]
      refine .done ?_
      have he := pL_err h2
      simp only [plan_Get_step, plan_Get_1, i2, rL, Option.bind_some, he]
      rfl
    | inr x =>
      obtain ⟨pen, k2⟩ := x
      rw [h2] at i2
      have g2 := rL_le hb h2
      obtain ⟨-, -, -, p64, -⟩ := pL_dec (fun c hc => hb c (List.mem_of_mem_drop hc)) h2
      refine .next (s' := .s1 b ((k1 + k2 : Nat) : Int) 2 zeroPl [l, pen, []]) ?_ ?_
      · simp only [plan_Get_step, plan_Get_1, i2, rL, Option.bind_some]
        rfl
      have i3 := ints_ok hb hm (at_ := k1 + k2) (by omega)
      cases h3 : pL (b.drop (k1 + k2)) with
      | inl e =>
        rw [h3] at i3
        have : getP b = (zeroPl, 41) := by simp [getP, parse3, h1, h2, h3]
        rw [this]
        refine .done ?_
        have he := pL_err h3
        simp only [plan_Get_step, plan_Get_1, i3, rL, Option.bind_some, he]
        rfl
      | inr x =>
        obtain ⟨ch, k3⟩ := x
        rw [h3] at i3
        obtain ⟨-, -, -, c64, -⟩ := pL_dec (fun c hc => hb c (List.mem_of_mem_drop hc)) h3
        have hres : getP b = (if k1 + k2 + k3 = b.length ∧ okOf l pen ch = true then (planOf l pen ch, 0) else (zeroPl, 41)) := by
          simp only [getP, parse3, h1, h2, h3]
          by_cases hk : k1 + k2 + k3 = b.length
          · simp [hk]
          · simp [hk]
        rw [hres]
        refine .next (s' := .s1 b ((k1 + k2 + k3 : Nat) : Int) 3 zeroPl [l, pen, ch]) ?_ (get_s1 l64 p64 c64)
        simp only [plan_Get_step, plan_Get_1, i3, rL, Option.bind_some]
        rfl
end Go.RX.L

namespace Go.RX.L
open Go Go.RX
/-! ### alike -/
theorem rsame_loop (a b : List Int) (hl : a.length < 9223372036854775807) (hab : a.length = b.length) : ∀ (j k : Nat), k + j = a.length → Ev ref01_Same_step (.s1 a b k) (decide (a.drop k = b.drop k)) := by
  intro j
  induction j with
  | zero =>
    intro k hk
    refine .done ?_
    rw [List.drop_eq_nil_of_le (by omega), List.drop_eq_nil_of_le (by omega)]
    simp [ref01_Same_step, ref01_Same_1, show ¬ (k : Int) < a.length by omega]
  | succ j ih =>
    intro k hk
    have h1 : k < a.length := by omega
    have h2 : k < b.length := by omega
    rw [List.drop_eq_getElem_cons h1, List.drop_eq_getElem_cons h2]
    by_cases h : a[k] = b[k]
    · refine .next (s' := .s1 a b ((k + 1 : Nat) : Int)) ?_ ?_
      · have e : (a[k] != b[k]) = false := by simp [h]
        simp only [ref01_Same_step, ref01_Same_1, List.length_map, ltB h1, ltB h2, le0, Bool.and_self, cond_true, Int.toNat_natCast, List.getE h1, List.getE h2, Option.bind_some, e, cond_false, wS (show k < 9223372036854775807 by omega)]
      · rw [show (decide (a[k] :: a.drop (k + 1) = b[k] :: b.drop (k + 1))) = decide (a.drop (k + 1) = b.drop (k + 1)) by simp only [h, List.cons.injEq, true_and]]
        exact ih (k + 1) (by omega)
    · refine .done ?_
      have e : (a[k] != b[k]) = true := by simp [h]
      simp only [ref01_Same_step, ref01_Same_1, List.length_map, ltB h1, ltB h2, le0, Bool.and_self, cond_true, Int.toNat_natCast, List.getE h1, List.getE h2, Option.bind_some, e]
      rw [show (decide (a[k] :: a.drop (k + 1) = b[k] :: b.drop (k + 1))) = false by simp only [h, List.cons.injEq, false_and, decide_false]]
theorem rsame1_ok {a b : List Int} (hl : a.length < 9223372036854775807) : ref01_Same a b = some (decide (a = b)) := by
  by_cases hab : a.length = b.length
  · refine evf_of (.next (s' := .s1 a b 0) (by simp [ref01_Same_step, ref01_Same_0, hab]) ?_)
    simpa using rsame_loop a b hl hab a.length 0 (by omega)
  · refine evf_of (.done ?_)
    have e : (((a.length : Nat) : Int) != ((b.length : Nat) : Int)) = true := by simp; omega
    have hne : a ≠ b := fun h => hab (by rw [h])
    simp [ref01_Same_step, ref01_Same_0, e, hne]
def sameN (a b : Plan) : Bool := decide (a.Epoch = b.Epoch) && (decide (a.Target = b.Target) && (decide (a.Prev = b.Prev) && (decide (a.Spill = b.Spill) && (decide (a.Percent = b.Percent) && (decide (a.Stamp = b.Stamp) && (decide (a.Since = b.Since) && (decide (a.Ramped = b.Ramped) && (decide (a.Up = b.Up) && decide (a.Sup = b.Sup)))))))))
def sameP (a b : Plan) : Bool := sameN a b && (decide (a.Pen = b.Pen) && decide (a.Changes = b.Changes))
theorem sameP_iff {a b : Plan} : sameP a b = true ↔ a = b := by
  cases a; cases b
  simp only [sameP, sameN, Bool.and_eq_true, decide_eq_true_eq, Plan.mk.injEq, and_assoc]
theorem wrapI_inj {x y : Int} (hx : inK .u64 x) (hy : inK .u64 y) : (IntKind.i64.wrap x == IntKind.i64.wrap y) = decide (x = y) := by
  obtain ⟨n, rfl⟩ := Int.eq_ofNat_of_zero_le (inU64.1 hx).1
  obtain ⟨m, rfl⟩ := Int.eq_ofNat_of_zero_le (inU64.1 hy).1
  have h1 := (inU64.1 hx).2
  have h2 := (inU64.1 hy).2
  rw [wrapI64_nat n (by omega), wrapI64_nat m (by omega)]
  rw [Bool.eq_iff_iff]
  simp only [beq_iff_eq, decide_eq_true_eq]
  split <;> split <;> omega
theorem wrapI_inj' {x y : Int} (hx : inK .u64 x) (hy : inK .u64 y) : decide (IntKind.i64.wrap x = IntKind.i64.wrap y) = decide (x = y) := by
  rw [← wrapI_inj hx hy, Bool.eq_iff_iff]; simp
theorem same_ok {a b : Plan} (hs : Shrt a) (h1 : inK .u64 a.Up) (h2 : inK .u64 b.Up) (h3 : inK .u64 a.Sup) (h4 : inK .u64 b.Sup) : plan_Same a b = some (sameP a b) := by
  have hb : ∀ x y : Int, (x == y) = decide (x = y) := fun x y => by by_cases h : x = y <;> simp [h]
  simp only [plan_Same, plan_numbers, Option.bind_some, wrapI_inj' h1 h2, wrapI_inj' h3 h4, hb, Bool.and_true, equal_ok hs.pen, equal_v2_ok hs.ch]
  rw [show (decide (a.Epoch = b.Epoch) && (decide (a.Target = b.Target) && (decide (a.Prev = b.Prev) && (decide (a.Spill = b.Spill) && (decide (a.Percent = b.Percent) && (decide (a.Stamp = b.Stamp) && (decide (a.Since = b.Since) && (decide (a.Ramped = b.Ramped) && (decide (a.Up = b.Up) && decide (a.Sup = b.Sup)))))))))) = sameN a b from rfl]
  unfold sameP
  cases sameN a b with
  | false => rfl
  | true => cases decide (a.Pen = b.Pen) <;> rfl
/-! ### the head -/
def namesP (p : Plan) (t : Int) : Bool := decide (0 ≤ t) && (decide (t = p.Target) || ((decide (t = p.Prev) && decide (p.Percent < 100)) || decide (t = p.Spill)))
theorem bytesOf {b : List Int} (h : b.length * 1 ≤ reachBytes ∧ ∀ y ∈ b, inK .u8 y) : Bytes b ∧ b.length ≤ memB := by
  refine ⟨fun c hc => inU8.1 (h.2 c hc), ?_⟩
  have : reachBytes ≤ memB := by decide
  omega
end Go.RX.L

namespace Go.RX.L
open Go Go.RX
/-! ### may it be? -/
def hdM (m : Msg) : Prop := 1 ≤ m.Kind ∧ m.Kind ≤ 19 ∧ 0 ≤ m.From ∧ m.From ≤ 255 ∧ 0 ≤ m.To ∧ m.To ≤ 255 ∧ m.Up ≤ 65535 ∧ 0 ≤ m.Code ∧ m.Code ≤ 1000
instance (m : Msg) : Decidable (hdM m) := by unfold hdM; infer_instance
def txM (m : Msg) : Prop := (m.ID.length = 0 ∨ m.ID.length = 3) ∧ m.Session.length ≤ 64 ∧ m.Payload.length ≤ 1024
instance (m : Msg) : Decidable (txM m) := by unfold txM; infer_instance
def planB (m : Msg) : Bool := bif m.HasPlan then rightP m.Plan else sameP m.Plan zeroPl
def rightM (m : Msg) : Bool := decide (hdM m) && (decide (txM m) && planB m)
structure Shm (m : Msg) : Prop where
  s : Shrt m.Plan
  up : inK .u64 m.Plan.Up
  sup : inK .u64 m.Plan.Sup
theorem mn3_lt (a b c : Int) : (mnI (mnI a b) c < 0) ↔ a < 0 ∨ b < 0 ∨ c < 0 := by unfold mnI; split <;> split <;> omega
theorem mx_gt (a b n : Int) : (mxI a b > n) ↔ a > n ∨ b > n := by unfold mxI; split <;> omega
theorem mx_ge (a b n : Int) : (mxI a b ≥ n) ↔ a ≥ n ∨ b ≥ n := by unfold mxI; split <;> omega
theorem zero_u : inK .u64 (0 : Int) := inU64.2 (by omega)
theorem right1_ok {m : Msg} (h : Shm m) : msg_Right_1 false m = some (planB m) := by
  have hu := inU64.1 h.up
  have hv := inU64.1 h.sup
  unfold msg_Right_1 planB
  cases m.HasPlan
  · have := same_ok (a := m.Plan) (b := zeroPl) h.s h.up zero_u h.sup zero_u
    simp only [cond_false]
    show (plan_Same m.Plan zeroPl).bind _ = _
    rw [this]; rfl
  · simp only [cond_false, cond_true, right_ok h.s hu.1 hv.1, Option.bind_some]
theorem right3_ok {m : Msg} (h : Shm m) : msg_Right_3 false m = some (decide (txM m) && planB m) := by
  have h1 := right1_ok h
  have t1 : msg_Right_1 true m = some false := rfl
  have t2 : msg_Right_2 true m = some false := rfl
  have h2 : msg_Right_2 false m = some (decide (m.Session.length ≤ 64 ∧ m.Payload.length ≤ 1024) && planB m) := by
    simp only [msg_Right_2, cond_false, List.length_map]
    by_cases a : m.Session.length ≤ 64
    · rw [show decide (((m.Session.length : Nat) : Int) > 64) = false from decide_eq_false (by omega)]
      by_cases b : m.Payload.length ≤ 1024
      · rw [show decide (((m.Payload.length : Nat) : Int) > 1024) = false from decide_eq_false (by omega), show decide (m.Session.length ≤ 64 ∧ m.Payload.length ≤ 1024) = true from decide_eq_true ⟨a, b⟩, Bool.true_and]; exact h1
      · rw [show decide (((m.Payload.length : Nat) : Int) > 1024) = true from decide_eq_true (by omega), show decide (m.Session.length ≤ 64 ∧ m.Payload.length ≤ 1024) = false from decide_eq_false (fun h => b h.2)]; rfl
    · rw [show decide (((m.Session.length : Nat) : Int) > 64) = true from decide_eq_true (by omega), show decide (m.Session.length ≤ 64 ∧ m.Payload.length ≤ 1024) = false from decide_eq_false (fun h => a h.1)]; rfl
  simp only [msg_Right_3, cond_false, List.length_map]
  by_cases a : m.ID.length = 0
  · rw [show decide (((m.ID.length : Nat) : Int) > 0) = false from decide_eq_false (by omega)]
    rw [show decide (txM m) = decide (m.Session.length ≤ 64 ∧ m.Payload.length ≤ 1024) from decide_eq_decide.2 (by unfold txM; omega)]
    exact h2
  · rw [show decide (((m.ID.length : Nat) : Int) > 0) = true from decide_eq_true (by omega)]
    by_cases b : m.ID.length = 3
    · rw [show (((m.ID.length : Nat) : Int) != 3) = false from by rw [b]; rfl, show decide (txM m) = decide (m.Session.length ≤ 64 ∧ m.Payload.length ≤ 1024) from decide_eq_decide.2 (by unfold txM; omega)]
      exact h2
    · rw [show (((m.ID.length : Nat) : Int) != 3) = true from bne_iff_ne.2 (by omega), show decide (txM m) = false from decide_eq_false (by unfold txM; omega)]
      rfl
theorem mright_ok {m : Msg} (h : Shm m) : msg_Right m = some (rightM m) := by
  have t3 : msg_Right_3 true m = some false := rfl
  by_cases hh : hdM m
  · have h' := hh
    unfold hdM at h'
    rw [rightM, decide_eq_true hh, Bool.true_and, ← right3_ok h]
    simp only [msg_Right]
    rw [show decide (m.Kind < 1) = false from decide_eq_false (by omega), show decide (m.Kind > 19) = false from decide_eq_false (by omega),
      show decide (mnI (mnI m.From m.To) m.Code < 0) = false from decide_eq_false (by rw [mn3_lt]; omega), show decide (mxI m.From m.To > 255) = false from decide_eq_false (by rw [mx_gt]; omega),
      show decide (m.Code > 1000) = false from decide_eq_false (by omega), show decide (m.Up ≥ 65536) = false from decide_eq_false (by omega)]
    rfl
  · rw [rightM, decide_eq_false hh, Bool.false_and]
    unfold hdM at hh
    simp only [msg_Right]
    cases h1 : decide (m.Kind < 1)
    · cases h2 : decide (m.Kind > 19)
      · cases h3 : decide (mnI (mnI m.From m.To) m.Code < 0)
        · cases h4 : decide (mxI m.From m.To > 255)
          · cases h5 : decide (m.Code > 1000)
            · rw [decide_eq_false_iff_not] at h1 h2 h3 h4 h5
              rw [mn3_lt] at h3
              rw [mx_gt] at h4
              rw [show decide (m.Up ≥ 65536) = true from decide_eq_true (by omega)]
              rfl
            · rfl
          · rfl
        · rfl
      · rfl
    · rfl
end Go.RX.L

namespace Go.RX.L
open Go Go.RX
/-! ### bytes -/
/-- A message of words. -/
structure FineM (m : Msg) : Prop where
  sh : Shm m
  pl : Fine m.Plan
  w : I64s [m.Epoch, m.Ballot, m.Accepted, m.Nonce, m.Time]
  up : 0 ≤ m.Up
  id : I64s m.ID
  ses : Bytes m.Session
  pay : Bytes m.Payload
theorem Msg.Ok.fine {m : Msg} (h : m.Ok) : FineM m := by
  obtain ⟨h1, h2, h3, h4, h5, h6, h7, h8, h9, h10, -, hp, hid, hs, hq⟩ := h
  have hp' := hp
  obtain ⟨-, -, -, -, -, -, -, -, u1, u2, -, -⟩ := hp
  refine ⟨⟨hp'.shrt, u1, u2⟩, hp'.fine, ?_, (inU64.1 h9).1, fun x hx => hid.2 x hx, fun x hx => inU8.1 (hs.2 x hx), fun x hx => inU8.1 (hq.2 x hx)⟩
  intro x hx
  simp only [List.mem_cons, List.not_mem_nil, or_false] at hx
  rcases hx with rfl | rfl | rfl | rfl | rfl <;> assumption
def numsM (m : Msg) : List Int := [m.From, m.To, m.Epoch, m.Ballot, m.Accepted, m.Nonce, m.Time, m.Up, m.Code, bif m.HasPlan then 1 else 0]
def encQ (m : Msg) : List Int := bif m.HasPlan then encT (encP m.Plan) else []
def encB (m : Msg) : List Int := encL (numsM m) ++ (encQ m ++ (encL m.ID ++ (encT m.Session ++ encT m.Payload)))
theorem right_and {m : Msg} (h : rightM m = true) : hdM m ∧ txM m ∧ planB m = true := by
  simpa only [rightM, Bool.and_eq_true, decide_eq_true_eq] using h
theorem right_plan {m : Msg} (h : rightM m = true) (hp : m.HasPlan = true) : Rt m.Plan := by
  have := (right_and h).2.2
  rw [planB, hp] at this
  exact rightP_iff.1 this
theorem right_zero {m : Msg} (h : rightM m = true) (hp : m.HasPlan = false) : m.Plan = zeroPl := by
  have := (right_and h).2.2
  rw [planB, hp] at this
  exact sameP_iff.1 this
theorem numsM_in {m : Msg} (hf : FineM m) (h : rightM m = true) : I64s (numsM m) := by
  obtain ⟨h1, h2, h3⟩ := right_and h
  unfold hdM at h1
  have hu := hf.up
  have e1 := inI64.2 (show -9223372036854775808 ≤ m.From ∧ m.From ≤ 9223372036854775807 by omega)
  have e2 := inI64.2 (show -9223372036854775808 ≤ m.To ∧ m.To ≤ 9223372036854775807 by omega)
  have e3 := inI64.2 (show -9223372036854775808 ≤ m.Up ∧ m.Up ≤ 9223372036854775807 by omega)
  have e4 := inI64.2 (show -9223372036854775808 ≤ m.Code ∧ m.Code ≤ 9223372036854775807 by omega)
  have e5 : inK .i64 (bif m.HasPlan then 1 else 0) := by cases m.HasPlan <;> exact inI64.2 (by decide)
  have hw := hf.w
  intro x hx
  simp only [numsM, List.mem_cons, List.not_mem_nil, or_false] at hx
  rcases hx with rfl | rfl | rfl | rfl | rfl | rfl | rfl | rfl | rfl | rfl
  · exact e1
  · exact e2
  · exact hw _ (by simp)
  · exact hw _ (by simp)
  · exact hw _ (by simp)
  · exact hw _ (by simp)
  · exact hw _ (by simp)
  · exact e3
  · exact e4
  · exact e5
theorem encQ_bytes (m : Msg) : Bytes (encQ m) := by
  unfold encQ
  cases m.HasPlan
  · intro c hc; cases hc
  · exact encT_bytes (encP_bytes _)
theorem encB_bytes {m : Msg} (hf : FineM m) : Bytes (encB m) := fun c hc => by
  simp only [encB, List.mem_append] at hc
  rcases hc with hc | hc | hc | hc | hc
  · exact encL_bytes _ c hc
  · exact encQ_bytes m c hc
  · exact encL_bytes _ c hc
  · exact encT_bytes hf.ses c hc
  · exact encT_bytes hf.pay c hc
theorem encQ_len {m : Msg} (hf : FineM m) (h : rightM m = true) : (encQ m).length ≤ 1960 := by
  unfold encQ
  cases hp : m.HasPlan
  · simp
  · have h1 := encP_len hf.pl (right_plan h hp)
    have := encT_len (s := encP m.Plan) (by omega)
    simp only [cond_true]; omega
theorem id_len {m : Msg} (h : rightM m = true) : m.ID.length ≤ 3 ∧ m.Session.length ≤ 64 ∧ m.Payload.length ≤ 1024 := by
  have := (right_and h).2.1
  unfold txM at this
  omega
theorem encB_len {m : Msg} (hf : FineM m) (h : rightM m = true) : (encB m).length ≤ 4400 := by
  have a := encL_len (numsM_in hf h) (by simp [numsM])
  have b := encQ_len hf h
  have hi := id_len h
  have c := encL_len hf.id (by omega)
  have d := encT_len (s := m.Session) (by omega)
  have e := encT_len (s := m.Payload) (by omega)
  simp only [encB, List.length_append]
  omega
def bodyM (m : Msg) : Int × List Int × Int := if rightM m = true then (m.Kind, encB m, 0) else (0, [], 51)
theorem putT_s {s : List Int} (h : s.length ≤ 4096) : putT s = (0, encT s) := if_pos h
theorem body_s1 {m : Msg} (hs : m.Session.length ≤ 64) (hq : m.Payload.length ≤ 1024) (hk : 0 ≤ m.Kind ∧ m.Kind ≤ 255) {b : List Int} (hb : b.length ≤ 8000) :
    Ev msg_Body_step (.s1 0 m b [m.Session, m.Payload]) (m.Kind, b ++ (encT m.Session ++ encT m.Payload), 0) := by
  have n1 := encT_len (s := m.Session) (by omega)
  have n2 := encT_len (s := m.Payload) (by omega)
  have k1 := putText_ok (s := m.Session) (by simp only [memB]; omega)
  have k2 := putText_ok (s := m.Payload) (by simp only [memB]; omega)
  rw [putT_s (by omega)] at k1 k2
  refine .next (s' := .s1 1 m (b ++ encT m.Session) [m.Session, m.Payload]) ?_ (.next (s' := .s1 2 m (b ++ encT m.Session ++ encT m.Payload) [m.Session, m.Payload]) ?_ (.done ?_))
  · have hl : decide (((List.map (eInt .u8) b).length + (List.map (eInt .u8) (encT m.Session)).length) * 1 ≤ bytesLim) = true := limOk (by simp only [List.length_map]; omega)
    simp only [msg_Body_step, msg_Body_1, take_full]
    simp only [show (0 + (0 : Int).toNat) = 0 from rfl, List.getElem?_cons_zero, Option.bind_some, k1, hl]
    rfl
  · have hl : decide (((List.map (eInt .u8) (b ++ encT m.Session)).length + (List.map (eInt .u8) (encT m.Payload)).length) * 1 ≤ bytesLim) = true := limOk (by simp only [List.length_map, List.length_append]; omega)
    simp only [msg_Body_step, msg_Body_1, take_full]
    simp only [show (0 + (1 : Int).toNat) = 1 from rfl, List.getElem?_cons_succ, List.getElem?_cons_zero, Option.bind_some, k2, hl]
    rfl
  · rw [← List.append_assoc]
    simp only [msg_Body_step, msg_Body_1, wU8 hk.1 hk.2]
    rfl
theorem body_s2 {m : Msg} (hf : FineM m) (h : rightM m = true) {b : List Int} (hb : b.length ≤ 7000) :
    Ev msg_Body_step (.s2 m b) (m.Kind, b ++ (encL m.ID ++ (encT m.Session ++ encT m.Payload)), 0) := by
  have hi := id_len h
  have hh := (right_and h).1
  unfold hdM at hh
  have c := encL_len hf.id (by omega)
  have hl : decide (((List.map (eInt .u8) b).length + (List.map (eInt .u8) (encL m.ID)).length) * 1 ≤ bytesLim) = true := limOk (by simp only [List.length_map]; omega)
  refine .next (s' := .s1 0 m (b ++ encL m.ID) [m.Session, m.Payload]) ?_ ?_
  · simp only [msg_Body_step, msg_Body_2, take_full, putInts_ok hf.id (by omega), Option.bind_some, hl, cond_true]
  · have := body_s1 (m := m) (b := b ++ encL m.ID) hi.2.1 hi.2.2 (by omega) (by simp only [List.length_append]; omega)
    rw [List.append_assoc] at this
    exact this
theorem body_ok {m : Msg} (hf : FineM m) : msg_Body m = some (bodyM m) := by
  unfold bodyM
  by_cases h : rightM m = true
  · rw [if_pos h]
    have hi := numsM_in hf h
    have hu := hf.up
    have hh := (right_and h).1
    unfold hdM at hh
    have hw : IntKind.i64.wrap m.Up = m.Up := wI64 (by omega) (by omega)
    have nl := encL_len hi (by simp [numsM])
    refine evf_of (.next (s' := .s3 m (numsM m)) ?_ ?_)
    · simp only [msg_Body_step, msg_Body_0, mright_ok hf.sh, h, Option.bind_some, Bool.not_true, cond_false, hw, numsM]
      cases m.HasPlan <;> rfl
    · refine .next (s' := .s2 m (encL (numsM m) ++ encQ m)) ?_ ?_
      · simp only [msg_Body_step, msg_Body_3, putInts_ok hi (by simp [numsM]), Option.bind_some, take_full]
        unfold encQ
        cases hp : m.HasPlan
        · simp only [cond_false, List.append_nil]
        · have rp := right_plan h hp
          have pl := encP_len hf.pl rp
          have tl := encT_len (s := encP m.Plan) (by omega)
          have e1 : plan_Put m.Plan = some (encP m.Plan, 0) := by rw [put_ok hf.pl, putP, if_pos (rightP_iff.2 rp)]
          have e2 : wire_PutText (encP m.Plan) = some (0, encT (encP m.Plan)) := by rw [putText_ok (by simp only [memB]; omega), putT_s (by omega)]
          have hl : decide (((List.map (eInt .u8) (encL (numsM m))).length + (List.map (eInt .u8) (encT (encP m.Plan))).length) * 1 ≤ bytesLim) = true := limOk (by simp only [List.length_map]; omega)
          simp only [cond_true, e1, e2, Option.bind_some, hl]
      · have q := encQ_len hf h
        have := body_s2 hf h (b := encL (numsM m) ++ encQ m) (by simp only [List.length_append]; omega)
        rw [List.append_assoc] at this
        exact this
  · rw [if_neg h]
    refine evf_of (.done ?_)
    simp only [msg_Body_step, msg_Body_0, mright_ok hf.sh, Bool.eq_false_iff.2 h, Option.bind_some, Bool.not_false, cond_true]
end Go.RX.L

namespace Go.RX.L
open Go Go.RX
def zeroM : Msg := ⟨0, 0, 0, 0, 0, 0, 0, 0, 0, 0, false, zeroPl, [], [], []⟩
def withT (m : Msg) (id s py : List Int) : Msg := ⟨m.Kind, m.From, m.To, m.Epoch, m.Ballot, m.Accepted, m.Nonce, m.Time, m.Up, m.Code, m.HasPlan, m.Plan, id, s, py⟩
def tailP (l : List Int) : Option (List Int × List Int × List Int) := match pL l with
  | .inl _ => none
  | .inr (id, k1) => (match pT (l.drop k1) with
    | .inl _ => none
    | .inr (s, k2) => (match pT (l.drop (k1 + k2)) with
      | .inl _ => none
      | .inr (py, k3) => if k1 + k2 + k3 = l.length then some (id, s, py) else none))
def ofTail (m : Msg) (l : List Int) : Msg × Int := match tailP l with
  | none => (zeroM, 51)
  | some (id, s, py) => if rightM (withT m id s py) = true then (withT m id s py, 0) else (zeroM, 51)
theorem tailP_1 {l : List Int} {e : Int} (h : pL l = .inl e) : tailP l = none := by simp only [tailP, h]
theorem tailP_2 {l id : List Int} {k1 : Nat} {e : Int} (h : pL l = .inr (id, k1)) (h2 : pT (l.drop k1) = .inl e) : tailP l = none := by simp only [tailP, h, h2]
theorem tailP_3 {l id s : List Int} {k1 k2 : Nat} {e : Int} (h : pL l = .inr (id, k1)) (h2 : pT (l.drop k1) = .inr (s, k2)) (h3 : pT (l.drop (k1 + k2)) = .inl e) : tailP l = none := by simp only [tailP, h, h2, h3]
theorem tailP_4 {l id s py : List Int} {k1 k2 k3 : Nat} (h : pL l = .inr (id, k1)) (h2 : pT (l.drop k1) = .inr (s, k2)) (h3 : pT (l.drop (k1 + k2)) = .inr (py, k3)) : tailP l = if k1 + k2 + k3 = l.length then some (id, s, py) else none := by simp only [tailP, h, h2, h3]
theorem rtext_err (x e : Int) (b : List Int) (h : (e != 0) = true) : msg_reader_text ⟨⟨x, e⟩, b⟩ = some ([], ⟨⟨x, e⟩, b⟩) := by simp only [msg_reader_text, h, cond_true]
theorem rd_ints {b : List Int} (hb : Bytes b) (hm : b.length ≤ memB) {at_ : Nat} (h : at_ ≤ b.length) : msg_reader_ints ⟨⟨at_, 0⟩, b⟩ = some ((rL at_ (pL (b.drop at_))).1, ⟨⟨(rL at_ (pL (b.drop at_))).2.1, (rL at_ (pL (b.drop at_))).2.2⟩, b⟩) := by
  simp only [msg_reader_ints, bne_self_eq_false, cond_false, ints_ok hb hm h, Option.bind_some]
theorem rd_text {b : List Int} (hb : Bytes b) (hm : b.length ≤ memB) {at_ : Nat} (h : at_ ≤ b.length) : msg_reader_text ⟨⟨at_, 0⟩, b⟩ = some ((rL at_ (pT (b.drop at_))).1, ⟨⟨(rL at_ (pT (b.drop at_))).2.1, (rL at_ (pT (b.drop at_))).2.2⟩, b⟩) := by
  simp only [msg_reader_text, bne_self_eq_false, cond_false, text_ok hb hm h, Option.bind_some]
theorem Shm.withT {m : Msg} (h : Shm m) (id s py : List Int) : Shm (withT m id s py) := ⟨h.s, h.up, h.sup⟩
theorem pTe {l : List Int} {e : Int} (h : pT l = .inl e) : (e != 0) = true := bne_iff_ne.2 (pT_err h)
theorem of3_ok {b : List Int} (hb : Bytes b) (hm : b.length ≤ memB) {at_ : Nat} (h : at_ ≤ b.length) (b0 : Msg) {m : Msg} (hs : Shm m) : msg_Of_3 b b0 ⟨⟨at_, 0⟩, b⟩ m = some (ofTail m (b.drop at_)) := by
  have bad : ∀ (z : Msg), msg_Of_2 true b0 z = some (zeroM, 51) := fun z => rfl
  simp only [msg_Of_3, rd_ints hb hm h, Option.bind_some]
  unfold ofTail
  cases h1 : pL (b.drop at_) with
  | inl e =>
    have he := pL_err h1
    rw [tailP_1 h1]
    simp only [rL, rtext_err _ _ _ he, Option.bind_some, he, cond_true, bad]
  | inr x =>
    obtain ⟨id, k1⟩ := x
    have l1 := rL_le hb h1
    have a1 : at_ + k1 ≤ b.length := by omega
    simp only [rL, rd_text hb hm a1, Option.bind_some]
    cases h2 : pT (b.drop (at_ + k1)) with
    | inl e =>
      have he := pTe h2
      rw [tailP_2 h1 (by rw [List.drop_drop]; exact h2)]
      simp only [rL, rtext_err _ _ _ he, Option.bind_some, he, cond_true, bad]
    | inr x =>
      obtain ⟨s, k2⟩ := x
      have l2 := (pT_dec (drop_in hb _) h2).2.1
      rw [List.length_drop] at l2
      have a2 : at_ + k1 + k2 ≤ b.length := by omega
      simp only [rL, rd_text hb hm a2, Option.bind_some]
      cases h3 : pT (b.drop (at_ + k1 + k2)) with
      | inl e =>
        have he := pTe h3
        rw [tailP_3 h1 (by rw [List.drop_drop]; exact h2) (by rw [List.drop_drop, ← Nat.add_assoc]; exact h3)]
        simp only [rL, he, cond_true, bad]
      | inr x =>
        obtain ⟨py, k3⟩ := x
        have l3 := (pT_dec (drop_in hb _) h3).2.1
        rw [List.length_drop] at l3
        rw [tailP_4 h1 (by rw [List.drop_drop]; exact h2) (by rw [List.drop_drop, ← Nat.add_assoc]; exact h3)]
        simp only [rL, bne_self_eq_false, cond_false, List.length_map, List.length_drop]
        by_cases hq : k1 + k2 + k3 = b.length - at_
        · have c1 : (((at_ + k1 + k2 + k3 : Nat) : Int) != ((b.length : Nat) : Int)) = false := by rw [show at_ + k1 + k2 + k3 = b.length by omega]; simp
          have hr := mright_ok (hs.withT id s py)
          rw [c1, if_pos hq]
          show (Option.bind (msg_Right (withT m id s py)) fun y6 => msg_Of_2 (!y6) b0 (withT m id s py)) = _
          rw [hr]
          simp only [Option.bind_some]
          cases hh : rightM (withT m id s py) <;> rfl
        · have c1 : (((at_ + k1 + k2 + k3 : Nat) : Int) != ((b.length : Nat) : Int)) = true := bne_iff_ne.2 (by omega)
          rw [c1, if_neg hq]
          exact bad (withT m id s py)
def baseM (k : Int) (l : List Int) (p : Plan) : Msg := ⟨k, l.getD 0 0, l.getD 1 0, l.getD 2 0, l.getD 3 0, l.getD 4 0, l.getD 5 0, l.getD 6 0, l.getD 7 0, l.getD 8 0, l.getD 9 0 == 1, p, [], [], []⟩
def wideM (l : List Int) : Prop := l.length = 10 ∧ 0 ≤ l.getD 0 0 ∧ l.getD 0 0 ≤ 255 ∧ 0 ≤ l.getD 1 0 ∧ l.getD 1 0 ≤ 255 ∧ 0 ≤ l.getD 7 0 ∧ l.getD 7 0 ≤ 65535 ∧ 0 ≤ l.getD 8 0 ∧ l.getD 8 0 ≤ 65535 ∧ 0 ≤ l.getD 9 0 ∧ l.getD 9 0 ≤ 1
instance (l : List Int) : Decidable (wideM l) := by unfold wideM; infer_instance
def ofRest (k : Int) (l b : List Int) : Msg × Int := if l.getD 9 0 = 1 then (match pT b with
    | .inl _ => (zeroM, 51)
    | .inr (t, j) => if (getP t).2 = 0 then ofTail (baseM k l (getP t).1) (b.drop j) else (zeroM, 51))
  else ofTail (baseM k l zeroPl) b
def ofM (k : Int) (b : List Int) : Msg × Int := match pL b with
  | .inl _ => (zeroM, 51)
  | .inr (l, n) => if wideM l then ofRest k l (b.drop n) else (zeroM, 51)
theorem shm_zero (k : Int) (l : List Int) : Shm (baseM k l zeroPl) := ⟨⟨by simp [baseM, zeroPl], by simp [baseM, zeroPl]⟩, inU64.2 (by simp [baseM, zeroPl]), inU64.2 (by simp [baseM, zeroPl])⟩
theorem shm_get {t : List Int} (ht : Bytes t) (h : (getP t).2 = 0) (k : Int) (l : List Int) : Shm (baseM k l (getP t).1) := by
  obtain ⟨h1, h2, h3⟩ := getP_dec ht (p := (getP t).1) (by rw [← h])
  have hr := rightP_iff.1 h1
  have a1 := h2.up
  have a2 := h2.sup
  have a3 := hr.up
  have a4 := hr.sup
  exact ⟨h2.s, (inU64.2 (by omega) : inK .u64 (getP t).1.Up), (inU64.2 (by omega) : inK .u64 (getP t).1.Sup)⟩
theorem pT_len {t l : List Int} {j : Nat} (hb : Bytes l) (h : pT l = .inr (t, j)) : t.length ≤ memB := by
  have := (pT_dec hb h).2.2.2.1
  simp only [memB]; omega
theorem of1_ok {k : Int} (hk : 0 ≤ k ∧ k ≤ 255) {b : List Int} (hb : Bytes b) (hm : b.length ≤ memB) {at_ : Nat} (h : at_ ≤ b.length) {l : List Int} (hl : wideM l) (b0 : Msg) : msg_Of_1 k b l false b0 ⟨⟨at_, 0⟩, b⟩ = some (ofRest k l (b.drop at_)) := by
  obtain ⟨hlen, hw⟩ := hl
  match l, hlen, hw with
  | [a0, a1, a2, a3, a4, a5, a6, a7, a8, a9], _, hw =>
    simp only [List.getD_cons_zero, List.getD_cons_succ] at hw
    have wk : IntKind.i64.wrap k = k := wI64 (by omega) (by omega)
    have wu : IntKind.u64.wrap a7 = a7 := wU64 (by omega) (by omega)
    have e : msg_Of_1 k b [a0, a1, a2, a3, a4, a5, a6, a7, a8, a9] false b0 ⟨⟨at_, 0⟩, b⟩ = (bif (a9 == 1) then ((msg_reader_text ⟨⟨at_, 0⟩, b⟩).bind fun y33 => ((plan_Get y33.1).bind fun y34 => (bif ((y34.2 : Int) != 0) then some (zeroM, 51) else
        msg_Of_3 b b0 y33.2 ⟨IntKind.i64.wrap k, a0, a1, a2, a3, a4, a5, a6, IntKind.u64.wrap a7, a8, a9 == 1, y34.1, [], [], []⟩))) else msg_Of_3 b b0 ⟨⟨at_, 0⟩, b⟩ ⟨IntKind.i64.wrap k, a0, a1, a2, a3, a4, a5, a6, IntKind.u64.wrap a7, a8, a9 == 1, zeroPl, [], [], []⟩) := rfl
    rw [e, wk, wu]
    unfold ofRest
    simp only [List.getD_cons_zero, List.getD_cons_succ]
    by_cases h9 : a9 = 1
    · have c9 : (a9 == 1) = true := beq_iff_eq.2 h9
      rw [if_pos h9]
      have hd : ∀ p, (⟨k, a0, a1, a2, a3, a4, a5, a6, a7, a8, a9 == 1, p, [], [], []⟩ : Msg) = baseM k [a0, a1, a2, a3, a4, a5, a6, a7, a8, a9] p := fun p => rfl
      simp only [hd]
      rw [c9, cond_true, rd_text hb hm h]
      simp only [Option.bind_some]
      cases h2 : pT (b.drop at_) with
      | inl e =>
        have he := pTe h2
        have g := get_ok (b := []) (fun c hc => by cases hc) (by simp)
        have g0 : getP [] = (zeroPl, 41) := by
          have : parse3 [] = none := by decide
          simp only [getP, this]
        simp only [rL, g, g0, Option.bind_some]
        rfl
      | inr x =>
        obtain ⟨s, j⟩ := x
        obtain ⟨d1, d2, d3, d4, d5⟩ := pT_dec (drop_in hb at_) h2
        rw [List.length_drop] at d2
        have g := get_ok d5 (pT_len (drop_in hb at_) h2)
        simp only [rL, g, Option.bind_some]
        by_cases hq : (getP s).2 = 0
        · rw [if_pos hq, show ((getP s).2 != 0) = false by rw [hq]; rfl, cond_false, of3_ok hb hm (by omega) b0 (shm_get d5 hq k _), List.drop_drop]
        · rw [if_neg hq, show ((getP s).2 != 0) = true from bne_iff_ne.2 hq, cond_true]
    · have c9 : (a9 == 1) = false := beq_eq_false_iff_ne.2 h9
      rw [if_neg h9]
      have hd : ∀ p, (⟨k, a0, a1, a2, a3, a4, a5, a6, a7, a8, a9 == 1, p, [], [], []⟩ : Msg) = baseM k [a0, a1, a2, a3, a4, a5, a6, a7, a8, a9] p := fun p => rfl
      simp only [hd]
      rw [c9, cond_false, of3_ok hb hm h b0 (shm_zero k _)]
theorem of_ok {k : Int} (hk : 0 ≤ k ∧ k ≤ 255) {b : List Int} (hb : Bytes b) (hm : b.length ≤ memB) : msg_Of k b = some (ofM k b) := by
  have bad : ∀ l b0 r, msg_Of_1 k b l true b0 r = some (zeroM, 51) := fun _ _ _ => rfl
  have hr := rd_ints hb hm (Nat.zero_le b.length)
  simp only [Int.natCast_zero, List.drop_zero] at hr
  unfold ofM
  cases h1 : pL b with
  | inl e =>
    have he := pL_err h1
    rw [h1] at hr
    simp only [msg_Of]
    rw [show (⟨⟨0, 0⟩, b⟩ : readerT) = ⟨⟨((0 : Nat) : Int), 0⟩, b⟩ from rfl]
    rw [rd_ints hb hm (Nat.zero_le b.length), List.drop_zero, h1]
    simp only [rL, Option.bind_some, he, cond_true, bad]
  | inr x =>
    obtain ⟨l, n⟩ := x
    have hl := rL_le hb (at_ := 0) (b := b) h1
    simp only [msg_Of]
    rw [show (⟨⟨0, 0⟩, b⟩ : readerT) = ⟨⟨((0 : Nat) : Int), 0⟩, b⟩ from rfl]
    rw [rd_ints hb hm (Nat.zero_le b.length), List.drop_zero, h1]
    simp only [rL, Option.bind_some, bne_self_eq_false, cond_false, List.length_map, Nat.zero_add]
    by_cases h10 : l.length = 10
    · rw [show (((l.length : Nat) : Int) != 10) = false by rw [h10]; rfl]
      have o1 : ∀ b0, wideM l → msg_Of_1 k b l false b0 ⟨⟨((n : Nat) : Int), 0⟩, b⟩ = some (ofRest k l (b.drop n)) := fun b0 hw => of1_ok hk hb hm (by omega) hw b0
      match l, h10, o1 with
      | [a0, a1, a2, a3, a4, a5, a6, a7, a8, a9], _, o1 =>
        have ew : wideM [a0, a1, a2, a3, a4, a5, a6, a7, a8, a9] ↔ 0 ≤ a0 ∧ a0 ≤ 255 ∧ 0 ≤ a1 ∧ a1 ≤ 255 ∧ 0 ≤ a7 ∧ a7 ≤ 65535 ∧ 0 ≤ a8 ∧ a8 ≤ 65535 ∧ 0 ≤ a9 ∧ a9 ≤ 1 := ⟨fun h => h.2, fun h => ⟨rfl, h⟩⟩
        show (bif decide (mnI (mnI (mnI (mnI a0 a1) a7) a8) a9 < 0) then msg_Of_1 k b [a0, a1, a2, a3, a4, a5, a6, a7, a8, a9] true _ _ else bif decide (mxI a0 a1 > 255) then msg_Of_1 k b [a0, a1, a2, a3, a4, a5, a6, a7, a8, a9] true _ _ else
          bif decide (mxI a7 a8 ≥ 65536) then msg_Of_1 k b [a0, a1, a2, a3, a4, a5, a6, a7, a8, a9] true _ _ else msg_Of_1 k b [a0, a1, a2, a3, a4, a5, a6, a7, a8, a9] (decide (a9 > 1)) _ _) = _
        have mn : mnI (mnI (mnI (mnI a0 a1) a7) a8) a9 < 0 ↔ a0 < 0 ∨ a1 < 0 ∨ a7 < 0 ∨ a8 < 0 ∨ a9 < 0 := by
          rw [show mnI (mnI (mnI (mnI a0 a1) a7) a8) a9 = mnI (mnI (mnI (mnI a0 a1) a7) a8) a9 from rfl, mn3_lt]
          constructor
          · rintro (h | h | h)
            · rw [mn3_lt] at h; omega
            · omega
            · omega
          · intro h
            rw [mn3_lt]; omega
        by_cases q1 : mnI (mnI (mnI (mnI a0 a1) a7) a8) a9 < 0
        · rw [decide_eq_true q1, cond_true, bad, if_neg (by rw [ew]; rw [mn] at q1; omega)]
        · rw [decide_eq_false q1, cond_false]
          by_cases q2 : mxI a0 a1 > 255
          · rw [decide_eq_true q2, cond_true, bad, if_neg (by rw [ew]; rw [mx_gt] at q2; omega)]
          · rw [decide_eq_false q2, cond_false]
            by_cases q3 : mxI a7 a8 ≥ 65536
            · rw [decide_eq_true q3, cond_true, bad, if_neg (by rw [ew]; rw [mx_ge] at q3; omega)]
            · rw [decide_eq_false q3, cond_false]
              by_cases q4 : a9 > 1
              · rw [decide_eq_true q4, bad, if_neg (by rw [ew]; omega)]
              · have hw : wideM [a0, a1, a2, a3, a4, a5, a6, a7, a8, a9] := by
                  rw [ew]; rw [mn] at q1; rw [mx_gt] at q2; rw [mx_ge] at q3; omega
                rw [decide_eq_false q4, o1 _ hw, if_pos hw]
    · rw [show (((l.length : Nat) : Int) != 10) = true from bne_iff_ne.2 (by omega), cond_true, bad, if_neg (fun h => h10 h.1)]
end Go.RX.L

namespace Go.RX.L
open Go Go.RX
/-! ### the document's reader -/
end Go.RX.L

namespace Go.RX.L
open Go Go.RX
/-! ### frames -/
/-! ### what is written is read -/
theorem tailP_enc {m : Msg} (hf : FineM m) (h : rightM m = true) (rest : List Int) : tailP (encL m.ID ++ (encT m.Session ++ (encT m.Payload ++ rest))) = if rest = [] then some (m.ID, m.Session, m.Payload) else none := by
  have hi := id_len h
  have h1 := pL_enc hf.id (by omega) (encT m.Session ++ (encT m.Payload ++ rest))
  have h2 := pT_enc (s := m.Session) (by omega) (encT m.Payload ++ rest)
  have h3 := pT_enc (s := m.Payload) (by omega) rest
  rw [tailP_4 h1 (by rw [List.drop_left]; exact h2) (by rw [← List.drop_drop, List.drop_left, List.drop_left]; exact h3)]
  simp only [List.length_append]
  cases rest with
  | nil => rw [if_pos (by simp; omega), if_pos rfl]
  | cons x r => rw [if_neg (by simp; omega), if_neg (by simp)]
theorem wide_nums {m : Msg} (hf : FineM m) (h : rightM m = true) : wideM (numsM m) := by
  have hh := (right_and h).1
  unfold hdM at hh
  have hu := hf.up
  refine ⟨rfl, ?_⟩
  show 0 ≤ m.From ∧ m.From ≤ 255 ∧ 0 ≤ m.To ∧ m.To ≤ 255 ∧ 0 ≤ m.Up ∧ m.Up ≤ 65535 ∧ 0 ≤ m.Code ∧ m.Code ≤ 65535 ∧ 0 ≤ (bif m.HasPlan then (1 : Int) else 0) ∧ (bif m.HasPlan then (1 : Int) else 0) ≤ 1
  cases m.HasPlan <;> simp only [cond_true, cond_false] <;> omega
theorem ofM_enc' {m : Msg} (hf : FineM m) (h : rightM m = true) (k : Int) (rest : List Int) : ofM k (encB m ++ rest) = if rest = [] ∧ rightM ⟨k, m.From, m.To, m.Epoch, m.Ballot, m.Accepted, m.Nonce, m.Time, m.Up, m.Code, m.HasPlan, m.Plan, m.ID, m.Session, m.Payload⟩ = true then (⟨k, m.From, m.To, m.Epoch, m.Ballot, m.Accepted, m.Nonce, m.Time, m.Up, m.Code, m.HasPlan, m.Plan, m.ID, m.Session, m.Payload⟩, 0) else (zeroM, 51) := by
  have e0 : encB m ++ rest = encL (numsM m) ++ (encQ m ++ (encL m.ID ++ (encT m.Session ++ (encT m.Payload ++ rest)))) := by simp [encB]
  rw [e0]
  unfold ofM
  rw [pL_enc (numsM_in hf h) (by simp [numsM])]
  simp only [if_pos (wide_nums hf h), List.drop_left]
  unfold ofRest
  have fin : ∀ p, p = m.Plan → (numsM m).getD 9 0 = (bif m.HasPlan then (1 : Int) else 0) → ofTail (baseM k (numsM m) p) (encL m.ID ++ (encT m.Session ++ (encT m.Payload ++ rest))) = if rest = [] ∧ rightM ⟨k, m.From, m.To, m.Epoch, m.Ballot, m.Accepted, m.Nonce, m.Time, m.Up, m.Code, m.HasPlan, m.Plan, m.ID, m.Session, m.Payload⟩ = true then (⟨k, m.From, m.To, m.Epoch, m.Ballot, m.Accepted, m.Nonce, m.Time, m.Up, m.Code, m.HasPlan, m.Plan, m.ID, m.Session, m.Payload⟩, 0) else (zeroM, 51) := by
    intro p hp h9
    have hb : withT (baseM k (numsM m) p) m.ID m.Session m.Payload = ⟨k, m.From, m.To, m.Epoch, m.Ballot, m.Accepted, m.Nonce, m.Time, m.Up, m.Code, m.HasPlan, m.Plan, m.ID, m.Session, m.Payload⟩ := by
      subst hp
      have : ((numsM m).getD 9 0 == 1) = m.HasPlan := by rw [h9]; cases m.HasPlan <;> rfl
      simp only [withT, baseM, this]
      rfl
    unfold ofTail
    rw [tailP_enc hf h]
    by_cases hr : rest = []
    · rw [if_pos hr]
      simp only [hb, hr, true_and]
    · rw [if_neg hr]
      simp only [hr, false_and, if_false]
  unfold encQ
  cases hp : m.HasPlan with
  | false =>
    have h9 : (numsM m).getD 9 0 = 0 := by show (bif m.HasPlan then (1 : Int) else 0) = 0; rw [hp]; rfl
    rw [if_neg (by rw [h9]; decide)]
    have := fin zeroPl (right_zero h hp).symm rfl
    rw [hp] at this
    exact this
  | true =>
    have h9 : (numsM m).getD 9 0 = 1 := by show (bif m.HasPlan then (1 : Int) else 0) = 1; rw [hp]; rfl
    have rp := right_plan h hp
    have pl := encP_len hf.pl rp
    rw [if_pos h9, cond_true, pT_enc (by omega)]
    have g := getP_enc hf.pl (rightP_iff.2 rp)
    simp only [g, if_true, List.drop_left]
    have := fin m.Plan rfl rfl
    rw [hp] at this
    exact this
theorem ofM_enc {m : Msg} (hf : FineM m) (h : rightM m = true) : ofM m.Kind (encB m) = (m, 0) := by
  have := ofM_enc' hf h m.Kind []
  rw [List.append_nil] at this
  rw [this, if_pos ⟨rfl, h⟩]
/-! ### alike? -/
end Go.RX.L

namespace Go.RX.L
open Go Go.RX
theorem kind_in {m : Msg} (h : rightM m = true) : 0 ≤ m.Kind ∧ m.Kind ≤ 255 := by
  have hh := (right_and h).1
  unfold hdM at hh
  omega
/-! ### the head -/
theorem frame_bytes {m : Msg} (hf : FineM m) (h : rightM m = true) : Bytes (encF m.Kind (encB m)) := by
  have hl := encB_len hf h
  exact encF_bytes (kind_in h) (encB_bytes hf) (by omega)
end Go.RX.L

namespace Go.RX.L
open Go Go.RX
def eff (fuse : Int) (down : Bool) : Option Int := if down = true ∨ fuse = 0 then none else some (if 0 < fuse then fuse - 1 else fuse)
def fd (fuse : Int) (down : Bool) : Int := bif down then fuse else -1
def okFuse (f : Int) : Prop := -1 ≤ f ∧ f ≤ 9223372036854775807
theorem eff_up {f g : Int} {d : Bool} (h : eff f d = some g) : d = false ∧ f ≠ 0 ∧ g = if 0 < f then f - 1 else f := by
  unfold eff at h
  split at h
  · cases h
  · rename_i hn
    simp only [not_or, Bool.not_eq_true] at hn
    exact ⟨hn.1, hn.2, (Option.some.inj h).symm⟩
theorem eff_fuse {f g : Int} {d : Bool} (hf : okFuse f) (h : eff f d = some g) : okFuse g := by
  obtain ⟨-, h1, rfl⟩ := eff_up h
  unfold okFuse at *
  split <;> omega
theorem fd_fuse {f : Int} {d : Bool} (hf : okFuse f) : okFuse (fd f d) := by
  cases d <;> simp [fd, okFuse] at * <;> omega
theorem lim7 {n : Nat} (h : n ≤ 20000000) : decide (n * 1 ≤ bytesLim) = true := limOk (by omega)
theorem jappend {k : Int} {body : List Int} (hk : 0 ≤ k ∧ k ≤ 255) (hb : Bytes body) (hl : body.length ≤ 8192) {fuse : Int} (hf : okFuse fuse) {down : Bool} {s t : List Int} (ht : t.length ≤ 10000000) :
    Journal_Append k body fuse down s t = some (match eff fuse down with | some f => (0, f, false, t ++ encF k body) | none => (61, fd fuse down, true, t)) := by
  have hp : frame_Put k body = some (encF k body, 0) := by rw [framePut_ok hk hb (by simp only [memB]; omega), putF, if_pos hl]
  have hlen := encF_len k body
  have app : ∀ f d, Journal_Append_1 (encF k body) f d s t = some (t ++ encF k body) := fun f d => by
    simp only [Journal_Append_1, List.length_map, lim7 (show t.length + (encF k body).length ≤ 20000000 by omega), cond_true]
  unfold okFuse at hf
  simp only [Journal_Append, hp, Option.bind_some, bne_self_eq_false, cond_false, Journal_effect__Append_1]
  cases down with
  | true => simp only [Bool.not_true, cond_false, Journal_effect__Append_1_2, Journal_effect__Append_1_1, cond_true, Option.bind_some, eff, fd, true_or, if_true]
  | false =>
    simp only [Bool.not_false, cond_true]
    by_cases h0 : fuse = 0
    · subst h0
      simp only [beq_self_eq_true, Journal_effect__Append_1_2, cond_true, Journal_effect__Append_1_1, Option.bind_some, eff, fd, or_true, if_true, cond_false]
    · have e0 : ((fuse : Int) == 0) = false := by simpa using h0
      simp only [e0, Journal_effect__Append_1_2, cond_false, Journal_effect__Append_1_1, app, Option.bind_some, eff, fd, h0, Bool.false_eq_true, or_self, if_false]
      by_cases hp : 0 < fuse
      · have : decide (fuse > 0) = true := decide_eq_true hp
        rw [wI64 (n := fuse - 1) (by omega) (by omega)]
        simp only [this, cond_true, Option.bind_some, if_pos hp]
      · have : decide (fuse > 0) = false := decide_eq_false (by omega)
        simp only [this, cond_false, Option.bind_some, if_neg hp]
theorem jsync {fuse : Int} (hf : okFuse fuse) {down : Bool} {s t : List Int} (ht : s.length + t.length ≤ 20000000) :
    Journal_Sync fuse down s t = some (match eff fuse down with | some f => (0, f, false, s ++ t, []) | none => (61, fd fuse down, true, s, t)) := by
  have app : ∀ f d, Journal_Sync_1 f d s t = some (s ++ t, []) := fun f d => by
    have e : (List.take t.length (List.drop 0 (List.map (eInt .u8) t))).length = t.length := by simp
    simp only [Journal_Sync_1, List.length_map]
    rw [e, lim7 ht]; rfl
  unfold okFuse at hf
  simp only [Journal_Sync, Journal_effect__Sync_1]
  cases down with
  | true => simp only [Bool.not_true, cond_false, Journal_effect__Sync_1_2, Journal_effect__Sync_1_1, cond_true, Option.bind_some, eff, fd, true_or, if_true]
  | false =>
    simp only [Bool.not_false, cond_true]
    by_cases h0 : fuse = 0
    · subst h0
      simp only [beq_self_eq_true, Journal_effect__Sync_1_2, cond_true, Journal_effect__Sync_1_1, Option.bind_some, eff, fd, or_true, if_true, cond_false]
    · have e0 : ((fuse : Int) == 0) = false := by simpa using h0
      simp only [e0, Journal_effect__Sync_1_2, cond_false, Journal_effect__Sync_1_1, app, Option.bind_some, eff, fd, h0, Bool.false_eq_true, or_self, if_false]
      by_cases hp : 0 < fuse
      · have : decide (fuse > 0) = true := decide_eq_true hp
        rw [wI64 (n := fuse - 1) (by omega) (by omega)]
        simp only [this, cond_true, Option.bind_some, if_pos hp]
      · have : decide (fuse > 0) = false := decide_eq_false (by omega)
        simp only [this, cond_false, Option.bind_some, if_neg hp]
def kept_ (keep : Int) (t : List Int) : List Int := t.take (min (max keep 0) (t.length : Int)).toNat
theorem jcrash {keep fuse : Int} {down : Bool} {s t : List Int} (ht : s.length + t.length ≤ 20000000) : Journal_Crash keep fuse down s t = some (-1, true, s ++ kept_ keep t, []) := by
  have e : mnI (mxI keep 0) ((t.length : Nat) : Int) = ((min (max keep 0) (t.length : Int)).toNat : Int) := by
    unfold mnI mxI
    split <;> split <;> omega
  generalize hk : (min (max keep 0) (t.length : Int)).toNat = n at e
  have hn : n ≤ t.length := by omega
  have c1 : (decide (((0 : Nat) : Int) ≤ (n : Int)) && decide ((n : Int) ≤ ((t.length : Nat) : Int))) = true := by simp; omega
  have c2 : (List.take n (List.drop 0 (List.map (eInt .u8) t))).length = n := by simp; omega
  simp only [Journal_Crash, List.length_map, e, c1, cond_true, Int.toNat_natCast]
  rw [c2]
  simp only [show Nat.beq n n = true from Nat.beq_refl n, lim7 (show s.length + n ≤ 20000000 by omega), List.drop_zero, kept_, hk, cond_true]
theorem jopen {l : List Fr1} {J : List Int} {e : Int} (hl : ∀ x ∈ l, okFr x) (hJ : pF J = .inl e) (hJb : Bytes J) (hm : (frs l ++ J).length ≤ 10000000) {fuse : Int} (hf : okFuse fuse) {down : Bool} {t : List Int} :
    Journal_Open fuse down (frs l ++ J) t = some (if J = [] then (l.map (·.1), l.map (·.2), (0 : Int), fuse, false, frs l, ([] : List Int)) else (match eff fuse false with | some f => (l.map (·.1), l.map (·.2), 0, f, false, frs l, []) | none => ([], [], 61, fd fuse false, true, frs l ++ J, []))) := by
  have ha := jall hl hJ hJb hm
  have cut : ∀ f d (u : List Int), Journal_Open_1 ((frs l).length : Int) f d (frs l ++ J) u = some (frs l) := fun f d u => by
    have c1 : (decide (((0 : Nat) : Int) ≤ ((frs l).length : Int)) && decide (((frs l).length : Int) ≤ (((frs l ++ J).length : Nat) : Int))) = true := by simp; omega
    have := jclone2 (b := frs l ++ J) (ln := (frs l).length) (cp := (frs l ++ J).length) (by simp) (by simp only [memB]; omega)
    simp only [Journal_Open_1, List.length_map, c1, cond_true, Int.toNat_natCast, this, Option.bind_some, List.take_left]
  simp only [Journal_Open, ha, Option.bind_some, List.length_map]
  by_cases hJ0 : J = []
  · subst hJ0
    simp only [List.append_nil, Int.lt_irrefl, decide_false, cond_false, if_true]
  · have hpos : 0 < J.length := List.length_pos_iff.2 hJ0
    have : decide (((frs l).length : Int) < (((frs l ++ J).length : Nat) : Int)) = true := by simp; omega
    unfold okFuse at hf
    simp only [this, cond_true, if_neg hJ0, Journal_effect__Open_1, Bool.not_false]
    by_cases h0 : fuse = 0
    · subst h0
      simp [Journal_effect__Open_1_2, Journal_effect__Open_1_1, eff, fd]
    · have e0 : ((fuse : Int) == 0) = false := by simpa using h0
      simp only [e0, Journal_effect__Open_1_2, cond_false, Journal_effect__Open_1_1, cut, Option.bind_some, eff, fd, h0, Bool.false_eq_true, or_self, if_false]
      by_cases hp : 0 < fuse
      · have : decide (fuse > 0) = true := decide_eq_true hp
        rw [wI64 (n := fuse - 1) (by omega) (by omega)]
        simp only [this, cond_true, Option.bind_some, if_pos hp, bne_self_eq_false, cond_false]
      · have : decide (fuse > 0) = false := decide_eq_false (by omega)
        simp only [this, cond_false, Option.bind_some, if_neg hp, bne_self_eq_false]
/-! ### records -/
def okRec (m : Msg) : Prop := FineM m ∧ rightM m = true
def rec1 (m : Msg) : Fr1 := (m.Kind, encB m)
theorem okRec.fr {m : Msg} (h : okRec m) : okFr (rec1 m) := by
  refine ⟨kind_in h.2, fun c hc => ?_, by have := encB_len h.1 h.2; simp only [rec1]; omega⟩
  have := frame_bytes h.1 h.2
  have hc' : c ∈ encB m := hc
  exact this c (by simp only [encF, inner]; simp [hc'])
def log (rs : List Msg) : List Int := frs (rs.map rec1)
theorem log_app (a b : List Msg) : log (a ++ b) = log a ++ log b := by simp [log, frs_app]
theorem log_one (m : Msg) : log [m] = encF m.Kind (encB m) := by simp [log, frs, rec1]
theorem okFrs {rs : List Msg} (h : ∀ m ∈ rs, okRec m) : ∀ x ∈ rs.map rec1, okFr x := fun x hx => by
  obtain ⟨m, hm, rfl⟩ := List.mem_map.1 hx
  exact (h m hm).fr
theorem log_bytes {rs : List Msg} (h : ∀ m ∈ rs, okRec m) : Bytes (log rs) := frs_bytes (okFrs h)
/-- A disk: its records; what is cut; what is not synced. -/
structure Disk (rs : List Msg) (J : List Int) (s : List Int) : Prop where
  ok : ∀ m ∈ rs, okRec m
  eq : s = log rs ++ J
  cut : ∃ e, pF J = .inl e
  jb : Bytes J
theorem Disk.nil : Disk [] [] [] := ⟨fun m h => by simp at h, rfl, ⟨_, rfl⟩, fun c hc => by simp at hc⟩
theorem Disk.crash {rs : List Msg} {s : List Int} (h : Disk rs [] s) {m : Msg} (hm : okRec m) (keep : Int) : (Disk (rs ++ [m]) [] (s ++ kept_ keep (log [m]))) ∨ (∃ J, Disk rs J (s ++ kept_ keep (log [m]))) := by
  have hl : (log [m]).length = (encB m).length + 8 := by rw [log_one, encF_len]
  obtain ⟨h1, h2, h3⟩ := hm.fr
  unfold kept_
  generalize hn : (min (max keep 0) ((log [m]).length : Int)).toNat = n
  by_cases hf : n = (log [m]).length
  · left
    refine ⟨fun x hx => ?_, ?_, ⟨_, rfl⟩, fun c hc => by simp at hc⟩
    · rcases List.mem_append.1 hx with hx | hx
      · exact h.ok x hx
      · rw [List.mem_singleton.1 hx]; exact hm
    · rw [hf, List.take_length, h.eq, log_app]; simp
  · right
    refine ⟨(log [m]).take n, h.ok, by rw [h.eq]; simp, ?_, fun c hc => log_bytes (rs := [m]) (fun x hx => by rw [List.mem_singleton.1 hx]; exact hm) c (List.mem_of_mem_take hc)⟩
    have := pF_cut h1 h2 h3 (j := n) (by simp only [rec1]; omega)
    rw [log_one]
    simpa only [rec1] using this
theorem Disk.crash0 {rs : List Msg} {J s : List Int} (h : Disk rs J s) (keep : Int) : Disk rs J (s ++ kept_ keep []) := by
  simpa [kept_] using h
end Go.RX.L

namespace Go.RX.L
open Go Go.RX
theorem pix_loop (l : List Int) (lo hi : Int) (hl : l.length < 9223372036854775807) : ∀ (j k : Nat), k + j = l.length → ∃ r : Int, Ev slices_IndexFunc__policy_all_1_step (.s1 l lo hi l.length k) r ∧ decide (r ≥ 0) = !(btw lo hi (l.drop k)) := by
  intro j
  induction j with
  | zero =>
    intro k hk
    refine ⟨-1, .done ?_, ?_⟩
    · simp [slices_IndexFunc__policy_all_1_step, slices_IndexFunc__policy_all_1_1, show ¬ (k : Int) < l.length by omega]
    · rw [List.drop_eq_nil_of_le (by omega)]; rfl
  | succ j ih =>
    intro k hk
    have hlt : k < l.length := by omega
    rw [List.drop_eq_getElem_cons hlt, btw_cons]
    by_cases h : lo ≤ l[k] ∧ l[k] ≤ hi
    · obtain ⟨r, h1, h2⟩ := ih (k + 1) (by omega)
      refine ⟨r, .next (s' := .s1 l lo hi l.length ((k + 1 : Nat) : Int)) ?_ h1, ?_⟩
      · have e1 : decide (l[k] < lo) = false := by simp; omega
        have e2 : decide (l[k] > hi) = false := by simp; omega
        simp only [slices_IndexFunc__policy_all_1_step, slices_IndexFunc__policy_all_1_1, List.length_map, ltB hlt, le0, Bool.and_self, cond_true, Int.toNat_natCast, List.getE hlt, Option.bind_some, policy_all_1, e1, e2, cond_false, wS (show k < 9223372036854775807 by omega)]
      · rw [h2, decide_eq_true h, Bool.true_and]
    · refine ⟨k, .done ?_, ?_⟩
      · have e : policy_all_1 l[k] lo hi = some true := by
          unfold policy_all_1
          by_cases h1 : l[k] < lo
          · rw [decide_eq_true h1]; rfl
          · have h2 : l[k] > hi := by omega
            rw [decide_eq_false h1, decide_eq_true h2]; rfl
        simp only [slices_IndexFunc__policy_all_1_step, slices_IndexFunc__policy_all_1_1, List.length_map, ltB hlt, le0, Bool.and_self, cond_true, Int.toNat_natCast, List.getE hlt, Option.bind_some, e]
      · rw [decide_eq_false h, Bool.false_and]; simp
theorem pall_ok (lo hi : Int) {l : List Int} (hl : l.length < 9223372036854775807) : policy_all lo hi l = some (btw lo hi l) := by
  obtain ⟨r, h1, h2⟩ := pix_loop l lo hi hl l.length 0 (by omega)
  have h3 : slices_IndexFunc__policy_all_1 l lo hi = some r := evf_of (.next (s' := .s1 l lo hi l.length 0) (by simp [slices_IndexFunc__policy_all_1_step, slices_IndexFunc__policy_all_1_0]) h1)
  simp only [policy_all, slices_ContainsFunc__policy_all_1, h3, Option.bind_some, h2]
  simp
theorem pix_v2_loop (l : List Int) (lo hi : Int) (hl : l.length < 9223372036854775807) : ∀ (j k : Nat), k + j = l.length → ∃ r : Int, Ev slices_IndexFunc__policy_all_1_v2_step (.s1 l lo hi l.length k) r ∧ decide (r ≥ 0) = !(btw lo hi (l.drop k)) := by
  intro j
  induction j with
  | zero =>
    intro k hk
    refine ⟨-1, .done ?_, ?_⟩
    · simp [slices_IndexFunc__policy_all_1_v2_step, slices_IndexFunc__policy_all_1_v2_1, show ¬ (k : Int) < l.length by omega]
    · rw [List.drop_eq_nil_of_le (by omega)]; rfl
  | succ j ih =>
    intro k hk
    have hlt : k < l.length := by omega
    rw [List.drop_eq_getElem_cons hlt, btw_cons]
    by_cases h : lo ≤ l[k] ∧ l[k] ≤ hi
    · obtain ⟨r, h1, h2⟩ := ih (k + 1) (by omega)
      refine ⟨r, .next (s' := .s1 l lo hi l.length ((k + 1 : Nat) : Int)) ?_ h1, ?_⟩
      · have e1 : decide (l[k] < lo) = false := by simp; omega
        have e2 : decide (l[k] > hi) = false := by simp; omega
        simp only [slices_IndexFunc__policy_all_1_v2_step, slices_IndexFunc__policy_all_1_v2_1, List.length_map, ltB hlt, le0, Bool.and_self, cond_true, Int.toNat_natCast, List.getE hlt, Option.bind_some, policy_all_1_v2, e1, e2, cond_false, wS (show k < 9223372036854775807 by omega)]
      · rw [h2, decide_eq_true h, Bool.true_and]
    · refine ⟨k, .done ?_, ?_⟩
      · have e : policy_all_1_v2 l[k] lo hi = some true := by
          unfold policy_all_1_v2
          by_cases h1 : l[k] < lo
          · rw [decide_eq_true h1]; rfl
          · have h2 : l[k] > hi := by omega
            rw [decide_eq_false h1, decide_eq_true h2]; rfl
        simp only [slices_IndexFunc__policy_all_1_v2_step, slices_IndexFunc__policy_all_1_v2_1, List.length_map, ltB hlt, le0, Bool.and_self, cond_true, Int.toNat_natCast, List.getE hlt, Option.bind_some, e]
      · rw [decide_eq_false h, Bool.false_and]; simp
theorem pall_v2_ok (lo hi : Int) {l : List Int} (hl : l.length < 9223372036854775807) : policy_all_v2 lo hi l = some (btw lo hi l) := by
  obtain ⟨r, h1, h2⟩ := pix_v2_loop l lo hi hl l.length 0 (by omega)
  have h3 : slices_IndexFunc__policy_all_1_v2 l lo hi = some r := evf_of (.next (s' := .s1 l lo hi l.length 0) (by simp [slices_IndexFunc__policy_all_1_v2_step, slices_IndexFunc__policy_all_1_v2_0]) h1)
  simp only [policy_all_v2, slices_ContainsFunc__policy_all_1_v2, h3, Option.bind_some, h2]
  simp
def rightC (c : Config) : Bool :=
  btw 0 3 [c.F_] && (btw 1 4 [c.Deciders, c.Routers] && (btw 1 16 [c.Targets] && (btw 1 7 [c.Observers] && (decide ((c.Tiers.length : Int) = c.Targets) && (btw 0 15 c.Tiers &&
  (btw 1 1048576 [c.Every, c.Wait, c.Fresh, c.L_, c.Dwell, c.D_, c.W_, c.Half, c.StepTime, c.S_, c.Span, c.Retry] && (btw 0 1048576 [c.M_] && (btw 1 100 [c.Rise, c.Fall, c.First, c.Step] && (btw 1 8 [c.B_] && (btw 0 1000000 [c.Hit] && (btw 1 1000000 [c.Suppress] &&
  (btw 0 (IntKind.i64.wrap (c.Suppress - 1)) [c.Reuse] && (btw 1 1000 [c.Cap] && (btw 1 64 [c.Room] && btw 1 20 [c.Tries]))))))))))))))
theorem bif_and (x y : Bool) : (bif x then some y else some false) = some (x && y) := by cases x <;> rfl
theorem polright_ok {c : Config} (h : c.Tiers.length < 9223372036854775807) : policy_Right c = some (rightC c) := by
  have a : ∀ lo hi (l : List Int), l.length < 9223372036854775807 → policy_all lo hi l = some (btw lo hi l) := fun lo hi l h => pall_ok lo hi h
  have a2 : ∀ lo hi (l : List Int), l.length < 9223372036854775807 → policy_all_v2 lo hi l = some (btw lo hi l) := fun lo hi l h => pall_v2_ok lo hi h
  unfold policy_Right rightC
  rw [a 0 3 _ (by simp), a 1 4 _ (by simp), a 1 16 _ (by simp), a 1 7 _ (by simp), a 0 15 _ h, a2 1 1048576 _ (by simp), a2 0 1048576 _ (by simp), a 1 100 _ (by simp), a 1 8 _ (by simp), a 0 1000000 _ (by simp), a 1 1000000 _ (by simp), a 0 _ _ (by simp), a 1 1000 _ (by simp), a 1 64 _ (by simp), a 1 20 _ (by simp)]
  simp only [Option.bind_some, bif_and, List.length_map]
  congr 1
theorem rightC_b {c : Config} (h : rightC c = true) : (1 ≤ c.Targets ∧ c.Targets ≤ 16) ∧ (1 ≤ c.L_ ∧ c.L_ ≤ 1048576) ∧ (0 ≤ c.M_ ∧ c.M_ ≤ 1048576) ∧ (1 ≤ c.S_ ∧ c.S_ ≤ 1048576) := by
  simp only [rightC, Bool.and_eq_true, btw_iff, List.mem_cons, List.not_mem_nil, or_false, forall_eq_or_imp, forall_eq] at h
  obtain ⟨-, -, h3, -, -, -, h7, h8, -⟩ := h
  omega
theorem polzero_ok {c : Config} (ht : c.Tiers.length < 9223372036854775807) (h : rightC c = true) : policy_Zero c = some ⟨0, -1, -1, -1, 0, 0, 0, 0, 0, 0, List.replicate c.Targets.toNat 0, []⟩ := by
  obtain ⟨⟨h1, h2⟩, -⟩ := rightC_b h
  have e : (decide ((0 : Int) ≤ c.Targets) && (decide ((c.Targets : Int) ≤ c.Targets) && (decide ((c.Targets : Int) ≤ 9223372036854775807) && decide (c.Targets.toNat * 8 ≤ bytesLim)))) = true := by
    have l : decide (c.Targets.toNat * 8 ≤ bytesLim) = true := limOk (by omega)
    simp only [l, Bool.and_eq_true, decide_eq_true_eq]
    exact ⟨by omega, Int.le_refl _, by omega, trivial⟩
  simp only [policy_Zero, polright_ok ht, h, Option.bind_some, Bool.not_true, cond_false, e, cond_true]
end Go.RX.L

namespace Go.RX.L
open Go Go.RX Go.Proofs
attribute [local irreducible] FinQ
noncomputable def journal_New_e (y : Int × Bool × (List Int) × (List Int)) : D × Sto := (.ptr 0 0 0, [some ⟨4, true, [[(grD 1 (List.map (eInt .u8) y.2.2.1)), (grD 2 (List.map (eInt .u8) y.2.2.2)), .int .i64 y.1, .bool y.2.1]]⟩, some ⟨1, false, (List.map (eInt .u8) y.2.2.1)⟩, some ⟨1, false, (List.map (eInt .u8) y.2.2.2)⟩])
noncomputable def journal_New  : Option (Int × Bool × (List Int) × (List Int)) := (some ((-1), false, [], []))
theorem journal_New_ok  {r : Int × Bool × (List Int) × (List Int)} (h : journal_New = some r) : Sound E 23 [] [] (Rs journal_New_e r) := so (fn := Tryz.f23) (k := true) (m := 0) h <| by
 intro r h; unfold journal_New at h
 refine zf 10 [.matc 0 0 0 1, .matc 0 0 1 1] ?_
 exact zu 1 h
end Go.RX.L
