/-
  Words and walks for FenceLeased. No condition.
-/
import Derived.Test.YtflpengopdhhhaaDoorFenceLeasedX5
set_option linter.unusedSectionVars false
set_option linter.unnecessarySimpa false
set_option linter.unusedSimpArgs false
set_option linter.unusedVariables false
namespace Go.RX
open Go
/-! ### zigzag -/
def zz (n : Int) : Nat := if 0 ≤ n then 2 * n.toNat else 2 * (-n).toNat - 1
def unzz (u : Nat) : Int := if u % 2 = 0 then ((u / 2 : Nat) : Int) else -((u / 2 : Nat) : Int) - 1
theorem unzz_zz (n : Int) : unzz (zz n) = n := by
  unfold unzz zz
  split <;> split <;> omega
theorem zz_unzz (u : Nat) : zz (unzz u) = u := by
  unfold unzz zz
  split <;> split <;> omega
theorem zz_lt {n : Int} (h : inK .i64 n) : zz n < 18446744073709551616 := by
  have := inI64.1 h
  unfold zz
  split <;> omega
theorem unzz_in {u : Nat} (h : u < 18446744073709551616) : inK .i64 (unzz u) := by
  refine inI64.2 ?_
  unfold unzz
  split <;> omega
/-! ### a number's bytes -/
def venc (u : Nat) : List Int := if h : u < 128 then [(u : Int)] else ((u % 128 + 128 : Nat) : Int) :: venc (u / 128)
termination_by u
decreasing_by omega
theorem venc_lt {u : Nat} (h : u < 128) : venc u = [(u : Int)] := by rw [venc, dif_pos h]
theorem venc_ge {u : Nat} (h : 128 ≤ u) : venc u = ((u % 128 + 128 : Nat) : Int) :: venc (u / 128) := by rw [venc, dif_neg (by omega)]
theorem venc_len : ∀ (k u : Nat), u < 2 ^ (7 * k) → 0 < k → (venc u).length ≤ k
  | 0, _, _, h => absurd h (by simp)
  | k + 1, u, h, _ => by
    by_cases hu : u < 128
    · rw [venc_lt hu]; simp
    · rw [venc_ge (by omega)]
      have h' : u / 128 < 2 ^ (7 * k) := by
        rw [Nat.div_lt_iff_lt_mul (by decide)]
        have : 2 ^ (7 * (k + 1)) = 2 ^ (7 * k) * 128 := by rw [Nat.mul_succ, Nat.pow_add]
        omega
      have hk : 0 < k := by
        rcases Nat.eq_zero_or_pos k with rfl | hk
        · simp at h; omega
        · exact hk
      have := venc_len k _ h' hk
      simp; omega
theorem venc_ten {u : Nat} (h : u < 18446744073709551616) : (venc u).length ≤ 10 := venc_len 10 u (by
  have : (2 : Nat) ^ (7 * 10) = 1180591620717411303424 := by decide
  omega) (by decide)
theorem venc_byte : ∀ (u : Nat), ∀ c ∈ venc u, 0 ≤ c ∧ c ≤ 255 := by
  intro u
  induction u using Nat.strongRecOn with
  | ind u ih =>
    intro c hc
    by_cases h : u < 128
    · rw [venc_lt h] at hc; simp at hc; omega
    · rw [venc_ge (by omega)] at hc
      rcases List.mem_cons.1 hc with rfl | hc
      · omega
      · exact ih _ (by omega) c hc
def vd : Nat → List Int → Int ⊕ (Nat × Nat)
  | _, [] => .inl 11
  | i, c :: l => if (i = 9 ∧ 1 < c) ∨ (c = 0 ∧ 0 < i) then .inl 12 else if c < 128 then .inr (c.toNat, 1) else
    match vd (i + 1) l with
    | .inl e => .inl e
    | .inr (u, k) => .inr (c.toNat - 128 + 128 * u, k + 1)
def vS (c : Nat) (r : Int ⊕ (Nat × Nat)) : Int ⊕ (Nat × Nat) := match r with
  | .inl e => .inl e
  | .inr (u, k) => .inr (c - 128 + 128 * u, k + 1)
theorem vd_cons (i : Nat) (c : Int) (l : List Int) : vd i (c :: l) = if (i = 9 ∧ 1 < c) ∨ (c = 0 ∧ 0 < i) then .inl 12 else if c < 128 then .inr (c.toNat, 1) else vS c.toNat (vd (i + 1) l) := by
  simp only [vd]
  split
  · rfl
  · split
    · rfl
    · unfold vS; cases vd (i + 1) l <;> rfl
theorem pow_step {i : Nat} (h : i ≤ 8) : 2 ^ (64 - 7 * i) = 2 ^ (64 - 7 * (i + 1)) * 128 := by
  rw [show 64 - 7 * i = (64 - 7 * (i + 1)) + 7 by omega, Nat.pow_add]
theorem vd_enc : ∀ (u i : Nat) (rest : List Int), i ≤ 9 → u < 2 ^ (64 - 7 * i) → (0 < u ∨ i = 0) → vd i (venc u ++ rest) = .inr (u, (venc u).length) := by
  intro u
  induction u using Nat.strongRecOn with
  | ind u ih =>
    intro i rest hi hu h0
    by_cases h : u < 128
    · rw [venc_lt h]
      simp only [List.cons_append, List.nil_append, vd]
      rw [if_neg, if_pos (by omega)]
      · simp
      · rintro (⟨rfl, h1⟩ | ⟨h1, h2⟩)
        · simp at hu; omega
        · omega
    · have hi8 : i ≤ 8 := by
        rcases Nat.lt_or_ge i 9 with h | h
        · omega
        · have : i = 9 := by omega
          subst this
          simp at hu; omega
      rw [venc_ge (by omega)]
      simp only [List.cons_append, vd]
      have hu' : u / 128 < 2 ^ (64 - 7 * (i + 1)) := by
        rw [Nat.div_lt_iff_lt_mul (by decide), ← pow_step hi8]; exact hu
      rw [if_neg, if_neg (by omega), ih (u / 128) (by omega) (i + 1) rest (by omega) hu' (.inl (by omega))]
      · simp; omega
      · rintro (⟨rfl, h1⟩ | ⟨h1, h2⟩) <;> omega
theorem vd_dec : ∀ (l : List Int) (i u k : Nat), i ≤ 9 → (∀ c ∈ l, 0 ≤ c ∧ c ≤ 255) → vd i l = .inr (u, k) → l.take k = venc u ∧ k ≤ l.length ∧ k = (venc u).length ∧ u < 2 ^ (64 - 7 * i) ∧ (0 < i → 0 < u)
  | [], _, _, _, _, _, h => by simp [vd] at h
  | c :: l, i, u, k, hi, hb, h => by
    simp only [vd] at h
    have hc := hb c (by simp)
    split at h
    · cases h
    · rename_i hno
      simp only [not_or, not_and] at hno
      split at h
      · rename_i hlt
        simp only [Sum.inr.injEq, Prod.mk.injEq] at h
        obtain ⟨rfl, rfl⟩ := h
        have hv : venc c.toNat = [c] := by rw [venc_lt (by omega), Int.toNat_of_nonneg hc.1]
        refine ⟨by rw [hv]; simp, by simp, by rw [hv]; rfl, ?_, fun h => ?_⟩
        · rcases Nat.lt_or_ge i 9 with h9 | h9
          · have : 2 ^ 8 ≤ 2 ^ (64 - 7 * i) := Nat.pow_le_pow_right (by decide) (by omega)
            omega
          · have : i = 9 := by omega
            subst this
            have := hno.1 rfl
            simp; omega
        · have := hno.2; omega
      · rename_i hge
        split at h
        · cases h
        · rename_i u' k' hv
          simp only [Sum.inr.injEq, Prod.mk.injEq] at h
          obtain ⟨rfl, rfl⟩ := h
          have hi8 : i ≤ 8 := by
            rcases Nat.lt_or_ge i 9 with h9 | h9
            · omega
            · have : i = 9 := by omega
              have := hno.1 this
              omega
          obtain ⟨h1, h2, h3, h4, h5⟩ := vd_dec l (i + 1) u' k' (by omega) (fun c hc => hb c (by simp [hc])) hv
          have h5 := h5 (by omega)
          have e1 : (c.toNat - 128 + 128 * u') / 128 = u' := by omega
          have e2 : (c.toNat - 128 + 128 * u') % 128 + 128 = c.toNat := by omega
          have hven : venc (c.toNat - 128 + 128 * u') = c :: venc u' := by
            rw [venc_ge (by omega), e1, e2, Int.toNat_of_nonneg hc.1]
          refine ⟨by rw [hven, List.take_succ_cons, h1], by simp; omega, by rw [hven]; simp; omega, ?_, fun _ => by omega⟩
          rw [pow_step hi8]
          omega
theorem vd_err : ∀ (l : List Int) (i : Nat) (e : Int), vd i l = .inl e → e = 11 ∨ e = 12
  | [], _, e, h => by simp [vd] at h; exact .inl h.symm
  | c :: l, i, e, h => by
    simp only [vd] at h
    split at h
    · simp at h; exact .inr h.symm
    · split at h
      · cases h
      · split at h
        · rename_i e' hv
          obtain rfl := Sum.inl.inj h
          exact vd_err l _ _ hv
        · cases h
/-! ### numbers -/
def encI (n : Int) : List Int := venc (zz n)
def pI (l : List Int) : Int ⊕ (Int × Nat) := match vd 0 l with | .inl e => .inl e | .inr (u, k) => .inr (unzz u, k)
abbrev Bytes (l : List Int) : Prop := ∀ c ∈ l, 0 ≤ c ∧ c ≤ 255
theorem encI_len {n : Int} (h : inK .i64 n) : (encI n).length ≤ 10 := venc_ten (zz_lt h)
theorem encI_bytes (n : Int) : Bytes (encI n) := venc_byte _
theorem pI_enc {n : Int} (h : inK .i64 n) (rest : List Int) : pI (encI n ++ rest) = .inr (n, (encI n).length) := by
  unfold pI encI
  rw [vd_enc (zz n) 0 rest (by omega) (by have := zz_lt h; simpa using this) (.inr rfl)]
  simp [unzz_zz]
theorem pI_dec {l : List Int} {n : Int} {k : Nat} (hb : Bytes l) (h : pI l = .inr (n, k)) : l.take k = encI n ∧ k ≤ l.length ∧ k = (encI n).length ∧ inK .i64 n := by
  unfold pI at h
  split at h
  · cases h
  · rename_i u k' hv
    simp only [Sum.inr.injEq, Prod.mk.injEq] at h
    obtain ⟨rfl, rfl⟩ := h
    obtain ⟨h1, h2, h3, h4, _⟩ := vd_dec l 0 u k' (by omega) hb hv
    unfold encI
    rw [zz_unzz]
    exact ⟨h1, h2, h3, unzz_in (by simpa using h4)⟩
theorem pI_err {l : List Int} {e : Int} (h : pI l = .inl e) : e = 11 ∨ e = 12 := by
  unfold pI at h
  split at h
  · rename_i e' hv
    obtain rfl := Sum.inl.inj h
    exact vd_err _ _ _ hv
  · cases h
/-! ### lists -/
def pN : Nat → List Int → Int ⊕ (List Int × Nat)
  | 0, _ => .inr ([], 0)
  | n + 1, l => match pI l with
    | .inl e => .inl e
    | .inr (x, k) => (match pN n (l.drop k) with
      | .inl e => .inl e
      | .inr (xs, m) => .inr (x :: xs, k + m))
def pL (l : List Int) : Int ⊕ (List Int × Nat) := match pI l with
  | .inl e => .inl e
  | .inr (n, k) => if n < 0 ∨ n > 64 then .inl 2 else (match pN n.toNat (l.drop k) with
    | .inl e => .inl e
    | .inr (xs, m) => .inr (xs, k + m))
def pS (x : Int) (k : Nat) (r : Int ⊕ (List Int × Nat)) : Int ⊕ (List Int × Nat) := match r with
  | .inl e => .inl e
  | .inr (xs, m) => .inr (x :: xs, k + m)
def pK (k : Nat) (r : Int ⊕ (List Int × Nat)) : Int ⊕ (List Int × Nat) := match r with
  | .inl e => .inl e
  | .inr (xs, m) => .inr (xs, k + m)
theorem pN_inl {n : Nat} {l : List Int} {e : Int} (h : pI l = .inl e) : pN (n + 1) l = .inl e := by simp only [pN, h]
theorem pN_inr {n : Nat} {l : List Int} {x : Int} {k : Nat} (h : pI l = .inr (x, k)) : pN (n + 1) l = pS x k (pN n (l.drop k)) := by
  simp only [pN, h]; unfold pS; cases pN n (l.drop k) <;> rfl
theorem pL_inl {l : List Int} {e : Int} (h : pI l = .inl e) : pL l = .inl e := by simp only [pL, h]
theorem pL_big {l : List Int} {n : Int} {k : Nat} (h : pI l = .inr (n, k)) (hn : n < 0 ∨ n > 64) : pL l = .inl 2 := by simp only [pL, h, if_pos hn]
theorem pL_inr {l : List Int} {n : Int} {k : Nat} (h : pI l = .inr (n, k)) (hn : ¬ (n < 0 ∨ n > 64)) : pL l = pK k (pN n.toNat (l.drop k)) := by
  simp only [pL, h, if_neg hn]; unfold pK; cases pN n.toNat (l.drop k) <;> rfl
def encN (xs : List Int) : List Int := xs.flatMap encI
def encL (xs : List Int) : List Int := encI (xs.length : Int) ++ encN xs
abbrev I64s (l : List Int) : Prop := ∀ x ∈ l, inK .i64 x
theorem inLen {n : Nat} (h : n ≤ 1000000) : inK .i64 (n : Int) := inI64.2 (by omega)
theorem encN_bytes (xs : List Int) : Bytes (encN xs) := fun c hc => by
  obtain ⟨x, _, h⟩ := List.mem_flatMap.1 hc
  exact encI_bytes x c h
theorem encL_bytes (xs : List Int) : Bytes (encL xs) := fun c hc => (List.mem_append.1 hc).elim (encI_bytes _ c) (encN_bytes xs c)
theorem encN_len : ∀ {xs : List Int}, I64s xs → (encN xs).length ≤ 10 * xs.length
  | [], _ => by simp [encN]
  | x :: xs, h => by
    have h1 := encI_len (h x (by simp))
    have h2 := encN_len (xs := xs) fun y hy => h y (by simp [hy])
    simp only [encN, List.flatMap_cons, List.length_append, List.length_cons] at h2 ⊢
    omega
theorem encL_len {xs : List Int} (h : I64s xs) (hl : xs.length ≤ 64) : (encL xs).length ≤ 650 := by
  have h1 := encI_len (inLen (n := xs.length) (by omega))
  have h2 := encN_len h
  simp only [encL, List.length_append]
  omega
theorem pN_enc : ∀ (xs rest : List Int), I64s xs → pN xs.length (encN xs ++ rest) = .inr (xs, (encN xs).length)
  | [], rest, _ => rfl
  | x :: xs, rest, h => by
    have ih := pN_enc xs rest fun y hy => h y (by simp [hy])
    simp only [encN, List.flatMap_cons, List.length_cons, pN, List.append_assoc] at ih ⊢
    rw [pI_enc (h x (by simp))]
    simp only [List.drop_left, ih, List.length_append]
theorem pN_dec : ∀ (n : Nat) (l xs : List Int) (k : Nat), Bytes l → pN n l = .inr (xs, k) → l.take k = encN xs ∧ k ≤ l.length ∧ k = (encN xs).length ∧ xs.length = n ∧ I64s xs
  | 0, l, xs, k, _, h => by
    simp only [pN, Sum.inr.injEq, Prod.mk.injEq] at h
    obtain ⟨rfl, rfl⟩ := h
    exact ⟨by simp [encN], by simp, by simp [encN], rfl, fun x hx => by simp at hx⟩
  | n + 1, l, xs, k, hb, h => by
    simp only [pN] at h
    split at h
    · cases h
    · rename_i x k1 hx
      split at h
      · cases h
      · rename_i ys m hys
        simp only [Sum.inr.injEq, Prod.mk.injEq] at h
        obtain ⟨rfl, rfl⟩ := h
        obtain ⟨a1, a2, a3, a4⟩ := pI_dec hb hx
        obtain ⟨b1, b2, b3, b4, b5⟩ := pN_dec n _ _ _ (fun c hc => hb c (List.mem_of_mem_drop hc)) hys
        simp only [List.length_drop] at b2
        refine ⟨?_, by omega, ?_, by simp [b4], fun y hy => ?_⟩
        · simp only [encN, List.flatMap_cons] at b1 ⊢
          rw [← a1, ← b1, List.take_add]
        · simp only [encN, List.flatMap_cons, List.length_append] at b3 ⊢; omega
        · rcases List.mem_cons.1 hy with rfl | hy
          · exact a4
          · exact b5 y hy
theorem pL_enc {xs : List Int} (h : I64s xs) (hl : xs.length ≤ 64) (rest : List Int) : pL (encL xs ++ rest) = .inr (xs, (encL xs).length) := by
  unfold pL encL
  rw [List.append_assoc, pI_enc (inLen (n := xs.length) (by omega))]
  simp only []
  rw [if_neg (by omega)]
  simp only [List.drop_left, Int.toNat_natCast, pN_enc xs rest h, List.length_append]
theorem pL_dec {l xs : List Int} {k : Nat} (hb : Bytes l) (h : pL l = .inr (xs, k)) : l.take k = encL xs ∧ k ≤ l.length ∧ k = (encL xs).length ∧ xs.length ≤ 64 ∧ I64s xs := by
  unfold pL at h
  split at h
  · cases h
  · rename_i n k1 hn
    split at h
    · cases h
    · rename_i hno
      split at h
      · cases h
      · rename_i ys m hys
        simp only [Sum.inr.injEq, Prod.mk.injEq] at h
        obtain ⟨rfl, rfl⟩ := h
        obtain ⟨a1, a2, a3, a4⟩ := pI_dec hb hn
        obtain ⟨b1, b2, b3, b4, b5⟩ := pN_dec _ _ _ _ (fun c hc => hb c (List.mem_of_mem_drop hc)) hys
        simp only [List.length_drop] at b2
        have e : n = (ys.length : Int) := by omega
        unfold encL
        rw [← e]
        exact ⟨by rw [← a1, ← b1, List.take_add], by omega, by rw [List.length_append]; omega, by omega, b5⟩
end Go.RX

namespace Go.RX
open Go
theorem ofInt8 {n : Nat} (h : n < 256) : (BitVec.ofInt IntKind.u8.bits (n : Int)).toNat = n := by
  rw [BitVec.ofInt_natCast, show IntKind.u8.bits = 8 from rfl, BitVec.toNat_ofNat, Nat.mod_eq_of_lt (by omega)]
theorem wrapU8 {n : Nat} (h : n < 256) : IntKind.u8.wrap (n : Int) = n := wU8 (by omega) (by omega)
theorem and127 {c : Nat} (h : c < 256) : andI .u8 c 127 = ((c % 128 : Nat) : Int) := by
  unfold andI
  rw [show (127 : Int) = ((127 : Nat) : Int) from rfl, BitVec.toNat_and, ofInt8 h, ofInt8 (by omega), show (127 : Nat) = 2 ^ 7 - 1 from rfl, Nat.and_two_pow_sub_one_eq_mod, wrapU8 (by omega)]
theorem andOne {u : Nat} (h : u < 18446744073709551616) : andI .u64 u 1 = ((u % 2 : Nat) : Int) := by
  rw [show (1 : Int) = ((1 : Nat) : Int) from rfl, andI64 h (by omega), show (1 : Nat) = 2 ^ 1 - 1 from rfl, Nat.and_two_pow_sub_one_eq_mod]
theorem or128 {a : Nat} (h : a < 256) : orI .u8 a 128 = ((a % 128 + 128 : Nat) : Int) := by
  have key : ∀ a, a < 256 → a ||| 128 = a % 128 + 128 := by decide +kernel
  unfold orI
  rw [show (128 : Int) = ((128 : Nat) : Int) from rfl, BitVec.toNat_or, ofInt8 h, ofInt8 (by omega), key a h, wrapU8 (by omega)]
theorem wrapU8_mod (u : Nat) : IntKind.u8.wrap (u : Int) = ((u % 256 : Nat) : Int) := by
  simp only [IntKind.wrap, IntKind.signed, IntKind.bits]
  simp
theorem shr7 (u : Nat) : shrI .u64 u 7 = ((u / 128 : Nat) : Int) := shrI64 (a := u) (k := 7) (by decide)
theorem shr1 (u : Nat) : shrI .u64 u 1 = ((u / 2 : Nat) : Int) := shrI64 (a := u) (k := 1) (by decide)
theorem or_shl {u p s : Nat} (hu : u < 2 ^ s) (hp : u + p * 2 ^ s < 18446744073709551616) (hs : s ≤ 64) : orI .u64 u (shlI .u64 p s) = ((u + p * 2 ^ s : Nat) : Int) := by
  have h1 : shlI .u64 p s = ((p * 2 ^ s : Nat) : Int) := by
    unfold shlI
    have e : min (s : Int).toNat IntKind.u64.bits = s := by simp [IntKind.bits]; omega
    rw [e, show ((p : Int) * (2 : Int) ^ s) = ((p * 2 ^ s : Nat) : Int) by norm_cast, wrapU64 (by omega)]
  have hu' : u < 18446744073709551616 := by omega
  rw [h1, orI64 hu' (by omega)]
  congr 1
  rw [Nat.or_comm, Nat.mul_comm, ← Nat.two_pow_add_eq_or_of_lt hu, Nat.mul_comm, Nat.add_comm]
theorem wrapI64_nat (n : Nat) (h : n < 18446744073709551616) : IntKind.i64.wrap (n : Int) = if n < 9223372036854775808 then (n : Int) else (n : Int) - 18446744073709551616 := by
  simp only [IntKind.wrap, IntKind.signed, IntKind.bits]
  simp
  split <;> split <;> omega
theorem toNatI {n : Nat} (h : n < 9223372036854775808) : (BitVec.ofInt IntKind.i64.bits (n : Int)).toNat = n := by
  rw [BitVec.ofInt_natCast, show IntKind.i64.bits = 64 from rfl, BitVec.toNat_ofNat, Nat.mod_eq_of_lt (by omega)]
theorem xor_neg {n : Nat} (h : n < 9223372036854775808) : xorI .i64 n (-1) = -(n : Int) - 1 := by
  unfold xorI
  have e : BitVec.ofInt IntKind.i64.bits (-1) = BitVec.allOnes IntKind.i64.bits := by decide
  rw [e, BitVec.xor_allOnes, BitVec.toNat_not, toNatI h, show IntKind.i64.bits = 64 from rfl, wrapI64_nat _ (by omega), if_neg (by omega)]
  omega
theorem xor_zero {n : Nat} (h : n < 9223372036854775808) : xorI .i64 n 0 = n := by
  unfold xorI
  have e : BitVec.ofInt IntKind.i64.bits 0 = 0#_ := by decide
  rw [e, BitVec.xor_zero, toNatI h, wrapI64_nat _ (by omega), if_pos h]
theorem unzz_xor {u : Nat} (h : u < 18446744073709551616) : xorI .i64 (IntKind.i64.wrap (shrI .u64 u 1)) (IntKind.i64.wrap ((0 : Int) - (IntKind.i64.wrap (andI .u64 u 1)))) = unzz u := by
  rw [shr1, andOne h, wI64 (n := ((u / 2 : Nat) : Int)) (by omega) (by omega), wI64 (n := ((u % 2 : Nat) : Int)) (by omega) (by omega)]
  unfold unzz
  rcases Nat.mod_two_eq_zero_or_one u with h1 | h1
  · rw [h1, if_pos rfl]
    simp only [Int.natCast_zero, Int.sub_zero]
    rw [wI64 (by omega) (by omega), xor_zero (by omega)]
  · rw [h1, if_neg (by omega)]
    rw [wI64 (by omega) (by omega), show (0 : Int) - ((1 : Nat) : Int) = -1 by omega, xor_neg (by omega)]
theorem wrapUI (n : Int) : IntKind.u64.wrap (IntKind.i64.wrap n) = n % 18446744073709551616 := by
  simp only [IntKind.wrap, IntKind.signed, IntKind.bits]
  simp
  split <;> omega
theorem xorU_zero {n : Nat} (h : n < 18446744073709551616) : xorI .u64 n 0 = n := by
  unfold xorI
  have e : BitVec.ofInt IntKind.u64.bits 0 = 0#_ := by decide
  rw [e, BitVec.xor_zero, ofInt64 h, wrapU64 h]
theorem xorU_ones {n : Nat} (h : n < 18446744073709551616) : xorI .u64 n 18446744073709551615 = ((18446744073709551615 - n : Nat) : Int) := by
  unfold xorI
  have e : BitVec.ofInt IntKind.u64.bits 18446744073709551615 = BitVec.allOnes IntKind.u64.bits := by decide
  rw [e, BitVec.xor_allOnes, BitVec.toNat_not, ofInt64 h, show IntKind.u64.bits = 64 from rfl, show 2 ^ 64 - 1 - n = 18446744073709551615 - n by omega, wrapU64 (by omega)]
theorem zz_xor {t : Int} (h : inK .i64 t) : xorI .u64 (IntKind.u64.wrap (shlI .i64 t 1)) (IntKind.u64.wrap (shrI .i64 t 63)) = (zz t : Int) := by
  have ht := inI64.1 h
  have e1 : IntKind.u64.wrap (shlI .i64 t 1) = (t * 2) % 18446744073709551616 := by
    unfold shlI
    rw [show min (1 : Int).toNat IntKind.i64.bits = 1 from rfl, wrapUI, show (2 : Int) ^ 1 = 2 from rfl]
  have e2 : shrI .i64 t 63 = if 0 ≤ t then 0 else -1 := by
    unfold shrI
    rw [show min (63 : Int).toNat IntKind.i64.bits = 63 from rfl]
    have e63 : (2 : Int) ^ 63 = 9223372036854775808 := rfl
    rw [e63, Int.fdiv_eq_ediv_of_nonneg _ (by omega)]
    split <;> omega
  rw [e1, e2]
  unfold zz
  split
  · rename_i h0
    obtain ⟨n, rfl⟩ := Int.eq_ofNat_of_zero_le h0
    rw [show IntKind.u64.wrap 0 = 0 from rfl, show ((n : Int) * 2) % 18446744073709551616 = ((2 * n : Nat) : Int) by omega, xorU_zero (by omega)]
    simp
  · rename_i h0
    obtain ⟨n, hn⟩ := Int.eq_ofNat_of_zero_le (show 0 ≤ -t by omega)
    have : t = -(n : Int) := by omega
    subst this
    rw [show IntKind.u64.wrap (-1) = 18446744073709551615 from rfl, show (-(n : Int) * 2) % 18446744073709551616 = ((18446744073709551616 - 2 * n : Nat) : Int) by omega, xorU_ones (by omega)]
    congr 1
    simp
    omega
end Go.RX

namespace Go.RX
open Go
/-! ### one bit of a check sum -/
def cstep (r : Nat) : Nat := if r % 2 = 1 then r / 2 ^^^ 3988292384 else r / 2
def citer : Nat → Nat → Nat
  | 0, r => r
  | n + 1, r => citer n (cstep r)
theorem cstep_lt {r : Nat} (h : r < 4294967296) : cstep r < 4294967296 := by
  unfold cstep
  split
  · exact Nat.xor_lt_two_pow (n := 32) (by omega) (by decide)
  · omega
theorem citer_lt : ∀ (n : Nat) {r : Nat}, r < 4294967296 → citer n r < 4294967296
  | 0, _, h => h
  | n + 1, _, h => citer_lt n (cstep_lt h)
theorem cstep_xor (a b : Nat) : cstep (a ^^^ b) = cstep a ^^^ cstep b := by
  have h1 : (a ^^^ b) / 2 = a / 2 ^^^ b / 2 := Nat.xor_div_two
  have h2 : (a ^^^ b) % 2 = (a + b) % 2 := by
    have h := Nat.xor_mod_two_pow (a := a) (b := b) (n := 1)
    rw [show 2 ^ 1 = 2 from rfl] at h
    rw [h]
    rcases Nat.mod_two_eq_zero_or_one a with ha | ha <;> rcases Nat.mod_two_eq_zero_or_one b with hb | hb <;> rw [ha, hb]
    · show 0 = _; omega
    · show 1 = _; omega
    · show 1 = _; omega
    · show 0 = _; omega
  unfold cstep
  rw [h1, h2]
  rcases Nat.mod_two_eq_zero_or_one a with ha | ha <;> rcases Nat.mod_two_eq_zero_or_one b with hb | hb
  · rw [if_neg (by omega), if_neg (by omega), if_neg (by omega)]
  · rw [if_pos (by omega), if_neg (by omega), if_pos hb, Nat.xor_assoc]
  · rw [if_pos (by omega), if_pos ha, if_neg (by omega), Nat.xor_assoc, Nat.xor_assoc, Nat.xor_comm (b / 2)]
  · rw [if_neg (by omega), if_pos ha, if_pos hb, Nat.xor_assoc, Nat.xor_comm (b / 2) 3988292384, ← Nat.xor_assoc 3988292384, Nat.xor_self, Nat.zero_xor]
theorem citer_xor : ∀ (n a b : Nat), citer n (a ^^^ b) = citer n a ^^^ citer n b
  | 0, _, _ => rfl
  | n + 1, a, b => by simp only [citer, cstep_xor, citer_xor n]
theorem citer_shift : ∀ (n a : Nat), citer n (2 ^ n * a) = a
  | 0, a => by simp [citer]
  | n + 1, a => by
    have : cstep (2 ^ (n + 1) * a) = 2 ^ n * a := by
      rw [Nat.pow_succ, Nat.mul_comm (2 ^ n) 2, Nat.mul_assoc]
      unfold cstep
      rw [if_neg (by omega)]
      omega
    simp only [citer, this, citer_shift n a]
theorem xor_split (r : Nat) : r = 16 * (r / 16) ^^^ r % 16 := by
  have h := Nat.two_pow_add_eq_or_of_lt (i := 4) (b := r % 16) (by omega) (r / 16)
  have e : 2 ^ 4 * (r / 16) ^^^ r % 16 = 2 ^ 4 * (r / 16) ||| r % 16 := by
    refine Nat.eq_of_testBit_eq fun j => ?_
    rw [Nat.testBit_xor, Nat.testBit_or]
    by_cases hj : j < 4
    · have : (2 ^ 4 * (r / 16)).testBit j = false := by rw [Nat.testBit_two_pow_mul]; simp; omega
      rw [this]; simp
    · have : (r % 16).testBit j = false := Nat.testBit_lt_two_pow (Nat.lt_of_lt_of_le (show r % 16 < 2 ^ 4 by omega) (Nat.pow_le_pow_right (by decide) (by omega)))
      rw [this]; simp
  rw [show (16 : Nat) = 2 ^ 4 from rfl] at *
  omega
theorem citer_four (r : Nat) : citer 4 r = r / 16 ^^^ citer 4 (r % 16) := by
  conv => lhs; rw [xor_split r]
  rw [citer_xor, show (16 : Nat) = 2 ^ 4 from rfl, citer_shift]
theorem citer_add : ∀ (m n r : Nat), citer (m + n) r = citer n (citer m r)
  | 0, n, r => by simp [citer]
  | m + 1, n, r => by rw [show m + 1 + n = (m + n) + 1 by omega]; simp only [citer, citer_add m n]
/-! ### a byte, bytes -/
def cupd (r : Nat) (c : Int) : Nat := citer 8 (r ^^^ c.toNat)
def cfold : Nat → List Int → Nat
  | r, [] => r
  | r, c :: l => cfold (cupd r c) l
def crcAdd (s : Nat) (l : List Int) : Nat := 4294967295 - cfold (4294967295 - s) l
def crc (l : List Int) : Nat := crcAdd 0 l
theorem crc_lt (l : List Int) : crc l < 4294967296 := by unfold crc crcAdd; omega
/-! ### four bytes of a number -/
def be4 (s : Nat) : List Int := [((s / 16777216 % 256 : Nat) : Int), ((s / 65536 % 256 : Nat) : Int), ((s / 256 % 256 : Nat) : Int), ((s % 256 : Nat) : Int)]
def numB : Nat → List Int → Nat
  | n, [] => n
  | n, c :: l => numB (n * 256 + c.toNat) l
theorem be4_bytes (s : Nat) : Bytes (be4 s) := fun c hc => by
  simp only [be4, List.mem_cons, List.not_mem_nil, or_false] at hc
  rcases hc with rfl | rfl | rfl | rfl <;> omega
theorem numB_be4 {s : Nat} (h : s < 4294967296) : numB 0 (be4 s) = s := by
  simp only [be4, numB, Int.toNat_natCast]
  omega
theorem be4_num {a b c d : Int} (ha : 0 ≤ a ∧ a ≤ 255) (hb : 0 ≤ b ∧ b ≤ 255) (hc : 0 ≤ c ∧ c ≤ 255) (hd : 0 ≤ d ∧ d ≤ 255) : be4 (numB 0 [a, b, c, d]) = [a, b, c, d] := by
  simp only [numB, be4, List.cons.injEq, and_true]
  omega
/-! ### frames -/
def inner (k : Int) (body : List Int) : List Int := k :: ((body.length / 256 : Nat) : Int) :: ((body.length % 256 : Nat) : Int) :: body
def encF (k : Int) (body : List Int) : List Int := 247 :: (inner k body ++ be4 (crc (inner k body)))
def pF (l : List Int) : Int ⊕ (Int × List Int × Nat) := match l with
  | [] => .inl 31
  | m :: _ => if m ≠ 247 then .inl 32 else if l.length < 8 then .inl 31 else
    if 8192 < numB 0 [l.getD 2 0, l.getD 3 0] then .inl 2 else
    if l.length < numB 0 [l.getD 2 0, l.getD 3 0] + 8 then .inl 31 else
    if crc ((l.drop 1).take (numB 0 [l.getD 2 0, l.getD 3 0] + 3)) ≠ numB 0 ((l.drop (numB 0 [l.getD 2 0, l.getD 3 0] + 4)).take 4) then .inl 33 else
    .inr (l.getD 1 0, (l.drop 4).take (numB 0 [l.getD 2 0, l.getD 3 0]), numB 0 [l.getD 2 0, l.getD 3 0] + 8)
theorem inner_len (k : Int) (body : List Int) : (inner k body).length = body.length + 3 := by simp [inner]
theorem encF_len (k : Int) (body : List Int) : (encF k body).length = body.length + 8 := by simp [encF, inner_len, be4]
theorem inner_bytes {k : Int} {body : List Int} (hk : 0 ≤ k ∧ k ≤ 255) (hb : Bytes body) (hl : body.length ≤ 65535) : Bytes (inner k body) := fun c hc => by
  simp only [inner, List.mem_cons] at hc
  rcases hc with rfl | rfl | rfl | hc
  · exact hk
  · omega
  · omega
  · exact hb c hc
theorem encF_bytes {k : Int} {body : List Int} (hk : 0 ≤ k ∧ k ≤ 255) (hb : Bytes body) (hl : body.length ≤ 65535) : Bytes (encF k body) := fun c hc => by
  simp only [encF, List.mem_cons, List.mem_append] at hc
  rcases hc with rfl | hc | hc
  · omega
  · exact inner_bytes hk hb hl c hc
  · exact be4_bytes _ c hc
theorem pF_enc {k : Int} {body : List Int} (hk : 0 ≤ k ∧ k ≤ 255) (hb : Bytes body) (hl : body.length ≤ 8192) (rest : List Int) : pF (encF k body ++ rest) = .inr (k, body, body.length + 8) := by
  have hn : numB 0 [((body.length / 256 : Nat) : Int), ((body.length % 256 : Nat) : Int)] = body.length := by
    simp only [numB, Int.toNat_natCast]; omega
  have e2 : (encF k body ++ rest).getD 2 0 = ((body.length / 256 : Nat) : Int) := rfl
  have e3 : (encF k body ++ rest).getD 3 0 = ((body.length % 256 : Nat) : Int) := rfl
  have e1 : (encF k body ++ rest).getD 1 0 = k := rfl
  have hlen : (encF k body ++ rest).length = body.length + 8 + rest.length := by rw [List.length_append, encF_len]
  have d1 : ((encF k body ++ rest).drop 1).take (body.length + 3) = inner k body := by
    show ((inner k body ++ be4 _) ++ rest).take (body.length + 3) = inner k body
    rw [List.append_assoc, ← inner_len k body, List.take_left]
  have d2 : ((encF k body ++ rest).drop (body.length + 4)).take 4 = be4 (crc (inner k body)) := by
    show (((inner k body ++ be4 _) ++ rest).drop (body.length + 3)).take 4 = _
    rw [List.append_assoc, ← inner_len k body, List.drop_left]
    rfl
  have d3 : ((encF k body ++ rest).drop 4).take body.length = body := by
    show (((body ++ be4 _) ++ rest)).take body.length = body
    rw [List.append_assoc, List.take_left]
  have hx : ∃ x, encF k body ++ rest = 247 :: x := ⟨_, rfl⟩
  obtain ⟨x, hx⟩ := hx
  have key : pF (247 :: x) = .inr (k, body, body.length + 8) := by
    rw [hx] at e1 e2 e3 hlen d1 d2 d3
    simp only [pF, e1, e2, e3, hn, hlen, d1, d2, d3]
    rw [if_neg (by simp), if_neg (by omega), if_neg (by omega), if_neg (by omega), if_neg (by rw [numB_be4 (crc_lt _)]; simp)]
  rw [hx]; exact key
theorem cons3 : ∀ {l : List Int}, 3 ≤ l.length → ∃ a b c r, l = a :: b :: c :: r
  | a :: b :: c :: r, _ => ⟨a, b, c, r, rfl⟩
  | [], h => by simp at h
  | [_], h => by simp at h
  | [_, _], h => by simp at h
theorem four4 : ∀ {l : List Int}, l.length = 4 → ∃ a b c d, l = [a, b, c, d]
  | [a, b, c, d], _ => ⟨a, b, c, d, rfl⟩
theorem pF_dec {l : List Int} {k : Int} {body : List Int} {m : Nat} (hb : Bytes l) (h : pF l = .inr (k, body, m)) : l.take m = encF k body ∧ m ≤ l.length ∧ m = body.length + 8 ∧ body.length ≤ 8192 ∧ (0 ≤ k ∧ k ≤ 255) ∧ Bytes body := by
  unfold pF at h
  split at h
  · cases h
  · rename_i m0 l0
    split at h
    · cases h
    · rename_i h1
      split at h
      · cases h
      · rename_i h2
        split at h
        · cases h
        · rename_i h3
          split at h
          · cases h
          · rename_i h4
            split at h
            · cases h
            · rename_i h5
              simp only [Sum.inr.injEq, Prod.mk.injEq] at h
              obtain ⟨rfl, rfl, rfl⟩ := h
              simp only [ne_eq, Decidable.not_not] at h1 h5
              subst h1
              obtain ⟨k, a, b, r, rfl⟩ := cons3 (l := l0) (by simp only [List.length_cons] at h2; omega)
              have ha := hb a (by simp)
              have hbb := hb b (by simp)
              have hk := hb k (by simp)
              simp only [List.getD_cons_succ, List.getD_cons_zero, List.length_cons, List.drop_succ_cons, List.drop_zero] at h2 h3 h4 h5 ⊢
              generalize hn : numB 0 [a, b] = n at *
              have hn' : n = a.toNat * 256 + b.toNat := by rw [← hn]; simp [numB]
              have hlen : (r.take n).length = n := by rw [List.length_take]; omega
              have e1 : ((n / 256 : Nat) : Int) = a := by omega
              have e2 : ((n % 256 : Nat) : Int) = b := by omega
              have hin : inner k (r.take n) = (k :: a :: b :: r).take (n + 3) := by
                simp only [inner, hlen, e1, e2, List.take_succ_cons]
              have h4b : ∃ x y z u, (r.drop n).take 4 = [x, y, z, u] := by
                exact four4 (by rw [List.length_take, List.length_drop]; omega)
              obtain ⟨x, y, z, u, hxyz⟩ := h4b
              have hmem : ∀ c ∈ [x, y, z, u], 0 ≤ c ∧ c ≤ 255 := fun c hc => hb c (by
                rw [← hxyz] at hc
                simp only [List.mem_cons]
                exact .inr (.inr (.inr (.inr (List.mem_of_mem_drop (List.mem_of_mem_take hc))))))
              refine ⟨?_, by omega, by omega, by omega, hk, fun c hc => hb c (by simp only [List.mem_cons]; exact .inr (.inr (.inr (.inr (List.mem_of_mem_take hc)))))⟩
              unfold encF
              rw [hin, h5, hxyz, be4_num (hmem x (by simp)) (hmem y (by simp)) (hmem z (by simp)) (hmem u (by simp)), ← hxyz]
              rw [show n + 8 = (n + 7) + 1 from rfl, List.take_succ_cons, show n + 7 = (n + 3) + 4 from rfl, List.take_add]
              rfl
theorem pF_err {l : List Int} {e : Int} (h : pF l = .inl e) : e = 31 ∨ e = 32 ∨ e = 2 ∨ e = 33 := by
  unfold pF at h
  split at h
  · simp at h; omega
  · split at h
    · simp at h; omega
    · split at h
      · simp at h; omega
      · split at h
        · simp at h; omega
        · split at h
          · simp at h; omega
          · split at h
            · simp at h; omega
            · cases h
theorem pF_cut {k : Int} {body : List Int} (hk : 0 ≤ k ∧ k ≤ 255) (hb : Bytes body) (hl : body.length ≤ 8192) {j : Nat} (hj : j < body.length + 8) : ∃ e, pF ((encF k body).take j) = .inl e := by
  cases h : pF ((encF k body).take j) with
  | inl e => exact ⟨e, rfl⟩
  | inr x =>
    exfalso
    obtain ⟨k', body', m⟩ := x
    have hbb : Bytes ((encF k body).take j) := fun c hc => encF_bytes hk hb (by omega) c (List.mem_of_mem_take hc)
    obtain ⟨a1, a2, a3, a4, a5, a6⟩ := pF_dec hbb h
    have h1 := pF_enc hk hb hl []
    rw [List.append_nil] at h1
    have hs : encF k body = encF k' body' ++ (encF k body).drop m := by
      rw [← a1, List.take_take, Nat.min_eq_left (by rw [List.length_take] at a2; omega), List.take_append_drop]
    rw [hs, pF_enc a5 a6 a4] at h1
    simp only [Sum.inr.injEq, Prod.mk.injEq] at h1
    rw [List.length_take, encF_len] at a2
    omega
end Go.RX

set_option maxRecDepth 100000
namespace Go.RX.L
open Go Go.RX
theorem ofInt32 {n : Nat} (h : n < 4294967296) : (BitVec.ofInt IntKind.u32.bits (n : Int)).toNat = n := by
  rw [BitVec.ofInt_natCast, show IntKind.u32.bits = 32 from rfl, BitVec.toNat_ofNat, Nat.mod_eq_of_lt (by omega)]
theorem wrapU32 {n : Nat} (h : n < 4294967296) : IntKind.u32.wrap (n : Int) = n := wU32 (by omega) (by omega)
theorem xorU32 {a b : Nat} (ha : a < 4294967296) (hb : b < 4294967296) : xorI .u32 a b = ((a ^^^ b : Nat) : Int) := by
  unfold xorI
  rw [BitVec.toNat_xor, ofInt32 ha, ofInt32 hb, wrapU32 (Nat.xor_lt_two_pow (n := 32) ha hb)]
theorem andU32_15 {a : Nat} (ha : a < 4294967296) : andI .u32 a 15 = ((a % 16 : Nat) : Int) := by
  unfold andI
  rw [show (15 : Int) = ((15 : Nat) : Int) from rfl, BitVec.toNat_and, ofInt32 ha, ofInt32 (by omega), show (15 : Nat) = 2 ^ 4 - 1 from rfl, Nat.and_two_pow_sub_one_eq_mod, wrapU32 (by omega)]
theorem shrU32 {a k : Nat} (hk : k ≤ 32) : shrI .u32 a k = ((a / 2 ^ k : Nat) : Int) := by
  unfold shrI
  have e : min (k : Int).toNat IntKind.u32.bits = k := by simp [IntKind.bits]; omega
  rw [e, Int.fdiv_eq_ediv_of_nonneg _ (by exact Int.le_of_lt (Int.pow_pos (by decide)))]
  norm_cast
theorem onesU32 {n : Nat} (h : n < 4294967296) : xorI .u32 4294967295 n = ((4294967295 - n : Nat) : Int) := by
  unfold xorI
  have e : BitVec.ofInt IntKind.u32.bits 4294967295 = BitVec.allOnes IntKind.u32.bits := by decide
  rw [BitVec.xor_comm, e, BitVec.xor_allOnes, BitVec.toNat_not, ofInt32 h, show IntKind.u32.bits = 32 from rfl, show 2 ^ 32 - 1 - n = 4294967295 - n by omega, wrapU32 (by omega)]
/-! ### the program's: four bits at once -/
theorem four_get : ∀ i, i < 16 → gl_four[i]? = some ((citer 4 i : Nat) : Int) := by decide +kernel
theorem nib {r : Nat} (h : r < 4294967296) : xorI .u32 (shrI .u32 r 4) ((citer 4 (r % 16) : Nat) : Int) = ((citer 4 r : Nat) : Int) := by
  have e : shrI .u32 r 4 = ((r / 16 : Nat) : Int) := shrU32 (a := r) (k := 4) (by decide)
  rw [e, xorU32 (by omega) (citer_lt 4 (by omega)), citer_four r]
theorem lt16 (r : Nat) : decide (((r % 16 : Nat) : Int) < ((16 : Nat) : Int)) = true := ltB (by omega)
theorem add_loop {b : List Int} (hb : Bytes b) (hm : b.length < 9223372036854775807) : ∀ (j k r : Nat), k + j = b.length → r < 4294967296 → Ev crc_Add_step (.s1 r b b.length k) ((4294967295 - cfold r (b.drop k) : Nat) : Int) := by
  intro j
  induction j with
  | zero =>
    intro k r hk hr
    have e : cfold r (b.drop k) = r := by rw [List.drop_of_length_le (by omega)]; rfl
    rw [e]
    refine .done ?_
    simp only [crc_Add_step, crc_Add_1, geB (show b.length ≤ k by omega), cond_false, onesU32 hr]
  | succ j ih =>
    intro k r hk hr
    have hlt : k < b.length := by omega
    obtain ⟨c, hc⟩ : ∃ c : Nat, b[k] = (c : Int) := ⟨_, (Int.toNat_of_nonneg (hb _ (List.getElem_mem hlt)).1).symm⟩
    have hc' := hb _ (List.getElem_mem hlt)
    rw [hc] at hc'
    have h1 : r ^^^ c < 4294967296 := Nat.xor_lt_two_pow (n := 32) hr (by omega)
    have h2 := citer_lt 4 h1
    have e1 : xorI .u32 r (IntKind.u32.wrap (c : Int)) = ((r ^^^ c : Nat) : Int) := by rw [wrapU32 (by omega), xorU32 hr (by omega)]
    have hd : b.drop k = (c : Int) :: b.drop (k + 1) := by rw [← hc, List.drop_eq_getElem_cons hlt]
    have hs : cfold r (b.drop k) = cfold (citer 4 (citer 4 (r ^^^ c))) (b.drop (k + 1)) := by
      rw [hd]
      show cfold (cupd r c) _ = _
      rw [cupd, Int.toNat_natCast, show 8 = 4 + 4 from rfl, citer_add]
    rw [hs]
    refine .next (s' := .s1 ((citer 4 (citer 4 (r ^^^ c)) : Nat) : Int) b b.length ((k + 1 : Nat) : Int)) ?_ (ih (k + 1) _ (by omega) (citer_lt 4 h2))
    simp only [crc_Add_step, crc_Add_1, ltB hlt, cond_true, List.length_map, ixB hlt, le0, Bool.and_self, Int.toNat_natCast, List.getE hlt, Option.bind_some, hc, e1, andU32_15 h1, lt16]
    simp only [Nat.zero_add, four_get _ (Nat.mod_lt (r ^^^ c) (by decide : 0 < 16)), Option.bind_some, nib h1, andU32_15 h2, lt16, le0, Bool.and_self, cond_true, Int.toNat_natCast]
    simp only [four_get _ (Nat.mod_lt (citer 4 (r ^^^ c)) (by decide : 0 < 16)), Option.bind_some, nib h2, wS (show k < 9223372036854775807 by omega)]
theorem sum_ok {b : List Int} (hb : Bytes b) (hm : b.length < 9223372036854775807) : crc_Sum b = some (crc b : Int) := by
  have h : crc_Add 0 b = some (crc b : Int) := by
    refine evf_of (.next (s' := .s1 ((4294967295 : Nat) : Int) b b.length ((0 : Nat) : Int)) ?_ ?_)
    · have := onesU32 (n := 0) (by decide)
      simp only [crc_Add_step, crc_Add_0, List.length_map]
      rw [show (0 : Int) = ((0 : Nat) : Int) from rfl, this]
    · have := add_loop hb hm b.length 0 4294967295 (by omega) (by decide)
      simpa [crc, crcAdd] using this
  simp only [crc_Sum, h, Option.bind_some]
/-! ### the document's: one bit after the other -/
end Go.RX.L

set_option maxHeartbeats 4000000
namespace Go.RX.L
open Go Go.RX Go.Proofs
attribute [local irreducible] FinQ
noncomputable def wire_digits_e (y : Int) : D × Sto := (.fn 106 [] [.iptr 1 [[.int .i64 y]] 0 0], [])
noncomputable def wire_digits (n : Int) : Option Int := (some n)
theorem wire_digits_ok {n r : Int} (h : wire_digits n = some r) : Sound E 100 [.int .i64 n] [] (Rs wire_digits_e r) := so (fn := Tryd.f100) (k := false) (m := 0) h <| by
 intro r h; unfold wire_digits at h
 exact zu 11 h
end Go.RX.L

namespace Go.RX.L
open Go Go.RX Go.Proofs
attribute [local irreducible] FinQ
noncomputable def wire_digits_1_c := codeAt (bodyOf Tryd.f106)
def wire_digits_1_en (y : Int) : List D := [D.int .u8 y]
inductive wire_digits_1_S where
  | s0 (t : Int)
  | s1 (u : Int)
noncomputable def wire_digits_1_M (l : Nat) : wire_digits_1_S → M
  | .s0 t => ⟨[.code (bodyOf Tryd.f106)], [(0, D.yld l), (1, D.iptr 1 [[D.int .i64 t]] 0 0)], []⟩
  | .s1 u => ⟨[.lpc (wire_digits_1_c [1, 0, 0, 0]) 9, .blk 0, .code (wire_digits_1_c [1, 1])], [(0, D.yld l), (3, D.int .u64 u)], []⟩
noncomputable def wire_digits_1_0 (t : Int) : Option (List Int × Option wire_digits_1_S) := (some ([], some (.s1 (xorI .u64 (IntKind.u64.wrap ((shlI .i64 t 1))) (IntKind.u64.wrap ((shrI .i64 t 63)))))))
noncomputable def wire_digits_1_1 (u : Int) : Option (List Int × Option wire_digits_1_S) := (bif (decide ((u : Int) > 127)) then (Option.map (fun p => ((orI .u8 (IntKind.u8.wrap (u)) 128) :: p.1, p.2)) (some ([], some (.s1 (shrI .u64 u 7))))) else (Option.map (fun p => ((IntKind.u8.wrap (u)) :: p.1, p.2)) (some ([], none))))
noncomputable def wire_digits_1_ln : wire_digits_1_S → Sto
  | .s0 t => []
  | .s1 u => []
noncomputable def wire_digits_1_step : wire_digits_1_S → Option (List Int × Option wire_digits_1_S)
  | .s0 t => wire_digits_1_0 t
  | .s1 u => wire_digits_1_1 u
theorem wire_digits_1_0_ok {l : Nat} {ln : Sto} {φ0 : Phi} {J : Option (List (List D)) → World → (Nat → Prop) → (Nat → Prop) → Prop} {t : Int} {x : List Int × Option wire_digits_1_S} {Y : List (List D)} (hl : wire_digits_1_ln (.s0 t) = ln) (h : wire_digits_1_0 t = some x) (ha : AfterL E ln (Cx.seq Tryd.f106 0 ln l φ0 J) wire_digits_1_en (wire_digits_1_M l) wire_digits_1_ln x Y) : FinQ E (Cx.seq Tryd.f106 0 ln l φ0 J (some Y)) (fun _ s => Lent ln s) (.go (wire_digits_1_M l (.s0 t))) := by
 subst hl
 unfold wire_digits_1_0 at h
 refine adv_ok hm 19 _ ?_
 obtain rfl := Option.some.inj h
 exact r_to (q' := .go (wire_digits_1_M l (.s1 (xorI .u64 (IntKind.u64.wrap ((shlI .i64 t 1))) (IntKind.u64.wrap ((shrI .i64 t 63))))))) (by kernel_rfl) (afterL_jump (by kernel_rfl) ha)
theorem wire_digits_1_1_ok {l : Nat} {ln : Sto} {φ0 : Phi} {J : Option (List (List D)) → World → (Nat → Prop) → (Nat → Prop) → Prop} {u : Int} {x : List Int × Option wire_digits_1_S} {Y : List (List D)} (hl : wire_digits_1_ln (.s1 u) = ln) (h : wire_digits_1_1 u = some x) (ha : AfterL E ln (Cx.seq Tryd.f106 0 ln l φ0 J) wire_digits_1_en (wire_digits_1_M l) wire_digits_1_ln x Y) : FinQ E (Cx.seq Tryd.f106 0 ln l φ0 J (some Y)) (fun _ s => Lent ln s) (.go (wire_digits_1_M l (.s1 u))) := by
 subst hl
 unfold wire_digits_1_1 at h
 refine zs 8 h (fun h => ?_) fun h => ?_
 ·
  refine adv_ok hm 10 _ ?_
  refine p_yld (x := (orI .u8 (IntKind.u8.wrap (u)) 128)) (s := []) h ha (by kernel_rfl) (by kernel_rfl) ?_ (fun p Y h ha => ?_)
  · -- it is stopped
    refine adv_ok hm 5 _ ?_
    exact p_retN (d := D.tup []) (s := []) (by kernel_rfl) (by kernel_rfl)
  · -- it goes on
    refine adv_ok hm 13 _ ?_
    obtain rfl := Option.some.inj h
    exact r_to (q' := .go (wire_digits_1_M l (.s1 (shrI .u64 u 7)))) (by kernel_rfl) (afterL_jump (by kernel_rfl) ha)
 refine adv_ok hm 6 _ ?_
 refine p_yld (x := (IntKind.u8.wrap (u))) (s := []) h ha (by kernel_rfl) (by kernel_rfl) ?_ (fun p Y h ha => ?_)
 · -- it is stopped
   refine adv_ok hm 2 _ ?_
   exact p_retN (d := D.tup []) (s := []) (by kernel_rfl) (by kernel_rfl)
 · -- it goes on
   refine adv_ok hm 2 _ ?_
   obtain rfl := Option.some.inj h
   exact p_retY (d := D.tup []) (s := []) (by kernel_rfl) (by kernel_rfl) ha
noncomputable def wire_digits_1 (t : Int) : Option (List Int) := evl wire_digits_1_step (.s0 t)
theorem wire_digits_1_ok {t : Int} {r : List Int} (h : wire_digits_1 t = some r) : SoundSeq E 106 [D.iptr 1 [[D.int .i64 t]] 0 0] [] [] (List.map wire_digits_1_en r) :=
  seq_of (m := fun l => wire_digits_1_M l (.s0 t)) (fn := Tryd.f106) (by kernel_rfl) (fun l => by kernel_rfl) (show List.take _ _ = _ by kernel_rfl) (show mapSto _ _ = _ by kernel_rfl) (fun l φ0 J => evl_run (step := wire_digits_1_step) (lnS := wire_digits_1_ln) (fun s x Y hl hs ha => by
    cases s with
    | s0 => exact wire_digits_1_0_ok hl hs ha
    | s1 => exact wire_digits_1_1_ok hl hs ha) (by kernel_rfl) (evl_ev h))
end Go.RX.L

namespace Go.RX.L
open Go Go.RX Go.Proofs
attribute [local irreducible] FinQ
noncomputable def wire_Int_c := codeAt (bodyOf Tryd.f105)
noncomputable def wire_Int_e (y : Int × Int × Int) : D × Sto := (.tup [.int .i64 y.1, .int .i64 y.2.1, .int .i64 y.2.2], [])
inductive wire_Int_S where
 | s0 (b : List Int) (at_ : Int)
 | s1 (b : List Int) (at_ : Int) (t19 : Bool)
 | s2 (at_ u shift : Int) (t22 : List Int) (t23 t24 : Int)
 | s4 (at_ u : Int) (shift i c : Int) (t22 : List Int) (t23 t24 : Int) (t36 : Bool)
 | s3 (at_ u : Int) (shift i c : Int) (t22 : List Int) (t23 t24 : Int) (t36 : Bool)
noncomputable def wire_Int_M : wire_Int_S → M
 | .s0 b at_ => startM Tryd.f105 [.sl false 1 (List.map (eInt .u8) b), .int .i64 at_] []
 | .s1 b at_ t19 => ⟨[.code (wire_Int_c [1, 0, 0, 1]), .code (wire_Int_c [1, 0, 1]), .sc], [(0, .sl false 1 (List.map (eInt .u8) b)), (1, .int .i64 at_), (19, .bool t19)], []⟩
 | .s2 at_ u shift t22 t23 t24 => ⟨[.lpc (wire_Int_c [1, 0, 1, 1, 1, 1, 0, 1, 0, 0]) 29361026, .blk 0, .code (wire_Int_c [1, 0, 1, 1, 1, 1, 1]), .sc], [(1, .int .i64 at_), (7, .int .i64 11), (8, .int .u64 u), (9, .int .i64 shift), (22, .sl false 1 (List.map (eInt .u8) t22)), (23, .int .i64 t23), (24, .int .i64 t24)], []⟩
 | .s4 at_ u shift i c t22 t23 t24 t36 => ⟨[.code (wire_Int_c [1, 0, 1, 1, 1, 1, 0, 1, 0, 0, 1, 1, 0, 0, 1, 1, 0, 0, 0, 1]), .code (wire_Int_c [1, 0, 1, 1, 1, 1, 0, 1, 0, 0, 1, 1, 0, 0, 1, 1, 0, 0, 1]), .blk 2, .code (wire_Int_c [1, 0, 1, 1, 1, 1, 0, 1, 0, 0, 1, 1, 0, 0, 1, 1, 1]), .blk 1, .code (wire_Int_c [1, 0, 1, 1, 1, 1, 0, 1, 0, 0, 1, 1, 1]), .lp (wire_Int_c [1, 0, 1, 1, 1, 1, 0, 1, 0, 0]) 29361026, .blk 0, .code (wire_Int_c [1, 0, 1, 1, 1, 1, 1]), .sc], [(1, .int .i64 at_), (7, .int .i64 11), (8, .int .u64 u), (9, .int .i64 shift), (10, .int .i64 i), (11, .int .u8 c), (22, .sl false 1 (List.map (eInt .u8) t22)), (23, .int .i64 t23), (24, .int .i64 t24), (36, .bool t36)], []⟩
 | .s3 at_ u shift i c t22 t23 t24 t36 => ⟨[.code (wire_Int_c [1, 0, 1, 1, 1, 1, 0, 1, 0, 0, 1, 1, 0, 0, 1, 1, 0, 0, 1]), .blk 2, .code (wire_Int_c [1, 0, 1, 1, 1, 1, 0, 1, 0, 0, 1, 1, 0, 0, 1, 1, 1]), .blk 1, .code (wire_Int_c [1, 0, 1, 1, 1, 1, 0, 1, 0, 0, 1, 1, 1]), .lp (wire_Int_c [1, 0, 1, 1, 1, 1, 0, 1, 0, 0]) 29361026, .blk 0, .code (wire_Int_c [1, 0, 1, 1, 1, 1, 1]), .sc], [(1, .int .i64 at_), (7, .int .i64 11), (8, .int .u64 u), (9, .int .i64 shift), (10, .int .i64 i), (11, .int .u8 c), (22, .sl false 1 (List.map (eInt .u8) t22)), (23, .int .i64 t23), (24, .int .i64 t24), (36, .bool t36)], []⟩
abbrev wire_Int_W := SOk E (Cx.of Tryd.f105 false 0) wire_Int_e wire_Int_M
noncomputable def wire_Int_0 (b : List Int) (at_ : Int) : Option (wire_Int_S ⊕ (Int × Int × Int)) := (bif (decide ((at_ : Int) < 0)) then (some (.inl (.s1 b at_ true))) else (some (.inl (.s1 b at_ (decide ((at_ : Int) > (((List.map (eInt .u8) b).length : Nat) : Int)))))))
noncomputable def wire_Int_1 (b : List Int) (at_ : Int) (t19 : Bool) : Option (wire_Int_S ⊕ (Int × Int × Int)) := (bif t19 then (some (.inr (0, 0, 1))) else (bif ((decide (((0 : Nat) : Int) ≤ at_)) && (decide ((at_ : Int) ≤ (((List.map (eInt .u8) b).length : Nat) : Int)))) then (some (.inl (.s2 at_ 0 0 (List.drop at_.toNat (List.take ((List.map (eInt .u8) b).length) b)) (((List.map (eInt .u8) (List.drop at_.toNat (List.take ((List.map (eInt .u8) b).length) b))).length : Nat) : Int) 0))) else none))
noncomputable def wire_Int_2 (at_ u shift : Int) (t22 : List Int) (t23 t24 : Int) : Option (wire_Int_S ⊕ (Int × Int × Int)) := (bif (decide ((t24 : Int) < t23)) then (bif ((decide ((0 : Int) ≤ t24)) && (decide ((t24 : Int) < (((List.map (eInt .u8) t22).length : Nat) : Int)))) then (((t22)[t24.toNat]?).bind fun y3 => (bif (!decide ((shift : Int) < 0)) then (bif ((shift : Int) == 63) then (some (.inl (.s4 at_ (orI .u64 u (shlI .u64 (IntKind.u64.wrap ((andI .u8 y3 127))) shift)) shift t24 y3 t22 t23 t24 (decide ((y3 : Int) > 1))))) else (some (.inl (.s4 at_ (orI .u64 u (shlI .u64 (IntKind.u64.wrap ((andI .u8 y3 127))) shift)) shift t24 y3 t22 t23 t24 false)))) else none)) else none) else (some (.inr (0, 0, 11))))
noncomputable def wire_Int_4 (at_ u : Int) (shift i c : Int) (t22 : List Int) (t23 t24 : Int) (t36 : Bool) : Option (wire_Int_S ⊕ (Int × Int × Int)) := (bif t36 then (some (.inl (.s3 at_ u shift i c t22 t23 t24 t36))) else (bif ((c : Int) == 0) then (some (.inl (.s3 at_ u shift i c t22 t23 t24 (decide ((i : Int) > 0))))) else (some (.inl (.s3 at_ u shift i c t22 t23 t24 false)))))
noncomputable def wire_Int_3 (at_ u : Int) (shift i c : Int) (t22 : List Int) (t23 t24 : Int) (t36 : Bool) : Option (wire_Int_S ⊕ (Int × Int × Int)) := (bif t36 then (some (.inr (0, 0, 12))) else (bif (decide ((c : Int) < 128)) then (some (.inr ((xorI .i64 (IntKind.i64.wrap ((shrI .u64 u 1))) (IntKind.i64.wrap ((0 : Int) - (IntKind.i64.wrap ((andI .u64 u 1)))))), (IntKind.i64.wrap ((IntKind.i64.wrap (at_ + i)) + 1)), 0))) else (some (.inl (.s2 at_ u (IntKind.i64.wrap (shift + 7)) t22 t23 (IntKind.i64.wrap (t24 + 1)))))))
noncomputable def wire_Int_step : wire_Int_S → Option (wire_Int_S ⊕ (Int × Int × Int))
 | .s0 b at_ => wire_Int_0 b at_
 | .s1 b at_ t19 => wire_Int_1 b at_ t19
 | .s2 at_ u shift t22 t23 t24 => wire_Int_2 at_ u shift t22 t23 t24
 | .s4 at_ u shift i c t22 t23 t24 t36 => wire_Int_4 at_ u shift i c t22 t23 t24 t36
 | .s3 at_ u shift i c t22 t23 t24 t36 => wire_Int_3 at_ u shift i c t22 t23 t24 t36
theorem wire_Int_0_ok {b at_} : wire_Int_W (.s0 b at_) (wire_Int_0 b at_) := by
 intro r x h ha; unfold wire_Int_0 at h
 refine zs 14 h (fun h => ?_) fun h => ?_
 ·
  exact zk 9 h ha
 exact zk 9 h ha
theorem wire_Int_1_ok {b at_ t19} : wire_Int_W (.s1 b at_ t19) (wire_Int_1 b at_ t19) := by
 intro r x h ha; unfold wire_Int_1 at h
 refine zs 1 h (fun h => ?_) fun h => ?_
 ·
  exact zt 7 h ha
 refine zn 18 h fun h => ?_
 refine zw 0 (a := (List.drop at_.toNat (List.take ((List.map (eInt .u8) b).length) (List.map (eInt .u8) b)))) (b := (List.map (eInt .u8) (List.drop at_.toNat (List.take ((List.map (eInt .u8) b).length) b)))) (rows_cut _ _ _ _) ?_
 exact zj 6 h ha
theorem wire_Int_2_ok {at_ u shift t22 t23 t24} : wire_Int_W (.s2 at_ u shift t22 t23 t24) (wire_Int_2 at_ u shift t22 t23 t24) := by
 intro r x h ha; unfold wire_Int_2 at h
 refine zs 7 h (fun h => ?_) fun h => ?_
 ·
  refine zn 7 h fun h => ?_
  refine zr 1 (eInt .u8) h fun y3 h => ?_
  refine zn 11 h fun h => ?_
  refine zs 12 h (fun h => ?_) fun h => ?_
  ·
   exact zk 6 h ha
  exact zk 6 h ha
 exact zt 9 h ha
theorem wire_Int_4_ok {at_ u shift i c t22 t23 t24 t36} : wire_Int_W (.s4 at_ u shift i c t22 t23 t24 t36) (wire_Int_4 at_ u shift i c t22 t23 t24 t36) := by
 intro r x h ha; unfold wire_Int_4 at h
 refine zs 1 h (fun h => ?_) fun h => ?_
 ·
  exact zk 1 h ha
 refine zs 5 h (fun h => ?_) fun h => ?_
 ·
  exact zk 6 h ha
 exact zk 6 h ha
theorem wire_Int_3_ok {at_ u shift i c t22 t23 t24 t36} : wire_Int_W (.s3 at_ u shift i c t22 t23 t24 t36) (wire_Int_3 at_ u shift i c t22 t23 t24 t36) := by
 intro r x h ha; unfold wire_Int_3 at h
 refine zs 1 h (fun h => ?_) fun h => ?_
 ·
  exact zt 13 h ha
 refine zs 7 h (fun h => ?_) fun h => ?_
 ·
  exact zt 20 h ha
 exact zj 13 h ha
noncomputable def wire_Int (b : List Int) (at_ : Int) : Option (Int × Int × Int) := evf wire_Int_step (.s0 b at_)
theorem wire_Int_ok {b : List Int} {at_ : Int} {r : Int × Int × Int} (h : wire_Int b at_ = some r) : Sound E 105 [.sl false 1 (List.map (eInt .u8) b), .int .i64 at_] [] (Rs wire_Int_e r) := sc (fn := Tryd.f105) (k := false) (m := 0) (stM := wire_Int_M) h fun s => by
 cases s with
 | s0 => exact wire_Int_0_ok
 | s1 => exact wire_Int_1_ok
 | s2 => exact wire_Int_2_ok
 | s4 => exact wire_Int_4_ok
 | s3 => exact wire_Int_3_ok
end Go.RX.L

namespace Go.RX.L
open Go Go.RX Go.Proofs
attribute [local irreducible] FinQ
noncomputable def wire_put_c := codeAt (bodyOf Tryd.f94)
noncomputable def wire_put_e (y : List Int) : D × Sto := ((grD 0 (List.map (eInt .u8) y)), [some ⟨1, false, (List.map (eInt .u8) y)⟩])
inductive wire_put_S where
 | s0 (n : Int)
 | s1 (t7 : Int) (b1 : List Int)
 | s2 (t7 : Int) (b1 Y : List Int)
noncomputable def wire_put_M : wire_put_S → M
 | .s0 n => startM Tryd.f94 [.sl true 0 [], .int .i64 n] []
 | .s1 t7 b1 => ⟨[.code (wire_put_c [1, 0, 1, 0]), .blk 0, .code (wire_put_c [1, 1])], [(2, .ptr 0 0 0), (7, .fn 106 [] [.iptr 1 [[.int .i64 t7]] 0 0])], [some ⟨1, true, [[(grD 1 (List.map (eInt .u8) b1))]]⟩, some ⟨1, false, (List.map (eInt .u8) b1)⟩]⟩
 | .s2 t7 b1 Y => ⟨[.blk 0, .code (wire_put_c [1, 1])], [(2, .ptr 0 0 0), (7, .fn 106 [] [.iptr 1 [[.int .i64 t7]] 0 0])], [some ⟨1, true, [[(grD 1 (List.map (eInt .u8) b1))]]⟩, some ⟨1, false, (List.map (eInt .u8) b1)⟩]⟩
noncomputable def wire_put_Pd : wire_put_S → (List Int) → Prop
 | .s0 n, r_ => FinQ E (Cx.of Tryd.f94 true 0) (QW (Rs wire_put_e r_)) (.go (wire_put_M (.s0 n)))
 | .s1 t7 b1, r_ => FinQ E (Cx.of Tryd.f94 true 0) (QW (Rs wire_put_e r_)) (.go (wire_put_M (.s1 t7 b1)))
 | .s2 t7 b1 Y, r_ => RngQ E (Cx.of Tryd.f94 true 0) (QW (Rs wire_put_e r_)) 1 (wire_put_c [1, 0, 1, 0]) [.blk 0, .code (wire_put_c [1, 1])] [(2, .ptr 0 0 0), (7, .fn 106 [] [.iptr 1 [[.int .i64 t7]] 0 0])] [] [] (List.map wire_digits_1_en Y) [some ⟨1, true, [[(grD 1 (List.map (eInt .u8) b1))]]⟩, some ⟨1, false, (List.map (eInt .u8) b1)⟩]
noncomputable def wire_put_0 (n : Int) : Option (wire_put_S ⊕ (List Int)) := ((wire_digits n).bind fun y1 => (some (.inl (.s1 y1 ([])))))
noncomputable def wire_put_1 (t7 : Int) (b1 : List Int) : Option (wire_put_S ⊕ (List Int)) := ((wire_digits_1 t7).bind fun y1 => (some (.inl (.s2 t7 b1 y1))))
noncomputable def wire_put_2n (t7 : Int) (b1 : List Int) : Option (wire_put_S ⊕ (List Int)) := (some (.inr b1))
noncomputable def wire_put_2c (t7 : Int) (b1 : List Int) (y : Int) (Y : List Int) : Option (wire_put_S ⊕ (List Int)) := (bif (decide (((List.map (eInt .u8) b1).length + 1) * 1 ≤ bytesLim)) then (some (.inl (.s2 t7 (b1 ++ [y]) Y))) else none)
noncomputable def wire_put_2 (t7 : Int) (b1 : List Int) : List Int → Option (wire_put_S ⊕ (List Int))
 | [] => wire_put_2n t7 b1
 | y :: Y => wire_put_2c t7 b1 y Y
noncomputable def wire_put_step : wire_put_S → Option (wire_put_S ⊕ (List Int))
 | .s0 n => wire_put_0 n
 | .s1 t7 b1 => wire_put_1 t7 b1
 | .s2 t7 b1 Y => wire_put_2 t7 b1 Y
theorem wire_put_0_ok {n : Int} {r : List Int} {x : wire_put_S ⊕ (List Int)} (h : wire_put_0 n = some x) (ha : AfterP wire_put_Pd r x) : FinQ E (Cx.of Tryd.f94 true 0) (QW (Rs wire_put_e r)) (.go (wire_put_M (.s0 n))) := by
 unfold wire_put_0 at h
 refine zc 10 [] h (fun _ => wire_digits_ok) fun y1 h => ?_
 refine adv_ok hm 2 _ ?_
 obtain rfl := Option.some.inj h
 refine r_cut 388 [.matc 0 0 0 1] (m' := ⟨[.code (wire_put_c [1, 0, 1, 0]), .blk 0, .code (wire_put_c [1, 1])], [(2, .ptr 0 0 0), (7, .fn 106 [] [.iptr 1 [[.int .i64 y1]] 0 0])], [some ⟨1, true, [[.msl 1 0 0 0 false]]⟩, some ⟨1, false, []⟩]⟩) (by kernel_rfl) ?_
 refine r_len (n1 := 0) (n2 := (List.map (eInt .u8) ([])).length) (fun n_len => .go ⟨[.code (wire_put_c [1, 0, 1, 0]), .blk 0, .code (wire_put_c [1, 1])], [(2, .ptr 0 0 0), (7, .fn 106 [] [.iptr 1 [[.int .i64 y1]] 0 0])], [some ⟨1, true, [[.msl 1 0 n_len n_len false]]⟩, some ⟨1, false, []⟩]⟩) (by simp) ?_
 exact ha
theorem wire_put_1_ok {t7 : Int} {b1 r : List Int} {x : wire_put_S ⊕ (List Int)} (h : wire_put_1 t7 b1 = some x) (ha : AfterP wire_put_Pd r x) : FinQ E (Cx.of Tryd.f94 true 0) (QW (Rs wire_put_e r)) (.go (wire_put_M (.s1 t7 b1))) := by
 unfold wire_put_1 at h
 refine adv_ok hm 1 _ ?_
 have ok1 := fun (y : List Int) (hy : wire_digits_1 t7 = some y) => wire_digits_1_ok hy
 refine p_rng (m := 1) (c := wire_put_c [1, 0, 1, 0]) (t := [.blk 0, .code (wire_put_c [1, 1])]) (fr := [(2, .ptr 0 0 0), (7, .fn 106 [] [.iptr 1 [[.int .i64 t7]] 0 0])]) (σ := [some ⟨1, true, [[(grD 1 (List.map (eInt .u8) b1))]]⟩, some ⟨1, false, (List.map (eInt .u8) b1)⟩]) (caps1 := [.iptr 1 [[.int .i64 t7]] 0 0]) (caps := [.iptr 1 [[.int .i64 t7]] 0 0]) (sub1 := []) (sub := []) wire_digits_1_en h (by kernel_rfl) ⟨rfl, rfl⟩ (by kernel_rfl) (by kernel_rfl) ok1 (fun y1 h1 h => ?_)
 obtain rfl := Option.some.inj h
 exact ha
theorem wire_put_2n_ok {t7 : Int} {b1 r : List Int} {x : wire_put_S ⊕ (List Int)} (h : wire_put_2n t7 b1 = some x) (ha : AfterP wire_put_Pd r x) : RngQ E (Cx.of Tryd.f94 true 0) (QW (Rs wire_put_e r)) 1 (wire_put_c [1, 0, 1, 0]) [.blk 0, .code (wire_put_c [1, 1])] [(2, .ptr 0 0 0), (7, .fn 106 [] [.iptr 1 [[.int .i64 t7]] 0 0])] [] [] ([]) [some ⟨1, true, [[(grD 1 (List.map (eInt .u8) b1))]]⟩, some ⟨1, false, (List.map (eInt .u8) b1)⟩] := by
 unfold wire_put_2n at h
 refine rng_nil ?_
 exact ztP 8 h ha
theorem wire_put_2c_ok {t7 : Int} {b1 : List Int} {y : Int} {Y r : List Int} {x : wire_put_S ⊕ (List Int)} (h : wire_put_2c t7 b1 y Y = some x) (ha : AfterP wire_put_Pd r x) : RngQ E (Cx.of Tryd.f94 true 0) (QW (Rs wire_put_e r)) 1 (wire_put_c [1, 0, 1, 0]) [.blk 0, .code (wire_put_c [1, 1])] [(2, .ptr 0 0 0), (7, .fn 106 [] [.iptr 1 [[.int .i64 t7]] 0 0])] [] [] (wire_digits_1_en y :: List.map wire_digits_1_en Y) [some ⟨1, true, [[(grD 1 (List.map (eInt .u8) b1))]]⟩, some ⟨1, false, (List.map (eInt .u8) b1)⟩] := by
 unfold wire_put_2c at h
 refine rng_cons ?_
 refine zn 8 h fun h => ?_
 refine za 0 (eInt .u8) b1 ([y]) ?_
 refine adv_ok hm 6 _ ?_
 obtain rfl := Option.some.inj h
 exact p_rend0 [] (s1 := [some ⟨1, true, [[.msl 1 0 ((List.map (eInt .u8) (b1 ++ [y])).length) ((List.map (eInt .u8) (b1 ++ [y])).length) false]]⟩, some ⟨1, false, (List.map (eInt .u8) (b1 ++ [y]))⟩]) (s := [some ⟨1, true, [[.msl 1 0 ((List.map (eInt .u8) (b1 ++ [y])).length) ((List.map (eInt .u8) (b1 ++ [y])).length) false]]⟩, some ⟨1, false, (List.map (eInt .u8) (b1 ++ [y]))⟩]) (by kernel_rfl) (rfl) (by kernel_rfl) ha
theorem wire_put_2_ok {t7 : Int} {b1 Y r : List Int} {x : wire_put_S ⊕ (List Int)} (h : wire_put_2 t7 b1 Y = some x) (ha : AfterP wire_put_Pd r x) : RngQ E (Cx.of Tryd.f94 true 0) (QW (Rs wire_put_e r)) 1 (wire_put_c [1, 0, 1, 0]) [.blk 0, .code (wire_put_c [1, 1])] [(2, .ptr 0 0 0), (7, .fn 106 [] [.iptr 1 [[.int .i64 t7]] 0 0])] [] [] (List.map wire_digits_1_en Y) [some ⟨1, true, [[(grD 1 (List.map (eInt .u8) b1))]]⟩, some ⟨1, false, (List.map (eInt .u8) b1)⟩] := by
 cases Y with
 | nil => exact wire_put_2n_ok h ha
 | cons y Y => exact wire_put_2c_ok h ha
noncomputable def wire_put (n : Int) : Option (List Int) := evf wire_put_step (.s0 n)
theorem wire_put_ev {n : Int} {r : List Int} (h : Ev wire_put_step (.s0 n) r) : Sound E 94 [.sl true 0 [], .int .i64 n] [] (Rs wire_put_e r) :=
 sound_ofW (m := wire_put_M (.s0 n)) (fn := Tryd.f94) (by kernel_rfl) (by kernel_rfl) (ev_runP (Pd := wire_put_Pd) (fun s x r hs ha => by
  cases s with
  | s0 => exact wire_put_0_ok hs ha
  | s1 => exact wire_put_1_ok hs ha
  | s2 => exact wire_put_2_ok hs ha) h)
theorem wire_put_ok {n : Int} {r : List Int} (h : wire_put n = some r) : Sound E 94 [.sl true 0 [], .int .i64 n] [] (Rs wire_put_e r) := wire_put_ev (evf_ev h)
end Go.RX.L

namespace Go.RX.L
open Go Go.RX Go.Proofs
attribute [local irreducible] FinQ
noncomputable def wire_put_v2_c := codeAt (bodyOf Tryd.f94)
noncomputable def wire_put_v2_e (y : List Int) : D × Sto := ((grD 1 (List.map (eInt .u8) y)), [none, some ⟨1, false, (List.map (eInt .u8) y)⟩])
inductive wire_put_v2_S where
 | s0 (n : Int) (b0 : List Int)
 | s1 (t7 : Int) (b2 : List Int)
 | s2 (t7 : Int) (b2 Y : List Int)
noncomputable def wire_put_v2_M : wire_put_v2_S → M
 | .s0 n b0 => startM Tryd.f94 [(grD 0 (List.map (eInt .u8) b0)), .int .i64 n] [some ⟨1, false, (List.map (eInt .u8) b0)⟩]
 | .s1 t7 b2 => ⟨[.code (wire_put_v2_c [1, 0, 1, 0]), .blk 0, .code (wire_put_v2_c [1, 1])], [(2, .ptr 1 0 0), (7, .fn 106 [] [.iptr 1 [[.int .i64 t7]] 0 0])], [none, some ⟨1, true, [[(grD 2 (List.map (eInt .u8) b2))]]⟩, some ⟨1, false, (List.map (eInt .u8) b2)⟩]⟩
 | .s2 t7 b2 Y => ⟨[.blk 0, .code (wire_put_v2_c [1, 1])], [(2, .ptr 1 0 0), (7, .fn 106 [] [.iptr 1 [[.int .i64 t7]] 0 0])], [none, some ⟨1, true, [[(grD 2 (List.map (eInt .u8) b2))]]⟩, some ⟨1, false, (List.map (eInt .u8) b2)⟩]⟩
noncomputable def wire_put_v2_Pd : wire_put_v2_S → (List Int) → Prop
 | .s0 n b0, r_ => FinQ E (Cx.of Tryd.f94 true 1) (QW (Rs wire_put_v2_e r_)) (.go (wire_put_v2_M (.s0 n b0)))
 | .s1 t7 b2, r_ => FinQ E (Cx.of Tryd.f94 true 1) (QW (Rs wire_put_v2_e r_)) (.go (wire_put_v2_M (.s1 t7 b2)))
 | .s2 t7 b2 Y, r_ => RngQ E (Cx.of Tryd.f94 true 1) (QW (Rs wire_put_v2_e r_)) 2 (wire_put_v2_c [1, 0, 1, 0]) [.blk 0, .code (wire_put_v2_c [1, 1])] [(2, .ptr 1 0 0), (7, .fn 106 [] [.iptr 1 [[.int .i64 t7]] 0 0])] [] [] (List.map wire_digits_1_en Y) [none, some ⟨1, true, [[(grD 2 (List.map (eInt .u8) b2))]]⟩, some ⟨1, false, (List.map (eInt .u8) b2)⟩]
noncomputable def wire_put_v2_0 (n : Int) (b0 : List Int) : Option (wire_put_v2_S ⊕ (List Int)) := ((wire_digits n).bind fun y1 => (some (.inl (.s1 y1 b0))))
noncomputable def wire_put_v2_1 (t7 : Int) (b2 : List Int) : Option (wire_put_v2_S ⊕ (List Int)) := ((wire_digits_1 t7).bind fun y1 => (some (.inl (.s2 t7 b2 y1))))
noncomputable def wire_put_v2_2n (t7 : Int) (b2 : List Int) : Option (wire_put_v2_S ⊕ (List Int)) := (some (.inr b2))
noncomputable def wire_put_v2_2c (t7 : Int) (b2 : List Int) (y : Int) (Y : List Int) : Option (wire_put_v2_S ⊕ (List Int)) := (bif (decide (((List.map (eInt .u8) b2).length + 1) * 1 ≤ bytesLim)) then (some (.inl (.s2 t7 (b2 ++ [y]) Y))) else none)
noncomputable def wire_put_v2_2 (t7 : Int) (b2 : List Int) : List Int → Option (wire_put_v2_S ⊕ (List Int))
 | [] => wire_put_v2_2n t7 b2
 | y :: Y => wire_put_v2_2c t7 b2 y Y
noncomputable def wire_put_v2_step : wire_put_v2_S → Option (wire_put_v2_S ⊕ (List Int))
 | .s0 n b0 => wire_put_v2_0 n b0
 | .s1 t7 b2 => wire_put_v2_1 t7 b2
 | .s2 t7 b2 Y => wire_put_v2_2 t7 b2 Y
theorem wire_put_v2_0_ok {n : Int} {b0 r : List Int} {x : wire_put_v2_S ⊕ (List Int)} (h : wire_put_v2_0 n b0 = some x) (ha : AfterP wire_put_v2_Pd r x) : FinQ E (Cx.of Tryd.f94 true 1) (QW (Rs wire_put_v2_e r)) (.go (wire_put_v2_M (.s0 n b0))) := by
 unfold wire_put_v2_0 at h
 refine zc 10 [] h (fun _ => wire_digits_ok) fun y1 h => ?_
 exact zkP 2 h ha id [.mv 0]
theorem wire_put_v2_1_ok {t7 : Int} {b2 r : List Int} {x : wire_put_v2_S ⊕ (List Int)} (h : wire_put_v2_1 t7 b2 = some x) (ha : AfterP wire_put_v2_Pd r x) : FinQ E (Cx.of Tryd.f94 true 1) (QW (Rs wire_put_v2_e r)) (.go (wire_put_v2_M (.s1 t7 b2))) := by
 unfold wire_put_v2_1 at h
 refine adv_ok hm 1 _ ?_
 have ok1 := fun (y : List Int) (hy : wire_digits_1 t7 = some y) => wire_digits_1_ok hy
 refine p_rng (m := 2) (c := wire_put_v2_c [1, 0, 1, 0]) (t := [.blk 0, .code (wire_put_v2_c [1, 1])]) (fr := [(2, .ptr 1 0 0), (7, .fn 106 [] [.iptr 1 [[.int .i64 t7]] 0 0])]) (σ := [none, some ⟨1, true, [[(grD 2 (List.map (eInt .u8) b2))]]⟩, some ⟨1, false, (List.map (eInt .u8) b2)⟩]) (caps1 := [.iptr 1 [[.int .i64 t7]] 0 0]) (caps := [.iptr 1 [[.int .i64 t7]] 0 0]) (sub1 := []) (sub := []) wire_digits_1_en h (by kernel_rfl) ⟨rfl, rfl⟩ (by kernel_rfl) (by kernel_rfl) ok1 (fun y1 h1 h => ?_)
 obtain rfl := Option.some.inj h
 exact ha
theorem wire_put_v2_2n_ok {t7 : Int} {b2 r : List Int} {x : wire_put_v2_S ⊕ (List Int)} (h : wire_put_v2_2n t7 b2 = some x) (ha : AfterP wire_put_v2_Pd r x) : RngQ E (Cx.of Tryd.f94 true 1) (QW (Rs wire_put_v2_e r)) 2 (wire_put_v2_c [1, 0, 1, 0]) [.blk 0, .code (wire_put_v2_c [1, 1])] [(2, .ptr 1 0 0), (7, .fn 106 [] [.iptr 1 [[.int .i64 t7]] 0 0])] [] [] ([]) [none, some ⟨1, true, [[(grD 2 (List.map (eInt .u8) b2))]]⟩, some ⟨1, false, (List.map (eInt .u8) b2)⟩] := by
 unfold wire_put_v2_2n at h
 refine rng_nil ?_
 exact ztP 8 h ha
theorem wire_put_v2_2c_ok {t7 : Int} {b2 : List Int} {y : Int} {Y r : List Int} {x : wire_put_v2_S ⊕ (List Int)} (h : wire_put_v2_2c t7 b2 y Y = some x) (ha : AfterP wire_put_v2_Pd r x) : RngQ E (Cx.of Tryd.f94 true 1) (QW (Rs wire_put_v2_e r)) 2 (wire_put_v2_c [1, 0, 1, 0]) [.blk 0, .code (wire_put_v2_c [1, 1])] [(2, .ptr 1 0 0), (7, .fn 106 [] [.iptr 1 [[.int .i64 t7]] 0 0])] [] [] (wire_digits_1_en y :: List.map wire_digits_1_en Y) [none, some ⟨1, true, [[(grD 2 (List.map (eInt .u8) b2))]]⟩, some ⟨1, false, (List.map (eInt .u8) b2)⟩] := by
 unfold wire_put_v2_2c at h
 refine rng_cons ?_
 refine zn 8 h fun h => ?_
 refine za 0 (eInt .u8) b2 ([y]) ?_
 refine adv_ok hm 6 _ ?_
 obtain rfl := Option.some.inj h
 exact p_rend0 [] (s1 := [none, some ⟨1, true, [[.msl 2 0 ((List.map (eInt .u8) (b2 ++ [y])).length) ((List.map (eInt .u8) (b2 ++ [y])).length) false]]⟩, some ⟨1, false, (List.map (eInt .u8) (b2 ++ [y]))⟩]) (s := [none, some ⟨1, true, [[.msl 2 0 ((List.map (eInt .u8) (b2 ++ [y])).length) ((List.map (eInt .u8) (b2 ++ [y])).length) false]]⟩, some ⟨1, false, (List.map (eInt .u8) (b2 ++ [y]))⟩]) (by kernel_rfl) (rfl) (by kernel_rfl) ha
theorem wire_put_v2_2_ok {t7 : Int} {b2 Y r : List Int} {x : wire_put_v2_S ⊕ (List Int)} (h : wire_put_v2_2 t7 b2 Y = some x) (ha : AfterP wire_put_v2_Pd r x) : RngQ E (Cx.of Tryd.f94 true 1) (QW (Rs wire_put_v2_e r)) 2 (wire_put_v2_c [1, 0, 1, 0]) [.blk 0, .code (wire_put_v2_c [1, 1])] [(2, .ptr 1 0 0), (7, .fn 106 [] [.iptr 1 [[.int .i64 t7]] 0 0])] [] [] (List.map wire_digits_1_en Y) [none, some ⟨1, true, [[(grD 2 (List.map (eInt .u8) b2))]]⟩, some ⟨1, false, (List.map (eInt .u8) b2)⟩] := by
 cases Y with
 | nil => exact wire_put_v2_2n_ok h ha
 | cons y Y => exact wire_put_v2_2c_ok h ha
noncomputable def wire_put_v2 (n : Int) (b0 : List Int) : Option (List Int) := evf wire_put_v2_step (.s0 n b0)
theorem wire_put_v2_ev {n : Int} {b0 r : List Int} (h : Ev wire_put_v2_step (.s0 n b0) r) : Sound E 94 [(grD 0 (List.map (eInt .u8) b0)), .int .i64 n] [some ⟨1, false, (List.map (eInt .u8) b0)⟩] (Rs wire_put_v2_e r) :=
 sound_ofW (m := wire_put_v2_M (.s0 n b0)) (fn := Tryd.f94) (by kernel_rfl) (by kernel_rfl) (ev_runP (Pd := wire_put_v2_Pd) (fun s x r hs ha => by
  cases s with
  | s0 => exact wire_put_v2_0_ok hs ha
  | s1 => exact wire_put_v2_1_ok hs ha
  | s2 => exact wire_put_v2_2_ok hs ha) h)
theorem wire_put_v2_ok {n : Int} {b0 r : List Int} (h : wire_put_v2 n b0 = some r) : Sound E 94 [(grD 0 (List.map (eInt .u8) b0)), .int .i64 n] [some ⟨1, false, (List.map (eInt .u8) b0)⟩] (Rs wire_put_v2_e r) := wire_put_v2_ev (evf_ev h)
end Go.RX.L

namespace Go.RX.L
open Go Go.RX Go.Proofs
attribute [local irreducible] FinQ
noncomputable def wire_PutInt_e (y : List Int) : D × Sto := ((grD 0 (List.map (eInt .u8) y)), [some ⟨1, false, (List.map (eInt .u8) y)⟩])
noncomputable def wire_PutInt (n : Int) : Option (List Int) := ((wire_put n).bind fun y1 => (some y1))
theorem wire_PutInt_ok {n : Int} {r : List Int} (h : wire_PutInt n = some r) : Sound E 93 [.int .i64 n] [] (Rs wire_PutInt_e r) := so (fn := Tryd.f93) (k := true) (m := 0) h <| by
 intro r h; unfold wire_PutInt at h
 refine zc 8 [none] h (fun _ => wire_put_ok) fun y1 h => ?_
 exact zu 3 h
end Go.RX.L

namespace Go.RX.L
open Go Go.RX Go.Proofs
attribute [local irreducible] FinQ
noncomputable def wire_sized_c := codeAt (bodyOf Tryd.f104)
noncomputable def wire_sized_e (y : Int × Int × Int) : D × Sto := (.tup [.int .i64 y.1, .int .i64 y.2.1, .int .i64 y.2.2], [])
abbrev wire_sized_W := AOk E (Cx.of Tryd.f104 false 0) wire_sized_e
noncomputable def wire_sized_1M (n next : Int) (t23 : Bool) : M := ⟨[.code (wire_sized_c [1, 1, 0, 0, 1, 1, 1]), .blk 0, .code (wire_sized_c [1, 1, 1])], [(9, .int .i64 n), (10, .int .i64 next), (23, .bool t23)], []⟩
noncomputable def wire_sized_1 (n next : Int) (t23 : Bool) : Option (Int × Int × Int) := (bif t23 then (some (0, 0, 2)) else (some (n, next, 0)))
theorem wire_sized_1_ok {n next t23} : wire_sized_W (wire_sized_1M n next t23) (wire_sized_1 n next t23) := by
 intro r h; unfold wire_sized_1 at h
 refine zs 1 h (fun h => ?_) fun h => ?_
 ·
  exact zu 7 h
 exact zu 11 h
noncomputable def wire_sized (b : List Int) (at_ most : Int) : Option (Int × Int × Int) := ((wire_Int b at_).bind fun y1 => (bif ((y1.2.2 : Int) != 0) then (some (0, 0, y1.2.2)) else (bif (decide ((y1.1 : Int) < 0)) then (wire_sized_1 y1.1 y1.2.1 (decide ((y1.1 : Int) < 0))) else (wire_sized_1 y1.1 y1.2.1 (decide ((y1.1 : Int) > most))))))
theorem wire_sized_ok {b : List Int} {at_ most : Int} {r : Int × Int × Int} (h : wire_sized b at_ most = some r) : Sound E 104 [.sl false 1 (List.map (eInt .u8) b), .int .i64 at_, .int .i64 most] [] (Rs wire_sized_e r) := so (fn := Tryd.f104) (k := false) (m := 0) h <| by
 intro r h; unfold wire_sized at h
 refine zc 11 [] h (fun _ => wire_Int_ok) fun y1 h => ?_
 refine zs 17 h (fun h => ?_) fun h => ?_
 ·
  exact zu 8 h
 refine zs 8 h (fun h => ?_) fun h => ?_
 ·
  exact zg 1 (wire_sized_1_ok h)
 exact zg 6 (wire_sized_1_ok h)
end Go.RX.L

namespace Go.RX.L
open Go Go.RX Go.Proofs
attribute [local irreducible] FinQ
noncomputable def wire_PutInts_c := codeAt (bodyOf Tryd.f73)
noncomputable def wire_PutInts_e (y : Int × (List Int)) : D × Sto := (.tup [(grD 0 (List.map (eInt .u8) y.2)), .int .i64 y.1], [some ⟨1, false, (List.map (eInt .u8) y.2)⟩])
inductive wire_PutInts_S where
 | s0 (l_ : List Int)
 | s1 (t13 : List Int) (t14 t15 : Int) (b : List Int)
noncomputable def wire_PutInts_M : wire_PutInts_S → M
 | .s0 l_ => startM Tryd.f73 [.sl false 1 (List.map (eInt .i64) l_)] []
 | .s1 t13 t14 t15 b => ⟨[.lpc (wire_PutInts_c [1, 1, 1, 0, 1, 0, 0]) 57360, .blk 0, .code (wire_PutInts_c [1, 1, 1, 1])], [(4, (grD 0 (List.map (eInt .u8) b))), (13, .sl false 1 (List.map (eInt .i64) t13)), (14, .int .i64 t14), (15, .int .i64 t15)], [some ⟨1, false, (List.map (eInt .u8) b)⟩]⟩
abbrev wire_PutInts_W := SOk E (Cx.of Tryd.f73 true 0) wire_PutInts_e wire_PutInts_M
noncomputable def wire_PutInts_0 (l_ : List Int) : Option (wire_PutInts_S ⊕ (Int × (List Int))) := (bif (decide (((((List.map (eInt .i64) l_).length : Nat) : Int) : Int) > 64)) then (some (.inr (2, []))) else ((wire_PutInt (((List.map (eInt .i64) l_).length : Nat) : Int)).bind fun y2 => (some (.inl (.s1 l_ (((List.map (eInt .i64) l_).length : Nat) : Int) 0 y2)))))
noncomputable def wire_PutInts_1 (t13 : List Int) (t14 t15 : Int) (b : List Int) : Option (wire_PutInts_S ⊕ (Int × (List Int))) := (bif (decide ((t15 : Int) < t14)) then (bif ((decide ((0 : Int) ≤ t15)) && (decide ((t15 : Int) < (((List.map (eInt .i64) t13).length : Nat) : Int)))) then (((t13)[t15.toNat]?).bind fun y3 => ((wire_put_v2 y3 b).bind fun y5 => (some (.inl (.s1 t13 t14 (IntKind.i64.wrap (t15 + 1)) y5))))) else none) else (some (.inr (0, b))))
noncomputable def wire_PutInts_step : wire_PutInts_S → Option (wire_PutInts_S ⊕ (Int × (List Int)))
 | .s0 l_ => wire_PutInts_0 l_
 | .s1 t13 t14 t15 b => wire_PutInts_1 t13 t14 t15 b
theorem wire_PutInts_0_ok {l_} : wire_PutInts_W (.s0 l_) (wire_PutInts_0 l_) := by
 intro r x h ha; unfold wire_PutInts_0 at h
 refine zs 13 h (fun h => ?_) fun h => ?_
 ·
  exact zt 6 h ha [.matt 0 0 1]
 refine zc 6 [] h (fun _ => wire_PutInt_ok) fun y2 h => ?_
 exact zj 12 h ha
theorem wire_PutInts_1_ok {t13 t14 t15 b} : wire_PutInts_W (.s1 t13 t14 t15 b) (wire_PutInts_1 t13 t14 t15 b) := by
 intro r x h ha; unfold wire_PutInts_1 at h
 refine zs 7 h (fun h => ?_) fun h => ?_
 ·
  refine zn 6 h fun h => ?_
  refine zr 1 (eInt .i64) h fun y3 h => ?_
  refine zc 6 [] h (fun _ => wire_put_v2_ok) fun y5 h => ?_
  exact zj 8 h ha
 exact zt 8 h ha
noncomputable def wire_PutInts (l_ : List Int) : Option (Int × (List Int)) := evf wire_PutInts_step (.s0 l_)
theorem wire_PutInts_ok {l_ : List Int} {r : Int × (List Int)} (h : wire_PutInts l_ = some r) : Sound E 73 [.sl false 1 (List.map (eInt .i64) l_)] [] (Rs wire_PutInts_e r) := sc (fn := Tryd.f73) (k := true) (m := 0) (stM := wire_PutInts_M) h fun s => by
 cases s with
 | s0 => exact wire_PutInts_0_ok
 | s1 => exact wire_PutInts_1_ok
end Go.RX.L

namespace Go.RX.L
open Go Go.RX Go.Proofs
attribute [local irreducible] FinQ
noncomputable def wire_Ints_c := codeAt (bodyOf Tryd.f97)
noncomputable def wire_Ints_e (y : (List Int) × Int × Int) : D × Sto := (.tup [.sl false 1 (List.map (eInt .i64) y.1), .int .i64 y.2.1, .int .i64 y.2.2], [])
inductive wire_Ints_S where
 | s0 (b : List Int) (at_ : Int)
 | s1 (b : List Int) (next e : Int) (t19 t20 : Int) (out : List Int)
 | s2 (next e : Int) (out : List Int)
noncomputable def wire_Ints_M : wire_Ints_S → M
 | .s0 b at_ => startM Tryd.f97 [.sl false 1 (List.map (eInt .u8) b), .int .i64 at_] []
 | .s1 b next e t19 t20 out => ⟨[.lpc (wire_Ints_c [1, 1, 1, 0, 1, 0, 0]) 1574657, .blk 0, .code (wire_Ints_c [1, 1, 1, 1])], [(0, .sl false 1 (List.map (eInt .u8) b)), (8, .int .i64 next), (9, .int .i64 e), (10, (grD 0 (List.map (eInt .i64) out))), (19, .int .i64 t19), (20, .int .i64 t20)], [some ⟨1, false, (List.map (eInt .i64) out)⟩]⟩
 | .s2 next e out => ⟨[.code (wire_Ints_c [1, 1, 1, 1])], [(8, .int .i64 next), (9, .int .i64 e), (10, (grD 0 (List.map (eInt .i64) out)))], [some ⟨1, false, (List.map (eInt .i64) out)⟩]⟩
abbrev wire_Ints_W := SOk E (Cx.of Tryd.f97 false 0) wire_Ints_e wire_Ints_M
noncomputable def wire_Ints_0 (b : List Int) (at_ : Int) : Option (wire_Ints_S ⊕ ((List Int) × Int × Int)) := ((wire_sized b at_ 64).bind fun y1 => (some (.inl (.s1 b y1.2.1 y1.2.2 y1.1 0 ([])))))
noncomputable def wire_Ints_1 (b : List Int) (next e : Int) (t19 t20 : Int) (out : List Int) : Option (wire_Ints_S ⊕ ((List Int) × Int × Int)) := (bif (decide ((t20 : Int) < t19)) then ((wire_Int b next).bind fun y2 => (bif ((y2.2.2 : Int) != 0) then (some (.inl (.s2 y2.2.1 y2.2.2 out))) else (bif (decide (((List.map (eInt .i64) out).length + 1) * 8 ≤ bytesLim)) then (some (.inl (.s1 b y2.2.1 y2.2.2 t19 (IntKind.i64.wrap (t20 + 1)) (out ++ [y2.1])))) else none))) else (some (.inl (.s2 next e out))))
noncomputable def wire_Ints_2 (next e : Int) (out : List Int) : Option (wire_Ints_S ⊕ ((List Int) × Int × Int)) := (bif ((e : Int) != 0) then (some (.inr ([], 0, e))) else (some (.inr (out, next, 0))))
noncomputable def wire_Ints_step : wire_Ints_S → Option (wire_Ints_S ⊕ ((List Int) × Int × Int))
 | .s0 b at_ => wire_Ints_0 b at_
 | .s1 b next e t19 t20 out => wire_Ints_1 b next e t19 t20 out
 | .s2 next e out => wire_Ints_2 next e out
theorem wire_Ints_0_ok {b at_} : wire_Ints_W (.s0 b at_) (wire_Ints_0 b at_) := by
 intro r x h ha; unfold wire_Ints_0 at h
 refine zc 11 [] h (fun _ => wire_sized_ok) fun y1 h => ?_
 refine adv_ok hm 21 _ ?_
 obtain rfl := Option.some.inj h
 refine r_cut 1574657 [.mat 10 1] (m' := ⟨[.lpc (wire_Ints_c [1, 1, 1, 0, 1, 0, 0]) 1574657, .blk 0, .code (wire_Ints_c [1, 1, 1, 1])], [(0, .sl false 1 (List.map (eInt .u8) b)), (8, .int .i64 y1.2.1), (9, .int .i64 y1.2.2), (10, .msl 0 0 0 0 false), (19, .int .i64 y1.1), (20, .int .i64 0)], [some ⟨1, false, []⟩]⟩) (by kernel_rfl) ?_
 refine r_len (n1 := 0) (n2 := (List.map (eInt .i64) ([])).length) (fun n_len => .go ⟨[.lpc (wire_Ints_c [1, 1, 1, 0, 1, 0, 0]) 1574657, .blk 0, .code (wire_Ints_c [1, 1, 1, 1])], [(0, .sl false 1 (List.map (eInt .u8) b)), (8, .int .i64 y1.2.1), (9, .int .i64 y1.2.2), (10, .msl 0 0 n_len n_len false), (19, .int .i64 y1.1), (20, .int .i64 0)], [some ⟨1, false, []⟩]⟩) (by simp) ?_
 exact ha
theorem wire_Ints_1_ok {b next e t19 t20 out} : wire_Ints_W (.s1 b next e t19 t20 out) (wire_Ints_1 b next e t19 t20 out) := by
 intro r x h ha; unfold wire_Ints_1 at h
 refine zs 7 h (fun h => ?_) fun h => ?_
 ·
  refine zc 13 [] h (fun _ => wire_Int_ok) fun y2 h => ?_
  refine zs 14 h (fun h => ?_) fun h => ?_
  ·
   exact zk 1 h ha
  refine zn 7 h fun h => ?_
  refine za 0 (eInt .i64) out ([y2.1]) ?_
  exact zj 8 h ha
 exact zk 1 h ha
theorem wire_Ints_2_ok {next e out} : wire_Ints_W (.s2 next e out) (wire_Ints_2 next e out) := by
 intro r x h ha; unfold wire_Ints_2 at h
 refine zs 7 h (fun h => ?_) fun h => ?_
 ·
  exact zt 8 h ha [.slot 0 [some 1]]
 refine zm 10 (b := (Nat.ble (0 + (List.map (eInt .i64) out).length) ((List.map (eInt .i64) out).length))) (ble_full _) ?_
 obtain rfl := Option.some.inj h
 have hv := ha
 simp only [After] at hv
 subst hv
 exact r_retE [] (d1 := .tup [.sl false 1 (List.take ((List.map (eInt .i64) out).length) (List.drop 0 (List.map (eInt .i64) out))), .int .i64 next, .int .i64 0]) (d := .tup [.sl false 1 (List.map (eInt .i64) out), .int .i64 next, .int .i64 0]) (s1 := []) (s := []) (by kernel_rfl) ⟨by simp [List.take_of_length_le, List.map_take, List.map_drop], rfl⟩ ⟨rfl, rfl⟩ Cx.fin_of
noncomputable def wire_Ints (b : List Int) (at_ : Int) : Option ((List Int) × Int × Int) := evf wire_Ints_step (.s0 b at_)
theorem wire_Ints_ok {b : List Int} {at_ : Int} {r : (List Int) × Int × Int} (h : wire_Ints b at_ = some r) : Sound E 97 [.sl false 1 (List.map (eInt .u8) b), .int .i64 at_] [] (Rs wire_Ints_e r) := sc (fn := Tryd.f97) (k := false) (m := 0) (stM := wire_Ints_M) h fun s => by
 cases s with
 | s0 => exact wire_Ints_0_ok
 | s1 => exact wire_Ints_1_ok
 | s2 => exact wire_Ints_2_ok
end Go.RX.L

namespace Go.RX.L
open Go Go.RX
abbrev memB : Nat := 140737488351232
/-! ### the program's writer -/
theorem digits_ev : ∀ (u : Nat), u < 18446744073709551616 → EvL wire_digits_1_step (.s1 u) (venc u) := by
  intro u
  induction u using Nat.strongRecOn with
  | ind u ih =>
    intro hu
    by_cases h : u < 128
    · rw [venc_lt h]
      refine .done ?_
      have h1 : decide ((u : Int) > 127) = false := by simp; omega
      simp [wire_digits_1_step, wire_digits_1_1, h1, wrapU8 (show u < 256 by omega)]
    · rw [venc_ge (by omega)]
      have h1 : decide ((u : Int) > 127) = true := by simp; omega
      refine EvL.next (l := [((u % 128 + 128 : Nat) : Int)]) (s' := .s1 ((u / 128 : Nat) : Int)) ?_ (ih (u / 128) (by omega) (by omega))
      simp only [wire_digits_1_step, wire_digits_1_1, h1, cond_true, shr7, wrapU8_mod, or128 (show u % 256 < 256 by omega)]
      simp
theorem digits_ok {n : Int} (h : inK .i64 n) : wire_digits_1 n = some (encI n) := by
  refine evl_of ?_
  have := digits_ev (zz n) (zz_lt h)
  rw [← zz_xor h] at this
  exact EvL.next (l := []) rfl this
theorem put_loop {t : Int} : ∀ (Y b : List Int), b.length + Y.length ≤ memB → Ev wire_put_step (.s2 t b Y) (b ++ Y)
  | [], b, _ => .done (by simp [wire_put_step, wire_put_2, wire_put_2n])
  | y :: Y, b, h => by
    simp only [List.length_cons, memB] at h
    have hl : decide (((List.map (eInt .u8) b).length + 1) * 1 ≤ bytesLim) = true := limOk (by simp; omega)
    have ih := put_loop (t := t) Y (b ++ [y]) (by simp only [List.length_append, List.length_cons, List.length_nil, memB]; omega)
    rw [List.append_assoc] at ih
    exact .next (s' := .s2 t (b ++ [y]) Y) (by simp only [wire_put_step, wire_put_2, wire_put_2c, hl, cond_true]) ih
theorem put0_ok {n : Int} (h : inK .i64 n) : wire_put n = some (encI n) := by
  have hl := encI_len h
  refine evf_of (.next (s' := .s1 n []) (by simp [wire_put_step, wire_put_0, wire_digits]) (.next (s' := .s2 n [] (encI n)) (by simp [wire_put_step, wire_put_1, digits_ok h]) ?_))
  exact put_loop (encI n) [] (by simp [memB]; omega)
theorem putInt_ok {n : Int} (h : inK .i64 n) : wire_PutInt n = some (encI n) := by simp [wire_PutInt, put0_ok h]
theorem put2_loop {t : Int} : ∀ (Y b : List Int), b.length + Y.length ≤ memB → Ev wire_put_v2_step (.s2 t b Y) (b ++ Y)
  | [], b, _ => .done (by simp [wire_put_v2_step, wire_put_v2_2, wire_put_v2_2n])
  | y :: Y, b, h => by
    simp only [List.length_cons, memB] at h
    have hl : decide (((List.map (eInt .u8) b).length + 1) * 1 ≤ bytesLim) = true := limOk (by simp; omega)
    have ih := put2_loop (t := t) Y (b ++ [y]) (by simp only [List.length_append, List.length_cons, List.length_nil, memB]; omega)
    rw [List.append_assoc] at ih
    exact .next (s' := .s2 t (b ++ [y]) Y) (by simp only [wire_put_v2_step, wire_put_v2_2, wire_put_v2_2c, hl, cond_true]) ih
theorem put2_ok {n : Int} (h : inK .i64 n) {b : List Int} (hb : b.length ≤ 1000000) : wire_put_v2 n b = some (b ++ encI n) := by
  have hl := encI_len h
  refine evf_of (.next (s' := .s1 n b) (by simp [wire_put_v2_step, wire_put_v2_0, wire_digits]) (.next (s' := .s2 n b (encI n)) (by simp [wire_put_v2_step, wire_put_v2_1, digits_ok h]) ?_))
  exact put2_loop (encI n) b (by simp [memB]; omega)
theorem encN_snoc (xs : List Int) (x : Int) : encN (xs ++ [x]) = encN xs ++ encI x := by simp [encN]
theorem take_snoc {l : List Int} {k : Nat} (h : k < l.length) : l.take (k + 1) = l.take k ++ [l[k]] := by rw [List.take_add_one, List.getE h]; rfl
theorem putInts_loop {l : List Int} (hl : I64s l) (h64 : l.length ≤ 64) (p : List Int) (hp : p.length ≤ 10) : ∀ (j k : Nat), k + j = l.length → Ev wire_PutInts_step (.s1 l l.length k (p ++ encN (l.take k))) (0, p ++ encN l) := by
  intro j
  induction j with
  | zero =>
    intro k hk
    refine .done ?_
    rw [List.take_of_length_le (by omega)]
    simp [wire_PutInts_step, wire_PutInts_1, show ¬ ((k : Int) < l.length) by omega]
  | succ j ih =>
    intro k hk
    have hlt : k < l.length := by omega
    have hx := hl l[k] (List.getElem_mem hlt)
    have hs := encN_len (xs := l.take k) fun y hy => hl y (List.mem_of_mem_take hy)
    rw [List.length_take] at hs
    refine .next (s' := .s1 l l.length ((k + 1 : Nat) : Int) (p ++ encN (l.take (k + 1)))) ?_ (ih (k + 1) (by omega))
    have e : put2_ok hx (b := p ++ encN (l.take k)) (by simp; omega) = put2_ok hx (b := p ++ encN (l.take k)) (by simp; omega) := rfl
    have e2 : wire_put_v2 l[k] (p ++ encN (l.take k)) = some (p ++ encN (l.take (k + 1))) := by
      rw [put2_ok hx (by simp only [List.length_append]; omega), take_snoc hlt, encN_snoc, List.append_assoc]
    simp only [wire_PutInts_step, wire_PutInts_1, List.length_map, ltB hlt, ixB hlt, le0, Bool.and_self, cond_true, Int.toNat_natCast, List.getE hlt, Option.bind_some, e2, wS (show k < 9223372036854775807 by omega)]
theorem putInts_ok {l : List Int} (hl : I64s l) (h64 : l.length ≤ 64) : wire_PutInts l = some (0, encL l) := by
  have hn := inLen (n := l.length) (by omega)
  refine evf_of (.next (s' := .s1 l l.length 0 (encI l.length)) ?_ ?_)
  · have h1 : decide ((l.length : Int) > 64) = false := by simp; omega
    simp only [wire_PutInts_step, wire_PutInts_0, List.length_map, h1, cond_false, putInt_ok hn, Option.bind_some]
  · have := putInts_loop hl h64 (encI l.length) (encI_len hn) l.length 0 (by omega)
    simpa [encN, encL] using this
/-! ### the document's writer -/
/-! ### the program's reader -/
def rI (at_ : Nat) (x : Int ⊕ (Int × Nat)) : Int × Int × Int := match x with
  | .inl e => (0, 0, e)
  | .inr (n, k) => (n, ((at_ + k : Nat) : Int), 0)
def rV (at_ i : Nat) (u : Nat) (x : Int ⊕ (Nat × Nat)) : Int × Int × Int := match x with
  | .inl e => (0, 0, e)
  | .inr (v, k) => (unzz (u + v * 2 ^ (7 * i)), ((at_ + i + k : Nat) : Int), 0)
theorem pow7 (i : Nat) : 2 ^ (7 * (i + 1)) = 2 ^ (7 * i) * 128 := by rw [Nat.mul_succ, Nat.pow_add]
theorem pow7_le8 {i : Nat} (h : i ≤ 8) : 2 ^ (7 * i) ≤ 72057594037927936 := by
  have : 2 ^ (7 * i) ≤ 2 ^ (7 * 8) := Nat.pow_le_pow_right (by decide) (by omega)
  simpa using this
theorem rV_step (at_ i u c : Nat) (r : Int ⊕ (Nat × Nat)) (h1 : 128 ≤ c) (h2 : c < 256) : rV at_ (i + 1) (u + c % 128 * 2 ^ (7 * i)) r = rV at_ i u (vS c r) := by
  cases r with
  | inl e => rfl
  | inr p =>
    obtain ⟨v, k⟩ := p
    have e : c - 128 = c % 128 := by omega
    simp only [rV, vS, e]
    have key : ∀ X : Nat, u + c % 128 * X + v * (X * 128) = u + (c % 128 + 128 * v) * X := fun X => by
      have h3 : v * (X * 128) = 128 * v * X := by rw [Nat.mul_comm X 128, ← Nat.mul_assoc, Nat.mul_comm v 128]
      rw [Nat.add_mul]; omega
    rw [pow7, key]
    refine Prod.ext rfl (Prod.ext ?_ rfl)
    show ((at_ + (i + 1) + k : Nat) : Int) = ((at_ + i + (k + 1) : Nat) : Int)
    omega
theorem acc_ok {u i c : Nat} (hu : u < 2 ^ (7 * i)) (hi : i ≤ 9) (hc : c < 256) (h9 : i = 9 → c ≤ 1) : orI .u64 u (shlI .u64 (IntKind.u64.wrap (andI .u8 c 127)) ((7 * i : Nat) : Int)) = ((u + c % 128 * 2 ^ (7 * i) : Nat) : Int) ∧ u + c % 128 * 2 ^ (7 * i) < 18446744073709551616 ∧ (i ≤ 8 → u + c % 128 * 2 ^ (7 * i) < 2 ^ (7 * (i + 1))) := by
  have hb : u + c % 128 * 2 ^ (7 * i) < 18446744073709551616 := by
    rcases Nat.lt_or_ge i 9 with h | h
    · have := pow7_le8 (show i ≤ 8 by omega)
      have : c % 128 * 2 ^ (7 * i) ≤ 127 * 2 ^ (7 * i) := Nat.mul_le_mul_right _ (by omega)
      omega
    · have e : i = 9 := by omega
      subst e
      have := h9 rfl
      have h2 : c % 128 ≤ 1 := by omega
      have h3 : c % 128 * 2 ^ (7 * 9) ≤ 1 * 2 ^ (7 * 9) := Nat.mul_le_mul_right _ h2
      simp at hu h3 ⊢
      omega
  refine ⟨?_, hb, fun _ => ?_⟩
  · rw [and127 hc, wrapU64 (by omega)]
    exact or_shl hu hb (by omega)
  · rw [pow7]
    have : c % 128 * 2 ^ (7 * i) ≤ 127 * 2 ^ (7 * i) := Nat.mul_le_mul_right _ (by omega)
    omega
theorem int_loop {L : List Int} (hb : Bytes L) (at_ : Nat) (hm : at_ + L.length ≤ memB) : ∀ (j i u : Nat), i + j = L.length → i ≤ 9 → u < 2 ^ (7 * i) → Ev wire_Int_step (.s2 at_ u ((7 * i : Nat) : Int) L L.length i) (rV at_ i u (vd i (L.drop i))) := by
  intro j
  induction j with
  | zero =>
    intro i u hi h9 hu
    rw [List.drop_eq_nil_of_le (by omega)]
    refine .done ?_
    simp [wire_Int_step, wire_Int_2, vd, rV, show ¬ ((i : Int) < L.length) by omega]
  | succ j ih =>
    intro i u hi h9 hu
    have hlt : i < L.length := by omega
    have hcb := hb L[i] (List.getElem_mem hlt)
    obtain ⟨c, hc⟩ := Int.eq_ofNat_of_zero_le hcb.1
    rw [List.drop_eq_getElem_cons hlt, vd_cons]
    simp only [memB] at hm
    have e1 : decide ((0 : Int) ≤ i) = true := by simp
    -- the first step
    have s1 : ∀ U, U = orI .u64 u (shlI .u64 (IntKind.u64.wrap (andI .u8 L[i] 127)) ((7 * i : Nat) : Int)) → wire_Int_step (.s2 at_ u ((7 * i : Nat) : Int) L L.length i) = some (.inl (.s4 at_ U ((7 * i : Nat) : Int) i L[i] L L.length i (decide (i = 9 ∧ 1 < L[i])))) := fun U hU => by
      simp only [wire_Int_step, wire_Int_2, List.length_map, ltB hlt, ixB hlt, le0, Bool.and_self, cond_true, Int.toNat_natCast, List.getE hlt, Option.bind_some, nn0, ← hU]
      by_cases h : i = 9
      · subst h
        simp
      · have : (((7 * i : Nat) : Int) == 63) = false := by simp; omega
        rw [this]
        simp [h]
    by_cases hlong : (i = 9 ∧ 1 < L[i]) ∨ (L[i] = 0 ∧ 0 < i)
    · rw [if_pos hlong]
      obtain ⟨U, hU⟩ : ∃ U, U = orI .u64 u (shlI .u64 (IntKind.u64.wrap (andI .u8 L[i] 127)) ((7 * i : Nat) : Int)) := ⟨_, rfl⟩
      refine .next (s1 U hU) (.next (s' := .s3 at_ U ((7 * i : Nat) : Int) i L[i] L L.length i true) ?_ (.done (by simp [wire_Int_step, wire_Int_3, rV])))
      by_cases h9 : i = 9 ∧ 1 < L[i]
      · simp only [wire_Int_step, wire_Int_4, decide_eq_true h9, cond_true]
      · have h0 := hlong.resolve_left h9
        simp only [wire_Int_step, wire_Int_4, decide_eq_false h9, cond_false, h0.1]
        simp
        omega
    · rw [if_neg hlong]
      have hn9 : ¬ (i = 9 ∧ 1 < L[i]) := fun h => hlong (.inl h)
      have hn0 : ¬ (L[i] = 0 ∧ 0 < i) := fun h => hlong (.inr h)
      have hc256 : c < 256 := by omega
      obtain ⟨a1, a2, a3⟩ := acc_ok hu h9 hc256 (fun h => by omega)
      rw [← hc] at a1
      refine .next (s1 _ a1.symm) (.next (s' := .s3 at_ ((u + c % 128 * 2 ^ (7 * i) : Nat) : Int) ((7 * i : Nat) : Int) i L[i] L L.length i false) ?_ ?_)
      · have : decide (i = 9 ∧ 1 < L[i]) = false := by simpa using fun h => by omega
        rw [this]
        by_cases h0 : L[i] = 0
        · have : ¬ 0 < i := fun h => hn0 ⟨h0, h⟩
          simp [wire_Int_step, wire_Int_4, h0]
          omega
        · simp [wire_Int_step, wire_Int_4, h0, beq_eq_false_iff_ne.2 h0]
      · by_cases hlt128 : L[i] < 128
        · rw [if_pos hlt128]
          refine .done ?_
          have hmod : c % 128 = c := by omega
          simp only [wire_Int_step, wire_Int_3, cond_false, decide_eq_true hlt128, cond_true, unzz_xor a2, rV]
          rw [wI64 (n := (at_ : Int) + i) (by omega) (by omega), wI64 (by omega) (by omega), hmod, hc]
          simp
        · rw [if_neg hlt128]
          have hi8 : i ≤ 8 := by
            rcases Nat.lt_or_ge i 9 with h | h
            · omega
            · exact absurd ⟨show i = 9 by omega, by omega⟩ hn9
          have := ih (i + 1) (u + c % 128 * 2 ^ (7 * i)) (by omega) (by omega) (a3 hi8)
          have hres := rV_step at_ i u c (vd (i + 1) (L.drop (i + 1))) (by omega) (by omega)
          rw [show L[i].toNat = c by omega]
          rw [← hres]
          refine .next (s' := .s2 at_ ((u + c % 128 * 2 ^ (7 * i) : Nat) : Int) ((7 * (i + 1) : Nat) : Int) L L.length ((i + 1 : Nat) : Int)) ?_ this
          have e7 : IntKind.i64.wrap (((7 * i : Nat) : Int) + 7) = ((7 * (i + 1) : Nat) : Int) := by rw [wI64 (by omega) (by omega)]; omega
          simp only [wire_Int_step, wire_Int_3, cond_false, decide_eq_false hlt128, e7, wS (show i < 9223372036854775807 by omega)]
theorem rV_rI (at_ : Nat) (L : List Int) : rV at_ 0 0 (vd 0 L) = rI at_ (pI L) := by
  unfold pI rI rV
  cases vd 0 L with
  | inl e => rfl
  | inr p => obtain ⟨v, k⟩ := p; simp
theorem int_ok {b : List Int} (hb : Bytes b) (hm : b.length ≤ memB) {at_ : Nat} (h : at_ ≤ b.length) : wire_Int b at_ = some (rI at_ (pI (b.drop at_))) := by
  refine evf_of (.next (s' := .s1 b at_ false) ?_ (.next (s' := .s2 at_ 0 0 (b.drop at_) (b.drop at_).length 0) ?_ ?_))
  · have h1 : decide ((at_ : Int) < 0) = false := by simp
    have h2 : decide ((at_ : Int) > b.length) = false := by simp; omega
    simp [wire_Int_step, wire_Int_0, h1, h2]
    exact h
  · have h1 : (decide (((0 : Nat) : Int) ≤ at_) && decide ((at_ : Int) ≤ ((b.length : Nat) : Int))) = true := by simp; omega
    simp only [wire_Int_step, wire_Int_1, cond_false, List.length_map, h1, cond_true, Int.toNat_natCast, List.take_length]
  · have := int_loop (L := b.drop at_) (fun c hc => hb c (List.mem_of_mem_drop hc)) at_ (by simp only [List.length_drop]; omega) (b.drop at_).length 0 0 (by omega) (by omega) (by simp)
    rw [List.drop_zero, rV_rI] at this
    exact this
/-! ### the document's reader -/
/-! ### lists, read -/
def rL (at_ : Nat) (x : Int ⊕ (List Int × Nat)) : List Int × Int × Int := match x with
  | .inl e => ([], 0, e)
  | .inr (xs, k) => (xs, ((at_ + k : Nat) : Int), 0)
def rN (out : List Int) (at_ : Nat) (x : Int ⊕ (List Int × Nat)) : List Int × Int × Int := match x with
  | .inl e => ([], 0, e)
  | .inr (xs, k) => (out ++ xs, ((at_ + k : Nat) : Int), 0)
theorem pI_le {l : List Int} {n : Int} {k : Nat} (hb : Bytes l) (h : pI l = .inr (n, k)) : k ≤ l.length := (pI_dec hb h).2.1
theorem err_ne {l : List Int} {e : Int} (h : pI l = .inl e) : (e != 0) = true := by rcases pI_err h with rfl | rfl <;> rfl
theorem rN_step (out : List Int) (x : Int) (b : List Int) (j at_ k : Nat) : rN (out ++ [x]) (at_ + k) (pN j (b.drop (at_ + k))) = rN out at_ (pS x k (pN j ((b.drop at_).drop k))) := by
  rw [List.drop_drop]
  cases pN j (b.drop (at_ + k)) with
  | inl e => rfl
  | inr p => obtain ⟨xs, m⟩ := p; simp [rN, pS, Nat.add_assoc]
theorem rK_step (b : List Int) (t at_ k : Nat) : rN [] (at_ + k) (pN t (b.drop (at_ + k))) = rL at_ (pK k (pN t ((b.drop at_).drop k))) := by
  rw [List.drop_drop]
  cases pN t (b.drop (at_ + k)) with
  | inl e => rfl
  | inr p => obtain ⟨xs, m⟩ := p; simp [rN, rL, pK, Nat.add_assoc]
theorem ints_loop {b : List Int} (hb : Bytes b) (hm : b.length ≤ memB) (t : Nat) (ht : t ≤ 64) : ∀ (j i at_ : Nat) (out : List Int), i + j = t → at_ ≤ b.length → out.length = i → Ev wire_Ints_step (.s1 b at_ 0 t i out) (rN out at_ (pN j (b.drop at_))) := by
  intro j
  induction j with
  | zero =>
    intro i at_ out hi hat ho
    refine .next (s' := .s2 at_ 0 out) ?_ (.done (by simp [wire_Ints_step, wire_Ints_2, pN, rN]))
    simp [wire_Ints_step, wire_Ints_1, show ¬ ((i : Int) < t) by omega]
  | succ j ih =>
    intro i at_ out hi hat ho
    have hlt : i < t := by omega
    cases hp : pI (b.drop at_) with
    | inl e =>
      rw [pN_inl hp]
      refine .next (s' := .s2 0 e out) ?_ (.done ?_)
      · simp only [wire_Ints_step, wire_Ints_1, ltB hlt, cond_true, int_ok hb hm hat, hp, rI, Option.bind_some, err_ne hp]
      · simp only [wire_Ints_step, wire_Ints_2, err_ne hp, cond_true, rN]
    | inr p =>
      obtain ⟨x, k⟩ := p
      have hk := pI_le (fun c hc => hb c (List.mem_of_mem_drop hc)) hp
      rw [List.length_drop] at hk
      have := ih (i + 1) (at_ + k) (out ++ [x]) (by omega) (by omega) (by simp [ho])
      rw [pN_inr hp, ← rN_step]
      refine .next (s' := .s1 b ((at_ + k : Nat) : Int) 0 t ((i + 1 : Nat) : Int) (out ++ [x])) ?_ this
      have hl : decide (((List.map (eInt .i64) out).length + 1) * 8 ≤ bytesLim) = true := limOk (by simp; omega)
      simp only [wire_Ints_step, wire_Ints_1, ltB hlt, cond_true, int_ok hb hm hat, hp, rI, Option.bind_some, hl, wS (show i < 9223372036854775807 by omega)]
      simp
theorem ints_ok {b : List Int} (hb : Bytes b) (hm : b.length ≤ memB) {at_ : Nat} (h : at_ ≤ b.length) : wire_Ints b at_ = some (rL at_ (pL (b.drop at_))) := by
  have hsz : ∀ x : Int × Int × Int, wire_sized b at_ 64 = some x → wire_Ints_step (.s0 b at_) = some (.inl (.s1 b x.2.1 x.2.2 x.1 0 [])) := fun x hx => by
    simp only [wire_Ints_step, wire_Ints_0, hx, Option.bind_some]
  have bad : ∀ e : Int, (e != 0) = true → wire_sized b at_ 64 = some (0, 0, e) → wire_Ints b at_ = some ([], 0, e) := fun e he hx =>
    evf_of (.next (hsz _ hx) (.next (s' := .s2 0 e []) (by simp [wire_Ints_step, wire_Ints_1]) (.done (by simp only [wire_Ints_step, wire_Ints_2, he, cond_true]))))
  cases hp : pI (b.drop at_) with
  | inl e => rw [pL_inl hp]; exact bad e (err_ne hp) (by simp only [wire_sized, int_ok hb hm h, hp, rI, Option.bind_some, err_ne hp, cond_true])
  | inr p =>
    obtain ⟨n, k⟩ := p
    have hk := pI_le (fun c hc => hb c (List.mem_of_mem_drop hc)) hp
    rw [List.length_drop] at hk
    by_cases hbig : n < 0 ∨ n > 64
    · rw [pL_big hp hbig]
      refine bad 2 rfl ?_
      simp only [wire_sized, int_ok hb hm h, hp, rI, Option.bind_some]
      by_cases h0 : n < 0
      · simp [h0, wire_sized_1]
      · have : n > 64 := by omega
        simp [h0, this, wire_sized_1]
    · have hs : wire_sized b at_ 64 = some (n, ((at_ + k : Nat) : Int), 0) := by
        simp only [wire_sized, int_ok hb hm h, hp, rI, Option.bind_some]
        simp [show ¬ n < 0 by omega, show ¬ 64 < n by omega, wire_sized_1]
      rw [pL_inr hp hbig, ← rK_step]
      obtain ⟨t, rfl⟩ := Int.eq_ofNat_of_zero_le (show 0 ≤ n by omega)
      exact evf_of (.next (hsz _ hs) (ints_loop hb hm t (by omega) t 0 (at_ + k) [] (by omega) (by omega) rfl))
end Go.RX.L

namespace Go.RX.L
open Go Go.RX
theorem shlI8 {a : Nat} (h : a < 36028797018963968) : shlI .i64 a 8 = ((a * 256 : Nat) : Int) := by
  unfold shlI
  rw [show min (8 : Int).toNat IntKind.i64.bits = 8 from rfl, show ((a : Int) * (2 : Int) ^ 8) = ((a * 256 : Nat) : Int) by norm_cast, wI64 (by omega) (by omega)]
/-! ### writing -/
def putF (k : Int) (body : List Int) : List Int × Int := if body.length ≤ 8192 then (encF k body, 0) else ([], 2)
theorem shr8 {n : Nat} : shrI .i64 n 8 = ((n / 256 : Nat) : Int) := by
  unfold shrI
  rw [show min (8 : Int).toNat IntKind.i64.bits = 8 from rfl, Int.fdiv_eq_ediv_of_nonneg _ (by decide)]
  norm_cast
theorem headB (k : Int) {body : List Int} (h : body.length ≤ 8192) : [247, k, (IntKind.u8.wrap ((shrI .i64 ((body.length : Nat) : Int) 8))), (IntKind.u8.wrap (((body.length : Nat) : Int)))] ++ body = 247 :: inner k body := by
  rw [shr8, wrapU8_mod, wrapU8_mod, Nat.mod_eq_of_lt (a := body.length / 256) (by omega)]
  rfl
theorem sumB {k : Int} {body : List Int} (h : body.length ≤ 8192) : List.take ((247 :: inner k body).length - 1) (List.drop 1 (247 :: inner k body)) = inner k body := by
  simp
theorem frame_tail {s : Nat} (hs : s < 4294967296) {b : List Int} (hb : b.length ≤ 8300) : Ev frame_Put_step (.s1 s 24 b) (b ++ be4 s, 0) := by
  have e24 : shrI .u32 s 24 = ((s / 16777216 : Nat) : Int) := shrU32 (a := s) (k := 24) (by decide)
  have e16 : shrI .u32 s 16 = ((s / 65536 : Nat) : Int) := shrU32 (a := s) (k := 16) (by decide)
  have e8 : shrI .u32 s 8 = ((s / 256 : Nat) : Int) := shrU32 (a := s) (k := 8) (by decide)
  have e0 : shrI .u32 s 0 = (s : Int) := by have := shrU32 (a := s) (k := 0) (by decide); simpa using this
  have lim : ∀ n, n ≤ 8310 → decide ((n + 1) * 1 ≤ bytesLim) = true := fun n hn => limOk (by omega)
  refine .next (s' := .s1 s 16 (b ++ [((s / 16777216 % 256 : Nat) : Int)])) ?_ (.next (s' := .s1 s 8 (b ++ [((s / 16777216 % 256 : Nat) : Int), ((s / 65536 % 256 : Nat) : Int)])) ?_ (.next (s' := .s1 s 0 (b ++ [((s / 16777216 % 256 : Nat) : Int), ((s / 65536 % 256 : Nat) : Int), ((s / 256 % 256 : Nat) : Int)])) ?_ (.next (s' := .s1 s (-8) (b ++ be4 s)) ?_ (.done ?_))))
  · simp only [frame_Put_step, frame_Put_1, e24, wrapU8_mod, List.length_map, lim b.length (by omega)]
    rfl
  · simp only [frame_Put_step, frame_Put_1, e16, wrapU8_mod, List.length_map, List.length_append, List.length_cons, List.length_nil, lim (b.length + (0 + 1)) (by omega), List.append_assoc, List.cons_append, List.nil_append]
    rfl
  · simp only [frame_Put_step, frame_Put_1, e8, wrapU8_mod, List.length_map, List.length_append, List.length_cons, List.length_nil, lim (b.length + (0 + 1 + 1)) (by omega), List.append_assoc, List.cons_append, List.nil_append]
    rfl
  · simp only [frame_Put_step, frame_Put_1, e0, wrapU8_mod, List.length_map, List.length_append, List.length_cons, List.length_nil, lim (b.length + (0 + 1 + 1 + 1)) (by omega), List.append_assoc, List.cons_append, List.nil_append]
    rfl
  · rfl
theorem framePut_ok {k : Int} {body : List Int} (hk : 0 ≤ k ∧ k ≤ 255) (hb : Bytes body) (hm : body.length ≤ memB) : frame_Put k body = some (putF k body) := by
  unfold putF
  by_cases h : body.length ≤ 8192
  · rw [if_pos h]
    have hs := sum_ok (inner_bytes hk hb (by omega)) (by rw [inner_len]; omega)
    refine evf_of (.next (s' := .s1 (crc (inner k body) : Int) 24 (247 :: inner k body)) ?_ ?_)
    · have c1 : decide (((body.length : Nat) : Int) > 8192) = false := by simp; omega
      have c2 : decide ((4 + body.length) * 1 ≤ bytesLim) = true := limOk (by omega)
      have c3 : decide ((1 : Int) ≤ (((247 :: inner k body).length : Nat) : Int)) = true := by simp [inner_len]; omega
      have c4 : Nat.ble (1 + ((247 :: inner k body).length - 1)) (247 :: inner k body).length = true := by simp; omega
      simp only [frame_Put_step, frame_Put_0, List.length_map, c1, c2, headB k h, c3, c4, cond_false, cond_true, sumB h, hs, Option.bind_some]
    · exact frame_tail (crc_lt _) (by simp [inner_len]; omega)
  · rw [if_neg h]
    refine evf_of (.done ?_)
    have c1 : decide (((body.length : Nat) : Int) > 8192) = true := by simp; omega
    simp only [frame_Put_step, frame_Put_0, List.length_map, c1, cond_true]
end Go.RX.L

namespace Go.RX.L
open Go Go.RX
def rF (at_ : Nat) (x : Int ⊕ (Int × List Int × Nat)) : Int × List Int × Int × Int := match x with
  | .inl e => (0, [], 0, e)
  | .inr (k, body, m) => (k, body, ((at_ + m : Nat) : Int), 0)
theorem pF_magic {m : Int} {l : List Int} (h : m ≠ 247) : pF (m :: l) = .inl 32 := by simp only [pF, if_pos h]
theorem pF_short {l : List Int} (h : l.length < 7) : pF (247 :: l) = .inl 31 := by
  simp only [pF, if_neg (show ¬ ((247 : Int) ≠ 247) by simp), if_pos (show (247 :: l).length < 8 by simp; omega)]
theorem pF_long {k : Int} {a c : Nat} {r : List Int} (h : 4 ≤ r.length) (hn : 8192 < a * 256 + c) : pF (247 :: k :: (a : Int) :: (c : Int) :: r) = .inl 2 := by
  have hl : ¬ (247 :: k :: (a : Int) :: (c : Int) :: r).length < 8 := by simp; omega
  have hn' : numB 0 [(a : Int), (c : Int)] = a * 256 + c := by simp [numB]
  simp only [pF, if_neg (show ¬ ((247 : Int) ≠ 247) by simp), if_neg hl, List.getD_cons_succ, List.getD_cons_zero, hn', if_pos hn]
theorem pF_cut4 {k : Int} {a c : Nat} {r : List Int} (h : 4 ≤ r.length) (hn : a * 256 + c ≤ 8192) (hc : r.length < a * 256 + c + 4) : pF (247 :: k :: (a : Int) :: (c : Int) :: r) = .inl 31 := by
  have hl : ¬ (247 :: k :: (a : Int) :: (c : Int) :: r).length < 8 := by simp; omega
  have hn' : numB 0 [(a : Int), (c : Int)] = a * 256 + c := by simp [numB]
  have h2 : (247 :: k :: (a : Int) :: (c : Int) :: r).length < a * 256 + c + 8 := by simp; omega
  simp only [pF, if_neg (show ¬ ((247 : Int) ≠ 247) by simp), if_neg hl, List.getD_cons_succ, List.getD_cons_zero, hn', if_neg (show ¬ 8192 < a * 256 + c by omega), if_pos h2]
theorem pF_whole {k : Int} {a c : Nat} {r : List Int} (h : 4 ≤ r.length) (hn : a * 256 + c ≤ 8192) (hc : a * 256 + c + 4 ≤ r.length) : pF (247 :: k :: (a : Int) :: (c : Int) :: r) =
    if crc ((k :: (a : Int) :: (c : Int) :: r).take (a * 256 + c + 3)) ≠ numB 0 ((r.drop (a * 256 + c)).take 4) then .inl 33 else .inr (k, r.take (a * 256 + c), a * 256 + c + 8) := by
  have hl : ¬ (247 :: k :: (a : Int) :: (c : Int) :: r).length < 8 := by simp; omega
  have hn' : numB 0 [(a : Int), (c : Int)] = a * 256 + c := by simp [numB]
  have h2 : ¬ (247 :: k :: (a : Int) :: (c : Int) :: r).length < a * 256 + c + 8 := by simp; omega
  simp only [pF, if_neg (show ¬ ((247 : Int) ≠ 247) by simp), if_neg hl, List.getD_cons_succ, List.getD_cons_zero, hn', if_neg (show ¬ 8192 < a * 256 + c by omega), if_neg h2, List.drop_succ_cons, List.drop_zero]
theorem number_loop {b : List Int} (hb : Bytes b) (h4 : b.length ≤ 4) : ∀ (j k n : Nat), k + j = b.length → n < 256 ^ k → Ev frame_number_step (.s1 n b b.length k) ((numB n (b.drop k) : Nat) : Int) := by
  intro j
  induction j with
  | zero =>
    intro k n hk hn
    refine .done ?_
    rw [List.drop_of_length_le (by omega)]
    simp only [frame_number_step, frame_number_1, geB (show b.length ≤ k by omega), cond_false, numB]
  | succ j ih =>
    intro k n hk hn
    have hlt : k < b.length := by omega
    have hc := hb _ (List.getElem_mem hlt)
    obtain ⟨c, hc'⟩ : ∃ c : Nat, b[k] = (c : Int) := ⟨_, (Int.toNat_of_nonneg hc.1).symm⟩
    rw [hc'] at hc
    have hk4 : 256 ^ k ≤ 256 ^ 3 := Nat.pow_le_pow_right (by decide) (by omega)
    have hd : b.drop k = (c : Int) :: b.drop (k + 1) := by rw [← hc', List.drop_eq_getElem_cons hlt]
    have e1 : IntKind.i64.wrap (shlI .i64 (n : Int) 8 + IntKind.i64.wrap (c : Int)) = ((n * 256 + c : Nat) : Int) := by
      rw [shlI8 (by omega), wI64 (n := (c : Int)) (by omega) (by omega), wI64 (by omega) (by omega)]; norm_cast
    rw [hd]
    refine .next (s' := .s1 ((n * 256 + c : Nat) : Int) b b.length ((k + 1 : Nat) : Int)) ?_ (by
      show Ev frame_number_step _ ((numB (n * 256 + (c : Int).toNat) (b.drop (k + 1)) : Nat) : Int)
      rw [Int.toNat_natCast]
      exact ih (k + 1) _ (by omega) (by rw [Nat.pow_succ]; omega))
    simp only [frame_number_step, frame_number_1, ltB hlt, cond_true, List.length_map, ixB hlt, le0, Bool.and_self, Int.toNat_natCast, List.getE hlt, Option.bind_some, hc', e1, wS (show k < 9223372036854775807 by omega)]
theorem number_ok {b : List Int} (hb : Bytes b) (h4 : b.length ≤ 4) : frame_number b = some ((numB 0 b : Nat) : Int) := by
  refine evf_of (.next (s' := .s1 ((0 : Nat) : Int) b b.length ((0 : Nat) : Int)) ?_ ?_)
  · simp only [frame_number_step, frame_number_0, List.length_map]; rfl
  · have := number_loop hb h4 b.length 0 0 (by omega) (by decide)
    simpa using this
theorem take_in {l : List Int} (hb : Bytes l) (n : Nat) : Bytes (l.take n) := fun c hc => hb c (List.mem_of_mem_take hc)
theorem drop_in {l : List Int} (hb : Bytes l) (n : Nat) : Bytes (l.drop n) := fun c hc => hb c (List.mem_of_mem_drop hc)
/-! ### the document's reader -/
end Go.RX.L

namespace Go.RX.L
open Go Go.RX Go.Proofs
attribute [local irreducible] FinQ
noncomputable def frame_All_c := codeAt (bodyOf Tryd.f83)
noncomputable def frame_All_e (b0 : List Int) (y : (List Int) × (List (List Int)) × Int) : D × Sto := (.tup [.sl false 1 (List.map (eInt .u8) y.1), .sl false 1 (List.map (eSl 1 (eInt .u8)) y.2.1), .int .i64 y.2.2], [some ⟨1, false, (List.map (eInt .u8) b0)⟩])
inductive frame_All_S where
 | s0
 | s1 (behind : Int) (b5 : List Int) (b6 : List (List Int))
 | s2 (behind : Int) (b5 : List Int) (b6 : List (List Int)) (Y : List (Int × oneT))
noncomputable def frame_All_M (b0 : List Int) : frame_All_S → M
 | .s0 => startM Tryd.f83 [(grD 0 (List.map (eInt .u8) b0))] [some ⟨1, false, (List.map (eInt .u8) b0)⟩]
 | .s1 behind b5 b6 => ⟨[.code (frame_All_c [1, 1, 1, 1, 0, 1, 0]), .blk 0, .code (frame_All_c [1, 1, 1, 1, 1])], [(5, .ptr 1 0 0), (6, .ptr 2 0 0), (7, .ptr 3 0 0), (11, .fn 102 [] [.ptr 4 0 0])], [some ⟨1, false, (List.map (eInt .u8) b0)⟩, some ⟨1, true, [[(grD 5 (List.map (eInt .u8) b5))]]⟩, some ⟨1, true, [[(grD 6 (List.map (eSl 1 (eInt .u8)) b6))]]⟩, some ⟨1, false, [[.int .i64 behind]]⟩, some ⟨1, true, [[(grD 0 (List.map (eInt .u8) b0))]]⟩, some ⟨1, false, (List.map (eInt .u8) b5)⟩, some ⟨1, false, (List.map (eSl 1 (eInt .u8)) b6)⟩]⟩
 | .s2 behind b5 b6 Y => ⟨[.blk 0, .code (frame_All_c [1, 1, 1, 1, 1])], [(5, .ptr 1 0 0), (6, .ptr 2 0 0), (7, .ptr 3 0 0), (11, .fn 102 [] [.ptr 4 0 0])], [some ⟨1, false, (List.map (eInt .u8) b0)⟩, some ⟨1, true, [[(grD 5 (List.map (eInt .u8) b5))]]⟩, some ⟨1, true, [[(grD 6 (List.map (eSl 1 (eInt .u8)) b6))]]⟩, some ⟨1, false, [[.int .i64 behind]]⟩, some ⟨1, true, [[(grD 0 (List.map (eInt .u8) b0))]]⟩, some ⟨1, false, (List.map (eInt .u8) b5)⟩, some ⟨1, false, (List.map (eSl 1 (eInt .u8)) b6)⟩]⟩
noncomputable def frame_All_Pd (b0 : List Int) : frame_All_S → ((List Int) × (List (List Int)) × Int) → Prop
 | .s0, r_ => FinQ E (Cx.of Tryd.f83 false 1) (QW (Rs (frame_All_e b0) r_)) (.go ((frame_All_M b0) (.s0)))
 | .s1 behind b5 b6, r_ => FinQ E (Cx.of Tryd.f83 false 1) (QW (Rs (frame_All_e b0) r_)) (.go ((frame_All_M b0) (.s1 behind b5 b6)))
 | .s2 behind b5 b6 Y, r_ => RngQ E (Cx.of Tryd.f83 false 1) (QW (Rs (frame_All_e b0) r_)) 5 (frame_All_c [1, 1, 1, 1, 0, 1, 0]) [.blk 0, .code (frame_All_c [1, 1, 1, 1, 1])] [(5, .ptr 1 0 0), (6, .ptr 2 0 0), (7, .ptr 3 0 0), (11, .fn 102 [] [.ptr 4 0 0])] [4, 0] [some ⟨1, true, [[(grD 0 (List.map (eInt .u8) b0))]]⟩, some ⟨1, false, (List.map (eInt .u8) b0)⟩] (List.map frame_each_1_en Y) [some ⟨1, false, (List.map (eInt .u8) b0)⟩, some ⟨1, true, [[(grD 5 (List.map (eInt .u8) b5))]]⟩, some ⟨1, true, [[(grD 6 (List.map (eSl 1 (eInt .u8)) b6))]]⟩, some ⟨1, false, [[.int .i64 behind]]⟩, some ⟨1, true, [[(grD 0 (List.map (eInt .u8) b0))]]⟩, some ⟨1, false, (List.map (eInt .u8) b5)⟩, some ⟨1, false, (List.map (eSl 1 (eInt .u8)) b6)⟩]
noncomputable def frame_All_0 (b0 : List Int) : Option (frame_All_S ⊕ ((List Int) × (List (List Int)) × Int)) := ((frame_each b0).bind fun y1 => (some (.inl (.s1 0 ([]) ([])))))
noncomputable def frame_All_1 (b0 : List Int) (behind : Int) (b5 : List Int) (b6 : List (List Int)) : Option (frame_All_S ⊕ ((List Int) × (List (List Int)) × Int)) := ((frame_each_1 b0).bind fun y1 => (some (.inl (.s2 behind b5 b6 y1))))
noncomputable def frame_All_2n (b0 : List Int) (behind : Int) (b5 : List Int) (b6 : List (List Int)) : Option (frame_All_S ⊕ ((List Int) × (List (List Int)) × Int)) := (some (.inr (b5, b6, behind)))
noncomputable def frame_All_2c (b0 : List Int) (behind : Int) (b5 : List Int) (b6 : List (List Int)) (y : Int × oneT) (Y : List (Int × oneT)) : Option (frame_All_S ⊕ ((List Int) × (List (List Int)) × Int)) := (bif (decide (((List.map (eInt .u8) b5).length + 1) * 1 ≤ bytesLim)) then (bif (decide (((List.map (eSl 1 (eInt .u8)) b6).length + 1) * 24 ≤ bytesLim)) then (some (.inl (.s2 y.1 (b5 ++ [y.2.kind]) (b6 ++ [y.2.body]) Y))) else none) else none)
noncomputable def frame_All_2 (b0 : List Int) (behind : Int) (b5 : List Int) (b6 : List (List Int)) : List (Int × oneT) → Option (frame_All_S ⊕ ((List Int) × (List (List Int)) × Int))
 | [] => frame_All_2n b0 behind b5 b6
 | y :: Y => frame_All_2c b0 behind b5 b6 y Y
noncomputable def frame_All_step (b0 : List Int) : frame_All_S → Option (frame_All_S ⊕ ((List Int) × (List (List Int)) × Int))
 | .s0 => frame_All_0 b0
 | .s1 behind b5 b6 => frame_All_1 b0 behind b5 b6
 | .s2 behind b5 b6 Y => frame_All_2 b0 behind b5 b6 Y
theorem frame_All_0_ok {b0 : List Int} {r : (List Int) × (List (List Int)) × Int} {x : frame_All_S ⊕ ((List Int) × (List (List Int)) × Int)} (h : frame_All_0 b0 = some x) (ha : AfterP (frame_All_Pd b0) r x) : FinQ E (Cx.of Tryd.f83 false 1) (QW (Rs (frame_All_e b0) r)) (.go ((frame_All_M b0) (.s0))) := by
 unfold frame_All_0 at h
 refine zc 26 [] h (fun _ => frame_each_ok) fun y1 h => ?_
 refine adv_ok hm 2 _ ?_
 obtain rfl := Option.some.inj h
 refine r_cut 14560 [.matc 1 0 0 1, .matc 2 0 0 1] (m' := ⟨[.code (frame_All_c [1, 1, 1, 1, 0, 1, 0]), .blk 0, .code (frame_All_c [1, 1, 1, 1, 1])], [(5, .ptr 1 0 0), (6, .ptr 2 0 0), (7, .ptr 3 0 0), (11, .fn 102 [] [.ptr 4 0 0])], [some ⟨1, false, (List.map (eInt .u8) b0)⟩, some ⟨1, true, [[.msl 5 0 0 0 false]]⟩, some ⟨1, true, [[.msl 6 0 0 0 false]]⟩, some ⟨1, false, [[.int .i64 0]]⟩, some ⟨1, true, [[(grD 0 (List.map (eInt .u8) b0))]]⟩, some ⟨1, false, []⟩, some ⟨1, false, []⟩]⟩) (by kernel_rfl) ?_
 refine r_len (n1 := 0) (n2 := (List.map (eInt .u8) ([])).length) (fun n_len => .go ⟨[.code (frame_All_c [1, 1, 1, 1, 0, 1, 0]), .blk 0, .code (frame_All_c [1, 1, 1, 1, 1])], [(5, .ptr 1 0 0), (6, .ptr 2 0 0), (7, .ptr 3 0 0), (11, .fn 102 [] [.ptr 4 0 0])], [some ⟨1, false, (List.map (eInt .u8) b0)⟩, some ⟨1, true, [[.msl 5 0 n_len n_len false]]⟩, some ⟨1, true, [[.msl 6 0 0 0 false]]⟩, some ⟨1, false, [[.int .i64 0]]⟩, some ⟨1, true, [[(grD 0 (List.map (eInt .u8) b0))]]⟩, some ⟨1, false, []⟩, some ⟨1, false, []⟩]⟩) (by simp) ?_
 refine r_len (n1 := 0) (n2 := (List.map (eSl 1 (eInt .u8)) ([])).length) (fun n_len => .go ⟨[.code (frame_All_c [1, 1, 1, 1, 0, 1, 0]), .blk 0, .code (frame_All_c [1, 1, 1, 1, 1])], [(5, .ptr 1 0 0), (6, .ptr 2 0 0), (7, .ptr 3 0 0), (11, .fn 102 [] [.ptr 4 0 0])], [some ⟨1, false, (List.map (eInt .u8) b0)⟩, some ⟨1, true, [[.msl 5 0 ((List.map (eInt .u8) ([])).length) ((List.map (eInt .u8) ([])).length) false]]⟩, some ⟨1, true, [[.msl 6 0 n_len n_len false]]⟩, some ⟨1, false, [[.int .i64 0]]⟩, some ⟨1, true, [[(grD 0 (List.map (eInt .u8) b0))]]⟩, some ⟨1, false, []⟩, some ⟨1, false, []⟩]⟩) (by simp) ?_
 exact ha
theorem frame_All_1_ok {b0 : List Int} {behind : Int} {b5 : List Int} {b6 : List (List Int)} {r : (List Int) × (List (List Int)) × Int} {x : frame_All_S ⊕ ((List Int) × (List (List Int)) × Int)} (h : frame_All_1 b0 behind b5 b6 = some x) (ha : AfterP (frame_All_Pd b0) r x) : FinQ E (Cx.of Tryd.f83 false 1) (QW (Rs (frame_All_e b0) r)) (.go ((frame_All_M b0) (.s1 behind b5 b6))) := by
 unfold frame_All_1 at h
 refine adv_ok hm 1 _ ?_
 have ok1 := fun (y : List (Int × oneT)) (hy : frame_each_1 b0 = some y) => frame_each_1_ok hy
 refine p_rngL (m := 5) (c := frame_All_c [1, 1, 1, 1, 0, 1, 0]) (t := [.blk 0, .code (frame_All_c [1, 1, 1, 1, 1])]) (fr := [(5, .ptr 1 0 0), (6, .ptr 2 0 0), (7, .ptr 3 0 0), (11, .fn 102 [] [.ptr 4 0 0])]) (σ := [some ⟨1, false, (List.map (eInt .u8) b0)⟩, some ⟨1, true, [[(grD 5 (List.map (eInt .u8) b5))]]⟩, some ⟨1, true, [[(grD 6 (List.map (eSl 1 (eInt .u8)) b6))]]⟩, some ⟨1, false, [[.int .i64 behind]]⟩, some ⟨1, true, [[(grD 0 (List.map (eInt .u8) b0))]]⟩, some ⟨1, false, (List.map (eInt .u8) b5)⟩, some ⟨1, false, (List.map (eSl 1 (eInt .u8)) b6)⟩]) (ids := [4, 0]) (bs := [some ⟨1, true, [[(grD 0 (List.map (eInt .u8) b0))]]⟩, some ⟨1, false, (List.map (eInt .u8) b0)⟩]) (caps1 := [.ptr 0 0 0]) (caps := [.ptr 0 0 0]) (sub1 := [some ⟨1, true, [[(grD 1 (List.map (eInt .u8) b0))]]⟩, some ⟨1, false, (List.map (eInt .u8) b0)⟩]) (sub := [some ⟨1, true, [[(grD 1 (List.map (eInt .u8) b0))]]⟩, some ⟨1, false, (List.map (eInt .u8) b0)⟩]) frame_each_1_en h (by kernel_rfl) ⟨rfl, rfl⟩ (by kernel_rfl) (by kernel_rfl) (by kernel_rfl) (by kernel_rfl) (by kernel_rfl) ok1 (fun y1 h1 h => ?_)
 obtain rfl := Option.some.inj h
 exact ha
theorem frame_All_2n_ok {b0 : List Int} {behind : Int} {b5 : List Int} {b6 : List (List Int)} {r : (List Int) × (List (List Int)) × Int} {x : frame_All_S ⊕ ((List Int) × (List (List Int)) × Int)} (h : frame_All_2n b0 behind b5 b6 = some x) (ha : AfterP (frame_All_Pd b0) r x) : RngQ E (Cx.of Tryd.f83 false 1) (QW (Rs (frame_All_e b0) r)) 5 (frame_All_c [1, 1, 1, 1, 0, 1, 0]) [.blk 0, .code (frame_All_c [1, 1, 1, 1, 1])] [(5, .ptr 1 0 0), (6, .ptr 2 0 0), (7, .ptr 3 0 0), (11, .fn 102 [] [.ptr 4 0 0])] [4, 0] [some ⟨1, true, [[(grD 0 (List.map (eInt .u8) b0))]]⟩, some ⟨1, false, (List.map (eInt .u8) b0)⟩] ([]) [some ⟨1, false, (List.map (eInt .u8) b0)⟩, some ⟨1, true, [[(grD 5 (List.map (eInt .u8) b5))]]⟩, some ⟨1, true, [[(grD 6 (List.map (eSl 1 (eInt .u8)) b6))]]⟩, some ⟨1, false, [[.int .i64 behind]]⟩, some ⟨1, true, [[(grD 0 (List.map (eInt .u8) b0))]]⟩, some ⟨1, false, (List.map (eInt .u8) b5)⟩, some ⟨1, false, (List.map (eSl 1 (eInt .u8)) b6)⟩] := by
 unfold frame_All_2n at h
 refine rng_nil ?_
 refine zm 7 (b := (Nat.ble (0 + (List.map (eInt .u8) b5).length) ((List.map (eInt .u8) b5).length))) (ble_full _) ?_
 refine zm 0 (b := (Nat.ble (0 + (List.map (eSl 1 (eInt .u8)) b6).length) ((List.map (eSl 1 (eInt .u8)) b6).length))) (ble_full _) ?_
 obtain rfl := Option.some.inj h
 have hv := ha
 simp only [AfterP] at hv
 subst hv
 exact r_retE [] (d1 := .tup [.sl false 1 (List.take ((List.map (eInt .u8) b5).length) (List.drop 0 (List.map (eInt .u8) b5))), .sl false 1 (List.take ((List.map (eSl 1 (eInt .u8)) b6).length) (List.drop 0 (List.map (eSl 1 (eInt .u8)) b6))), .int .i64 behind]) (d := .tup [.sl false 1 (List.map (eInt .u8) b5), .sl false 1 (List.map (eSl 1 (eInt .u8)) b6), .int .i64 behind]) (s1 := [some ⟨1, false, (List.map (eInt .u8) b0)⟩]) (s := [some ⟨1, false, (List.map (eInt .u8) b0)⟩]) (by kernel_rfl) ⟨by simp [List.take_of_length_le, List.map_take, List.map_drop], rfl⟩ ⟨rfl, rfl⟩ Cx.fin_of
theorem frame_All_2c_ok {b0 : List Int} {behind : Int} {b5 : List Int} {b6 : List (List Int)} {y : Int × oneT} {Y : List (Int × oneT)} {r : (List Int) × (List (List Int)) × Int} {x : frame_All_S ⊕ ((List Int) × (List (List Int)) × Int)} (h : frame_All_2c b0 behind b5 b6 y Y = some x) (ha : AfterP (frame_All_Pd b0) r x) : RngQ E (Cx.of Tryd.f83 false 1) (QW (Rs (frame_All_e b0) r)) 5 (frame_All_c [1, 1, 1, 1, 0, 1, 0]) [.blk 0, .code (frame_All_c [1, 1, 1, 1, 1])] [(5, .ptr 1 0 0), (6, .ptr 2 0 0), (7, .ptr 3 0 0), (11, .fn 102 [] [.ptr 4 0 0])] [4, 0] [some ⟨1, true, [[(grD 0 (List.map (eInt .u8) b0))]]⟩, some ⟨1, false, (List.map (eInt .u8) b0)⟩] (frame_each_1_en y :: List.map frame_each_1_en Y) [some ⟨1, false, (List.map (eInt .u8) b0)⟩, some ⟨1, true, [[(grD 5 (List.map (eInt .u8) b5))]]⟩, some ⟨1, true, [[(grD 6 (List.map (eSl 1 (eInt .u8)) b6))]]⟩, some ⟨1, false, [[.int .i64 behind]]⟩, some ⟨1, true, [[(grD 0 (List.map (eInt .u8) b0))]]⟩, some ⟨1, false, (List.map (eInt .u8) b5)⟩, some ⟨1, false, (List.map (eSl 1 (eInt .u8)) b6)⟩] := by
 unfold frame_All_2c at h
 refine rng_cons ?_
 refine zn 4 h fun h => ?_
 refine za 0 (eInt .u8) b5 ([y.2.kind]) ?_
 refine zn 2 h fun h => ?_
 refine za 0 (eSl 1 (eInt .u8)) b6 ([y.2.body]) ?_
 refine adv_ok hm 8 _ ?_
 obtain rfl := Option.some.inj h
 exact p_rend0 [] (s1 := [some ⟨1, false, (List.map (eInt .u8) b0)⟩, some ⟨1, true, [[.msl 5 0 ((List.map (eInt .u8) (b5 ++ [y.2.kind])).length) ((List.map (eInt .u8) (b5 ++ [y.2.kind])).length) false]]⟩, some ⟨1, true, [[.msl 6 0 ((List.map (eSl 1 (eInt .u8)) (b6 ++ [y.2.body])).length) ((List.map (eSl 1 (eInt .u8)) (b6 ++ [y.2.body])).length) false]]⟩, some ⟨1, false, [[.int .i64 y.1]]⟩, some ⟨1, true, [[(grD 0 (List.map (eInt .u8) b0))]]⟩, some ⟨1, false, (List.map (eInt .u8) (b5 ++ [y.2.kind]))⟩, some ⟨1, false, (List.map (eSl 1 (eInt .u8)) (b6 ++ [y.2.body]))⟩]) (s := [some ⟨1, false, (List.map (eInt .u8) b0)⟩, some ⟨1, true, [[.msl 5 0 ((List.map (eInt .u8) (b5 ++ [y.2.kind])).length) ((List.map (eInt .u8) (b5 ++ [y.2.kind])).length) false]]⟩, some ⟨1, true, [[.msl 6 0 ((List.map (eSl 1 (eInt .u8)) (b6 ++ [y.2.body])).length) ((List.map (eSl 1 (eInt .u8)) (b6 ++ [y.2.body])).length) false]]⟩, some ⟨1, false, [[.int .i64 y.1]]⟩, some ⟨1, true, [[(grD 0 (List.map (eInt .u8) b0))]]⟩, some ⟨1, false, (List.map (eInt .u8) (b5 ++ [y.2.kind]))⟩, some ⟨1, false, (List.map (eSl 1 (eInt .u8)) (b6 ++ [y.2.body]))⟩]) (by kernel_rfl) (rfl) (by kernel_rfl) ha
theorem frame_All_2_ok {b0 : List Int} {behind : Int} {b5 : List Int} {b6 : List (List Int)} {Y : List (Int × oneT)} {r : (List Int) × (List (List Int)) × Int} {x : frame_All_S ⊕ ((List Int) × (List (List Int)) × Int)} (h : frame_All_2 b0 behind b5 b6 Y = some x) (ha : AfterP (frame_All_Pd b0) r x) : RngQ E (Cx.of Tryd.f83 false 1) (QW (Rs (frame_All_e b0) r)) 5 (frame_All_c [1, 1, 1, 1, 0, 1, 0]) [.blk 0, .code (frame_All_c [1, 1, 1, 1, 1])] [(5, .ptr 1 0 0), (6, .ptr 2 0 0), (7, .ptr 3 0 0), (11, .fn 102 [] [.ptr 4 0 0])] [4, 0] [some ⟨1, true, [[(grD 0 (List.map (eInt .u8) b0))]]⟩, some ⟨1, false, (List.map (eInt .u8) b0)⟩] (List.map frame_each_1_en Y) [some ⟨1, false, (List.map (eInt .u8) b0)⟩, some ⟨1, true, [[(grD 5 (List.map (eInt .u8) b5))]]⟩, some ⟨1, true, [[(grD 6 (List.map (eSl 1 (eInt .u8)) b6))]]⟩, some ⟨1, false, [[.int .i64 behind]]⟩, some ⟨1, true, [[(grD 0 (List.map (eInt .u8) b0))]]⟩, some ⟨1, false, (List.map (eInt .u8) b5)⟩, some ⟨1, false, (List.map (eSl 1 (eInt .u8)) b6)⟩] := by
 cases Y with
 | nil => exact frame_All_2n_ok h ha
 | cons y Y => exact frame_All_2c_ok h ha
noncomputable def frame_All (b0 : List Int) : Option ((List Int) × (List (List Int)) × Int) := evf (frame_All_step b0) (.s0)
theorem frame_All_ev {b0 : List Int} {r : (List Int) × (List (List Int)) × Int} (h : Ev (frame_All_step b0) (.s0) r) : Sound E 83 [(grD 0 (List.map (eInt .u8) b0))] [some ⟨1, false, (List.map (eInt .u8) b0)⟩] (Rs (frame_All_e b0) r) :=
 sound_ofW (m := (frame_All_M b0) (.s0)) (fn := Tryd.f83) (by kernel_rfl) (by kernel_rfl) (ev_runP (Pd := (frame_All_Pd b0)) (fun s x r hs ha => by
  cases s with
  | s0 => exact frame_All_0_ok hs ha
  | s1 => exact frame_All_1_ok hs ha
  | s2 => exact frame_All_2_ok hs ha) h)
theorem frame_All_ok {b0 : List Int} {r : (List Int) × (List (List Int)) × Int} (h : frame_All b0 = some r) : Sound E 83 [(grD 0 (List.map (eInt .u8) b0))] [some ⟨1, false, (List.map (eInt .u8) b0)⟩] (Rs (frame_All_e b0) r) := frame_All_ev (evf_ev h)
end Go.RX.L

namespace Go.RX.L
open Go Go.RX Go.Proofs
attribute [local irreducible] FinQ
noncomputable def Journal_Open_1_e (b1 fuse : Int) (down : Bool) (b3 b4 y : List Int) : D × Sto := (.tup [], [some ⟨1, true, [[.ptr 2 0 0]]⟩, some ⟨1, false, [[.int .i64 b1]]⟩, some ⟨4, true, [[(grD 5 (List.map (eInt .u8) y)), .msl 4 0 0 0 false, .int .i64 fuse, .bool down]]⟩, some ⟨1, false, (List.map (eInt .u8) b3)⟩, some ⟨1, false, (List.map (eInt .u8) b4)⟩, some ⟨1, false, (List.map (eInt .u8) y)⟩])
noncomputable def Journal_Open_1 (b1 fuse : Int) (down : Bool) (b3 b4 : List Int) : Option (List Int) := (bif ((decide (((0 : Nat) : Int) ≤ b1)) && (decide ((b1 : Int) ≤ (((List.map (eInt .u8) b3).length : Nat) : Int)))) then ((bytes_CloneW_v2 b1.toNat ((List.map (eInt .u8) b3).length) b3).bind fun y2 => (some y2)) else none)
theorem Journal_Open_1_ok {b1 fuse : Int} {down : Bool} {b3 b4 r : List Int} (h : Journal_Open_1 b1 fuse down b3 b4 = some r) : Sound E 84 [.ptr 0 0 0, .ptr 1 0 0] [some ⟨1, true, [[.ptr 2 0 0]]⟩, some ⟨1, false, [[.int .i64 b1]]⟩, some ⟨4, true, [[(grD 3 (List.map (eInt .u8) b3)), .msl 4 0 0 0 false, .int .i64 fuse, .bool down]]⟩, some ⟨1, false, (List.map (eInt .u8) b3)⟩, some ⟨1, false, (List.map (eInt .u8) b4)⟩] (Rs (Journal_Open_1_e b1 fuse down b3 b4) r) := so (fn := Tryd.f84) (k := true) (m := 5) h <| by
 intro r h; unfold Journal_Open_1 at h
 refine zn 5 h fun h => ?_
 refine zdR 0 [] h (fun _ => bytes_CloneW_v2_ok) fun y2 h => ?_
 exact zu 3 h
end Go.RX.L

namespace Go.RX.L
open Go Go.RX Go.Proofs
attribute [local irreducible] FinQ
noncomputable def Journal_effect__Open_1_c := codeAt (bodyOf Tryd.f77)
noncomputable def Journal_effect__Open_1_e (b2 : Int) (b4 : List Int) (y : Int × Int × Bool × (List Int)) : D × Sto := (.int .i64 y.1, [some ⟨4, true, [[(grD 5 (List.map (eInt .u8) y.2.2.2)), .msl 6 0 0 0 false, .int .i64 y.2.1, .bool y.2.2.1]]⟩, some ⟨1, true, [[.ptr 0 0 0]]⟩, some ⟨1, false, [[.int .i64 b2]]⟩, none, none, some ⟨1, false, (List.map (eInt .u8) y.2.2.2)⟩, some ⟨1, false, (List.map (eInt .u8) b4)⟩])
abbrev Journal_effect__Open_1_W (fuse : Int) (down : Bool) (b2 : Int) (b3 b4 : List Int) := AOk E (Cx.of Tryd.f77 true 5) (Journal_effect__Open_1_e b2 b4)
noncomputable def Journal_effect__Open_1_1M (fuse : Int) (down : Bool) (b2 : Int) (b3 b4 : List Int) (fuse2 : Int) (down2 : Bool) : M := ⟨[.code (Journal_effect__Open_1_c [1, 1])], [(0, .ptr 0 0 0), (1, .fn 84 [] [.ptr 1 0 0, .ptr 2 0 0])], [some ⟨4, true, [[(grD 3 (List.map (eInt .u8) b3)), .msl 4 0 0 0 false, .int .i64 fuse2, .bool down2]]⟩, some ⟨1, true, [[.ptr 0 0 0]]⟩, some ⟨1, false, [[.int .i64 b2]]⟩, some ⟨1, false, (List.map (eInt .u8) b3)⟩, some ⟨1, false, (List.map (eInt .u8) b4)⟩]⟩
noncomputable def Journal_effect__Open_1_1 (fuse : Int) (down : Bool) (b2 : Int) (b3 b4 : List Int) (fuse2 : Int) (down2 : Bool) : Option (Int × Int × Bool × (List Int)) := (bif down2 then (some (61, fuse2, down2, b3)) else (bif (decide ((fuse2 : Int) > 0)) then ((Journal_Open_1 b2 (IntKind.i64.wrap (fuse2 - 1)) down2 b3 b4).bind fun y3 => (some (0, (IntKind.i64.wrap (fuse2 - 1)), down2, y3))) else ((Journal_Open_1 b2 fuse2 down2 b3 b4).bind fun y4 => (some (0, fuse2, down2, y4)))))
theorem Journal_effect__Open_1_1_ok {fuse down b2 b3 b4 fuse2 down2} : Journal_effect__Open_1_W fuse down b2 b3 b4 (Journal_effect__Open_1_1M fuse down b2 b3 b4 fuse2 down2) (Journal_effect__Open_1_1 fuse down b2 b3 b4 fuse2 down2) := by
 intro r h; unfold Journal_effect__Open_1_1 at h
 refine zs 10 h (fun h => ?_) fun h => ?_
 ·
  refine zf 4 [.mv 3, .mv 4] ?_
  exact zu 1 h
 refine zs 12 h (fun h => ?_) fun h => ?_
 ·
  refine zc 17 [] h (fun _ => Journal_Open_1_ok) fun y3 h => ?_
  refine zf 5 [.mv 3, .mv 4] ?_
  exact zu 1 h
 refine zc 5 [] h (fun _ => Journal_Open_1_ok) fun y4 h => ?_
 refine zf 5 [.mv 3, .mv 4] ?_
 exact zu 1 h
noncomputable def Journal_effect__Open_1_2M (fuse : Int) (down : Bool) (b2 : Int) (b3 b4 : List Int) (t16 : Bool) : M := ⟨[.code (Journal_effect__Open_1_c [1, 0, 1]), .code (Journal_effect__Open_1_c [1, 1])], [(0, .ptr 0 0 0), (1, .fn 84 [] [.ptr 1 0 0, .ptr 2 0 0]), (16, .bool t16)], [some ⟨4, true, [[(grD 3 (List.map (eInt .u8) b3)), .msl 4 0 0 0 false, .int .i64 fuse, .bool down]]⟩, some ⟨1, true, [[.ptr 0 0 0]]⟩, some ⟨1, false, [[.int .i64 b2]]⟩, some ⟨1, false, (List.map (eInt .u8) b3)⟩, some ⟨1, false, (List.map (eInt .u8) b4)⟩]⟩
noncomputable def Journal_effect__Open_1_2 (fuse : Int) (down : Bool) (b2 : Int) (b3 b4 : List Int) (t16 : Bool) : Option (Int × Int × Bool × (List Int)) := (bif t16 then (Journal_effect__Open_1_1 fuse down b2 b3 b4 (-1) true) else (Journal_effect__Open_1_1 fuse down b2 b3 b4 fuse down))
theorem Journal_effect__Open_1_2_ok {fuse down b2 b3 b4 t16} : Journal_effect__Open_1_W fuse down b2 b3 b4 (Journal_effect__Open_1_2M fuse down b2 b3 b4 t16) (Journal_effect__Open_1_2 fuse down b2 b3 b4 t16) := by
 intro r h; unfold Journal_effect__Open_1_2 at h
 refine zs 1 h (fun h => ?_) fun h => ?_
 ·
  exact zg 14 (Journal_effect__Open_1_1_ok h)
 exact zg 1 (Journal_effect__Open_1_1_ok h)
noncomputable def Journal_effect__Open_1 (fuse : Int) (down : Bool) (b2 : Int) (b3 b4 : List Int) : Option (Int × Int × Bool × (List Int)) := (bif (!down) then (Journal_effect__Open_1_2 fuse down b2 b3 b4 ((fuse : Int) == 0)) else (Journal_effect__Open_1_2 fuse down b2 b3 b4 false))
theorem Journal_effect__Open_1_ok {fuse : Int} {down : Bool} {b2 : Int} {b3 b4 : List Int} {r : Int × Int × Bool × (List Int)} (h : Journal_effect__Open_1 fuse down b2 b3 b4 = some r) : Sound E 77 [.ptr 0 0 0, .fn 84 [] [.ptr 1 0 0, .ptr 2 0 0]] [some ⟨4, true, [[(grD 3 (List.map (eInt .u8) b3)), .msl 4 0 0 0 false, .int .i64 fuse, .bool down]]⟩, some ⟨1, true, [[.ptr 0 0 0]]⟩, some ⟨1, false, [[.int .i64 b2]]⟩, some ⟨1, false, (List.map (eInt .u8) b3)⟩, some ⟨1, false, (List.map (eInt .u8) b4)⟩] (Rs (Journal_effect__Open_1_e b2 b4) r) := so (fn := Tryd.f77) (k := true) (m := 5) h <| by
 intro r h; unfold Journal_effect__Open_1 at h
 refine zs 15 h (fun h => ?_) fun h => ?_
 ·
  exact zg 12 (Journal_effect__Open_1_2_ok h)
 exact zg 11 (Journal_effect__Open_1_2_ok h)
end Go.RX.L

namespace Go.RX.L
open Go Go.RX Go.Proofs
attribute [local irreducible] FinQ
noncomputable def Journal_Open_e (y : (List Int) × (List (List Int)) × Int × Int × Bool × (List Int) × (List Int)) : D × Sto := (.tup [.sl false 1 (List.map (eInt .u8) y.1), .sl false 1 (List.map (eSl 1 (eInt .u8)) y.2.1), .int .i64 y.2.2.1], [some ⟨4, true, [[(grD 3 (List.map (eInt .u8) y.2.2.2.2.2.1)), (grD 4 (List.map (eInt .u8) y.2.2.2.2.2.2)), .int .i64 y.2.2.2.1, .bool y.2.2.2.2.1]]⟩, none, none, some ⟨1, false, (List.map (eInt .u8) y.2.2.2.2.2.1)⟩, some ⟨1, false, (List.map (eInt .u8) y.2.2.2.2.2.2)⟩])
noncomputable def Journal_Open (fuse : Int) (down : Bool) (b1 b2 : List Int) : Option ((List Int) × (List (List Int)) × Int × Int × Bool × (List Int) × (List Int)) := ((frame_All b1).bind fun y1 => (bif (decide ((y1.2.2 : Int) < (((List.map (eInt .u8) b1).length : Nat) : Int))) then ((Journal_effect__Open_1 fuse false y1.2.2 b1 ([])).bind fun y3 => (bif ((y3.1 : Int) != 0) then (some ([], [], y3.1, y3.2.1, y3.2.2.1, y3.2.2.2, ([]))) else (some (y1.1, y1.2.1, 0, y3.2.1, y3.2.2.1, y3.2.2.2, ([]))))) else (some (y1.1, y1.2.1, 0, fuse, false, b1, []))))
theorem Journal_Open_ok {fuse : Int} {down : Bool} {b1 b2 : List Int} {r : (List Int) × (List (List Int)) × Int × Int × Bool × (List Int) × (List Int)} (h : Journal_Open fuse down b1 b2 = some r) : Sound E 62 [.ptr 0 0 0] [some ⟨4, true, [[(grD 1 (List.map (eInt .u8) b1)), (grD 2 (List.map (eInt .u8) b2)), .int .i64 fuse, .bool down]]⟩, some ⟨1, false, (List.map (eInt .u8) b1)⟩, some ⟨1, false, (List.map (eInt .u8) b2)⟩] (Rs Journal_Open_e r) := so (fn := Tryd.f62) (k := true) (m := 3) h <| by
 intro r h; unfold Journal_Open at h
 refine zc 24 [] h (fun _ => frame_All_ok) fun y1 h => ?_
 refine zs 18 h (fun h => ?_) fun h => ?_
 ·
  refine zcx 6 [] [.matc 0 0 1 1] h (fun _ => Journal_effect__Open_1_ok) (fun y3 h => ?_)
  refine zs 8 h (fun h => ?_) fun h => ?_
  ·
   refine zf 7 [.mv 2] ?_
   exact zu 1 h [.slot 0 [some 1, some 1]]
  refine zf 9 [.mv 2] ?_
  exact zu 1 h
 refine zf 9 [.matc 0 0 1 1, .mv 1, .mv 2] ?_
 exact zu 1 h
end Go.RX.L

namespace Go.RX.L
open Go Go.RX
theorem dropA (P r : List Int) (k : Nat) : List.drop (P.length + k) (P ++ r) = r.drop k := by
  rw [List.drop_append, List.drop_of_length_le (by omega), List.nil_append]; congr 1; omega
theorem getA (P r : List Int) (k : Nat) : (P ++ r)[P.length + k]? = r[k]? := by
  rw [List.getElem?_append_right (by omega)]; congr 1; omega
theorem jclone {b : List Int} {at_ ln cp : Nat} (h : at_ + ln ≤ b.length) (hm : b.length ≤ memB) : bytes_CloneW at_ ln cp b = some ((b.drop at_).take ln) := by
  have e : (List.take ln (List.drop at_ (List.map (eInt .u8) b))).length = ln := by simp; omega
  have c : decide ((0 + ln) * 1 ≤ bytesLim) = true := limOk (by simp only [memB] at hm; omega)
  simp only [bytes_CloneW, e, show Nat.beq ln ln = true from Nat.beq_refl ln, cond_true, c, List.nil_append]
theorem jclone2 {b : List Int} {ln cp : Nat} (h : ln ≤ b.length) (hm : b.length ≤ memB) : bytes_CloneW_v2 ln cp b = some (b.take ln) := by
  have e : (List.take ln (List.drop 0 (List.map (eInt .u8) b))).length = ln := by simp; omega
  have c : decide ((0 + ln) * 1 ≤ bytesLim) = true := limOk (by simp only [memB] at hm; omega)
  unfold bytes_CloneW_v2
  rw [e]
  simp only [show Nat.beq ln ln = true from Nat.beq_refl ln, cond_true, c, List.nil_append, List.drop_zero]
theorem jget2_err (at_ : Int) (b : List Int) (e n : Int) (x y z : Nat) (h : e ≠ 0) : frame_Get_2 at_ b e n x y z = some (0, [], 0, e) := by
  have : (e != 0) = true := by simp [h]
  simp only [frame_Get_2, this, cond_true]
theorem jget3 {P rest : List Int} (hb : Bytes rest) (hm : P.length + rest.length ≤ memB) (h0 : rest = [] ∨ rest.head? = some 247) : frame_Get_3 P.length (P ++ rest) P.length rest.length rest.length false = some (rF P.length (pF rest)) := by
  have hm0 := hm
  simp only [memB] at hm
  have w1 : IntKind.i64.wrap (IntKind.i64.wrap (((rest.length : Nat) : Int) - 4) - 4) = (rest.length : Int) - 8 := by
    rw [wI64 (n := ((rest.length : Nat) : Int) - 4) (by omega) (by omega), wI64 (by omega) (by omega)]; omega
  by_cases h8 : rest.length < 8
  · have c1 : decide (((rest.length : Nat) : Int) < 8) = true := by simp; omega
    have e : pF rest = .inl 31 := by
      rcases h0 with rfl | h0
      · rfl
      · cases rest with
        | nil => rfl
        | cons m l =>
          obtain rfl := Option.some.inj h0
          exact pF_short (by simp at h8; omega)
    simp only [frame_Get_3, cond_false, c1, cond_true, jget2_err _ _ _ _ _ _ _ (by decide : (31 : Int) ≠ 0), e, rF]
  · have c1 : decide (((rest.length : Nat) : Int) < 8) = false := by simp; omega
    have c2 : decide ((4 : Int) ≤ ((rest.length : Nat) : Int)) = true := by simp; omega
    have hx : ∃ k a c r, rest = 247 :: k :: a :: c :: r := by
      match rest, h8, h0 with
      | m :: k :: a :: c :: r, _, h0 =>
        rcases h0 with h0 | h0
        · cases h0
        · obtain rfl := Option.some.inj h0; exact ⟨k, a, c, r, rfl⟩
      | [], h, _ => simp at h
      | [_], h, _ => simp at h
      | [_, _], h, _ => simp at h
      | [_, _, _], h, _ => simp at h
    obtain ⟨k, a', c', r, hrest⟩ := hx
    have ha := hb a' (by simp [hrest])
    have hc := hb c' (by simp [hrest])
    obtain ⟨a, rfl⟩ := Int.eq_ofNat_of_zero_le ha.1
    obtain ⟨c, rfl⟩ := Int.eq_ofNat_of_zero_le hc.1
    have hbr : Bytes r := fun x hx => hb x (by simp [hrest, hx])
    have hk := hb k (by simp [hrest])
    have hlr : rest.length = r.length + 4 := by rw [hrest]; simp
    have hr4 : 4 ≤ r.length := by omega
    have n1 : frame_number [(a : Int), (c : Int)] = some ((a * 256 + c : Nat) : Int) := by
      have := number_ok (b := [(a : Int), (c : Int)]) (fun x hx => by simp only [List.mem_cons, List.not_mem_nil, or_false] at hx; rcases hx with rfl | rfl <;> assumption) (by simp)
      rw [this]; simp [numB]
    have d1 : List.take 2 (List.drop (P.length + 2) (P ++ rest)) = [(a : Int), (c : Int)] := by rw [dropA, hrest]; simp
    have b1 : Nat.ble (P.length + 2 + 2) (List.map (eInt .u8) (P ++ rest)).length = true := by simp; omega
    generalize hn : a * 256 + c = n at *
    simp only [frame_Get_3, cond_false, c1, c2, cond_true, b1, d1, n1, Option.bind_some, w1]
    by_cases hbig : 8192 < n
    · have c3 : decide ((n : Int) > 8192) = true := by simp; omega
      rw [hrest, pF_long hr4 (by omega)]
      simp only [c3, cond_true, jget2_err _ _ _ _ _ _ _ (by decide : (2 : Int) ≠ 0), rF]
    · have c3 : decide ((n : Int) > 8192) = false := by simp; omega
      by_cases hs : r.length < n + 4
      · have c4 : decide ((n : Int) > (rest.length : Int) - 8) = true := by simp; omega
        have e : pF rest = .inl 31 := by rw [hrest]; exact pF_cut4 hr4 (by omega) (by omega)
        rw [e]
        simp only [c3, c4, cond_true, cond_false, jget2_err _ _ _ _ _ _ _ (by decide : (31 : Int) ≠ 0), rF]
      · have c4 : decide ((n : Int) > (rest.length : Int) - 8) = false := by simp; omega
        have w2 : IntKind.i64.wrap ((4 : Int) + (n : Int)) = ((n + 4 : Nat) : Int) := by rw [wI64 (by omega) (by omega)]; omega
        have w3 : IntKind.i64.wrap (((n + 4 : Nat) : Int) + 4) = ((n + 8 : Nat) : Int) := by rw [wI64 (by omega) (by omega)]; omega
        have c5 : (decide (((0 : Nat) : Int) ≤ ((n + 4 : Nat) : Int)) && decide (((n + 4 : Nat) : Int) ≤ (rest.length : Int))) = true := by simp; omega
        have c6 : decide ((1 : Int) ≤ (((n + 4 : Nat) : Nat) : Int)) = true := by simp; omega
        have c6' : decide ((4 : Int) ≤ (((n + 4 : Nat) : Nat) : Int)) = true := by simp; omega
        have c7 : (decide (((0 : Nat) : Int) ≤ ((n + 8 : Nat) : Int)) && decide (((n + 8 : Nat) : Int) ≤ (rest.length : Int))) = true := by simp; omega
        have c8 : (decide (((0 : Nat) : Int) ≤ ((n + 4 : Nat) : Int)) && decide (((n + 4 : Nat) : Int) ≤ ((n + 8 : Nat) : Int))) = true := by simp; omega
        have b2 : Nat.ble (P.length + 1 + (n + 4 - 1)) (List.map (eInt .u8) (P ++ rest)).length = true := by simp; omega
        have b3 : Nat.ble (P.length + (n + 4) + (n + 8 - (n + 4))) (List.map (eInt .u8) (P ++ rest)).length = true := by simp; omega
        have d2 : List.take (n + 4 - 1) (List.drop (P.length + 1) (P ++ rest)) = (k :: (a : Int) :: (c : Int) :: r).take (n + 3) := by rw [dropA, hrest]; simp
        have d3 : List.take (n + 8 - (n + 4)) (List.drop (P.length + (n + 4)) (P ++ rest)) = (r.drop n).take 4 := by
          rw [dropA, hrest, show n + 8 - (n + 4) = 4 by omega]; rfl
        have d4 : List.take (n + 4 - 4) (List.drop (P.length + 4) (P ++ rest)) = r.take n := by rw [dropA, hrest]; simp
        have hs1 := sum_ok (b := (k :: (a : Int) :: (c : Int) :: r).take (n + 3)) (take_in (fun x hx => hb x (by rw [hrest]; exact List.mem_cons_of_mem _ hx)) _) (by rw [List.length_take]; omega)
        have hs2 := number_ok (b := (r.drop n).take 4) (take_in (drop_in hbr _) _) (by rw [List.length_take]; omega)
        have hcl := crc_lt ((k :: (a : Int) :: (c : Int) :: r).take (n + 3))
        have ew : pF rest = if crc ((k :: (a : Int) :: (c : Int) :: r).take (n + 3)) ≠ numB 0 ((r.drop n).take 4) then .inl 33 else .inr (k, r.take n, n + 8) := by
          rw [hrest, pF_whole hr4 (by omega) (by omega), hn]
        rw [ew]
        simp only [c3, c4, cond_true, cond_false, w2, w3, c5, c6, c7, c8, b2, b3, Int.toNat_natCast, d2, d3, hs1, hs2, Option.bind_some, wI64 (n := ((crc ((k :: (a : Int) :: (c : Int) :: r).take (n + 3)) : Nat) : Int)) (by omega) (by omega)]
        by_cases hq : crc ((k :: (a : Int) :: (c : Int) :: r).take (n + 3)) = numB 0 ((r.drop n).take 4)
        · have q1 : ((((crc ((k :: (a : Int) :: (c : Int) :: r).take (n + 3)) : Nat) : Int)) != ((numB 0 ((r.drop n).take 4) : Nat) : Int)) = false := by rw [hq]; simp
          rw [q1, if_neg (by simpa using hq)]
          have c9 : decide ((1 : Int) < (rest.length : Int)) = true := by simp; omega
          have w4 : IntKind.i64.wrap (IntKind.i64.wrap (IntKind.i64.wrap ((P.length : Int) + 4) + (n : Int)) + 4) = ((P.length + (n + 8) : Nat) : Int) := by
            rw [wI64 (n := (P.length : Int) + 4) (by omega) (by omega), wI64 (n := (P.length : Int) + 4 + (n : Int)) (by omega) (by omega), wI64 (by omega) (by omega)]; omega
          have cl := jclone (b := P ++ rest) (at_ := P.length + 4) (ln := n + 4 - 4) (cp := rest.length - 4) (by simp; omega) (by simp; omega)
          have g1 : (P ++ rest)[P.length + 1]? = some k := by rw [getA, hrest]; rfl
          simp only [cond_false, frame_Get_2, bne_self_eq_false, c9, cond_true, g1, Option.bind_some, w2, c5, c6', Int.toNat_natCast, cl, d4, w4, rF]
        · have q1 : ((((crc ((k :: (a : Int) :: (c : Int) :: r).take (n + 3)) : Nat) : Int)) != ((numB 0 ((r.drop n).take 4) : Nat) : Int)) = true := bne_iff_ne.2 fun h => hq (Int.ofNat.inj h)
          rw [q1, if_pos (by simpa using hq)]
          simp only [cond_true, jget2_err _ _ _ _ _ _ _ (by decide : (33 : Int) ≠ 0), rF]
theorem jget {P rest : List Int} (hb : Bytes rest) (hm : P.length + rest.length ≤ memB) : frame_Get P.length (P ++ rest) = some (rF P.length (pF rest)) := by
  have hm' := hm
  simp only [memB] at hm'
  have c1 : decide ((P.length : Int) < 0) = false := by simp
  have c2 : decide ((P.length : Int) > (((P ++ rest).length : Nat) : Int)) = false := by simp; omega
  have c3 : (decide (((0 : Nat) : Int) ≤ (P.length : Int)) && decide ((P.length : Int) ≤ (((P ++ rest).length : Nat) : Int))) = true := by simp; omega
  have e1 : (P ++ rest).length - P.length = rest.length := by simp
  simp only [frame_Get, c1, cond_false, List.length_map, c2, frame_Get_1, c3, cond_true, Int.toNat_natCast, e1, Nat.zero_add]
  cases rest with
  | nil =>
    have := jget3 (P := P) (rest := []) hb hm (.inl rfl)
    exact this
  | cons m l =>
    have c4 : decide ((((m :: l).length : Nat) : Int) > 0) = true := by simp
    have c5 : decide ((0 : Int) < (((m :: l).length : Nat) : Int)) = true := by simp
    have g0 : (P ++ m :: l)[P.length]? = some m := by simp
    simp only [c4, c5, cond_true, g0, Option.bind_some]
    by_cases hq : m = 247
    · subst hq
      exact jget3 hb hm (.inr rfl)
    · have : (m != 247) = true := by simp [hq]
      rw [this, pF_magic hq]
      simp only [frame_Get_3, cond_true, jget2_err _ _ _ _ _ _ _ (by decide : (32 : Int) ≠ 0), rF]
/-! ### frames, one behind the other -/
/-- A frame: its kind, its body. -/
abbrev Fr1 := Int × List Int
def okFr (x : Fr1) : Prop := (0 ≤ x.1 ∧ x.1 ≤ 255) ∧ Bytes x.2 ∧ x.2.length ≤ 8192
def frs : List Fr1 → List Int
  | [] => []
  | x :: l => encF x.1 x.2 ++ frs l
theorem frs_app (a b : List Fr1) : frs (a ++ b) = frs a ++ frs b := by
  induction a with
  | nil => rfl
  | cons x a ih => simp [frs, ih]
theorem frs_bytes {l : List Fr1} (h : ∀ x ∈ l, okFr x) : Bytes (frs l) := by
  induction l with
  | nil => intro c hc; simp [frs] at hc
  | cons x l ih =>
    intro c hc
    simp only [frs, List.mem_append] at hc
    obtain ⟨h1, h2, h3⟩ := h x (by simp)
    rcases hc with hc | hc
    · exact encF_bytes h1 h2 (by omega) c hc
    · exact ih (fun y hy => h y (by simp [hy])) c hc
def tells : List Int → List Fr1 → List (Int × oneT)
  | _, [] => []
  | P, x :: l => (((P ++ encF x.1 x.2).length : Int), ⟨x.1, x.2⟩) :: tells (P ++ encF x.1 x.2) l
theorem jeach {J : List Int} {e : Int} (hJ : pF J = .inl e) (hJb : Bytes J) : ∀ (l : List Fr1) (P : List Int), (∀ x ∈ l, okFr x) → P.length + (frs l ++ J).length ≤ memB → EvL frame_each_1_step (.s1 P.length (P ++ (frs l ++ J))) (tells P l)
  | [], P, hl, hm => by
    refine .done ?_
    have := jget (P := P) (rest := J) hJb (by simpa [frs] using hm)
    have he : (e != 0) = true := by
      have := pF_err hJ
      rcases this with rfl | rfl | rfl | rfl <;> rfl
    simp only [frame_each_1_step, frame_each_1_1, frs, List.nil_append, this, hJ, rF, Option.bind_some, he, cond_true, tells]
  | x :: l, P, hl, hm => by
    obtain ⟨h1, h2, h3⟩ := hl x (by simp)
    have hl' : ∀ y ∈ l, okFr y := fun y hy => hl y (by simp [hy])
    have hb : Bytes (frs (x :: l) ++ J) := fun c hc => by
      rcases List.mem_append.1 hc with hc | hc
      · exact frs_bytes hl c hc
      · exact hJb c hc
    have hg := jget (P := P) hb hm
    have hpf : pF (frs (x :: l) ++ J) = .inr (x.1, x.2, x.2.length + 8) := by
      simp only [frs, List.append_assoc]
      exact pF_enc h1 h2 h3 _
    rw [hpf] at hg
    have hlen : ((P ++ encF x.1 x.2).length : Int) = ((P.length + (x.2.length + 8) : Nat) : Int) := by simp [encF_len]
    have ih := jeach hJ hJb l (P ++ encF x.1 x.2) hl' (by simp [frs] at hm ⊢; omega)
    refine EvL.next (l := [(((P ++ encF x.1 x.2).length : Int), (⟨x.1, x.2⟩ : oneT))]) (s' := frame_each_1_S.s1 (P ++ encF x.1 x.2).length (P ++ (frs (x :: l) ++ J))) ?_ ?_
    · simp only [frame_each_1_step, frame_each_1_1, hg, rF, Option.bind_some, bne_self_eq_false, cond_false, Option.map_some, List.nil_append, hlen]
    · rw [show P ++ (frs (x :: l) ++ J) = P ++ encF x.1 x.2 ++ (frs l ++ J) by simp [frs]]
      exact ih
theorem jall_loop {b : List Int} : ∀ (l : List Fr1) (P ks : List Int) (bs : List (List Int)), (∀ x ∈ l, okFr x) → ks.length = bs.length → bs.length + l.length ≤ 1000000000 →
    Ev (frame_All_step b) (.s2 (P.length : Int) ks bs (tells P l)) (ks ++ l.map (·.1), bs ++ l.map (·.2), ((P ++ frs l).length : Int))
  | [], P, ks, bs, hl, h1, h2 => .done (by simp [frame_All_step, frame_All_2, frame_All_2n, tells, frs])
  | x :: l, P, ks, bs, hl, h1, h2 => by
    have ih := jall_loop (b := b) l (P ++ encF x.1 x.2) (ks ++ [x.1]) (bs ++ [x.2]) (fun y hy => hl y (by simp [hy])) (by simp [h1]) (by simp at h2 ⊢; omega)
    simp only [List.length_cons] at h2
    have l1 : decide ((ks.length + 1) * 1 ≤ bytesLim) = true := limOk (by omega)
    have l2 : decide ((bs.length + 1) * 24 ≤ bytesLim) = true := limOk (by omega)
    refine .next (s' := frame_All_S.s2 ((P ++ encF x.1 x.2).length : Int) (ks ++ [x.1]) (bs ++ [x.2]) (tells (P ++ encF x.1 x.2) l)) ?_ ?_
    · simp only [frame_All_step, frame_All_2, tells, frame_All_2c, List.length_map, l1, l2, cond_true]
    · simpa [frs] using ih
theorem jall {l : List Fr1} {J : List Int} {e : Int} (hl : ∀ x ∈ l, okFr x) (hJ : pF J = .inl e) (hJb : Bytes J) (hm : (frs l ++ J).length ≤ 10000000) : frame_All (frs l ++ J) = some (l.map (·.1), l.map (·.2), ((frs l).length : Int)) := by
  have hn : l.length ≤ (frs l).length := by
    clear hm hl
    induction l with
    | nil => simp [frs]
    | cons x l ih => simp [frs, encF_len]; omega
  have h1 := jeach hJ hJb l [] hl (by simp only [memB]; simp at hm ⊢; omega)
  have h2 := jall_loop (b := frs l ++ J) l [] [] [] hl rfl (by simp at hm ⊢; omega)
  have e1 : frame_each_1 (frs l ++ J) = some (tells [] l) := evl_of (EvL.next (l := []) (s' := frame_each_1_S.s1 0 (frs l ++ J)) (by simp [frame_each_1_step, frame_each_1_0]) (by simpa using h1))
  refine evf_of (.next (s' := frame_All_S.s1 0 [] []) ?_ (.next (s' := frame_All_S.s2 0 [] [] (tells [] l)) ?_ ?_))
  · simp only [frame_All_step, frame_All_0, frame_each, Option.bind_some]
  · simp only [frame_All_step, frame_All_1, e1, Option.bind_some]
  · simpa using h2
end Go.RX.L

namespace Go.RX.L
open Go Go.RX Go.Proofs
attribute [local irreducible] FinQ
noncomputable def msg_reader_ints_e (y : (List Int) × readerT) : D × Sto := (.sl false 1 (List.map (eInt .i64) y.1), [some ⟨3, false, [[.int .i64 y.2.place.at_, .int .i64 y.2.place.e, .sl false 1 (List.map (eInt .u8) y.2.b)]]⟩])
noncomputable def msg_reader_ints (b0 : readerT) : Option ((List Int) × readerT) := (bif ((b0.place.e : Int) != 0) then (some ([], b0)) else ((wire_Ints b0.b b0.place.at_).bind fun y2 => (some (y2.1, (⟨(⟨y2.2.1, y2.2.2⟩ : placeT), b0.b⟩ : readerT)))))
theorem msg_reader_ints_ok {b0 : readerT} {r : (List Int) × readerT} (h : msg_reader_ints b0 = some r) : Sound E 85 [.ptr 0 0 0] [some ⟨3, false, [[.int .i64 b0.place.at_, .int .i64 b0.place.e, .sl false 1 (List.map (eInt .u8) b0.b)]]⟩] (Rs msg_reader_ints_e r) := so (fn := Tryd.f85) (k := false) (m := 1) h <| by
 intro r h; unfold msg_reader_ints at h
 refine zs 16 h (fun h => ?_) fun h => ?_
 ·
  exact zu 5 h [.slot 0 [some 1]]
 refine zd 9 [] h (fun _ => wire_Ints_ok) fun y2 h => ?_
 exact zu 10 h
end Go.RX.L

namespace Go.RX.L
open Go Go.RX Go.Proofs
attribute [local irreducible] FinQ
noncomputable def wire_Text_e (y : (List Int) × Int × Int) : D × Sto := (.tup [.sl false 1 (List.map (eInt .u8) y.1), .int .i64 y.2.1, .int .i64 y.2.2], [])
noncomputable def wire_Text (b : List Int) (at_ : Int) : Option ((List Int) × Int × Int) := ((wire_sized b at_ 4096).bind fun y1 => (bif ((y1.2.2 : Int) != 0) then (some ([], 0, y1.2.2)) else (bif (decide ((y1.1 : Int) > (IntKind.i64.wrap ((((List.map (eInt .u8) b).length : Nat) : Int) - y1.2.1)))) then (some ([], 0, 11)) else (bif ((decide (((0 : Nat) : Int) ≤ (IntKind.i64.wrap (y1.2.1 + y1.1)))) && (decide (((IntKind.i64.wrap (y1.2.1 + y1.1)) : Int) ≤ (((List.map (eInt .u8) b).length : Nat) : Int)))) then (bif ((decide (((0 : Nat) : Int) ≤ y1.2.1)) && (decide ((y1.2.1 : Int) ≤ (((IntKind.i64.wrap (y1.2.1 + y1.1)).toNat : Nat) : Int)))) then (bif (decide (((List.map (eInt .u8) (List.drop y1.2.1.toNat (List.take ((IntKind.i64.wrap (y1.2.1 + y1.1)).toNat) b))).length) * 1 ≤ bytesLim)) then (some ((List.drop y1.2.1.toNat (List.take ((IntKind.i64.wrap (y1.2.1 + y1.1)).toNat) b)), (IntKind.i64.wrap (y1.2.1 + y1.1)), 0)) else none) else none) else none))))
theorem wire_Text_ok {b : List Int} {at_ : Int} {r : (List Int) × Int × Int} (h : wire_Text b at_ = some r) : Sound E 98 [.sl false 1 (List.map (eInt .u8) b), .int .i64 at_] [] (Rs wire_Text_e r) := so (fn := Tryd.f98) (k := false) (m := 0) h <| by
 intro r h; unfold wire_Text at h
 refine zc 11 [] h (fun _ => wire_sized_ok) fun y1 h => ?_
 refine zs 17 h (fun h => ?_) fun h => ?_
 ·
  exact zu 8 h [.slot 0 [some 1]]
 refine zs 11 h (fun h => ?_) fun h => ?_
 ·
  exact zu 7 h [.slot 0 [some 1]]
 refine zn 10 h fun h => ?_
 refine zn 0 h fun h => ?_
 refine zw 0 (a := (List.drop y1.2.1.toNat (List.take ((IntKind.i64.wrap (y1.2.1 + y1.1)).toNat) (List.map (eInt .u8) b)))) (b := (List.map (eInt .u8) (List.drop y1.2.1.toNat (List.take ((IntKind.i64.wrap (y1.2.1 + y1.1)).toNat) b)))) (rows_cut _ _ _ _) ?_
 refine zn 1 h fun h => ?_
 refine zm 9 (b := (Nat.ble (0 + (List.map (eInt .u8) (List.drop y1.2.1.toNat (List.take ((IntKind.i64.wrap (y1.2.1 + y1.1)).toNat) b))).length) ((List.map (eInt .u8) (List.drop y1.2.1.toNat (List.take ((IntKind.i64.wrap (y1.2.1 + y1.1)).toNat) b))).length))) (ble_full _) ?_
 obtain rfl := Option.some.inj h
 exact r_retE [] (d1 := .tup [.sl false 1 (List.take ((List.map (eInt .u8) (List.drop y1.2.1.toNat (List.take ((IntKind.i64.wrap (y1.2.1 + y1.1)).toNat) b))).length) (List.drop 0 (List.map (eInt .u8) (List.drop y1.2.1.toNat (List.take ((IntKind.i64.wrap (y1.2.1 + y1.1)).toNat) b))))), .int .i64 (IntKind.i64.wrap (y1.2.1 + y1.1)), .int .i64 0]) (d := .tup [.sl false 1 (List.map (eInt .u8) (List.drop y1.2.1.toNat (List.take ((IntKind.i64.wrap (y1.2.1 + y1.1)).toNat) b))), .int .i64 (IntKind.i64.wrap (y1.2.1 + y1.1)), .int .i64 0]) (s1 := []) (s := []) (by kernel_rfl) ⟨by simp [List.take_of_length_le, List.map_take, List.map_drop], rfl⟩ ⟨rfl, rfl⟩ Cx.fin_of
end Go.RX.L

namespace Go.RX.L
open Go Go.RX Go.Proofs
attribute [local irreducible] FinQ
noncomputable def msg_reader_text_e (y : (List Int) × readerT) : D × Sto := (.sl false 1 (List.map (eInt .u8) y.1), [some ⟨3, false, [[.int .i64 y.2.place.at_, .int .i64 y.2.place.e, .sl false 1 (List.map (eInt .u8) y.2.b)]]⟩])
noncomputable def msg_reader_text (b0 : readerT) : Option ((List Int) × readerT) := (bif ((b0.place.e : Int) != 0) then (some ([], b0)) else ((wire_Text b0.b b0.place.at_).bind fun y2 => (some (y2.1, (⟨(⟨y2.2.1, y2.2.2⟩ : placeT), b0.b⟩ : readerT)))))
theorem msg_reader_text_ok {b0 : readerT} {r : (List Int) × readerT} (h : msg_reader_text b0 = some r) : Sound E 87 [.ptr 0 0 0] [some ⟨3, false, [[.int .i64 b0.place.at_, .int .i64 b0.place.e, .sl false 1 (List.map (eInt .u8) b0.b)]]⟩] (Rs msg_reader_text_e r) := so (fn := Tryd.f87) (k := false) (m := 1) h <| by
 intro r h; unfold msg_reader_text at h
 refine zs 16 h (fun h => ?_) fun h => ?_
 ·
  exact zu 5 h [.slot 0 [some 1]]
 refine zd 9 [] h (fun _ => wire_Text_ok) fun y2 h => ?_
 exact zu 10 h
end Go.RX.L

namespace Go.RX.L
open Go Go.RX Go.Proofs
attribute [local irreducible] FinQ
noncomputable def plan_all_1_e (y : Bool) : D × Sto := (.bool y, [])
noncomputable def plan_all_1 (n t t2 : Int) : Option Bool := (bif (decide ((n : Int) < t)) then (some true) else (some (decide ((n : Int) > t2))))
theorem plan_all_1_ok {n t t2 : Int} {r : Bool} (h : plan_all_1 n t t2 = some r) : Sound E 91 [.int .i64 n, .iptr 1 [[.int .i64 t]] 0 0, .iptr 1 [[.int .i64 t2]] 0 0] [] (Rs plan_all_1_e r) := so (fn := Tryd.f91) (k := false) (m := 0) h <| by
 intro r h; unfold plan_all_1 at h
 refine zs 12 h (fun h => ?_) fun h => ?_
 ·
  exact zu 9 h
 exact zu 10 h
end Go.RX.L

namespace Go.RX.L
open Go Go.RX Go.Proofs
attribute [local irreducible] FinQ
noncomputable def slices_IndexFunc__all_1_c := codeAt (bodyOf Tryd.f89)
noncomputable def slices_IndexFunc__all_1_e (y : Int) : D × Sto := (.int .i64 y, [])
inductive slices_IndexFunc__all_1_S where
 | s0 (s_ : List Int) (f f2 : Int)
 | s1 (s_ : List Int) (f f2 : Int) (t7 t8 : Int)
noncomputable def slices_IndexFunc__all_1_M : slices_IndexFunc__all_1_S → M
 | .s0 s_ f f2 => startM Tryd.f89 [.sl false 1 (List.map (eInt .i64) s_), .fn 91 [] [.iptr 1 [[.int .i64 f]] 0 0, .iptr 1 [[.int .i64 f2]] 0 0]] []
 | .s1 s_ f f2 t7 t8 => ⟨[.lpc (slices_IndexFunc__all_1_c [1, 0, 1, 0, 0]) 387, .blk 0, .code (slices_IndexFunc__all_1_c [1, 1])], [(0, .sl false 1 (List.map (eInt .i64) s_)), (1, .fn 91 [] [.iptr 1 [[.int .i64 f]] 0 0, .iptr 1 [[.int .i64 f2]] 0 0]), (7, .int .i64 t7), (8, .int .i64 t8)], []⟩
abbrev slices_IndexFunc__all_1_W := SOk E (Cx.of Tryd.f89 false 0) slices_IndexFunc__all_1_e slices_IndexFunc__all_1_M
noncomputable def slices_IndexFunc__all_1_0 (s_ : List Int) (f f2 : Int) : Option (slices_IndexFunc__all_1_S ⊕ Int) := (some (.inl (.s1 s_ f f2 (((List.map (eInt .i64) s_).length : Nat) : Int) 0)))
noncomputable def slices_IndexFunc__all_1_1 (s_ : List Int) (f f2 : Int) (t7 t8 : Int) : Option (slices_IndexFunc__all_1_S ⊕ Int) := (bif (decide ((t8 : Int) < t7)) then (bif ((decide ((0 : Int) ≤ t8)) && (decide ((t8 : Int) < (((List.map (eInt .i64) s_).length : Nat) : Int)))) then (((s_)[t8.toNat]?).bind fun y3 => ((plan_all_1 y3 f f2).bind fun y5 => (bif y5 then (some (.inr t8)) else (some (.inl (.s1 s_ f f2 t7 (IntKind.i64.wrap (t8 + 1)))))))) else none) else (some (.inr (-1))))
noncomputable def slices_IndexFunc__all_1_step : slices_IndexFunc__all_1_S → Option (slices_IndexFunc__all_1_S ⊕ Int)
 | .s0 s_ f f2 => slices_IndexFunc__all_1_0 s_ f f2
 | .s1 s_ f f2 t7 t8 => slices_IndexFunc__all_1_1 s_ f f2 t7 t8
theorem slices_IndexFunc__all_1_0_ok {s_ f f2} : slices_IndexFunc__all_1_W (.s0 s_ f f2) (slices_IndexFunc__all_1_0 s_ f f2) := by
 intro r x h ha; unfold slices_IndexFunc__all_1_0 at h
 exact zj 14 h ha
theorem slices_IndexFunc__all_1_1_ok {s_ f f2 t7 t8} : slices_IndexFunc__all_1_W (.s1 s_ f f2 t7 t8) (slices_IndexFunc__all_1_1 s_ f f2 t7 t8) := by
 intro r x h ha; unfold slices_IndexFunc__all_1_1 at h
 refine zs 7 h (fun h => ?_) fun h => ?_
 ·
  refine zn 14 h fun h => ?_
  refine zr 1 (eInt .i64) h fun y3 h => ?_
  refine zc 1 [] h (fun _ => plan_all_1_ok) fun y5 h => ?_
  refine zs 2 h (fun h => ?_) fun h => ?_
  ·
   exact zt 6 h ha
  exact zj 7 h ha
 exact zt 6 h ha
noncomputable def slices_IndexFunc__all_1 (s_ : List Int) (f f2 : Int) : Option Int := evf slices_IndexFunc__all_1_step (.s0 s_ f f2)
theorem slices_IndexFunc__all_1_ok {s_ : List Int} {f f2 r : Int} (h : slices_IndexFunc__all_1 s_ f f2 = some r) : Sound E 89 [.sl false 1 (List.map (eInt .i64) s_), .fn 91 [] [.iptr 1 [[.int .i64 f]] 0 0, .iptr 1 [[.int .i64 f2]] 0 0]] [] (Rs slices_IndexFunc__all_1_e r) := sc (fn := Tryd.f89) (k := false) (m := 0) (stM := slices_IndexFunc__all_1_M) h fun s => by
 cases s with
 | s0 => exact slices_IndexFunc__all_1_0_ok
 | s1 => exact slices_IndexFunc__all_1_1_ok
end Go.RX.L

namespace Go.RX.L
open Go Go.RX Go.Proofs
attribute [local irreducible] FinQ
noncomputable def slices_ContainsFunc__all_1_e (y : Bool) : D × Sto := (.bool y, [])
noncomputable def slices_ContainsFunc__all_1 (s_ : List Int) (f f2 : Int) : Option Bool := ((slices_IndexFunc__all_1 s_ f f2).bind fun y1 => (some (decide ((y1 : Int) ≥ 0))))
theorem slices_ContainsFunc__all_1_ok {s_ : List Int} {f f2 : Int} {r : Bool} (h : slices_ContainsFunc__all_1 s_ f f2 = some r) : Sound E 66 [.sl false 1 (List.map (eInt .i64) s_), .fn 91 [] [.iptr 1 [[.int .i64 f]] 0 0, .iptr 1 [[.int .i64 f2]] 0 0]] [] (Rs slices_ContainsFunc__all_1_e r) := so (fn := Tryd.f66) (k := false) (m := 0) h <| by
 intro r h; unfold slices_ContainsFunc__all_1 at h
 refine zc 9 [] h (fun _ => slices_IndexFunc__all_1_ok) fun y1 h => ?_
 exact zu 4 h
end Go.RX.L

namespace Go.RX.L
open Go Go.RX Go.Proofs
attribute [local irreducible] FinQ
noncomputable def plan_all_e (y : Bool) : D × Sto := (.bool y, [])
noncomputable def plan_all (low high : Int) (l_ : List Int) : Option Bool := ((slices_ContainsFunc__all_1 l_ low high).bind fun y1 => (some (!y1)))
theorem plan_all_ok {low high : Int} {l_ : List Int} {r : Bool} (h : plan_all low high l_ = some r) : Sound E 69 [.int .i64 low, .int .i64 high, .sl false 1 (List.map (eInt .i64) l_)] [] (Rs plan_all_e r) := so (fn := Tryd.f69) (k := false) (m := 0) h <| by
 intro r h; unfold plan_all at h
 refine zc 11 [] h (fun _ => slices_ContainsFunc__all_1_ok) fun y1 h => ?_
 exact zu 4 h
end Go.RX.L

namespace Go.RX.L
open Go Go.RX Go.Proofs
attribute [local irreducible] FinQ
noncomputable def plan_all_1_v2_e (y : Bool) : D × Sto := (.bool y, [])
noncomputable def plan_all_1_v2 (n t t2 : Int) : Option Bool := (bif (decide ((n : Int) < t)) then (some true) else (some (decide ((n : Int) > t2))))
theorem plan_all_1_v2_ok {n t t2 : Int} {r : Bool} (h : plan_all_1_v2 n t t2 = some r) : Sound E 90 [.int .i64 n, .iptr 1 [[.int .i64 t]] 0 0, .iptr 1 [[.int .i64 t2]] 0 0] [] (Rs plan_all_1_v2_e r) := so (fn := Tryd.f90) (k := false) (m := 0) h <| by
 intro r h; unfold plan_all_1_v2 at h
 refine zs 12 h (fun h => ?_) fun h => ?_
 ·
  exact zu 9 h
 exact zu 10 h
end Go.RX.L

namespace Go.RX.L
open Go Go.RX Go.Proofs
attribute [local irreducible] FinQ
noncomputable def slices_IndexFunc__all_1_v2_c := codeAt (bodyOf Tryd.f88)
noncomputable def slices_IndexFunc__all_1_v2_e (y : Int) : D × Sto := (.int .i64 y, [])
inductive slices_IndexFunc__all_1_v2_S where
 | s0 (s_ : List Int) (f f2 : Int)
 | s1 (s_ : List Int) (f f2 : Int) (t7 t8 : Int)
noncomputable def slices_IndexFunc__all_1_v2_M : slices_IndexFunc__all_1_v2_S → M
 | .s0 s_ f f2 => startM Tryd.f88 [.sl false 1 (List.map (eInt .i64) s_), .fn 90 [] [.iptr 1 [[.int .i64 f]] 0 0, .iptr 1 [[.int .i64 f2]] 0 0]] []
 | .s1 s_ f f2 t7 t8 => ⟨[.lpc (slices_IndexFunc__all_1_v2_c [1, 0, 1, 0, 0]) 387, .blk 0, .code (slices_IndexFunc__all_1_v2_c [1, 1])], [(0, .sl false 1 (List.map (eInt .i64) s_)), (1, .fn 90 [] [.iptr 1 [[.int .i64 f]] 0 0, .iptr 1 [[.int .i64 f2]] 0 0]), (7, .int .i64 t7), (8, .int .i64 t8)], []⟩
abbrev slices_IndexFunc__all_1_v2_W := SOk E (Cx.of Tryd.f88 false 0) slices_IndexFunc__all_1_v2_e slices_IndexFunc__all_1_v2_M
noncomputable def slices_IndexFunc__all_1_v2_0 (s_ : List Int) (f f2 : Int) : Option (slices_IndexFunc__all_1_v2_S ⊕ Int) := (some (.inl (.s1 s_ f f2 (((List.map (eInt .i64) s_).length : Nat) : Int) 0)))
noncomputable def slices_IndexFunc__all_1_v2_1 (s_ : List Int) (f f2 : Int) (t7 t8 : Int) : Option (slices_IndexFunc__all_1_v2_S ⊕ Int) := (bif (decide ((t8 : Int) < t7)) then (bif ((decide ((0 : Int) ≤ t8)) && (decide ((t8 : Int) < (((List.map (eInt .i64) s_).length : Nat) : Int)))) then (((s_)[t8.toNat]?).bind fun y3 => ((plan_all_1_v2 y3 f f2).bind fun y5 => (bif y5 then (some (.inr t8)) else (some (.inl (.s1 s_ f f2 t7 (IntKind.i64.wrap (t8 + 1)))))))) else none) else (some (.inr (-1))))
noncomputable def slices_IndexFunc__all_1_v2_step : slices_IndexFunc__all_1_v2_S → Option (slices_IndexFunc__all_1_v2_S ⊕ Int)
 | .s0 s_ f f2 => slices_IndexFunc__all_1_v2_0 s_ f f2
 | .s1 s_ f f2 t7 t8 => slices_IndexFunc__all_1_v2_1 s_ f f2 t7 t8
theorem slices_IndexFunc__all_1_v2_0_ok {s_ f f2} : slices_IndexFunc__all_1_v2_W (.s0 s_ f f2) (slices_IndexFunc__all_1_v2_0 s_ f f2) := by
 intro r x h ha; unfold slices_IndexFunc__all_1_v2_0 at h
 exact zj 14 h ha
theorem slices_IndexFunc__all_1_v2_1_ok {s_ f f2 t7 t8} : slices_IndexFunc__all_1_v2_W (.s1 s_ f f2 t7 t8) (slices_IndexFunc__all_1_v2_1 s_ f f2 t7 t8) := by
 intro r x h ha; unfold slices_IndexFunc__all_1_v2_1 at h
 refine zs 7 h (fun h => ?_) fun h => ?_
 ·
  refine zn 14 h fun h => ?_
  refine zr 1 (eInt .i64) h fun y3 h => ?_
  refine zc 1 [] h (fun _ => plan_all_1_v2_ok) fun y5 h => ?_
  refine zs 2 h (fun h => ?_) fun h => ?_
  ·
   exact zt 6 h ha
  exact zj 7 h ha
 exact zt 6 h ha
noncomputable def slices_IndexFunc__all_1_v2 (s_ : List Int) (f f2 : Int) : Option Int := evf slices_IndexFunc__all_1_v2_step (.s0 s_ f f2)
theorem slices_IndexFunc__all_1_v2_ok {s_ : List Int} {f f2 r : Int} (h : slices_IndexFunc__all_1_v2 s_ f f2 = some r) : Sound E 88 [.sl false 1 (List.map (eInt .i64) s_), .fn 90 [] [.iptr 1 [[.int .i64 f]] 0 0, .iptr 1 [[.int .i64 f2]] 0 0]] [] (Rs slices_IndexFunc__all_1_v2_e r) := sc (fn := Tryd.f88) (k := false) (m := 0) (stM := slices_IndexFunc__all_1_v2_M) h fun s => by
 cases s with
 | s0 => exact slices_IndexFunc__all_1_v2_0_ok
 | s1 => exact slices_IndexFunc__all_1_v2_1_ok
end Go.RX.L

namespace Go.RX.L
open Go Go.RX Go.Proofs
attribute [local irreducible] FinQ
noncomputable def slices_ContainsFunc__all_1_v2_e (y : Bool) : D × Sto := (.bool y, [])
noncomputable def slices_ContainsFunc__all_1_v2 (s_ : List Int) (f f2 : Int) : Option Bool := ((slices_IndexFunc__all_1_v2 s_ f f2).bind fun y1 => (some (decide ((y1 : Int) ≥ 0))))
theorem slices_ContainsFunc__all_1_v2_ok {s_ : List Int} {f f2 : Int} {r : Bool} (h : slices_ContainsFunc__all_1_v2 s_ f f2 = some r) : Sound E 64 [.sl false 1 (List.map (eInt .i64) s_), .fn 90 [] [.iptr 1 [[.int .i64 f]] 0 0, .iptr 1 [[.int .i64 f2]] 0 0]] [] (Rs slices_ContainsFunc__all_1_v2_e r) := so (fn := Tryd.f64) (k := false) (m := 0) h <| by
 intro r h; unfold slices_ContainsFunc__all_1_v2 at h
 refine zc 9 [] h (fun _ => slices_IndexFunc__all_1_v2_ok) fun y1 h => ?_
 exact zu 4 h
end Go.RX.L

namespace Go.RX.L
open Go Go.RX Go.Proofs
attribute [local irreducible] FinQ
noncomputable def plan_all_v2_e (y : Bool) : D × Sto := (.bool y, [])
noncomputable def plan_all_v2 (low high : Int) (l_ : List Int) : Option Bool := ((slices_ContainsFunc__all_1_v2 l_ low high).bind fun y1 => (some (!y1)))
theorem plan_all_v2_ok {low high : Int} {l_ : List Int} {r : Bool} (h : plan_all_v2 low high l_ = some r) : Sound E 68 [.int .i64 low, .int .i64 high, .sl false 1 (List.map (eInt .i64) l_)] [] (Rs plan_all_v2_e r) := so (fn := Tryd.f68) (k := false) (m := 0) h <| by
 intro r h; unfold plan_all_v2 at h
 refine zc 11 [] h (fun _ => slices_ContainsFunc__all_1_v2_ok) fun y1 h => ?_
 exact zu 4 h
end Go.RX.L

namespace Go.RX.L
open Go Go.RX Go.Proofs
attribute [local irreducible] FinQ
noncomputable def cmp_isNaN_e (y : Bool) : D × Sto := (.bool y, [])
noncomputable def cmp_isNaN (x_ : Int) : Option Bool := (some ((x_ : Int) != x_))
theorem cmp_isNaN_ok {x_ : Int} {r : Bool} (h : cmp_isNaN x_ = some r) : Sound E 99 [.int .i64 x_] [] (Rs cmp_isNaN_e r) := so (fn := Tryd.f99) (k := false) (m := 0) h <| by
 intro r h; unfold cmp_isNaN at h
 exact zu 12 h
end Go.RX.L

namespace Go.RX.L
open Go Go.RX Go.Proofs
attribute [local irreducible] FinQ
noncomputable def cmp_Less_e (y : Bool) : D × Sto := (.bool y, [])
noncomputable def cmp_Less (x_ y_ : Int) : Option Bool := ((cmp_isNaN x_).bind fun y1 => (bif y1 then ((cmp_isNaN y_).bind fun y3 => (bif (!y3) then (some true) else (some (decide ((x_ : Int) < y_))))) else (some (decide ((x_ : Int) < y_)))))
theorem cmp_Less_ok {x_ y_ : Int} {r : Bool} (h : cmp_Less x_ y_ = some r) : Sound E 92 [.int .i64 x_, .int .i64 y_] [] (Rs cmp_Less_e r) := so (fn := Tryd.f92) (k := false) (m := 0) h <| by
 intro r h; unfold cmp_Less at h
 refine zc 8 [] h (fun _ => cmp_isNaN_ok) fun y1 h => ?_
 refine zs 2 h (fun h => ?_) fun h => ?_
 ·
  refine zc 2 [] h (fun _ => cmp_isNaN_ok) fun y3 h => ?_
  refine zs 6 h (fun h => ?_) fun h => ?_
  ·
   exact zu 9 h
  exact zu 9 h
 exact zu 18 h
end Go.RX.L

namespace Go.RX.L
open Go Go.RX Go.Proofs
attribute [local irreducible] FinQ
noncomputable def slices_IsSorted_c := codeAt (bodyOf Tryd.f70)
noncomputable def slices_IsSorted_e (y : Bool) : D × Sto := (.bool y, [])
inductive slices_IsSorted_S where
 | s0 (x_ : List Int)
 | s1 (x_ : List Int) (i : Int)
noncomputable def slices_IsSorted_M : slices_IsSorted_S → M
 | .s0 x_ => startM Tryd.f70 [.sl false 1 (List.map (eInt .i64) x_)] []
 | .s1 x_ i => ⟨[.lpc (slices_IsSorted_c [1, 0, 1, 0, 0]) 9, .blk 0, .code (slices_IsSorted_c [1, 1])], [(0, .sl false 1 (List.map (eInt .i64) x_)), (3, .int .i64 i)], []⟩
abbrev slices_IsSorted_W := SOk E (Cx.of Tryd.f70 false 0) slices_IsSorted_e slices_IsSorted_M
noncomputable def slices_IsSorted_0 (x_ : List Int) : Option (slices_IsSorted_S ⊕ Bool) := (some (.inl (.s1 x_ (IntKind.i64.wrap ((((List.map (eInt .i64) x_).length : Nat) : Int) - 1)))))
noncomputable def slices_IsSorted_1 (x_ : List Int) (i : Int) : Option (slices_IsSorted_S ⊕ Bool) := (bif (decide ((i : Int) > 0)) then (bif ((decide ((0 : Int) ≤ i)) && (decide ((i : Int) < (((List.map (eInt .i64) x_).length : Nat) : Int)))) then (((x_)[i.toNat]?).bind fun y3 => (bif ((decide ((0 : Int) ≤ (IntKind.i64.wrap (i - 1)))) && (decide (((IntKind.i64.wrap (i - 1)) : Int) < (((List.map (eInt .i64) x_).length : Nat) : Int)))) then (((x_)[(IntKind.i64.wrap (i - 1)).toNat]?).bind fun y6 => ((cmp_Less y3 y6).bind fun y8 => (bif y8 then (some (.inr false)) else (some (.inl (.s1 x_ (IntKind.i64.wrap (i - 1)))))))) else none)) else none) else (some (.inr true)))
noncomputable def slices_IsSorted_step : slices_IsSorted_S → Option (slices_IsSorted_S ⊕ Bool)
 | .s0 x_ => slices_IsSorted_0 x_
 | .s1 x_ i => slices_IsSorted_1 x_ i
theorem slices_IsSorted_0_ok {x_} : slices_IsSorted_W (.s0 x_) (slices_IsSorted_0 x_) := by
 intro r x h ha; unfold slices_IsSorted_0 at h
 exact zj 15 h ha
theorem slices_IsSorted_1_ok {x_ i} : slices_IsSorted_W (.s1 x_ i) (slices_IsSorted_1 x_ i) := by
 intro r x h ha; unfold slices_IsSorted_1 at h
 refine zs 8 h (fun h => ?_) fun h => ?_
 ·
  refine zn 5 h fun h => ?_
  refine zr 0 (eInt .i64) h fun y3 h => ?_
  refine zn 0 h fun h => ?_
  refine zr 0 (eInt .i64) h fun y6 h => ?_
  refine zd 0 [] h (fun _ => cmp_Less_ok) fun y8 h => ?_
  refine zs 1 h (fun h => ?_) fun h => ?_
  ·
   exact zt 5 h ha
  exact zj 8 h ha
 exact zt 6 h ha
noncomputable def slices_IsSorted (x_ : List Int) : Option Bool := evf slices_IsSorted_step (.s0 x_)
theorem slices_IsSorted_ok {x_ : List Int} {r : Bool} (h : slices_IsSorted x_ = some r) : Sound E 70 [.sl false 1 (List.map (eInt .i64) x_)] [] (Rs slices_IsSorted_e r) := sc (fn := Tryd.f70) (k := false) (m := 0) (stM := slices_IsSorted_M) h fun s => by
 cases s with
 | s0 => exact slices_IsSorted_0_ok
 | s1 => exact slices_IsSorted_1_ok
end Go.RX.L

namespace Go.RX.L
open Go Go.RX Go.Proofs
attribute [local irreducible] FinQ
noncomputable def plan_Right_c := codeAt (bodyOf Tryd.f49)
noncomputable def plan_Right_e (y : Bool) : D × Sto := (.bool y, [])
abbrev plan_Right_W := AOk E (Cx.of Tryd.f49 false 0) plan_Right_e
noncomputable def plan_Right_1M (t37 : Bool) (p_ : Plan) : M := ⟨[.code (plan_Right_c [1, 0, 0, 1, 1, 1, 1, 1]), .blk 0, .code (plan_Right_c [1, 1])], [(1, .ptr 0 0 0), (37, .bool t37)], [some ⟨12, false, [(Plan.enc p_)]⟩]⟩
noncomputable def plan_Right_1 (t37 : Bool) (p_ : Plan) : Option Bool := (bif t37 then (some false) else ((plan_all_v2 0 1000000 p_.Pen).bind fun y2 => (bif y2 then ((plan_all 0 1099511627776 p_.Changes).bind fun y4 => (bif y4 then ((slices_IsSorted p_.Changes).bind fun y6 => (some y6)) else (some false))) else (some false))))
theorem plan_Right_1_ok {t37 p_} : plan_Right_W (plan_Right_1M t37 p_) (plan_Right_1 t37 p_) := by
 intro r h; unfold plan_Right_1 at h
 refine zs 1 h (fun h => ?_) fun h => ?_
 ·
  exact zu 5 h
 refine zc 8 [] h (fun _ => plan_all_v2_ok) fun y2 h => ?_
 refine zs 2 h (fun h => ?_) fun h => ?_
 ·
  refine zc 5 [] h (fun _ => plan_all_ok) fun y4 h => ?_
  refine zs 4 h (fun h => ?_) fun h => ?_
  ·
   refine zc 5 [] h (fun _ => slices_IsSorted_ok) fun y6 h => ?_
   exact zu 5 h
  exact zu 9 h
 exact zu 18 h
noncomputable def plan_Right_2M (t21 : Bool) (p_ : Plan) : M := ⟨[.code (plan_Right_c [1, 0, 0, 1, 1, 1]), .blk 0, .code (plan_Right_c [1, 1])], [(1, .ptr 0 0 0), (21, .bool t21)], [some ⟨12, false, [(Plan.enc p_)]⟩]⟩
noncomputable def plan_Right_2 (t21 : Bool) (p_ : Plan) : Option Bool := (bif t21 then (some false) else (bif (decide (((((List.map (eInt .i64) p_.Pen).length : Nat) : Int) : Int) > 16)) then (plan_Right_1 (decide (((((List.map (eInt .i64) p_.Pen).length : Nat) : Int) : Int) > 16)) p_) else (plan_Right_1 (decide (((((List.map (eInt .i64) p_.Changes).length : Nat) : Int) : Int) > 8)) p_)))
theorem plan_Right_2_ok {t21 p_} : plan_Right_W (plan_Right_2M t21 p_) (plan_Right_2 t21 p_) := by
 intro r h; unfold plan_Right_2 at h
 refine zs 1 h (fun h => ?_) fun h => ?_
 ·
  exact zu 5 h
 refine zs 11 h (fun h => ?_) fun h => ?_
 ·
  exact zg 1 (plan_Right_1_ok h)
 exact zg 8 (plan_Right_1_ok h)
noncomputable def plan_Right_3M (t3 : Bool) (p_ : Plan) : M := ⟨[.code (plan_Right_c [1, 0, 0, 1]), .blk 0, .code (plan_Right_c [1, 1])], [(1, .ptr 0 0 0), (3, .bool t3)], [some ⟨12, false, [(Plan.enc p_)]⟩]⟩
noncomputable def plan_Right_3 (t3 : Bool) (p_ : Plan) : Option Bool := (bif t3 then (some false) else ((plan_all 0 1099511627776 ([p_.Stamp, p_.Since, p_.Ramped])).bind fun y2 => (bif (!y2) then (plan_Right_2 (!y2) p_) else (plan_Right_2 (decide (((mxI p_.Up p_.Sup) : Int) ≥ 65536)) p_))))
theorem plan_Right_3_ok {t3 p_} : plan_Right_W (plan_Right_3M t3 p_) (plan_Right_3 t3 p_) := by
 intro r h; unfold plan_Right_3 at h
 refine zs 1 h (fun h => ?_) fun h => ?_
 ·
  exact zu 5 h
 refine zc 15 [] h (fun _ => plan_all_ok) fun y2 h => ?_
 refine zs 4 h (fun h => ?_) fun h => ?_
 ·
  exact zg 1 (plan_Right_2_ok h)
 exact zg 11 (plan_Right_2_ok h)
noncomputable def plan_Right (p_ : Plan) : Option Bool := (bif (decide ((p_.Epoch : Int) < 0)) then (plan_Right_3 (decide ((p_.Epoch : Int) < 0)) p_) else ((plan_all_v2 (-1) 15 ([p_.Target, p_.Prev, p_.Spill])).bind fun y2 => (bif (!y2) then (plan_Right_3 (!y2) p_) else ((plan_all_v2 0 100 ([p_.Percent])).bind fun y4 => (plan_Right_3 (!y4) p_)))))
theorem plan_Right_ok {p_ : Plan} {r : Bool} (h : plan_Right p_ = some r) : Sound E 49 [.agg [.int .i64 p_.Epoch, .int .i64 p_.Target, .int .i64 p_.Prev, .int .i64 p_.Spill, .int .i64 p_.Percent, .int .i64 p_.Stamp, .int .i64 p_.Since, .int .i64 p_.Ramped, .int .u64 p_.Up, .int .u64 p_.Sup, .sl false 1 (List.map (eInt .i64) p_.Pen), .sl false 1 (List.map (eInt .i64) p_.Changes)]] [] (Rs plan_Right_e r) := so (fn := Tryd.f49) (k := false) (m := 0) h <| by
 intro r h; unfold plan_Right at h
 refine zs 17 h (fun h => ?_) fun h => ?_
 ·
  exact zg 1 (plan_Right_3_ok h)
 refine zc 14 [] h (fun _ => plan_all_v2_ok) fun y2 h => ?_
 refine zs 4 h (fun h => ?_) fun h => ?_
 ·
  exact zg 1 (plan_Right_3_ok h)
 refine zc 7 [] h (fun _ => plan_all_v2_ok) fun y4 h => ?_
 exact zg 3 (plan_Right_3_ok h)
end Go.RX.L

namespace Go.RX.L
open Go Go.RX Go.Proofs
attribute [local irreducible] FinQ
noncomputable def plan_numbers_e (y : Int × Int × Int × Int × Int × Int × Int × Int × Int × Int) : D × Sto := (.agg [.int .i64 y.1, .int .i64 y.2.1, .int .i64 y.2.2.1, .int .i64 y.2.2.2.1, .int .i64 y.2.2.2.2.1, .int .i64 y.2.2.2.2.2.1, .int .i64 y.2.2.2.2.2.2.1, .int .i64 y.2.2.2.2.2.2.2.1, .int .i64 y.2.2.2.2.2.2.2.2.1, .int .i64 y.2.2.2.2.2.2.2.2.2], [])
noncomputable def plan_numbers (p_ : Plan) : Option (Int × Int × Int × Int × Int × Int × Int × Int × Int × Int) := (some (p_.Epoch, p_.Target, p_.Prev, p_.Spill, p_.Percent, p_.Stamp, p_.Since, p_.Ramped, (IntKind.i64.wrap (p_.Up)), (IntKind.i64.wrap (p_.Sup))))
theorem plan_numbers_ok {p_ : Plan} {r : Int × Int × Int × Int × Int × Int × Int × Int × Int × Int} (h : plan_numbers p_ = some r) : Sound E 71 [.agg [.int .i64 p_.Epoch, .int .i64 p_.Target, .int .i64 p_.Prev, .int .i64 p_.Spill, .int .i64 p_.Percent, .int .i64 p_.Stamp, .int .i64 p_.Since, .int .i64 p_.Ramped, .int .u64 p_.Up, .int .u64 p_.Sup, .sl false 1 (List.map (eInt .i64) p_.Pen), .sl false 1 (List.map (eInt .i64) p_.Changes)]] [] (Rs plan_numbers_e r) := so (fn := Tryd.f71) (k := false) (m := 0) h <| by
 intro r h; unfold plan_numbers at h
 exact zu 47 h
end Go.RX.L

namespace Go.RX.L
open Go Go.RX Go.Proofs
attribute [local irreducible] FinQ
noncomputable def slices_Equal_c := codeAt (bodyOf Tryd.f72)
noncomputable def slices_Equal_e (y : Bool) : D × Sto := (.bool y, [])
inductive slices_Equal_S where
 | s0 (s1 s2 : List Int)
 | s1 (s1 s2 : List Int) (t12 t13 : Int)
noncomputable def slices_Equal_M : slices_Equal_S → M
 | .s0 s1 s2 => startM Tryd.f72 [.sl false 1 (List.map (eInt .i64) s1), .sl false 1 (List.map (eInt .i64) s2)] []
 | .s1 s1 s2 t12 t13 => ⟨[.lpc (slices_Equal_c [1, 1, 0, 1, 0, 0]) 12291, .blk 0, .code (slices_Equal_c [1, 1, 1])], [(0, .sl false 1 (List.map (eInt .i64) s1)), (1, .sl false 1 (List.map (eInt .i64) s2)), (12, .int .i64 t12), (13, .int .i64 t13)], []⟩
abbrev slices_Equal_W := SOk E (Cx.of Tryd.f72 false 0) slices_Equal_e slices_Equal_M
noncomputable def slices_Equal_0 (s1 s2 : List Int) : Option (slices_Equal_S ⊕ Bool) := (bif (((((List.map (eInt .i64) s1).length : Nat) : Int) : Int) != (((List.map (eInt .i64) s2).length : Nat) : Int)) then (some (.inr false)) else (some (.inl (.s1 s1 s2 (((List.map (eInt .i64) s1).length : Nat) : Int) 0))))
noncomputable def slices_Equal_1 (s1 s2 : List Int) (t12 t13 : Int) : Option (slices_Equal_S ⊕ Bool) := (bif (decide ((t13 : Int) < t12)) then (bif ((decide ((0 : Int) ≤ t13)) && (decide ((t13 : Int) < (((List.map (eInt .i64) s1).length : Nat) : Int)))) then (((s1)[t13.toNat]?).bind fun y3 => (bif ((decide ((0 : Int) ≤ t13)) && (decide ((t13 : Int) < (((List.map (eInt .i64) s2).length : Nat) : Int)))) then (((s2)[t13.toNat]?).bind fun y6 => (bif ((y3 : Int) != y6) then (some (.inr false)) else (some (.inl (.s1 s1 s2 t12 (IntKind.i64.wrap (t13 + 1))))))) else none)) else none) else (some (.inr true)))
noncomputable def slices_Equal_step : slices_Equal_S → Option (slices_Equal_S ⊕ Bool)
 | .s0 s1 s2 => slices_Equal_0 s1 s2
 | .s1 s1 s2 t12 t13 => slices_Equal_1 s1 s2 t12 t13
theorem slices_Equal_0_ok {s1 s2} : slices_Equal_W (.s0 s1 s2) (slices_Equal_0 s1 s2) := by
 intro r x h ha; unfold slices_Equal_0 at h
 refine zs 14 h (fun h => ?_) fun h => ?_
 ·
  exact zt 5 h ha
 exact zj 11 h ha
theorem slices_Equal_1_ok {s1 s2 t12 t13} : slices_Equal_W (.s1 s1 s2 t12 t13) (slices_Equal_1 s1 s2 t12 t13) := by
 intro r x h ha; unfold slices_Equal_1 at h
 refine zs 7 h (fun h => ?_) fun h => ?_
 ·
  refine zn 10 h fun h => ?_
  refine zr 0 (eInt .i64) h fun y3 h => ?_
  refine zn 0 h fun h => ?_
  refine zr 0 (eInt .i64) h fun y6 h => ?_
  refine zs 1 h (fun h => ?_) fun h => ?_
  ·
   exact zt 5 h ha
  exact zj 7 h ha
 exact zt 6 h ha
noncomputable def slices_Equal (s1 s2 : List Int) : Option Bool := evf slices_Equal_step (.s0 s1 s2)
theorem slices_Equal_ok {s1 s2 : List Int} {r : Bool} (h : slices_Equal s1 s2 = some r) : Sound E 72 [.sl false 1 (List.map (eInt .i64) s1), .sl false 1 (List.map (eInt .i64) s2)] [] (Rs slices_Equal_e r) := sc (fn := Tryd.f72) (k := false) (m := 0) (stM := slices_Equal_M) h fun s => by
 cases s with
 | s0 => exact slices_Equal_0_ok
 | s1 => exact slices_Equal_1_ok
end Go.RX.L

namespace Go.RX.L
open Go Go.RX Go.Proofs
attribute [local irreducible] FinQ
noncomputable def slices_Equal_v2_c := codeAt (bodyOf Tryd.f56)
noncomputable def slices_Equal_v2_e (y : Bool) : D × Sto := (.bool y, [])
inductive slices_Equal_v2_S where
 | s0 (s1 s2 : List Int)
 | s1 (s1 s2 : List Int) (t12 t13 : Int)
noncomputable def slices_Equal_v2_M : slices_Equal_v2_S → M
 | .s0 s1 s2 => startM Tryd.f56 [.sl false 1 (List.map (eInt .i64) s1), .sl false 1 (List.map (eInt .i64) s2)] []
 | .s1 s1 s2 t12 t13 => ⟨[.lpc (slices_Equal_v2_c [1, 1, 0, 1, 0, 0]) 12291, .blk 0, .code (slices_Equal_v2_c [1, 1, 1])], [(0, .sl false 1 (List.map (eInt .i64) s1)), (1, .sl false 1 (List.map (eInt .i64) s2)), (12, .int .i64 t12), (13, .int .i64 t13)], []⟩
abbrev slices_Equal_v2_W := SOk E (Cx.of Tryd.f56 false 0) slices_Equal_v2_e slices_Equal_v2_M
noncomputable def slices_Equal_v2_0 (s1 s2 : List Int) : Option (slices_Equal_v2_S ⊕ Bool) := (bif (((((List.map (eInt .i64) s1).length : Nat) : Int) : Int) != (((List.map (eInt .i64) s2).length : Nat) : Int)) then (some (.inr false)) else (some (.inl (.s1 s1 s2 (((List.map (eInt .i64) s1).length : Nat) : Int) 0))))
noncomputable def slices_Equal_v2_1 (s1 s2 : List Int) (t12 t13 : Int) : Option (slices_Equal_v2_S ⊕ Bool) := (bif (decide ((t13 : Int) < t12)) then (bif ((decide ((0 : Int) ≤ t13)) && (decide ((t13 : Int) < (((List.map (eInt .i64) s1).length : Nat) : Int)))) then (((s1)[t13.toNat]?).bind fun y3 => (bif ((decide ((0 : Int) ≤ t13)) && (decide ((t13 : Int) < (((List.map (eInt .i64) s2).length : Nat) : Int)))) then (((s2)[t13.toNat]?).bind fun y6 => (bif ((y3 : Int) != y6) then (some (.inr false)) else (some (.inl (.s1 s1 s2 t12 (IntKind.i64.wrap (t13 + 1))))))) else none)) else none) else (some (.inr true)))
noncomputable def slices_Equal_v2_step : slices_Equal_v2_S → Option (slices_Equal_v2_S ⊕ Bool)
 | .s0 s1 s2 => slices_Equal_v2_0 s1 s2
 | .s1 s1 s2 t12 t13 => slices_Equal_v2_1 s1 s2 t12 t13
theorem slices_Equal_v2_0_ok {s1 s2} : slices_Equal_v2_W (.s0 s1 s2) (slices_Equal_v2_0 s1 s2) := by
 intro r x h ha; unfold slices_Equal_v2_0 at h
 refine zs 14 h (fun h => ?_) fun h => ?_
 ·
  exact zt 5 h ha
 exact zj 11 h ha
theorem slices_Equal_v2_1_ok {s1 s2 t12 t13} : slices_Equal_v2_W (.s1 s1 s2 t12 t13) (slices_Equal_v2_1 s1 s2 t12 t13) := by
 intro r x h ha; unfold slices_Equal_v2_1 at h
 refine zs 7 h (fun h => ?_) fun h => ?_
 ·
  refine zn 10 h fun h => ?_
  refine zr 0 (eInt .i64) h fun y3 h => ?_
  refine zn 0 h fun h => ?_
  refine zr 0 (eInt .i64) h fun y6 h => ?_
  refine zs 1 h (fun h => ?_) fun h => ?_
  ·
   exact zt 5 h ha
  exact zj 7 h ha
 exact zt 6 h ha
noncomputable def slices_Equal_v2 (s1 s2 : List Int) : Option Bool := evf slices_Equal_v2_step (.s0 s1 s2)
theorem slices_Equal_v2_ok {s1 s2 : List Int} {r : Bool} (h : slices_Equal_v2 s1 s2 = some r) : Sound E 56 [.sl false 1 (List.map (eInt .i64) s1), .sl false 1 (List.map (eInt .i64) s2)] [] (Rs slices_Equal_v2_e r) := sc (fn := Tryd.f56) (k := false) (m := 0) (stM := slices_Equal_v2_M) h fun s => by
 cases s with
 | s0 => exact slices_Equal_v2_0_ok
 | s1 => exact slices_Equal_v2_1_ok
end Go.RX.L

namespace Go.RX.L
open Go Go.RX Go.Proofs
attribute [local irreducible] FinQ
noncomputable def plan_Same_e (y : Bool) : D × Sto := (.bool y, [])
noncomputable def plan_Same (a b : Plan) : Option Bool := ((plan_numbers a).bind fun y1 => ((plan_numbers b).bind fun y2 => (bif (((y1.1 : Int) == y2.1) && (((y1.2.1 : Int) == y2.2.1) && (((y1.2.2.1 : Int) == y2.2.2.1) && (((y1.2.2.2.1 : Int) == y2.2.2.2.1) && (((y1.2.2.2.2.1 : Int) == y2.2.2.2.2.1) && (((y1.2.2.2.2.2.1 : Int) == y2.2.2.2.2.2.1) && (((y1.2.2.2.2.2.2.1 : Int) == y2.2.2.2.2.2.2.1) && (((y1.2.2.2.2.2.2.2.1 : Int) == y2.2.2.2.2.2.2.2.1) && (((y1.2.2.2.2.2.2.2.2.1 : Int) == y2.2.2.2.2.2.2.2.2.1) && (((y1.2.2.2.2.2.2.2.2.2 : Int) == y2.2.2.2.2.2.2.2.2.2) && true)))))))))) then ((slices_Equal a.Pen b.Pen).bind fun y4 => (bif y4 then ((slices_Equal_v2 a.Changes b.Changes).bind fun y6 => (some y6)) else (some false))) else (some false))))
theorem plan_Same_ok {a b : Plan} {r : Bool} (h : plan_Same a b = some r) : Sound E 50 [.agg [.int .i64 a.Epoch, .int .i64 a.Target, .int .i64 a.Prev, .int .i64 a.Spill, .int .i64 a.Percent, .int .i64 a.Stamp, .int .i64 a.Since, .int .i64 a.Ramped, .int .u64 a.Up, .int .u64 a.Sup, .sl false 1 (List.map (eInt .i64) a.Pen), .sl false 1 (List.map (eInt .i64) a.Changes)], .agg [.int .i64 b.Epoch, .int .i64 b.Target, .int .i64 b.Prev, .int .i64 b.Spill, .int .i64 b.Percent, .int .i64 b.Stamp, .int .i64 b.Since, .int .i64 b.Ramped, .int .u64 b.Up, .int .u64 b.Sup, .sl false 1 (List.map (eInt .i64) b.Pen), .sl false 1 (List.map (eInt .i64) b.Changes)]] [] (Rs plan_Same_e r) := so (fn := Tryd.f50) (k := false) (m := 0) h <| by
 intro r h; unfold plan_Same at h
 refine zd 9 [] h (fun _ => plan_numbers_ok) fun y1 h => ?_
 refine zd 1 [] h (fun _ => plan_numbers_ok) fun y2 h => ?_
 refine zs 0 h (fun h => ?_) fun h => ?_
 ·
  refine zd 6 [] h (fun _ => slices_Equal_ok) fun y4 h => ?_
  refine zs 1 h (fun h => ?_) fun h => ?_
  ·
   refine zd 6 [] h (fun _ => slices_Equal_v2_ok) fun y6 h => ?_
   exact zu 2 h
  exact zu 6 h
 exact zu 12 h
end Go.RX.L
