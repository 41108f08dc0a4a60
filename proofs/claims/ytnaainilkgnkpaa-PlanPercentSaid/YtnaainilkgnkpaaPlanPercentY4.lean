/-
  Words and walks for PlanPercent. No condition.
-/
import Derived.Test.YtnaainilkgnkpaaX3
set_option linter.unusedSimpArgs false
set_option linter.unusedVariables false
namespace Go.RX
open Go

/-! ### zigzag -/
def zz (n : Int) : Nat := if 0 ≤ n then 2 * n.toNat else 2 * (-n).toNat - 1
def unzz (u : Nat) : Int := if u % 2 = 0 then ((u / 2 : Nat) : Int) else -((u / 2 : Nat) : Int) - 1

theorem unzz_zz (n : Int) : unzz (zz n) = n := by
  unfold unzz zz
  split <;> split <;> omega
theorem zz_unzz (u : Nat) : zz (unzz u) = u := by
  unfold unzz zz
  split <;> split <;> omega
theorem zz_lt {n : Int} (h : inK .i64 n) : zz n < 18446744073709551616 := by
  have := inI64.1 h
  unfold zz
  split <;> omega
theorem unzz_in {u : Nat} (h : u < 18446744073709551616) : inK .i64 (unzz u) := by
  refine inI64.2 ?_
  unfold unzz
  split <;> omega

/-! ### a number's bytes -/
def venc (u : Nat) : List Int := if h : u < 128 then [(u : Int)] else ((u % 128 + 128 : Nat) : Int) :: venc (u / 128)
termination_by u
decreasing_by omega

theorem venc_lt {u : Nat} (h : u < 128) : venc u = [(u : Int)] := by rw [venc, dif_pos h]
theorem venc_ge {u : Nat} (h : 128 ≤ u) : venc u = ((u % 128 + 128 : Nat) : Int) :: venc (u / 128) := by rw [venc, dif_neg (by omega)]
theorem venc_pos (u : Nat) : 0 < (venc u).length := by
  by_cases h : u < 128
  · rw [venc_lt h]; simp
  · rw [venc_ge (by omega)]; simp
theorem venc_len : ∀ (k u : Nat), u < 2 ^ (7 * k) → 0 < k → (venc u).length ≤ k
  | 0, _, _, h => absurd h (by simp)
  | k + 1, u, h, _ => by
    by_cases hu : u < 128
    · rw [venc_lt hu]; simp
    · rw [venc_ge (by omega)]
      have h' : u / 128 < 2 ^ (7 * k) := by
        rw [Nat.div_lt_iff_lt_mul (by decide)]
        have : 2 ^ (7 * (k + 1)) = 2 ^ (7 * k) * 128 := by rw [Nat.mul_succ, Nat.pow_add]
        omega
      have hk : 0 < k := by
        rcases Nat.eq_zero_or_pos k with rfl | hk
        · simp at h; omega
        · exact hk
      have := venc_len k _ h' hk
      simp; omega
theorem venc_ten {u : Nat} (h : u < 18446744073709551616) : (venc u).length ≤ 10 := venc_len 10 u (by
  have : (2 : Nat) ^ (7 * 10) = 1180591620717411303424 := by decide
  omega) (by decide)
theorem venc_byte : ∀ (u : Nat), ∀ c ∈ venc u, 0 ≤ c ∧ c ≤ 255 := by
  intro u
  induction u using Nat.strongRecOn with
  | ind u ih =>
    intro c hc
    by_cases h : u < 128
    · rw [venc_lt h] at hc; simp at hc; omega
    · rw [venc_ge (by omega)] at hc
      rcases List.mem_cons.1 hc with rfl | hc
      · omega
      · exact ih _ (by omega) c hc

/-- The number that stands in front (and how many bytes it has), or why there is none. -/
def vd : Nat → List Int → Int ⊕ (Nat × Nat)
  | _, [] => .inl 11
  | i, c :: l => if (i = 9 ∧ 1 < c) ∨ (c = 0 ∧ 0 < i) then .inl 12 else if c < 128 then .inr (c.toNat, 1) else
    match vd (i + 1) l with
    | .inl e => .inl e
    | .inr (u, k) => .inr (c.toNat - 128 + 128 * u, k + 1)

/-- A byte more in front. -/
def vS (c : Nat) (r : Int ⊕ (Nat × Nat)) : Int ⊕ (Nat × Nat) := match r with
  | .inl e => .inl e
  | .inr (u, k) => .inr (c - 128 + 128 * u, k + 1)
theorem vd_cons (i : Nat) (c : Int) (l : List Int) : vd i (c :: l) = if (i = 9 ∧ 1 < c) ∨ (c = 0 ∧ 0 < i) then .inl 12 else if c < 128 then .inr (c.toNat, 1) else vS c.toNat (vd (i + 1) l) := by
  simp only [vd]
  split
  · rfl
  · split
    · rfl
    · unfold vS; cases vd (i + 1) l <;> rfl

theorem pow_step {i : Nat} (h : i ≤ 8) : 2 ^ (64 - 7 * i) = 2 ^ (64 - 7 * (i + 1)) * 128 := by
  rw [show 64 - 7 * i = (64 - 7 * (i + 1)) + 7 by omega, Nat.pow_add]

theorem vd_enc : ∀ (u i : Nat) (rest : List Int), i ≤ 9 → u < 2 ^ (64 - 7 * i) → (0 < u ∨ i = 0) → vd i (venc u ++ rest) = .inr (u, (venc u).length) := by
  intro u
  induction u using Nat.strongRecOn with
  | ind u ih =>
    intro i rest hi hu h0
    by_cases h : u < 128
    · rw [venc_lt h]
      simp only [List.cons_append, List.nil_append, vd]
      rw [if_neg, if_pos (by omega)]
      · simp
      · rintro (⟨rfl, h1⟩ | ⟨h1, h2⟩)
        · simp at hu; omega
        · omega
    · have hi8 : i ≤ 8 := by
        rcases Nat.lt_or_ge i 9 with h | h
        · omega
        · have : i = 9 := by omega
          subst this
          simp at hu; omega
      rw [venc_ge (by omega)]
      simp only [List.cons_append, vd]
      have hu' : u / 128 < 2 ^ (64 - 7 * (i + 1)) := by
        rw [Nat.div_lt_iff_lt_mul (by decide), ← pow_step hi8]; exact hu
      rw [if_neg, if_neg (by omega), ih (u / 128) (by omega) (i + 1) rest (by omega) hu' (.inl (by omega))]
      · simp; omega
      · rintro (⟨rfl, h1⟩ | ⟨h1, h2⟩) <;> omega

theorem vd_dec : ∀ (l : List Int) (i u k : Nat), i ≤ 9 → (∀ c ∈ l, 0 ≤ c ∧ c ≤ 255) → vd i l = .inr (u, k) → l.take k = venc u ∧ k ≤ l.length ∧ k = (venc u).length ∧ u < 2 ^ (64 - 7 * i) ∧ (0 < i → 0 < u)
  | [], _, _, _, _, _, h => by simp [vd] at h
  | c :: l, i, u, k, hi, hb, h => by
    simp only [vd] at h
    have hc := hb c (by simp)
    split at h
    · cases h
    · rename_i hno
      simp only [not_or, not_and] at hno
      split at h
      · rename_i hlt
        simp only [Sum.inr.injEq, Prod.mk.injEq] at h
        obtain ⟨rfl, rfl⟩ := h
        have hv : venc c.toNat = [c] := by rw [venc_lt (by omega), Int.toNat_of_nonneg hc.1]
        refine ⟨by rw [hv]; simp, by simp, by rw [hv]; rfl, ?_, fun h => ?_⟩
        · rcases Nat.lt_or_ge i 9 with h9 | h9
          · have : 2 ^ 8 ≤ 2 ^ (64 - 7 * i) := Nat.pow_le_pow_right (by decide) (by omega)
            omega
          · have : i = 9 := by omega
            subst this
            have := hno.1 rfl
            simp; omega
        · have := hno.2; omega
      · rename_i hge
        split at h
        · cases h
        · rename_i u' k' hv
          simp only [Sum.inr.injEq, Prod.mk.injEq] at h
          obtain ⟨rfl, rfl⟩ := h
          have hi8 : i ≤ 8 := by
            rcases Nat.lt_or_ge i 9 with h9 | h9
            · omega
            · have : i = 9 := by omega
              have := hno.1 this
              omega
          obtain ⟨h1, h2, h3, h4, h5⟩ := vd_dec l (i + 1) u' k' (by omega) (fun c hc => hb c (by simp [hc])) hv
          have h5 := h5 (by omega)
          have e1 : (c.toNat - 128 + 128 * u') / 128 = u' := by omega
          have e2 : (c.toNat - 128 + 128 * u') % 128 + 128 = c.toNat := by omega
          have hven : venc (c.toNat - 128 + 128 * u') = c :: venc u' := by
            rw [venc_ge (by omega), e1, e2, Int.toNat_of_nonneg hc.1]
          refine ⟨by rw [hven, List.take_succ_cons, h1], by simp; omega, by rw [hven]; simp; omega, ?_, fun _ => by omega⟩
          rw [pow_step hi8]
          omega

theorem vd_err : ∀ (l : List Int) (i : Nat) (e : Int), vd i l = .inl e → e = 11 ∨ e = 12
  | [], _, e, h => by simp [vd] at h; exact .inl h.symm
  | c :: l, i, e, h => by
    simp only [vd] at h
    split at h
    · simp at h; exact .inr h.symm
    · split at h
      · cases h
      · split at h
        · rename_i e' hv
          obtain rfl := Sum.inl.inj h
          exact vd_err l _ _ hv
        · cases h

/-- A number's bytes, cut, are none. -/
theorem vd_cut : ∀ (u i j : Nat), i ≤ 9 → u < 2 ^ (64 - 7 * i) → (0 < u ∨ i = 0) → j < (venc u).length → vd i ((venc u).take j) = .inl 11 := by
  intro u
  induction u using Nat.strongRecOn with
  | ind u ih =>
    intro i j hi hu h0 hj
    by_cases h : u < 128
    · rw [venc_lt h] at hj ⊢
      simp at hj
      subst hj
      rfl
    · have hi8 : i ≤ 8 := by
        rcases Nat.lt_or_ge i 9 with h | h
        · omega
        · have : i = 9 := by omega
          subst this
          simp at hu; omega
      rw [venc_ge (by omega)] at hj ⊢
      cases j with
      | zero => rfl
      | succ j =>
        simp only [List.take_succ_cons, vd]
        have hu' : u / 128 < 2 ^ (64 - 7 * (i + 1)) := by
          rw [Nat.div_lt_iff_lt_mul (by decide), ← pow_step hi8]; exact hu
        rw [if_neg, if_neg (by omega), ih (u / 128) (by omega) (i + 1) j (by omega) hu' (.inl (by omega)) (by simp at hj; omega)]
        rintro (⟨rfl, h1⟩ | ⟨h1, h2⟩) <;> omega

/-! ### numbers -/
def encI (n : Int) : List Int := venc (zz n)
def pI (l : List Int) : Int ⊕ (Int × Nat) := match vd 0 l with | .inl e => .inl e | .inr (u, k) => .inr (unzz u, k)
abbrev Bytes (l : List Int) : Prop := ∀ c ∈ l, 0 ≤ c ∧ c ≤ 255

theorem encI_len {n : Int} (h : inK .i64 n) : (encI n).length ≤ 10 := venc_ten (zz_lt h)
theorem encI_pos (n : Int) : 0 < (encI n).length := venc_pos _
theorem encI_bytes (n : Int) : Bytes (encI n) := venc_byte _
theorem pI_enc {n : Int} (h : inK .i64 n) (rest : List Int) : pI (encI n ++ rest) = .inr (n, (encI n).length) := by
  unfold pI encI
  rw [vd_enc (zz n) 0 rest (by omega) (by have := zz_lt h; simpa using this) (.inr rfl)]
  simp [unzz_zz]
theorem pI_dec {l : List Int} {n : Int} {k : Nat} (hb : Bytes l) (h : pI l = .inr (n, k)) : l.take k = encI n ∧ k ≤ l.length ∧ k = (encI n).length ∧ inK .i64 n := by
  unfold pI at h
  split at h
  · cases h
  · rename_i u k' hv
    simp only [Sum.inr.injEq, Prod.mk.injEq] at h
    obtain ⟨rfl, rfl⟩ := h
    obtain ⟨h1, h2, h3, h4, _⟩ := vd_dec l 0 u k' (by omega) hb hv
    unfold encI
    rw [zz_unzz]
    exact ⟨h1, h2, h3, unzz_in (by simpa using h4)⟩
theorem pI_err {l : List Int} {e : Int} (h : pI l = .inl e) : e = 11 ∨ e = 12 := by
  unfold pI at h
  split at h
  · rename_i e' hv
    obtain rfl := Sum.inl.inj h
    exact vd_err _ _ _ hv
  · cases h
theorem pI_cut {n : Int} (h : inK .i64 n) {j : Nat} (hj : j < (encI n).length) : pI ((encI n).take j) = .inl 11 := by
  unfold pI encI
  rw [vd_cut (zz n) 0 j (by omega) (by have := zz_lt h; simpa using this) (.inr rfl) hj]

/-! ### lists -/
def pN : Nat → List Int → Int ⊕ (List Int × Nat)
  | 0, _ => .inr ([], 0)
  | n + 1, l => match pI l with
    | .inl e => .inl e
    | .inr (x, k) => (match pN n (l.drop k) with
      | .inl e => .inl e
      | .inr (xs, m) => .inr (x :: xs, k + m))
def pL (l : List Int) : Int ⊕ (List Int × Nat) := match pI l with
  | .inl e => .inl e
  | .inr (n, k) => if n < 0 ∨ n > 64 then .inl 2 else (match pN n.toNat (l.drop k) with
    | .inl e => .inl e
    | .inr (xs, m) => .inr (xs, k + m))
def pS (x : Int) (k : Nat) (r : Int ⊕ (List Int × Nat)) : Int ⊕ (List Int × Nat) := match r with
  | .inl e => .inl e
  | .inr (xs, m) => .inr (x :: xs, k + m)
def pK (k : Nat) (r : Int ⊕ (List Int × Nat)) : Int ⊕ (List Int × Nat) := match r with
  | .inl e => .inl e
  | .inr (xs, m) => .inr (xs, k + m)
theorem pN_inl {n : Nat} {l : List Int} {e : Int} (h : pI l = .inl e) : pN (n + 1) l = .inl e := by simp only [pN, h]
theorem pN_inr {n : Nat} {l : List Int} {x : Int} {k : Nat} (h : pI l = .inr (x, k)) : pN (n + 1) l = pS x k (pN n (l.drop k)) := by
  simp only [pN, h]; unfold pS; cases pN n (l.drop k) <;> rfl
theorem pL_inl {l : List Int} {e : Int} (h : pI l = .inl e) : pL l = .inl e := by simp only [pL, h]
theorem pL_big {l : List Int} {n : Int} {k : Nat} (h : pI l = .inr (n, k)) (hn : n < 0 ∨ n > 64) : pL l = .inl 2 := by simp only [pL, h, if_pos hn]
theorem pL_inr {l : List Int} {n : Int} {k : Nat} (h : pI l = .inr (n, k)) (hn : ¬ (n < 0 ∨ n > 64)) : pL l = pK k (pN n.toNat (l.drop k)) := by
  simp only [pL, h, if_neg hn]; unfold pK; cases pN n.toNat (l.drop k) <;> rfl
def encN (xs : List Int) : List Int := xs.flatMap encI
def encL (xs : List Int) : List Int := encI (xs.length : Int) ++ encN xs
abbrev I64s (l : List Int) : Prop := ∀ x ∈ l, inK .i64 x

theorem inLen {n : Nat} (h : n ≤ 1000000) : inK .i64 (n : Int) := inI64.2 (by omega)

theorem encN_bytes (xs : List Int) : Bytes (encN xs) := fun c hc => by
  obtain ⟨x, _, h⟩ := List.mem_flatMap.1 hc
  exact encI_bytes x c h
theorem encL_bytes (xs : List Int) : Bytes (encL xs) := fun c hc => (List.mem_append.1 hc).elim (encI_bytes _ c) (encN_bytes xs c)
theorem encN_len : ∀ {xs : List Int}, I64s xs → (encN xs).length ≤ 10 * xs.length
  | [], _ => by simp [encN]
  | x :: xs, h => by
    have h1 := encI_len (h x (by simp))
    have h2 := encN_len (xs := xs) fun y hy => h y (by simp [hy])
    simp only [encN, List.flatMap_cons, List.length_append, List.length_cons] at h2 ⊢
    omega
theorem encL_len {xs : List Int} (h : I64s xs) (hl : xs.length ≤ 64) : (encL xs).length ≤ 650 := by
  have h1 := encI_len (inLen (n := xs.length) (by omega))
  have h2 := encN_len h
  simp only [encL, List.length_append]
  omega
theorem encL_pos (xs : List Int) : 0 < (encL xs).length := by
  have := encI_pos (xs.length : Int)
  simp only [encL, List.length_append]; omega

theorem pN_enc : ∀ (xs rest : List Int), I64s xs → pN xs.length (encN xs ++ rest) = .inr (xs, (encN xs).length)
  | [], rest, _ => rfl
  | x :: xs, rest, h => by
    have ih := pN_enc xs rest fun y hy => h y (by simp [hy])
    simp only [encN, List.flatMap_cons, List.length_cons, pN, List.append_assoc] at ih ⊢
    rw [pI_enc (h x (by simp))]
    simp only [List.drop_left, ih, List.length_append]

theorem pN_dec : ∀ (n : Nat) (l xs : List Int) (k : Nat), Bytes l → pN n l = .inr (xs, k) → l.take k = encN xs ∧ k ≤ l.length ∧ k = (encN xs).length ∧ xs.length = n ∧ I64s xs
  | 0, l, xs, k, _, h => by
    simp only [pN, Sum.inr.injEq, Prod.mk.injEq] at h
    obtain ⟨rfl, rfl⟩ := h
    exact ⟨by simp [encN], by simp, by simp [encN], rfl, fun x hx => by simp at hx⟩
  | n + 1, l, xs, k, hb, h => by
    simp only [pN] at h
    split at h
    · cases h
    · rename_i x k1 hx
      split at h
      · cases h
      · rename_i ys m hys
        simp only [Sum.inr.injEq, Prod.mk.injEq] at h
        obtain ⟨rfl, rfl⟩ := h
        obtain ⟨a1, a2, a3, a4⟩ := pI_dec hb hx
        obtain ⟨b1, b2, b3, b4, b5⟩ := pN_dec n _ _ _ (fun c hc => hb c (List.mem_of_mem_drop hc)) hys
        simp only [List.length_drop] at b2
        refine ⟨?_, by omega, ?_, by simp [b4], fun y hy => ?_⟩
        · simp only [encN, List.flatMap_cons] at b1 ⊢
          rw [← a1, ← b1, List.take_add]
        · simp only [encN, List.flatMap_cons, List.length_append] at b3 ⊢; omega
        · rcases List.mem_cons.1 hy with rfl | hy
          · exact a4
          · exact b5 y hy

theorem pL_enc {xs : List Int} (h : I64s xs) (hl : xs.length ≤ 64) (rest : List Int) : pL (encL xs ++ rest) = .inr (xs, (encL xs).length) := by
  unfold pL encL
  rw [List.append_assoc, pI_enc (inLen (n := xs.length) (by omega))]
  simp only []
  rw [if_neg (by omega)]
  simp only [List.drop_left, Int.toNat_natCast, pN_enc xs rest h, List.length_append]

theorem pL_dec {l xs : List Int} {k : Nat} (hb : Bytes l) (h : pL l = .inr (xs, k)) : l.take k = encL xs ∧ k ≤ l.length ∧ k = (encL xs).length ∧ xs.length ≤ 64 ∧ I64s xs := by
  unfold pL at h
  split at h
  · cases h
  · rename_i n k1 hn
    split at h
    · cases h
    · rename_i hno
      split at h
      · cases h
      · rename_i ys m hys
        simp only [Sum.inr.injEq, Prod.mk.injEq] at h
        obtain ⟨rfl, rfl⟩ := h
        obtain ⟨a1, a2, a3, a4⟩ := pI_dec hb hn
        obtain ⟨b1, b2, b3, b4, b5⟩ := pN_dec _ _ _ _ (fun c hc => hb c (List.mem_of_mem_drop hc)) hys
        simp only [List.length_drop] at b2
        have e : n = (ys.length : Int) := by omega
        unfold encL
        rw [← e]
        exact ⟨by rw [← a1, ← b1, List.take_add], by omega, by rw [List.length_append]; omega, by omega, b5⟩

theorem pN_cut : ∀ (xs : List Int) (j : Nat), I64s xs → j < (encN xs).length → ∃ e, pN xs.length ((encN xs).take j) = .inl e
  | [], j, _, hj => by simp [encN] at hj
  | x :: xs, j, h, hj => by
    have hx := h x (by simp)
    simp only [encN, List.flatMap_cons, List.length_cons, pN, List.length_append] at hj ⊢
    by_cases hjx : j < (encI x).length
    · rw [List.take_append_of_le_length (by omega), pI_cut hx hjx]
      exact ⟨_, rfl⟩
    · have e : (encI x ++ List.flatMap encI xs).take j = encI x ++ (encN xs).take (j - (encI x).length) := by
        rw [List.take_append, List.take_of_length_le (by omega)]; rfl
      rw [e, pI_enc hx]
      obtain ⟨e, he⟩ := pN_cut xs (j - (encI x).length) (fun y hy => h y (by simp [hy])) (by simp only [encN]; omega)
      simp only [List.drop_left, he]
      exact ⟨_, rfl⟩

theorem pL_cut {xs : List Int} (h : I64s xs) (hl : xs.length ≤ 64) {j : Nat} (hj : j < (encL xs).length) : ∃ e, pL ((encL xs).take j) = .inl e := by
  unfold encL at hj ⊢
  rw [List.length_append] at hj
  unfold pL
  have hn := inLen (n := xs.length) (by omega)
  by_cases hjx : j < (encI (xs.length : Int)).length
  · rw [List.take_append_of_le_length (by omega), pI_cut hn hjx]
    exact ⟨_, rfl⟩
  · have e : (encI (xs.length : Int) ++ encN xs).take j = encI (xs.length : Int) ++ (encN xs).take (j - (encI (xs.length : Int)).length) := by
      rw [List.take_append, List.take_of_length_le (by omega)]
    rw [e, pI_enc hn]
    simp only []
    rw [if_neg (by omega)]
    obtain ⟨e, he⟩ := pN_cut xs (j - (encI (xs.length : Int)).length) h (by omega)
    simp only [List.drop_left, Int.toNat_natCast, he]
    exact ⟨_, rfl⟩
end Go.RX

set_option linter.unusedSimpArgs false
set_option linter.unusedVariables false
namespace Go.RX
open Go

theorem ofInt8 {n : Nat} (h : n < 256) : (BitVec.ofInt IntKind.u8.bits (n : Int)).toNat = n := by
  rw [BitVec.ofInt_natCast, show IntKind.u8.bits = 8 from rfl, BitVec.toNat_ofNat, Nat.mod_eq_of_lt (by omega)]
theorem wrapU8 {n : Nat} (h : n < 256) : IntKind.u8.wrap (n : Int) = n := wU8 (by omega) (by omega)
theorem and127 {c : Nat} (h : c < 256) : andI .u8 c 127 = ((c % 128 : Nat) : Int) := by
  unfold andI
  rw [show (127 : Int) = ((127 : Nat) : Int) from rfl, BitVec.toNat_and, ofInt8 h, ofInt8 (by omega), show (127 : Nat) = 2 ^ 7 - 1 from rfl, Nat.and_two_pow_sub_one_eq_mod, wrapU8 (by omega)]
theorem and127' {u : Nat} (h : u < 18446744073709551616) : andI .u64 u 127 = ((u % 128 : Nat) : Int) := by
  rw [show (127 : Int) = ((127 : Nat) : Int) from rfl, andI64 h (by omega), show (127 : Nat) = 2 ^ 7 - 1 from rfl, Nat.and_two_pow_sub_one_eq_mod]
theorem andOne {u : Nat} (h : u < 18446744073709551616) : andI .u64 u 1 = ((u % 2 : Nat) : Int) := by
  rw [show (1 : Int) = ((1 : Nat) : Int) from rfl, andI64 h (by omega), show (1 : Nat) = 2 ^ 1 - 1 from rfl, Nat.and_two_pow_sub_one_eq_mod]
theorem or128 {a : Nat} (h : a < 256) : orI .u8 a 128 = ((a % 128 + 128 : Nat) : Int) := by
  have key : ∀ a, a < 256 → a ||| 128 = a % 128 + 128 := by decide +kernel
  unfold orI
  rw [show (128 : Int) = ((128 : Nat) : Int) from rfl, BitVec.toNat_or, ofInt8 h, ofInt8 (by omega), key a h, wrapU8 (by omega)]
theorem wrapU8_mod (u : Nat) : IntKind.u8.wrap (u : Int) = ((u % 256 : Nat) : Int) := by
  simp only [IntKind.wrap, IntKind.signed, IntKind.bits]
  simp
theorem shr7 (u : Nat) : shrI .u64 u 7 = ((u / 128 : Nat) : Int) := shrI64 (a := u) (k := 7) (by decide)
theorem shr1 (u : Nat) : shrI .u64 u 1 = ((u / 2 : Nat) : Int) := shrI64 (a := u) (k := 1) (by decide)

theorem or_shl {u p s : Nat} (hu : u < 2 ^ s) (hp : u + p * 2 ^ s < 18446744073709551616) (hs : s ≤ 64) : orI .u64 u (shlI .u64 p s) = ((u + p * 2 ^ s : Nat) : Int) := by
  have h1 : shlI .u64 p s = ((p * 2 ^ s : Nat) : Int) := by
    unfold shlI
    have e : min (s : Int).toNat IntKind.u64.bits = s := by simp [IntKind.bits]; omega
    rw [e, show ((p : Int) * (2 : Int) ^ s) = ((p * 2 ^ s : Nat) : Int) by norm_cast, wrapU64 (by omega)]
  have hu' : u < 18446744073709551616 := by omega
  rw [h1, orI64 hu' (by omega)]
  congr 1
  rw [Nat.or_comm, Nat.mul_comm, ← Nat.two_pow_add_eq_or_of_lt hu, Nat.mul_comm, Nat.add_comm]

theorem ofIntI {n : Int} (h : inK .i64 n) : (BitVec.ofInt IntKind.i64.bits n).toInt = n := by
  have := inI64.1 h
  rw [BitVec.toInt_ofInt, show IntKind.i64.bits = 64 from rfl]
  exact Int.bmod_eq_of_le (by omega) (by omega)
theorem wrapI64_nat (n : Nat) (h : n < 18446744073709551616) : IntKind.i64.wrap (n : Int) = if n < 9223372036854775808 then (n : Int) else (n : Int) - 18446744073709551616 := by
  simp only [IntKind.wrap, IntKind.signed, IntKind.bits]
  simp
  split <;> split <;> omega
theorem toNatNeg1 : (BitVec.ofInt IntKind.i64.bits (-1)).toNat = 18446744073709551615 := by decide
theorem toNatI {n : Nat} (h : n < 9223372036854775808) : (BitVec.ofInt IntKind.i64.bits (n : Int)).toNat = n := by
  rw [BitVec.ofInt_natCast, show IntKind.i64.bits = 64 from rfl, BitVec.toNat_ofNat, Nat.mod_eq_of_lt (by omega)]
theorem xor_neg {n : Nat} (h : n < 9223372036854775808) : xorI .i64 n (-1) = -(n : Int) - 1 := by
  unfold xorI
  have e : BitVec.ofInt IntKind.i64.bits (-1) = BitVec.allOnes IntKind.i64.bits := by decide
  rw [e, BitVec.xor_allOnes, BitVec.toNat_not, toNatI h, show IntKind.i64.bits = 64 from rfl, wrapI64_nat _ (by omega), if_neg (by omega)]
  omega
theorem neg_xor {n : Nat} (h : n < 9223372036854775808) : xorI .i64 (-1) n = -(n : Int) - 1 := by
  rw [← xor_neg h]
  unfold xorI
  rw [BitVec.xor_comm]
theorem xor_zero {n : Nat} (h : n < 9223372036854775808) : xorI .i64 n 0 = n := by
  unfold xorI
  have e : BitVec.ofInt IntKind.i64.bits 0 = 0#_ := by decide
  rw [e, BitVec.xor_zero, toNatI h, wrapI64_nat _ (by omega), if_pos h]

/-- What is read back of a number. -/
theorem unzz_xor {u : Nat} (h : u < 18446744073709551616) : xorI .i64 (IntKind.i64.wrap (shrI .u64 u 1)) (IntKind.i64.wrap ((0 : Int) - (IntKind.i64.wrap (andI .u64 u 1)))) = unzz u := by
  rw [shr1, andOne h, wI64 (n := ((u / 2 : Nat) : Int)) (by omega) (by omega), wI64 (n := ((u % 2 : Nat) : Int)) (by omega) (by omega)]
  unfold unzz
  rcases Nat.mod_two_eq_zero_or_one u with h1 | h1
  · rw [h1, if_pos rfl]
    simp only [Int.natCast_zero, Int.sub_zero]
    rw [wI64 (by omega) (by omega), xor_zero (by omega)]
  · rw [h1, if_neg (by omega)]
    rw [wI64 (by omega) (by omega), show (0 : Int) - ((1 : Nat) : Int) = -1 by omega, xor_neg (by omega)]

theorem wrapUI (n : Int) : IntKind.u64.wrap (IntKind.i64.wrap n) = n % 18446744073709551616 := by
  simp only [IntKind.wrap, IntKind.signed, IntKind.bits]
  simp
  split <;> omega
theorem wrapUmod (n : Int) : IntKind.u64.wrap n = n % 18446744073709551616 := by
  simp only [IntKind.wrap, IntKind.signed, IntKind.bits]
  simp
theorem xorU_zero {n : Nat} (h : n < 18446744073709551616) : xorI .u64 n 0 = n := by
  unfold xorI
  have e : BitVec.ofInt IntKind.u64.bits 0 = 0#_ := by decide
  rw [e, BitVec.xor_zero, ofInt64 h, wrapU64 h]
theorem xorU_ones {n : Nat} (h : n < 18446744073709551616) : xorI .u64 n 18446744073709551615 = ((18446744073709551615 - n : Nat) : Int) := by
  unfold xorI
  have e : BitVec.ofInt IntKind.u64.bits 18446744073709551615 = BitVec.allOnes IntKind.u64.bits := by decide
  rw [e, BitVec.xor_allOnes, BitVec.toNat_not, ofInt64 h, show IntKind.u64.bits = 64 from rfl, show 2 ^ 64 - 1 - n = 18446744073709551615 - n by omega, wrapU64 (by omega)]
theorem xorU_ones' {n : Nat} (h : n < 18446744073709551616) : xorI .u64 18446744073709551615 n = ((18446744073709551615 - n : Nat) : Int) := by
  rw [← xorU_ones h]
  unfold xorI
  rw [BitVec.xor_comm]

/-- A number, zigzag. -/
theorem zz_xor {t : Int} (h : inK .i64 t) : xorI .u64 (IntKind.u64.wrap (shlI .i64 t 1)) (IntKind.u64.wrap (shrI .i64 t 63)) = (zz t : Int) := by
  have ht := inI64.1 h
  have e1 : IntKind.u64.wrap (shlI .i64 t 1) = (t * 2) % 18446744073709551616 := by
    unfold shlI
    rw [show min (1 : Int).toNat IntKind.i64.bits = 1 from rfl, wrapUI, show (2 : Int) ^ 1 = 2 from rfl]
  have e2 : shrI .i64 t 63 = if 0 ≤ t then 0 else -1 := by
    unfold shrI
    rw [show min (63 : Int).toNat IntKind.i64.bits = 63 from rfl]
    have e63 : (2 : Int) ^ 63 = 9223372036854775808 := rfl
    rw [e63, Int.fdiv_eq_ediv_of_nonneg _ (by omega)]
    split <;> omega
  rw [e1, e2]
  unfold zz
  split
  · rename_i h0
    obtain ⟨n, rfl⟩ := Int.eq_ofNat_of_zero_le h0
    rw [show IntKind.u64.wrap 0 = 0 from rfl, show ((n : Int) * 2) % 18446744073709551616 = ((2 * n : Nat) : Int) by omega, xorU_zero (by omega)]
    simp
  · rename_i h0
    obtain ⟨n, hn⟩ := Int.eq_ofNat_of_zero_le (show 0 ≤ -t by omega)
    have : t = -(n : Int) := by omega
    subst this
    rw [show IntKind.u64.wrap (-1) = 18446744073709551615 from rfl, show (-(n : Int) * 2) % 18446744073709551616 = ((18446744073709551616 - 2 * n : Nat) : Int) by omega, xorU_ones (by omega)]
    congr 1
    simp
    omega

theorem zz_ref {t : Int} (h : inK .i64 t) : (if t < 0 then xorI .u64 18446744073709551615 (shlI .u64 (IntKind.u64.wrap t) 1) else shlI .u64 (IntKind.u64.wrap t) 1) = (zz t : Int) := by
  have ht := inI64.1 h
  have e1 : shlI .u64 (IntKind.u64.wrap t) 1 = (t * 2) % 18446744073709551616 := by
    unfold shlI
    rw [show min (1 : Int).toNat IntKind.u64.bits = 1 from rfl, wrapUmod, wrapUmod, show (2 : Int) ^ 1 = 2 from rfl]
    omega
  rw [e1]
  unfold zz
  by_cases h0 : 0 ≤ t
  · obtain ⟨n, rfl⟩ := Int.eq_ofNat_of_zero_le h0
    rw [if_neg (by omega), if_pos h0]
    simp; omega
  · obtain ⟨n, hn⟩ := Int.eq_ofNat_of_zero_le (show 0 ≤ -t by omega)
    have : t = -(n : Int) := by omega
    subst this
    rw [if_pos (by omega), if_neg h0, show (-(n : Int) * 2) % 18446744073709551616 = ((18446744073709551616 - 2 * n : Nat) : Int) by omega, xorU_ones' (by omega)]
    congr 1
    simp
    omega
end Go.RX
