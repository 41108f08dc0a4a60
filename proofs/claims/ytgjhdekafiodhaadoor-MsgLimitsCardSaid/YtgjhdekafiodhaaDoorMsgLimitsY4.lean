/-
  Words and walks for MsgLimits. No condition.
-/
import Derived.Test.YtgjhdekafiodhaaDoorX3
set_option linter.unusedSimpArgs false
set_option linter.unusedVariables false
namespace Go.RX
open Go

/-! ### zigzag -/
def zz (n : Int) : Nat := if 0 ≤ n then 2 * n.toNat else 2 * (-n).toNat - 1
def unzz (u : Nat) : Int := if u % 2 = 0 then ((u / 2 : Nat) : Int) else -((u / 2 : Nat) : Int) - 1

theorem unzz_zz (n : Int) : unzz (zz n) = n := by
  unfold unzz zz
  split <;> split <;> omega
theorem zz_unzz (u : Nat) : zz (unzz u) = u := by
  unfold unzz zz
  split <;> split <;> omega
theorem zz_lt {n : Int} (h : inK .i64 n) : zz n < 18446744073709551616 := by
  have := inI64.1 h
  unfold zz
  split <;> omega
theorem unzz_in {u : Nat} (h : u < 18446744073709551616) : inK .i64 (unzz u) := by
  refine inI64.2 ?_
  unfold unzz
  split <;> omega

/-! ### a number's bytes -/
def venc (u : Nat) : List Int := if h : u < 128 then [(u : Int)] else ((u % 128 + 128 : Nat) : Int) :: venc (u / 128)
termination_by u
decreasing_by omega

theorem venc_lt {u : Nat} (h : u < 128) : venc u = [(u : Int)] := by rw [venc, dif_pos h]
theorem venc_ge {u : Nat} (h : 128 ≤ u) : venc u = ((u % 128 + 128 : Nat) : Int) :: venc (u / 128) := by rw [venc, dif_neg (by omega)]
theorem venc_pos (u : Nat) : 0 < (venc u).length := by
  by_cases h : u < 128
  · rw [venc_lt h]; simp
  · rw [venc_ge (by omega)]; simp
theorem venc_len : ∀ (k u : Nat), u < 2 ^ (7 * k) → 0 < k → (venc u).length ≤ k
  | 0, _, _, h => absurd h (by simp)
  | k + 1, u, h, _ => by
    by_cases hu : u < 128
    · rw [venc_lt hu]; simp
    · rw [venc_ge (by omega)]
      have h' : u / 128 < 2 ^ (7 * k) := by
        rw [Nat.div_lt_iff_lt_mul (by decide)]
        have : 2 ^ (7 * (k + 1)) = 2 ^ (7 * k) * 128 := by rw [Nat.mul_succ, Nat.pow_add]
        omega
      have hk : 0 < k := by
        rcases Nat.eq_zero_or_pos k with rfl | hk
        · simp at h; omega
        · exact hk
      have := venc_len k _ h' hk
      simp; omega
theorem venc_ten {u : Nat} (h : u < 18446744073709551616) : (venc u).length ≤ 10 := venc_len 10 u (by
  have : (2 : Nat) ^ (7 * 10) = 1180591620717411303424 := by decide
  omega) (by decide)
theorem venc_byte : ∀ (u : Nat), ∀ c ∈ venc u, 0 ≤ c ∧ c ≤ 255 := by
  intro u
  induction u using Nat.strongRecOn with
  | ind u ih =>
    intro c hc
    by_cases h : u < 128
    · rw [venc_lt h] at hc; simp at hc; omega
    · rw [venc_ge (by omega)] at hc
      rcases List.mem_cons.1 hc with rfl | hc
      · omega
      · exact ih _ (by omega) c hc

/-- The number that stands in front (and how many bytes it has), or why there is none. -/
def vd : Nat → List Int → Int ⊕ (Nat × Nat)
  | _, [] => .inl 11
  | i, c :: l => if (i = 9 ∧ 1 < c) ∨ (c = 0 ∧ 0 < i) then .inl 12 else if c < 128 then .inr (c.toNat, 1) else
    match vd (i + 1) l with
    | .inl e => .inl e
    | .inr (u, k) => .inr (c.toNat - 128 + 128 * u, k + 1)

/-- A byte more in front. -/
def vS (c : Nat) (r : Int ⊕ (Nat × Nat)) : Int ⊕ (Nat × Nat) := match r with
  | .inl e => .inl e
  | .inr (u, k) => .inr (c - 128 + 128 * u, k + 1)
theorem vd_cons (i : Nat) (c : Int) (l : List Int) : vd i (c :: l) = if (i = 9 ∧ 1 < c) ∨ (c = 0 ∧ 0 < i) then .inl 12 else if c < 128 then .inr (c.toNat, 1) else vS c.toNat (vd (i + 1) l) := by
  simp only [vd]
  split
  · rfl
  · split
    · rfl
    · unfold vS; cases vd (i + 1) l <;> rfl

theorem pow_step {i : Nat} (h : i ≤ 8) : 2 ^ (64 - 7 * i) = 2 ^ (64 - 7 * (i + 1)) * 128 := by
  rw [show 64 - 7 * i = (64 - 7 * (i + 1)) + 7 by omega, Nat.pow_add]

theorem vd_enc : ∀ (u i : Nat) (rest : List Int), i ≤ 9 → u < 2 ^ (64 - 7 * i) → (0 < u ∨ i = 0) → vd i (venc u ++ rest) = .inr (u, (venc u).length) := by
  intro u
  induction u using Nat.strongRecOn with
  | ind u ih =>
    intro i rest hi hu h0
    by_cases h : u < 128
    · rw [venc_lt h]
      simp only [List.cons_append, List.nil_append, vd]
      rw [if_neg, if_pos (by omega)]
      · simp
      · rintro (⟨rfl, h1⟩ | ⟨h1, h2⟩)
        · simp at hu; omega
        · omega
    · have hi8 : i ≤ 8 := by
        rcases Nat.lt_or_ge i 9 with h | h
        · omega
        · have : i = 9 := by omega
          subst this
          simp at hu; omega
      rw [venc_ge (by omega)]
      simp only [List.cons_append, vd]
      have hu' : u / 128 < 2 ^ (64 - 7 * (i + 1)) := by
        rw [Nat.div_lt_iff_lt_mul (by decide), ← pow_step hi8]; exact hu
      rw [if_neg, if_neg (by omega), ih (u / 128) (by omega) (i + 1) rest (by omega) hu' (.inl (by omega))]
      · simp; omega
      · rintro (⟨rfl, h1⟩ | ⟨h1, h2⟩) <;> omega

theorem vd_dec : ∀ (l : List Int) (i u k : Nat), i ≤ 9 → (∀ c ∈ l, 0 ≤ c ∧ c ≤ 255) → vd i l = .inr (u, k) → l.take k = venc u ∧ k ≤ l.length ∧ k = (venc u).length ∧ u < 2 ^ (64 - 7 * i) ∧ (0 < i → 0 < u)
  | [], _, _, _, _, _, h => by simp [vd] at h
  | c :: l, i, u, k, hi, hb, h => by
    simp only [vd] at h
    have hc := hb c (by simp)
    split at h
    · cases h
    · rename_i hno
      simp only [not_or, not_and] at hno
      split at h
      · rename_i hlt
        simp only [Sum.inr.injEq, Prod.mk.injEq] at h
        obtain ⟨rfl, rfl⟩ := h
        have hv : venc c.toNat = [c] := by rw [venc_lt (by omega), Int.toNat_of_nonneg hc.1]
        refine ⟨by rw [hv]; simp, by simp, by rw [hv]; rfl, ?_, fun h => ?_⟩
        · rcases Nat.lt_or_ge i 9 with h9 | h9
          · have : 2 ^ 8 ≤ 2 ^ (64 - 7 * i) := Nat.pow_le_pow_right (by decide) (by omega)
            omega
          · have : i = 9 := by omega
            subst this
            have := hno.1 rfl
            simp; omega
        · have := hno.2; omega
      · rename_i hge
        split at h
        · cases h
        · rename_i u' k' hv
          simp only [Sum.inr.injEq, Prod.mk.injEq] at h
          obtain ⟨rfl, rfl⟩ := h
          have hi8 : i ≤ 8 := by
            rcases Nat.lt_or_ge i 9 with h9 | h9
            · omega
            · have : i = 9 := by omega
              have := hno.1 this
              omega
          obtain ⟨h1, h2, h3, h4, h5⟩ := vd_dec l (i + 1) u' k' (by omega) (fun c hc => hb c (by simp [hc])) hv
          have h5 := h5 (by omega)
          have e1 : (c.toNat - 128 + 128 * u') / 128 = u' := by omega
          have e2 : (c.toNat - 128 + 128 * u') % 128 + 128 = c.toNat := by omega
          have hven : venc (c.toNat - 128 + 128 * u') = c :: venc u' := by
            rw [venc_ge (by omega), e1, e2, Int.toNat_of_nonneg hc.1]
          refine ⟨by rw [hven, List.take_succ_cons, h1], by simp; omega, by rw [hven]; simp; omega, ?_, fun _ => by omega⟩
          rw [pow_step hi8]
          omega

theorem vd_err : ∀ (l : List Int) (i : Nat) (e : Int), vd i l = .inl e → e = 11 ∨ e = 12
  | [], _, e, h => by simp [vd] at h; exact .inl h.symm
  | c :: l, i, e, h => by
    simp only [vd] at h
    split at h
    · simp at h; exact .inr h.symm
    · split at h
      · cases h
      · split at h
        · rename_i e' hv
          obtain rfl := Sum.inl.inj h
          exact vd_err l _ _ hv
        · cases h

/-- A number's bytes, cut, are none. -/
theorem vd_cut : ∀ (u i j : Nat), i ≤ 9 → u < 2 ^ (64 - 7 * i) → (0 < u ∨ i = 0) → j < (venc u).length → vd i ((venc u).take j) = .inl 11 := by
  intro u
  induction u using Nat.strongRecOn with
  | ind u ih =>
    intro i j hi hu h0 hj
    by_cases h : u < 128
    · rw [venc_lt h] at hj ⊢
      simp at hj
      subst hj
      rfl
    · have hi8 : i ≤ 8 := by
        rcases Nat.lt_or_ge i 9 with h | h
        · omega
        · have : i = 9 := by omega
          subst this
          simp at hu; omega
      rw [venc_ge (by omega)] at hj ⊢
      cases j with
      | zero => rfl
      | succ j =>
        simp only [List.take_succ_cons, vd]
        have hu' : u / 128 < 2 ^ (64 - 7 * (i + 1)) := by
          rw [Nat.div_lt_iff_lt_mul (by decide), ← pow_step hi8]; exact hu
        rw [if_neg, if_neg (by omega), ih (u / 128) (by omega) (i + 1) j (by omega) hu' (.inl (by omega)) (by simp at hj; omega)]
        rintro (⟨rfl, h1⟩ | ⟨h1, h2⟩) <;> omega

/-! ### numbers -/
def encI (n : Int) : List Int := venc (zz n)
def pI (l : List Int) : Int ⊕ (Int × Nat) := match vd 0 l with | .inl e => .inl e | .inr (u, k) => .inr (unzz u, k)
abbrev Bytes (l : List Int) : Prop := ∀ c ∈ l, 0 ≤ c ∧ c ≤ 255

theorem encI_len {n : Int} (h : inK .i64 n) : (encI n).length ≤ 10 := venc_ten (zz_lt h)
theorem encI_pos (n : Int) : 0 < (encI n).length := venc_pos _
theorem encI_bytes (n : Int) : Bytes (encI n) := venc_byte _
theorem pI_enc {n : Int} (h : inK .i64 n) (rest : List Int) : pI (encI n ++ rest) = .inr (n, (encI n).length) := by
  unfold pI encI
  rw [vd_enc (zz n) 0 rest (by omega) (by have := zz_lt h; simpa using this) (.inr rfl)]
  simp [unzz_zz]
theorem pI_dec {l : List Int} {n : Int} {k : Nat} (hb : Bytes l) (h : pI l = .inr (n, k)) : l.take k = encI n ∧ k ≤ l.length ∧ k = (encI n).length ∧ inK .i64 n := by
  unfold pI at h
  split at h
  · cases h
  · rename_i u k' hv
    simp only [Sum.inr.injEq, Prod.mk.injEq] at h
    obtain ⟨rfl, rfl⟩ := h
    obtain ⟨h1, h2, h3, h4, _⟩ := vd_dec l 0 u k' (by omega) hb hv
    unfold encI
    rw [zz_unzz]
    exact ⟨h1, h2, h3, unzz_in (by simpa using h4)⟩
theorem pI_err {l : List Int} {e : Int} (h : pI l = .inl e) : e = 11 ∨ e = 12 := by
  unfold pI at h
  split at h
  · rename_i e' hv
    obtain rfl := Sum.inl.inj h
    exact vd_err _ _ _ hv
  · cases h
theorem pI_cut {n : Int} (h : inK .i64 n) {j : Nat} (hj : j < (encI n).length) : pI ((encI n).take j) = .inl 11 := by
  unfold pI encI
  rw [vd_cut (zz n) 0 j (by omega) (by have := zz_lt h; simpa using this) (.inr rfl) hj]

/-! ### lists -/
def pN : Nat → List Int → Int ⊕ (List Int × Nat)
  | 0, _ => .inr ([], 0)
  | n + 1, l => match pI l with
    | .inl e => .inl e
    | .inr (x, k) => (match pN n (l.drop k) with
      | .inl e => .inl e
      | .inr (xs, m) => .inr (x :: xs, k + m))
def pL (l : List Int) : Int ⊕ (List Int × Nat) := match pI l with
  | .inl e => .inl e
  | .inr (n, k) => if n < 0 ∨ n > 64 then .inl 2 else (match pN n.toNat (l.drop k) with
    | .inl e => .inl e
    | .inr (xs, m) => .inr (xs, k + m))
def pS (x : Int) (k : Nat) (r : Int ⊕ (List Int × Nat)) : Int ⊕ (List Int × Nat) := match r with
  | .inl e => .inl e
  | .inr (xs, m) => .inr (x :: xs, k + m)
def pK (k : Nat) (r : Int ⊕ (List Int × Nat)) : Int ⊕ (List Int × Nat) := match r with
  | .inl e => .inl e
  | .inr (xs, m) => .inr (xs, k + m)
theorem pN_inl {n : Nat} {l : List Int} {e : Int} (h : pI l = .inl e) : pN (n + 1) l = .inl e := by simp only [pN, h]
theorem pN_inr {n : Nat} {l : List Int} {x : Int} {k : Nat} (h : pI l = .inr (x, k)) : pN (n + 1) l = pS x k (pN n (l.drop k)) := by
  simp only [pN, h]; unfold pS; cases pN n (l.drop k) <;> rfl
theorem pL_inl {l : List Int} {e : Int} (h : pI l = .inl e) : pL l = .inl e := by simp only [pL, h]
theorem pL_big {l : List Int} {n : Int} {k : Nat} (h : pI l = .inr (n, k)) (hn : n < 0 ∨ n > 64) : pL l = .inl 2 := by simp only [pL, h, if_pos hn]
theorem pL_inr {l : List Int} {n : Int} {k : Nat} (h : pI l = .inr (n, k)) (hn : ¬ (n < 0 ∨ n > 64)) : pL l = pK k (pN n.toNat (l.drop k)) := by
  simp only [pL, h, if_neg hn]; unfold pK; cases pN n.toNat (l.drop k) <;> rfl
def encN (xs : List Int) : List Int := xs.flatMap encI
def encL (xs : List Int) : List Int := encI (xs.length : Int) ++ encN xs
abbrev I64s (l : List Int) : Prop := ∀ x ∈ l, inK .i64 x

theorem inLen {n : Nat} (h : n ≤ 1000000) : inK .i64 (n : Int) := inI64.2 (by omega)

theorem encN_bytes (xs : List Int) : Bytes (encN xs) := fun c hc => by
  obtain ⟨x, _, h⟩ := List.mem_flatMap.1 hc
  exact encI_bytes x c h
theorem encL_bytes (xs : List Int) : Bytes (encL xs) := fun c hc => (List.mem_append.1 hc).elim (encI_bytes _ c) (encN_bytes xs c)
theorem encN_len : ∀ {xs : List Int}, I64s xs → (encN xs).length ≤ 10 * xs.length
  | [], _ => by simp [encN]
  | x :: xs, h => by
    have h1 := encI_len (h x (by simp))
    have h2 := encN_len (xs := xs) fun y hy => h y (by simp [hy])
    simp only [encN, List.flatMap_cons, List.length_append, List.length_cons] at h2 ⊢
    omega
theorem encL_len {xs : List Int} (h : I64s xs) (hl : xs.length ≤ 64) : (encL xs).length ≤ 650 := by
  have h1 := encI_len (inLen (n := xs.length) (by omega))
  have h2 := encN_len h
  simp only [encL, List.length_append]
  omega
theorem encL_pos (xs : List Int) : 0 < (encL xs).length := by
  have := encI_pos (xs.length : Int)
  simp only [encL, List.length_append]; omega

theorem pN_enc : ∀ (xs rest : List Int), I64s xs → pN xs.length (encN xs ++ rest) = .inr (xs, (encN xs).length)
  | [], rest, _ => rfl
  | x :: xs, rest, h => by
    have ih := pN_enc xs rest fun y hy => h y (by simp [hy])
    simp only [encN, List.flatMap_cons, List.length_cons, pN, List.append_assoc] at ih ⊢
    rw [pI_enc (h x (by simp))]
    simp only [List.drop_left, ih, List.length_append]

theorem pN_dec : ∀ (n : Nat) (l xs : List Int) (k : Nat), Bytes l → pN n l = .inr (xs, k) → l.take k = encN xs ∧ k ≤ l.length ∧ k = (encN xs).length ∧ xs.length = n ∧ I64s xs
  | 0, l, xs, k, _, h => by
    simp only [pN, Sum.inr.injEq, Prod.mk.injEq] at h
    obtain ⟨rfl, rfl⟩ := h
    exact ⟨by simp [encN], by simp, by simp [encN], rfl, fun x hx => by simp at hx⟩
  | n + 1, l, xs, k, hb, h => by
    simp only [pN] at h
    split at h
    · cases h
    · rename_i x k1 hx
      split at h
      · cases h
      · rename_i ys m hys
        simp only [Sum.inr.injEq, Prod.mk.injEq] at h
        obtain ⟨rfl, rfl⟩ := h
        obtain ⟨a1, a2, a3, a4⟩ := pI_dec hb hx
        obtain ⟨b1, b2, b3, b4, b5⟩ := pN_dec n _ _ _ (fun c hc => hb c (List.mem_of_mem_drop hc)) hys
        simp only [List.length_drop] at b2
        refine ⟨?_, by omega, ?_, by simp [b4], fun y hy => ?_⟩
        · simp only [encN, List.flatMap_cons] at b1 ⊢
          rw [← a1, ← b1, List.take_add]
        · simp only [encN, List.flatMap_cons, List.length_append] at b3 ⊢; omega
        · rcases List.mem_cons.1 hy with rfl | hy
          · exact a4
          · exact b5 y hy

theorem pL_enc {xs : List Int} (h : I64s xs) (hl : xs.length ≤ 64) (rest : List Int) : pL (encL xs ++ rest) = .inr (xs, (encL xs).length) := by
  unfold pL encL
  rw [List.append_assoc, pI_enc (inLen (n := xs.length) (by omega))]
  simp only []
  rw [if_neg (by omega)]
  simp only [List.drop_left, Int.toNat_natCast, pN_enc xs rest h, List.length_append]

theorem pL_dec {l xs : List Int} {k : Nat} (hb : Bytes l) (h : pL l = .inr (xs, k)) : l.take k = encL xs ∧ k ≤ l.length ∧ k = (encL xs).length ∧ xs.length ≤ 64 ∧ I64s xs := by
  unfold pL at h
  split at h
  · cases h
  · rename_i n k1 hn
    split at h
    · cases h
    · rename_i hno
      split at h
      · cases h
      · rename_i ys m hys
        simp only [Sum.inr.injEq, Prod.mk.injEq] at h
        obtain ⟨rfl, rfl⟩ := h
        obtain ⟨a1, a2, a3, a4⟩ := pI_dec hb hn
        obtain ⟨b1, b2, b3, b4, b5⟩ := pN_dec _ _ _ _ (fun c hc => hb c (List.mem_of_mem_drop hc)) hys
        simp only [List.length_drop] at b2
        have e : n = (ys.length : Int) := by omega
        unfold encL
        rw [← e]
        exact ⟨by rw [← a1, ← b1, List.take_add], by omega, by rw [List.length_append]; omega, by omega, b5⟩

theorem pN_cut : ∀ (xs : List Int) (j : Nat), I64s xs → j < (encN xs).length → ∃ e, pN xs.length ((encN xs).take j) = .inl e
  | [], j, _, hj => by simp [encN] at hj
  | x :: xs, j, h, hj => by
    have hx := h x (by simp)
    simp only [encN, List.flatMap_cons, List.length_cons, pN, List.length_append] at hj ⊢
    by_cases hjx : j < (encI x).length
    · rw [List.take_append_of_le_length (by omega), pI_cut hx hjx]
      exact ⟨_, rfl⟩
    · have e : (encI x ++ List.flatMap encI xs).take j = encI x ++ (encN xs).take (j - (encI x).length) := by
        rw [List.take_append, List.take_of_length_le (by omega)]; rfl
      rw [e, pI_enc hx]
      obtain ⟨e, he⟩ := pN_cut xs (j - (encI x).length) (fun y hy => h y (by simp [hy])) (by simp only [encN]; omega)
      simp only [List.drop_left, he]
      exact ⟨_, rfl⟩

theorem pL_cut {xs : List Int} (h : I64s xs) (hl : xs.length ≤ 64) {j : Nat} (hj : j < (encL xs).length) : ∃ e, pL ((encL xs).take j) = .inl e := by
  unfold encL at hj ⊢
  rw [List.length_append] at hj
  unfold pL
  have hn := inLen (n := xs.length) (by omega)
  by_cases hjx : j < (encI (xs.length : Int)).length
  · rw [List.take_append_of_le_length (by omega), pI_cut hn hjx]
    exact ⟨_, rfl⟩
  · have e : (encI (xs.length : Int) ++ encN xs).take j = encI (xs.length : Int) ++ (encN xs).take (j - (encI (xs.length : Int)).length) := by
      rw [List.take_append, List.take_of_length_le (by omega)]
    rw [e, pI_enc hn]
    simp only []
    rw [if_neg (by omega)]
    obtain ⟨e, he⟩ := pN_cut xs (j - (encI (xs.length : Int)).length) h (by omega)
    simp only [List.drop_left, Int.toNat_natCast, he]
    exact ⟨_, rfl⟩
end Go.RX

set_option linter.unusedSimpArgs false
set_option linter.unusedVariables false
namespace Go.RX
open Go

theorem ofInt8 {n : Nat} (h : n < 256) : (BitVec.ofInt IntKind.u8.bits (n : Int)).toNat = n := by
  rw [BitVec.ofInt_natCast, show IntKind.u8.bits = 8 from rfl, BitVec.toNat_ofNat, Nat.mod_eq_of_lt (by omega)]
theorem wrapU8 {n : Nat} (h : n < 256) : IntKind.u8.wrap (n : Int) = n := wU8 (by omega) (by omega)
theorem and127 {c : Nat} (h : c < 256) : andI .u8 c 127 = ((c % 128 : Nat) : Int) := by
  unfold andI
  rw [show (127 : Int) = ((127 : Nat) : Int) from rfl, BitVec.toNat_and, ofInt8 h, ofInt8 (by omega), show (127 : Nat) = 2 ^ 7 - 1 from rfl, Nat.and_two_pow_sub_one_eq_mod, wrapU8 (by omega)]
theorem and127' {u : Nat} (h : u < 18446744073709551616) : andI .u64 u 127 = ((u % 128 : Nat) : Int) := by
  rw [show (127 : Int) = ((127 : Nat) : Int) from rfl, andI64 h (by omega), show (127 : Nat) = 2 ^ 7 - 1 from rfl, Nat.and_two_pow_sub_one_eq_mod]
theorem andOne {u : Nat} (h : u < 18446744073709551616) : andI .u64 u 1 = ((u % 2 : Nat) : Int) := by
  rw [show (1 : Int) = ((1 : Nat) : Int) from rfl, andI64 h (by omega), show (1 : Nat) = 2 ^ 1 - 1 from rfl, Nat.and_two_pow_sub_one_eq_mod]
theorem or128 {a : Nat} (h : a < 256) : orI .u8 a 128 = ((a % 128 + 128 : Nat) : Int) := by
  have key : ∀ a, a < 256 → a ||| 128 = a % 128 + 128 := by decide +kernel
  unfold orI
  rw [show (128 : Int) = ((128 : Nat) : Int) from rfl, BitVec.toNat_or, ofInt8 h, ofInt8 (by omega), key a h, wrapU8 (by omega)]
theorem wrapU8_mod (u : Nat) : IntKind.u8.wrap (u : Int) = ((u % 256 : Nat) : Int) := by
  simp only [IntKind.wrap, IntKind.signed, IntKind.bits]
  simp
theorem shr7 (u : Nat) : shrI .u64 u 7 = ((u / 128 : Nat) : Int) := shrI64 (a := u) (k := 7) (by decide)
theorem shr1 (u : Nat) : shrI .u64 u 1 = ((u / 2 : Nat) : Int) := shrI64 (a := u) (k := 1) (by decide)

theorem or_shl {u p s : Nat} (hu : u < 2 ^ s) (hp : u + p * 2 ^ s < 18446744073709551616) (hs : s ≤ 64) : orI .u64 u (shlI .u64 p s) = ((u + p * 2 ^ s : Nat) : Int) := by
  have h1 : shlI .u64 p s = ((p * 2 ^ s : Nat) : Int) := by
    unfold shlI
    have e : min (s : Int).toNat IntKind.u64.bits = s := by simp [IntKind.bits]; omega
    rw [e, show ((p : Int) * (2 : Int) ^ s) = ((p * 2 ^ s : Nat) : Int) by norm_cast, wrapU64 (by omega)]
  have hu' : u < 18446744073709551616 := by omega
  rw [h1, orI64 hu' (by omega)]
  congr 1
  rw [Nat.or_comm, Nat.mul_comm, ← Nat.two_pow_add_eq_or_of_lt hu, Nat.mul_comm, Nat.add_comm]

theorem ofIntI {n : Int} (h : inK .i64 n) : (BitVec.ofInt IntKind.i64.bits n).toInt = n := by
  have := inI64.1 h
  rw [BitVec.toInt_ofInt, show IntKind.i64.bits = 64 from rfl]
  exact Int.bmod_eq_of_le (by omega) (by omega)
theorem wrapI64_nat (n : Nat) (h : n < 18446744073709551616) : IntKind.i64.wrap (n : Int) = if n < 9223372036854775808 then (n : Int) else (n : Int) - 18446744073709551616 := by
  simp only [IntKind.wrap, IntKind.signed, IntKind.bits]
  simp
  split <;> split <;> omega
theorem toNatNeg1 : (BitVec.ofInt IntKind.i64.bits (-1)).toNat = 18446744073709551615 := by decide
theorem toNatI {n : Nat} (h : n < 9223372036854775808) : (BitVec.ofInt IntKind.i64.bits (n : Int)).toNat = n := by
  rw [BitVec.ofInt_natCast, show IntKind.i64.bits = 64 from rfl, BitVec.toNat_ofNat, Nat.mod_eq_of_lt (by omega)]
theorem xor_neg {n : Nat} (h : n < 9223372036854775808) : xorI .i64 n (-1) = -(n : Int) - 1 := by
  unfold xorI
  have e : BitVec.ofInt IntKind.i64.bits (-1) = BitVec.allOnes IntKind.i64.bits := by decide
  rw [e, BitVec.xor_allOnes, BitVec.toNat_not, toNatI h, show IntKind.i64.bits = 64 from rfl, wrapI64_nat _ (by omega), if_neg (by omega)]
  omega
theorem neg_xor {n : Nat} (h : n < 9223372036854775808) : xorI .i64 (-1) n = -(n : Int) - 1 := by
  rw [← xor_neg h]
  unfold xorI
  rw [BitVec.xor_comm]
theorem xor_zero {n : Nat} (h : n < 9223372036854775808) : xorI .i64 n 0 = n := by
  unfold xorI
  have e : BitVec.ofInt IntKind.i64.bits 0 = 0#_ := by decide
  rw [e, BitVec.xor_zero, toNatI h, wrapI64_nat _ (by omega), if_pos h]

/-- What is read back of a number. -/
theorem unzz_xor {u : Nat} (h : u < 18446744073709551616) : xorI .i64 (IntKind.i64.wrap (shrI .u64 u 1)) (IntKind.i64.wrap ((0 : Int) - (IntKind.i64.wrap (andI .u64 u 1)))) = unzz u := by
  rw [shr1, andOne h, wI64 (n := ((u / 2 : Nat) : Int)) (by omega) (by omega), wI64 (n := ((u % 2 : Nat) : Int)) (by omega) (by omega)]
  unfold unzz
  rcases Nat.mod_two_eq_zero_or_one u with h1 | h1
  · rw [h1, if_pos rfl]
    simp only [Int.natCast_zero, Int.sub_zero]
    rw [wI64 (by omega) (by omega), xor_zero (by omega)]
  · rw [h1, if_neg (by omega)]
    rw [wI64 (by omega) (by omega), show (0 : Int) - ((1 : Nat) : Int) = -1 by omega, xor_neg (by omega)]

theorem wrapUI (n : Int) : IntKind.u64.wrap (IntKind.i64.wrap n) = n % 18446744073709551616 := by
  simp only [IntKind.wrap, IntKind.signed, IntKind.bits]
  simp
  split <;> omega
theorem wrapUmod (n : Int) : IntKind.u64.wrap n = n % 18446744073709551616 := by
  simp only [IntKind.wrap, IntKind.signed, IntKind.bits]
  simp
theorem xorU_zero {n : Nat} (h : n < 18446744073709551616) : xorI .u64 n 0 = n := by
  unfold xorI
  have e : BitVec.ofInt IntKind.u64.bits 0 = 0#_ := by decide
  rw [e, BitVec.xor_zero, ofInt64 h, wrapU64 h]
theorem xorU_ones {n : Nat} (h : n < 18446744073709551616) : xorI .u64 n 18446744073709551615 = ((18446744073709551615 - n : Nat) : Int) := by
  unfold xorI
  have e : BitVec.ofInt IntKind.u64.bits 18446744073709551615 = BitVec.allOnes IntKind.u64.bits := by decide
  rw [e, BitVec.xor_allOnes, BitVec.toNat_not, ofInt64 h, show IntKind.u64.bits = 64 from rfl, show 2 ^ 64 - 1 - n = 18446744073709551615 - n by omega, wrapU64 (by omega)]
theorem xorU_ones' {n : Nat} (h : n < 18446744073709551616) : xorI .u64 18446744073709551615 n = ((18446744073709551615 - n : Nat) : Int) := by
  rw [← xorU_ones h]
  unfold xorI
  rw [BitVec.xor_comm]

/-- A number, zigzag. -/
theorem zz_xor {t : Int} (h : inK .i64 t) : xorI .u64 (IntKind.u64.wrap (shlI .i64 t 1)) (IntKind.u64.wrap (shrI .i64 t 63)) = (zz t : Int) := by
  have ht := inI64.1 h
  have e1 : IntKind.u64.wrap (shlI .i64 t 1) = (t * 2) % 18446744073709551616 := by
    unfold shlI
    rw [show min (1 : Int).toNat IntKind.i64.bits = 1 from rfl, wrapUI, show (2 : Int) ^ 1 = 2 from rfl]
  have e2 : shrI .i64 t 63 = if 0 ≤ t then 0 else -1 := by
    unfold shrI
    rw [show min (63 : Int).toNat IntKind.i64.bits = 63 from rfl]
    have e63 : (2 : Int) ^ 63 = 9223372036854775808 := rfl
    rw [e63, Int.fdiv_eq_ediv_of_nonneg _ (by omega)]
    split <;> omega
  rw [e1, e2]
  unfold zz
  split
  · rename_i h0
    obtain ⟨n, rfl⟩ := Int.eq_ofNat_of_zero_le h0
    rw [show IntKind.u64.wrap 0 = 0 from rfl, show ((n : Int) * 2) % 18446744073709551616 = ((2 * n : Nat) : Int) by omega, xorU_zero (by omega)]
    simp
  · rename_i h0
    obtain ⟨n, hn⟩ := Int.eq_ofNat_of_zero_le (show 0 ≤ -t by omega)
    have : t = -(n : Int) := by omega
    subst this
    rw [show IntKind.u64.wrap (-1) = 18446744073709551615 from rfl, show (-(n : Int) * 2) % 18446744073709551616 = ((18446744073709551616 - 2 * n : Nat) : Int) by omega, xorU_ones (by omega)]
    congr 1
    simp
    omega

theorem zz_ref {t : Int} (h : inK .i64 t) : (if t < 0 then xorI .u64 18446744073709551615 (shlI .u64 (IntKind.u64.wrap t) 1) else shlI .u64 (IntKind.u64.wrap t) 1) = (zz t : Int) := by
  have ht := inI64.1 h
  have e1 : shlI .u64 (IntKind.u64.wrap t) 1 = (t * 2) % 18446744073709551616 := by
    unfold shlI
    rw [show min (1 : Int).toNat IntKind.u64.bits = 1 from rfl, wrapUmod, wrapUmod, show (2 : Int) ^ 1 = 2 from rfl]
    omega
  rw [e1]
  unfold zz
  by_cases h0 : 0 ≤ t
  · obtain ⟨n, rfl⟩ := Int.eq_ofNat_of_zero_le h0
    rw [if_neg (by omega), if_pos h0]
    simp; omega
  · obtain ⟨n, hn⟩ := Int.eq_ofNat_of_zero_le (show 0 ≤ -t by omega)
    have : t = -(n : Int) := by omega
    subst this
    rw [if_pos (by omega), if_neg h0, show (-(n : Int) * 2) % 18446744073709551616 = ((18446744073709551616 - 2 * n : Nat) : Int) by omega, xorU_ones' (by omega)]
    congr 1
    simp
    omega
end Go.RX

set_option linter.unusedSimpArgs false
set_option linter.unusedVariables false
namespace Go.RX
open Go

/-! ### one bit of a check sum -/
def cstep (r : Nat) : Nat := if r % 2 = 1 then r / 2 ^^^ 3988292384 else r / 2
def citer : Nat → Nat → Nat
  | 0, r => r
  | n + 1, r => citer n (cstep r)

theorem cstep_lt {r : Nat} (h : r < 4294967296) : cstep r < 4294967296 := by
  unfold cstep
  split
  · exact Nat.xor_lt_two_pow (n := 32) (by omega) (by decide)
  · omega
theorem citer_lt : ∀ (n : Nat) {r : Nat}, r < 4294967296 → citer n r < 4294967296
  | 0, _, h => h
  | n + 1, _, h => citer_lt n (cstep_lt h)
theorem cstep_inj {a b : Nat} (ha : a < 4294967296) (hb : b < 4294967296) (h : cstep a = cstep b) : a = b := by
  have top : ∀ x, x < 2147483648 → (x ^^^ 3988292384).testBit 31 = true := fun x hx => by
    rw [Nat.testBit_xor, Nat.testBit_lt_two_pow (x := x) (i := 31) (by omega)]
    decide
  have low : ∀ x, x < 2147483648 → x.testBit 31 = false := fun x hx => Nat.testBit_lt_two_pow (by omega)
  unfold cstep at h
  split at h <;> split at h
  · have h2 : a / 2 = b / 2 := by
      have := congrArg (fun x => x ^^^ 3988292384) h
      simpa [Nat.xor_assoc] using this
    omega
  · have := top (a / 2) (by omega)
    rw [h, low (b / 2) (by omega)] at this; cases this
  · have := top (b / 2) (by omega)
    rw [← h, low (a / 2) (by omega)] at this; cases this
  · omega
theorem citer_inj : ∀ (n : Nat) {a b : Nat}, a < 4294967296 → b < 4294967296 → citer n a = citer n b → a = b
  | 0, _, _, _, _, h => h
  | n + 1, _, _, ha, hb, h => cstep_inj ha hb (citer_inj n (cstep_lt ha) (cstep_lt hb) h)

theorem cstep_xor (a b : Nat) : cstep (a ^^^ b) = cstep a ^^^ cstep b := by
  have h1 : (a ^^^ b) / 2 = a / 2 ^^^ b / 2 := Nat.xor_div_two
  have h2 : (a ^^^ b) % 2 = (a + b) % 2 := by
    have h := Nat.xor_mod_two_pow (a := a) (b := b) (n := 1)
    rw [show 2 ^ 1 = 2 from rfl] at h
    rw [h]
    rcases Nat.mod_two_eq_zero_or_one a with ha | ha <;> rcases Nat.mod_two_eq_zero_or_one b with hb | hb <;> rw [ha, hb]
    · show 0 = _; omega
    · show 1 = _; omega
    · show 1 = _; omega
    · show 0 = _; omega
  unfold cstep
  rw [h1, h2]
  rcases Nat.mod_two_eq_zero_or_one a with ha | ha <;> rcases Nat.mod_two_eq_zero_or_one b with hb | hb
  · rw [if_neg (by omega), if_neg (by omega), if_neg (by omega)]
  · rw [if_pos (by omega), if_neg (by omega), if_pos hb, Nat.xor_assoc]
  · rw [if_pos (by omega), if_pos ha, if_neg (by omega), Nat.xor_assoc, Nat.xor_assoc, Nat.xor_comm (b / 2)]
  · rw [if_neg (by omega), if_pos ha, if_pos hb, Nat.xor_assoc, Nat.xor_comm (b / 2) 3988292384, ← Nat.xor_assoc 3988292384, Nat.xor_self, Nat.zero_xor]
theorem citer_xor : ∀ (n a b : Nat), citer n (a ^^^ b) = citer n a ^^^ citer n b
  | 0, _, _ => rfl
  | n + 1, a, b => by simp only [citer, cstep_xor, citer_xor n]
theorem citer_shift : ∀ (n a : Nat), citer n (2 ^ n * a) = a
  | 0, a => by simp [citer]
  | n + 1, a => by
    have : cstep (2 ^ (n + 1) * a) = 2 ^ n * a := by
      rw [Nat.pow_succ, Nat.mul_comm (2 ^ n) 2, Nat.mul_assoc]
      unfold cstep
      rw [if_neg (by omega)]
      omega
    simp only [citer, this, citer_shift n a]
theorem xor_split (r : Nat) : r = 16 * (r / 16) ^^^ r % 16 := by
  have h := Nat.two_pow_add_eq_or_of_lt (i := 4) (b := r % 16) (by omega) (r / 16)
  have e : 2 ^ 4 * (r / 16) ^^^ r % 16 = 2 ^ 4 * (r / 16) ||| r % 16 := by
    refine Nat.eq_of_testBit_eq fun j => ?_
    rw [Nat.testBit_xor, Nat.testBit_or]
    by_cases hj : j < 4
    · have : (2 ^ 4 * (r / 16)).testBit j = false := by rw [Nat.testBit_two_pow_mul]; simp; omega
      rw [this]; simp
    · have : (r % 16).testBit j = false := Nat.testBit_lt_two_pow (Nat.lt_of_lt_of_le (show r % 16 < 2 ^ 4 by omega) (Nat.pow_le_pow_right (by decide) (by omega)))
      rw [this]; simp
  rw [show (16 : Nat) = 2 ^ 4 from rfl] at *
  omega
theorem citer_four (r : Nat) : citer 4 r = r / 16 ^^^ citer 4 (r % 16) := by
  conv => lhs; rw [xor_split r]
  rw [citer_xor, show (16 : Nat) = 2 ^ 4 from rfl, citer_shift]
theorem citer_add : ∀ (m n r : Nat), citer (m + n) r = citer n (citer m r)
  | 0, n, r => by simp [citer]
  | m + 1, n, r => by rw [show m + 1 + n = (m + n) + 1 by omega]; simp only [citer, citer_add m n]

/-! ### a byte, bytes -/
def cupd (r : Nat) (c : Int) : Nat := citer 8 (r ^^^ c.toNat)
def cfold : Nat → List Int → Nat
  | r, [] => r
  | r, c :: l => cfold (cupd r c) l
/-- The check sum of more behind those of a sum. -/
def crcAdd (s : Nat) (l : List Int) : Nat := 4294967295 - cfold (4294967295 - s) l
def crc (l : List Int) : Nat := crcAdd 0 l

theorem xor32 {r : Nat} {c : Int} (hr : r < 4294967296) (hc : 0 ≤ c ∧ c ≤ 255) : r ^^^ c.toNat < 4294967296 := Nat.xor_lt_two_pow (n := 32) hr (by omega)
theorem cupd_lt {r : Nat} {c : Int} (hr : r < 4294967296) (hc : 0 ≤ c ∧ c ≤ 255) : cupd r c < 4294967296 := citer_lt 8 (xor32 hr hc)
theorem xor_cancel {a b x : Nat} (h : a ^^^ x = b ^^^ x) : a = b := by
  have := congrArg (fun y => y ^^^ x) h
  simpa [Nat.xor_assoc] using this
theorem xor_cancel' {a b x : Nat} (h : x ^^^ a = x ^^^ b) : a = b := by
  rw [Nat.xor_comm x a, Nat.xor_comm x b] at h; exact xor_cancel h
theorem cupd_inj {a b : Nat} {c : Int} (ha : a < 4294967296) (hb : b < 4294967296) (hc : 0 ≤ c ∧ c ≤ 255) (h : cupd a c = cupd b c) : a = b :=
  xor_cancel (citer_inj 8 (xor32 ha hc) (xor32 hb hc) h)
theorem cupd_byte {r : Nat} {c d : Int} (hr : r < 4294967296) (hc : 0 ≤ c ∧ c ≤ 255) (hd : 0 ≤ d ∧ d ≤ 255) (h : cupd r c = cupd r d) : c = d := by
  have := xor_cancel' (citer_inj 8 (xor32 hr hc) (xor32 hr hd) h)
  omega
theorem cfold_lt : ∀ (l : List Int) {r : Nat}, r < 4294967296 → Bytes l → cfold r l < 4294967296
  | [], _, h, _ => h
  | c :: l, _, h, hb => cfold_lt l (cupd_lt h (hb c (by simp))) fun d hd => hb d (by simp [hd])
theorem cfold_inj : ∀ (l : List Int) {a b : Nat}, a < 4294967296 → b < 4294967296 → Bytes l → cfold a l = cfold b l → a = b
  | [], _, _, _, _, _, h => h
  | c :: l, _, _, ha, hb, hl, h => cupd_inj ha hb (hl c (by simp)) (cfold_inj l (cupd_lt ha (hl c (by simp))) (cupd_lt hb (hl c (by simp))) (fun d hd => hl d (by simp [hd])) h)
/-- One byte that turns, turns the sum. -/
theorem cfold_turn : ∀ (l : List Int) (r i : Nat) (d : Int) (h : i < l.length), r < 4294967296 → Bytes l → 0 ≤ d ∧ d ≤ 255 → cfold r (l.set i d) = cfold r l → l[i] = d
  | c :: l, r, 0, d, _, hr, hl, hd, h => by
    have hb : Bytes l := fun x hx => hl x (by simp [hx])
    have hc := hl c (by simp)
    exact (cupd_byte hr hd hc (cfold_inj l (cupd_lt hr hd) (cupd_lt hr hc) hb h)).symm
  | c :: l, r, i + 1, d, h, hr, hl, hd, he => by
    have hb : Bytes l := fun x hx => hl x (by simp [hx])
    have := cfold_turn l (cupd r c) i d (by simpa using h) (cupd_lt hr (hl c (by simp))) hb hd he
    simpa using this
theorem crc_lt (l : List Int) : crc l < 4294967296 := by unfold crc crcAdd; omega
theorem crc_turn {l : List Int} {i : Nat} {d : Int} (h : i < l.length) (hl : Bytes l) (hd : 0 ≤ d ∧ d ≤ 255) (he : crc (l.set i d) = crc l) : l[i] = d := by
  have hs : Bytes (l.set i d) := fun c hc => by
    rcases List.mem_or_eq_of_mem_set hc with hc | rfl
    · exact hl c hc
    · exact hd
  have h1 := cfold_lt l (r := 4294967295) (by omega) hl
  have h2 := cfold_lt (l.set i d) (r := 4294967295) (by omega) hs
  refine cfold_turn l 4294967295 i d h (by omega) hl hd ?_
  unfold crc crcAdd at he
  simp only [Nat.sub_zero] at he
  omega

/-! ### four bytes of a number -/
def be4 (s : Nat) : List Int := [((s / 16777216 % 256 : Nat) : Int), ((s / 65536 % 256 : Nat) : Int), ((s / 256 % 256 : Nat) : Int), ((s % 256 : Nat) : Int)]
def numB : Nat → List Int → Nat
  | n, [] => n
  | n, c :: l => numB (n * 256 + c.toNat) l
theorem be4_bytes (s : Nat) : Bytes (be4 s) := fun c hc => by
  simp only [be4, List.mem_cons, List.not_mem_nil, or_false] at hc
  rcases hc with rfl | rfl | rfl | rfl <;> omega
theorem numB_be4 {s : Nat} (h : s < 4294967296) : numB 0 (be4 s) = s := by
  simp only [be4, numB, Int.toNat_natCast]
  omega
theorem be4_num {a b c d : Int} (ha : 0 ≤ a ∧ a ≤ 255) (hb : 0 ≤ b ∧ b ≤ 255) (hc : 0 ≤ c ∧ c ≤ 255) (hd : 0 ≤ d ∧ d ≤ 255) : be4 (numB 0 [a, b, c, d]) = [a, b, c, d] := by
  simp only [numB, be4, List.cons.injEq, and_true]
  omega
theorem numB_lt {a b c d : Int} (ha : 0 ≤ a ∧ a ≤ 255) (hb : 0 ≤ b ∧ b ≤ 255) (hc : 0 ≤ c ∧ c ≤ 255) (hd : 0 ≤ d ∧ d ≤ 255) : numB 0 [a, b, c, d] < 4294967296 := by
  simp only [numB]; omega

/-! ### frames -/
/-- What a frame's sum is of. -/
def inner (k : Int) (body : List Int) : List Int := k :: ((body.length / 256 : Nat) : Int) :: ((body.length % 256 : Nat) : Int) :: body
def encF (k : Int) (body : List Int) : List Int := 247 :: (inner k body ++ be4 (crc (inner k body)))
/-- The frame that stands in front: its kind, its body, how many bytes it has; or why there is none. -/
def pF (l : List Int) : Int ⊕ (Int × List Int × Nat) := match l with
  | [] => .inl 31
  | m :: _ => if m ≠ 247 then .inl 32 else if l.length < 8 then .inl 31 else
    if 8192 < numB 0 [l.getD 2 0, l.getD 3 0] then .inl 2 else
    if l.length < numB 0 [l.getD 2 0, l.getD 3 0] + 8 then .inl 31 else
    if crc ((l.drop 1).take (numB 0 [l.getD 2 0, l.getD 3 0] + 3)) ≠ numB 0 ((l.drop (numB 0 [l.getD 2 0, l.getD 3 0] + 4)).take 4) then .inl 33 else
    .inr (l.getD 1 0, (l.drop 4).take (numB 0 [l.getD 2 0, l.getD 3 0]), numB 0 [l.getD 2 0, l.getD 3 0] + 8)

theorem inner_len (k : Int) (body : List Int) : (inner k body).length = body.length + 3 := by simp [inner]
theorem encF_len (k : Int) (body : List Int) : (encF k body).length = body.length + 8 := by simp [encF, inner_len, be4]
theorem inner_bytes {k : Int} {body : List Int} (hk : 0 ≤ k ∧ k ≤ 255) (hb : Bytes body) (hl : body.length ≤ 65535) : Bytes (inner k body) := fun c hc => by
  simp only [inner, List.mem_cons] at hc
  rcases hc with rfl | rfl | rfl | hc
  · exact hk
  · omega
  · omega
  · exact hb c hc
theorem encF_bytes {k : Int} {body : List Int} (hk : 0 ≤ k ∧ k ≤ 255) (hb : Bytes body) (hl : body.length ≤ 65535) : Bytes (encF k body) := fun c hc => by
  simp only [encF, List.mem_cons, List.mem_append] at hc
  rcases hc with rfl | hc | hc
  · omega
  · exact inner_bytes hk hb hl c hc
  · exact be4_bytes _ c hc

theorem pF_enc {k : Int} {body : List Int} (hk : 0 ≤ k ∧ k ≤ 255) (hb : Bytes body) (hl : body.length ≤ 8192) (rest : List Int) : pF (encF k body ++ rest) = .inr (k, body, body.length + 8) := by
  have hn : numB 0 [((body.length / 256 : Nat) : Int), ((body.length % 256 : Nat) : Int)] = body.length := by
    simp only [numB, Int.toNat_natCast]; omega
  have e2 : (encF k body ++ rest).getD 2 0 = ((body.length / 256 : Nat) : Int) := rfl
  have e3 : (encF k body ++ rest).getD 3 0 = ((body.length % 256 : Nat) : Int) := rfl
  have e1 : (encF k body ++ rest).getD 1 0 = k := rfl
  have hlen : (encF k body ++ rest).length = body.length + 8 + rest.length := by rw [List.length_append, encF_len]
  have d1 : ((encF k body ++ rest).drop 1).take (body.length + 3) = inner k body := by
    show ((inner k body ++ be4 _) ++ rest).take (body.length + 3) = inner k body
    rw [List.append_assoc, ← inner_len k body, List.take_left]
  have d2 : ((encF k body ++ rest).drop (body.length + 4)).take 4 = be4 (crc (inner k body)) := by
    show (((inner k body ++ be4 _) ++ rest).drop (body.length + 3)).take 4 = _
    rw [List.append_assoc, ← inner_len k body, List.drop_left]
    rfl
  have d3 : ((encF k body ++ rest).drop 4).take body.length = body := by
    show (((body ++ be4 _) ++ rest)).take body.length = body
    rw [List.append_assoc, List.take_left]
  have hx : ∃ x, encF k body ++ rest = 247 :: x := ⟨_, rfl⟩
  obtain ⟨x, hx⟩ := hx
  have key : pF (247 :: x) = .inr (k, body, body.length + 8) := by
    rw [hx] at e1 e2 e3 hlen d1 d2 d3
    simp only [pF, e1, e2, e3, hn, hlen, d1, d2, d3]
    rw [if_neg (by simp), if_neg (by omega), if_neg (by omega), if_neg (by omega), if_neg (by rw [numB_be4 (crc_lt _)]; simp)]
  rw [hx]; exact key

theorem cons3 : ∀ {l : List Int}, 3 ≤ l.length → ∃ a b c r, l = a :: b :: c :: r
  | a :: b :: c :: r, _ => ⟨a, b, c, r, rfl⟩
  | [], h => by simp at h
  | [_], h => by simp at h
  | [_, _], h => by simp at h
theorem four4 : ∀ {l : List Int}, l.length = 4 → ∃ a b c d, l = [a, b, c, d]
  | [a, b, c, d], _ => ⟨a, b, c, d, rfl⟩

theorem pF_dec {l : List Int} {k : Int} {body : List Int} {m : Nat} (hb : Bytes l) (h : pF l = .inr (k, body, m)) : l.take m = encF k body ∧ m ≤ l.length ∧ m = body.length + 8 ∧ body.length ≤ 8192 ∧ (0 ≤ k ∧ k ≤ 255) ∧ Bytes body := by
  unfold pF at h
  split at h
  · cases h
  · rename_i m0 l0
    split at h
    · cases h
    · rename_i h1
      split at h
      · cases h
      · rename_i h2
        split at h
        · cases h
        · rename_i h3
          split at h
          · cases h
          · rename_i h4
            split at h
            · cases h
            · rename_i h5
              simp only [Sum.inr.injEq, Prod.mk.injEq] at h
              obtain ⟨rfl, rfl, rfl⟩ := h
              simp only [ne_eq, Decidable.not_not] at h1 h5
              subst h1
              obtain ⟨k, a, b, r, rfl⟩ := cons3 (l := l0) (by simp only [List.length_cons] at h2; omega)
              have ha := hb a (by simp)
              have hbb := hb b (by simp)
              have hk := hb k (by simp)
              simp only [List.getD_cons_succ, List.getD_cons_zero, List.length_cons, List.drop_succ_cons, List.drop_zero] at h2 h3 h4 h5 ⊢
              generalize hn : numB 0 [a, b] = n at *
              have hn' : n = a.toNat * 256 + b.toNat := by rw [← hn]; simp [numB]
              have hlen : (r.take n).length = n := by rw [List.length_take]; omega
              have e1 : ((n / 256 : Nat) : Int) = a := by omega
              have e2 : ((n % 256 : Nat) : Int) = b := by omega
              have hin : inner k (r.take n) = (k :: a :: b :: r).take (n + 3) := by
                simp only [inner, hlen, e1, e2, List.take_succ_cons]
              have h4b : ∃ x y z u, (r.drop n).take 4 = [x, y, z, u] := by
                exact four4 (by rw [List.length_take, List.length_drop]; omega)
              obtain ⟨x, y, z, u, hxyz⟩ := h4b
              have hmem : ∀ c ∈ [x, y, z, u], 0 ≤ c ∧ c ≤ 255 := fun c hc => hb c (by
                rw [← hxyz] at hc
                simp only [List.mem_cons]
                exact .inr (.inr (.inr (.inr (List.mem_of_mem_drop (List.mem_of_mem_take hc))))))
              refine ⟨?_, by omega, by omega, by omega, hk, fun c hc => hb c (by simp only [List.mem_cons]; exact .inr (.inr (.inr (.inr (List.mem_of_mem_take hc)))))⟩
              unfold encF
              rw [hin, h5, hxyz, be4_num (hmem x (by simp)) (hmem y (by simp)) (hmem z (by simp)) (hmem u (by simp)), ← hxyz]
              rw [show n + 8 = (n + 7) + 1 from rfl, List.take_succ_cons, show n + 7 = (n + 3) + 4 from rfl, List.take_add]
              rfl

theorem pF_err {l : List Int} {e : Int} (h : pF l = .inl e) : e = 31 ∨ e = 32 ∨ e = 2 ∨ e = 33 := by
  unfold pF at h
  split at h
  · simp at h; omega
  · split at h
    · simp at h; omega
    · split at h
      · simp at h; omega
      · split at h
        · simp at h; omega
        · split at h
          · simp at h; omega
          · split at h
            · simp at h; omega
            · cases h

/-- A frame, cut, is none. -/
theorem pF_cut {k : Int} {body : List Int} (hk : 0 ≤ k ∧ k ≤ 255) (hb : Bytes body) (hl : body.length ≤ 8192) {j : Nat} (hj : j < body.length + 8) : ∃ e, pF ((encF k body).take j) = .inl e := by
  cases h : pF ((encF k body).take j) with
  | inl e => exact ⟨e, rfl⟩
  | inr x =>
    exfalso
    obtain ⟨k', body', m⟩ := x
    have hbb : Bytes ((encF k body).take j) := fun c hc => encF_bytes hk hb (by omega) c (List.mem_of_mem_take hc)
    obtain ⟨a1, a2, a3, a4, a5, a6⟩ := pF_dec hbb h
    have h1 := pF_enc hk hb hl []
    rw [List.append_nil] at h1
    have hs : encF k body = encF k' body' ++ (encF k body).drop m := by
      rw [← a1, List.take_take, Nat.min_eq_left (by rw [List.length_take] at a2; omega), List.take_append_drop]
    rw [hs, pF_enc a5 a6 a4] at h1
    simp only [Sum.inr.injEq, Prod.mk.injEq] at h1
    rw [List.length_take, encF_len] at a2
    omega
end Go.RX
