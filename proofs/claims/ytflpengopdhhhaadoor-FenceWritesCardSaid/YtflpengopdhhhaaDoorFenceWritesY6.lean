/-
  Words and walks for FenceWrites. No condition.
-/
import Derived.Test.YtflpengopdhhhaaDoorFenceWritesX5
set_option linter.unusedSectionVars false
set_option linter.unnecessarySimpa false
set_option linter.unusedSimpArgs false
set_option linter.unusedVariables false
namespace Go.RX
open Go
/-! ### zigzag -/
def zz (n : Int) : Nat := if 0 ≤ n then 2 * n.toNat else 2 * (-n).toNat - 1
theorem zz_lt {n : Int} (h : inK .i64 n) : zz n < 18446744073709551616 := by
  have := inI64.1 h
  unfold zz
  split <;> omega
/-! ### a number's bytes -/
def venc (u : Nat) : List Int := if h : u < 128 then [(u : Int)] else ((u % 128 + 128 : Nat) : Int) :: venc (u / 128)
termination_by u
decreasing_by omega
theorem venc_lt {u : Nat} (h : u < 128) : venc u = [(u : Int)] := by rw [venc, dif_pos h]
theorem venc_ge {u : Nat} (h : 128 ≤ u) : venc u = ((u % 128 + 128 : Nat) : Int) :: venc (u / 128) := by rw [venc, dif_neg (by omega)]
theorem venc_len : ∀ (k u : Nat), u < 2 ^ (7 * k) → 0 < k → (venc u).length ≤ k
  | 0, _, _, h => absurd h (by simp)
  | k + 1, u, h, _ => by
    by_cases hu : u < 128
    · rw [venc_lt hu]; simp
    · rw [venc_ge (by omega)]
      have h' : u / 128 < 2 ^ (7 * k) := by
        rw [Nat.div_lt_iff_lt_mul (by decide)]
        have : 2 ^ (7 * (k + 1)) = 2 ^ (7 * k) * 128 := by rw [Nat.mul_succ, Nat.pow_add]
        omega
      have hk : 0 < k := by
        rcases Nat.eq_zero_or_pos k with rfl | hk
        · simp at h; omega
        · exact hk
      have := venc_len k _ h' hk
      simp; omega
theorem venc_ten {u : Nat} (h : u < 18446744073709551616) : (venc u).length ≤ 10 := venc_len 10 u (by
  have : (2 : Nat) ^ (7 * 10) = 1180591620717411303424 := by decide
  omega) (by decide)
theorem venc_byte : ∀ (u : Nat), ∀ c ∈ venc u, 0 ≤ c ∧ c ≤ 255 := by
  intro u
  induction u using Nat.strongRecOn with
  | ind u ih =>
    intro c hc
    by_cases h : u < 128
    · rw [venc_lt h] at hc; simp at hc; omega
    · rw [venc_ge (by omega)] at hc
      rcases List.mem_cons.1 hc with rfl | hc
      · omega
      · exact ih _ (by omega) c hc
/-! ### numbers -/
def encI (n : Int) : List Int := venc (zz n)
abbrev Bytes (l : List Int) : Prop := ∀ c ∈ l, 0 ≤ c ∧ c ≤ 255
theorem encI_len {n : Int} (h : inK .i64 n) : (encI n).length ≤ 10 := venc_ten (zz_lt h)
theorem encI_bytes (n : Int) : Bytes (encI n) := venc_byte _
/-! ### lists -/
def encN (xs : List Int) : List Int := xs.flatMap encI
def encL (xs : List Int) : List Int := encI (xs.length : Int) ++ encN xs
abbrev I64s (l : List Int) : Prop := ∀ x ∈ l, inK .i64 x
theorem inLen {n : Nat} (h : n ≤ 1000000) : inK .i64 (n : Int) := inI64.2 (by omega)
theorem encN_bytes (xs : List Int) : Bytes (encN xs) := fun c hc => by
  obtain ⟨x, _, h⟩ := List.mem_flatMap.1 hc
  exact encI_bytes x c h
theorem encL_bytes (xs : List Int) : Bytes (encL xs) := fun c hc => (List.mem_append.1 hc).elim (encI_bytes _ c) (encN_bytes xs c)
theorem encN_len : ∀ {xs : List Int}, I64s xs → (encN xs).length ≤ 10 * xs.length
  | [], _ => by simp [encN]
  | x :: xs, h => by
    have h1 := encI_len (h x (by simp))
    have h2 := encN_len (xs := xs) fun y hy => h y (by simp [hy])
    simp only [encN, List.flatMap_cons, List.length_append, List.length_cons] at h2 ⊢
    omega
theorem encL_len {xs : List Int} (h : I64s xs) (hl : xs.length ≤ 64) : (encL xs).length ≤ 650 := by
  have h1 := encI_len (inLen (n := xs.length) (by omega))
  have h2 := encN_len h
  simp only [encL, List.length_append]
  omega
end Go.RX

namespace Go.RX
open Go
theorem ofInt8 {n : Nat} (h : n < 256) : (BitVec.ofInt IntKind.u8.bits (n : Int)).toNat = n := by
  rw [BitVec.ofInt_natCast, show IntKind.u8.bits = 8 from rfl, BitVec.toNat_ofNat, Nat.mod_eq_of_lt (by omega)]
theorem wrapU8 {n : Nat} (h : n < 256) : IntKind.u8.wrap (n : Int) = n := wU8 (by omega) (by omega)
theorem or128 {a : Nat} (h : a < 256) : orI .u8 a 128 = ((a % 128 + 128 : Nat) : Int) := by
  have key : ∀ a, a < 256 → a ||| 128 = a % 128 + 128 := by decide +kernel
  unfold orI
  rw [show (128 : Int) = ((128 : Nat) : Int) from rfl, BitVec.toNat_or, ofInt8 h, ofInt8 (by omega), key a h, wrapU8 (by omega)]
theorem wrapU8_mod (u : Nat) : IntKind.u8.wrap (u : Int) = ((u % 256 : Nat) : Int) := by
  simp only [IntKind.wrap, IntKind.signed, IntKind.bits]
  simp
theorem shr7 (u : Nat) : shrI .u64 u 7 = ((u / 128 : Nat) : Int) := shrI64 (a := u) (k := 7) (by decide)
theorem wrapI64_nat (n : Nat) (h : n < 18446744073709551616) : IntKind.i64.wrap (n : Int) = if n < 9223372036854775808 then (n : Int) else (n : Int) - 18446744073709551616 := by
  simp only [IntKind.wrap, IntKind.signed, IntKind.bits]
  simp
  split <;> split <;> omega
theorem toNatI {n : Nat} (h : n < 9223372036854775808) : (BitVec.ofInt IntKind.i64.bits (n : Int)).toNat = n := by
  rw [BitVec.ofInt_natCast, show IntKind.i64.bits = 64 from rfl, BitVec.toNat_ofNat, Nat.mod_eq_of_lt (by omega)]
theorem xor_zero {n : Nat} (h : n < 9223372036854775808) : xorI .i64 n 0 = n := by
  unfold xorI
  have e : BitVec.ofInt IntKind.i64.bits 0 = 0#_ := by decide
  rw [e, BitVec.xor_zero, toNatI h, wrapI64_nat _ (by omega), if_pos h]
theorem wrapUI (n : Int) : IntKind.u64.wrap (IntKind.i64.wrap n) = n % 18446744073709551616 := by
  simp only [IntKind.wrap, IntKind.signed, IntKind.bits]
  simp
  split <;> omega
theorem xorU_zero {n : Nat} (h : n < 18446744073709551616) : xorI .u64 n 0 = n := by
  unfold xorI
  have e : BitVec.ofInt IntKind.u64.bits 0 = 0#_ := by decide
  rw [e, BitVec.xor_zero, ofInt64 h, wrapU64 h]
theorem xorU_ones {n : Nat} (h : n < 18446744073709551616) : xorI .u64 n 18446744073709551615 = ((18446744073709551615 - n : Nat) : Int) := by
  unfold xorI
  have e : BitVec.ofInt IntKind.u64.bits 18446744073709551615 = BitVec.allOnes IntKind.u64.bits := by decide
  rw [e, BitVec.xor_allOnes, BitVec.toNat_not, ofInt64 h, show IntKind.u64.bits = 64 from rfl, show 2 ^ 64 - 1 - n = 18446744073709551615 - n by omega, wrapU64 (by omega)]
theorem zz_xor {t : Int} (h : inK .i64 t) : xorI .u64 (IntKind.u64.wrap (shlI .i64 t 1)) (IntKind.u64.wrap (shrI .i64 t 63)) = (zz t : Int) := by
  have ht := inI64.1 h
  have e1 : IntKind.u64.wrap (shlI .i64 t 1) = (t * 2) % 18446744073709551616 := by
    unfold shlI
    rw [show min (1 : Int).toNat IntKind.i64.bits = 1 from rfl, wrapUI, show (2 : Int) ^ 1 = 2 from rfl]
  have e2 : shrI .i64 t 63 = if 0 ≤ t then 0 else -1 := by
    unfold shrI
    rw [show min (63 : Int).toNat IntKind.i64.bits = 63 from rfl]
    have e63 : (2 : Int) ^ 63 = 9223372036854775808 := rfl
    rw [e63, Int.fdiv_eq_ediv_of_nonneg _ (by omega)]
    split <;> omega
  rw [e1, e2]
  unfold zz
  split
  · rename_i h0
    obtain ⟨n, rfl⟩ := Int.eq_ofNat_of_zero_le h0
    rw [show IntKind.u64.wrap 0 = 0 from rfl, show ((n : Int) * 2) % 18446744073709551616 = ((2 * n : Nat) : Int) by omega, xorU_zero (by omega)]
    simp
  · rename_i h0
    obtain ⟨n, hn⟩ := Int.eq_ofNat_of_zero_le (show 0 ≤ -t by omega)
    have : t = -(n : Int) := by omega
    subst this
    rw [show IntKind.u64.wrap (-1) = 18446744073709551615 from rfl, show (-(n : Int) * 2) % 18446744073709551616 = ((18446744073709551616 - 2 * n : Nat) : Int) by omega, xorU_ones (by omega)]
    congr 1
    simp
    omega
end Go.RX

namespace Go.RX
open Go
/-! ### one bit of a check sum -/
def cstep (r : Nat) : Nat := if r % 2 = 1 then r / 2 ^^^ 3988292384 else r / 2
def citer : Nat → Nat → Nat
  | 0, r => r
  | n + 1, r => citer n (cstep r)
theorem cstep_lt {r : Nat} (h : r < 4294967296) : cstep r < 4294967296 := by
  unfold cstep
  split
  · exact Nat.xor_lt_two_pow (n := 32) (by omega) (by decide)
  · omega
theorem citer_lt : ∀ (n : Nat) {r : Nat}, r < 4294967296 → citer n r < 4294967296
  | 0, _, h => h
  | n + 1, _, h => citer_lt n (cstep_lt h)
theorem cstep_xor (a b : Nat) : cstep (a ^^^ b) = cstep a ^^^ cstep b := by
  have h1 : (a ^^^ b) / 2 = a / 2 ^^^ b / 2 := Nat.xor_div_two
  have h2 : (a ^^^ b) % 2 = (a + b) % 2 := by
    have h := Nat.xor_mod_two_pow (a := a) (b := b) (n := 1)
    rw [show 2 ^ 1 = 2 from rfl] at h
    rw [h]
    rcases Nat.mod_two_eq_zero_or_one a with ha | ha <;> rcases Nat.mod_two_eq_zero_or_one b with hb | hb <;> rw [ha, hb]
    · show 0 = _; omega
    · show 1 = _; omega
    · show 1 = _; omega
    · show 0 = _; omega
  unfold cstep
  rw [h1, h2]
  rcases Nat.mod_two_eq_zero_or_one a with ha | ha <;> rcases Nat.mod_two_eq_zero_or_one b with hb | hb
  · rw [if_neg (by omega), if_neg (by omega), if_neg (by omega)]
  · rw [if_pos (by omega), if_neg (by omega), if_pos hb, Nat.xor_assoc]
  · rw [if_pos (by omega), if_pos ha, if_neg (by omega), Nat.xor_assoc, Nat.xor_assoc, Nat.xor_comm (b / 2)]
  · rw [if_neg (by omega), if_pos ha, if_pos hb, Nat.xor_assoc, Nat.xor_comm (b / 2) 3988292384, ← Nat.xor_assoc 3988292384, Nat.xor_self, Nat.zero_xor]
theorem citer_xor : ∀ (n a b : Nat), citer n (a ^^^ b) = citer n a ^^^ citer n b
  | 0, _, _ => rfl
  | n + 1, a, b => by simp only [citer, cstep_xor, citer_xor n]
theorem citer_shift : ∀ (n a : Nat), citer n (2 ^ n * a) = a
  | 0, a => by simp [citer]
  | n + 1, a => by
    have : cstep (2 ^ (n + 1) * a) = 2 ^ n * a := by
      rw [Nat.pow_succ, Nat.mul_comm (2 ^ n) 2, Nat.mul_assoc]
      unfold cstep
      rw [if_neg (by omega)]
      omega
    simp only [citer, this, citer_shift n a]
theorem xor_split (r : Nat) : r = 16 * (r / 16) ^^^ r % 16 := by
  have h := Nat.two_pow_add_eq_or_of_lt (i := 4) (b := r % 16) (by omega) (r / 16)
  have e : 2 ^ 4 * (r / 16) ^^^ r % 16 = 2 ^ 4 * (r / 16) ||| r % 16 := by
    refine Nat.eq_of_testBit_eq fun j => ?_
    rw [Nat.testBit_xor, Nat.testBit_or]
    by_cases hj : j < 4
    · have : (2 ^ 4 * (r / 16)).testBit j = false := by rw [Nat.testBit_two_pow_mul]; simp; omega
      rw [this]; simp
    · have : (r % 16).testBit j = false := Nat.testBit_lt_two_pow (Nat.lt_of_lt_of_le (show r % 16 < 2 ^ 4 by omega) (Nat.pow_le_pow_right (by decide) (by omega)))
      rw [this]; simp
  rw [show (16 : Nat) = 2 ^ 4 from rfl] at *
  omega
theorem citer_four (r : Nat) : citer 4 r = r / 16 ^^^ citer 4 (r % 16) := by
  conv => lhs; rw [xor_split r]
  rw [citer_xor, show (16 : Nat) = 2 ^ 4 from rfl, citer_shift]
theorem citer_add : ∀ (m n r : Nat), citer (m + n) r = citer n (citer m r)
  | 0, n, r => by simp [citer]
  | m + 1, n, r => by rw [show m + 1 + n = (m + n) + 1 by omega]; simp only [citer, citer_add m n]
/-! ### a byte, bytes -/
def cupd (r : Nat) (c : Int) : Nat := citer 8 (r ^^^ c.toNat)
def cfold : Nat → List Int → Nat
  | r, [] => r
  | r, c :: l => cfold (cupd r c) l
def crcAdd (s : Nat) (l : List Int) : Nat := 4294967295 - cfold (4294967295 - s) l
def crc (l : List Int) : Nat := crcAdd 0 l
theorem crc_lt (l : List Int) : crc l < 4294967296 := by unfold crc crcAdd; omega
/-! ### four bytes of a number -/
def be4 (s : Nat) : List Int := [((s / 16777216 % 256 : Nat) : Int), ((s / 65536 % 256 : Nat) : Int), ((s / 256 % 256 : Nat) : Int), ((s % 256 : Nat) : Int)]
def numB : Nat → List Int → Nat
  | n, [] => n
  | n, c :: l => numB (n * 256 + c.toNat) l
theorem be4_bytes (s : Nat) : Bytes (be4 s) := fun c hc => by
  simp only [be4, List.mem_cons, List.not_mem_nil, or_false] at hc
  rcases hc with rfl | rfl | rfl | rfl <;> omega
theorem numB_be4 {s : Nat} (h : s < 4294967296) : numB 0 (be4 s) = s := by
  simp only [be4, numB, Int.toNat_natCast]
  omega
theorem be4_num {a b c d : Int} (ha : 0 ≤ a ∧ a ≤ 255) (hb : 0 ≤ b ∧ b ≤ 255) (hc : 0 ≤ c ∧ c ≤ 255) (hd : 0 ≤ d ∧ d ≤ 255) : be4 (numB 0 [a, b, c, d]) = [a, b, c, d] := by
  simp only [numB, be4, List.cons.injEq, and_true]
  omega
/-! ### frames -/
def inner (k : Int) (body : List Int) : List Int := k :: ((body.length / 256 : Nat) : Int) :: ((body.length % 256 : Nat) : Int) :: body
def encF (k : Int) (body : List Int) : List Int := 247 :: (inner k body ++ be4 (crc (inner k body)))
def pF (l : List Int) : Int ⊕ (Int × List Int × Nat) := match l with
  | [] => .inl 31
  | m :: _ => if m ≠ 247 then .inl 32 else if l.length < 8 then .inl 31 else
    if 8192 < numB 0 [l.getD 2 0, l.getD 3 0] then .inl 2 else
    if l.length < numB 0 [l.getD 2 0, l.getD 3 0] + 8 then .inl 31 else
    if crc ((l.drop 1).take (numB 0 [l.getD 2 0, l.getD 3 0] + 3)) ≠ numB 0 ((l.drop (numB 0 [l.getD 2 0, l.getD 3 0] + 4)).take 4) then .inl 33 else
    .inr (l.getD 1 0, (l.drop 4).take (numB 0 [l.getD 2 0, l.getD 3 0]), numB 0 [l.getD 2 0, l.getD 3 0] + 8)
theorem inner_len (k : Int) (body : List Int) : (inner k body).length = body.length + 3 := by simp [inner]
theorem encF_len (k : Int) (body : List Int) : (encF k body).length = body.length + 8 := by simp [encF, inner_len, be4]
theorem inner_bytes {k : Int} {body : List Int} (hk : 0 ≤ k ∧ k ≤ 255) (hb : Bytes body) (hl : body.length ≤ 65535) : Bytes (inner k body) := fun c hc => by
  simp only [inner, List.mem_cons] at hc
  rcases hc with rfl | rfl | rfl | hc
  · exact hk
  · omega
  · omega
  · exact hb c hc
theorem encF_bytes {k : Int} {body : List Int} (hk : 0 ≤ k ∧ k ≤ 255) (hb : Bytes body) (hl : body.length ≤ 65535) : Bytes (encF k body) := fun c hc => by
  simp only [encF, List.mem_cons, List.mem_append] at hc
  rcases hc with rfl | hc | hc
  · omega
  · exact inner_bytes hk hb hl c hc
  · exact be4_bytes _ c hc
theorem pF_enc {k : Int} {body : List Int} (hk : 0 ≤ k ∧ k ≤ 255) (hb : Bytes body) (hl : body.length ≤ 8192) (rest : List Int) : pF (encF k body ++ rest) = .inr (k, body, body.length + 8) := by
  have hn : numB 0 [((body.length / 256 : Nat) : Int), ((body.length % 256 : Nat) : Int)] = body.length := by
    simp only [numB, Int.toNat_natCast]; omega
  have e2 : (encF k body ++ rest).getD 2 0 = ((body.length / 256 : Nat) : Int) := rfl
  have e3 : (encF k body ++ rest).getD 3 0 = ((body.length % 256 : Nat) : Int) := rfl
  have e1 : (encF k body ++ rest).getD 1 0 = k := rfl
  have hlen : (encF k body ++ rest).length = body.length + 8 + rest.length := by rw [List.length_append, encF_len]
  have d1 : ((encF k body ++ rest).drop 1).take (body.length + 3) = inner k body := by
    show ((inner k body ++ be4 _) ++ rest).take (body.length + 3) = inner k body
    rw [List.append_assoc, ← inner_len k body, List.take_left]
  have d2 : ((encF k body ++ rest).drop (body.length + 4)).take 4 = be4 (crc (inner k body)) := by
    show (((inner k body ++ be4 _) ++ rest).drop (body.length + 3)).take 4 = _
    rw [List.append_assoc, ← inner_len k body, List.drop_left]
    rfl
  have d3 : ((encF k body ++ rest).drop 4).take body.length = body := by
    show (((body ++ be4 _) ++ rest)).take body.length = body
    rw [List.append_assoc, List.take_left]
  have hx : ∃ x, encF k body ++ rest = 247 :: x := ⟨_, rfl⟩
  obtain ⟨x, hx⟩ := hx
  have key : pF (247 :: x) = .inr (k, body, body.length + 8) := by
    rw [hx] at e1 e2 e3 hlen d1 d2 d3
    simp only [pF, e1, e2, e3, hn, hlen, d1, d2, d3]
    rw [if_neg (by simp), if_neg (by omega), if_neg (by omega), if_neg (by omega), if_neg (by rw [numB_be4 (crc_lt _)]; simp)]
  rw [hx]; exact key
theorem cons3 : ∀ {l : List Int}, 3 ≤ l.length → ∃ a b c r, l = a :: b :: c :: r
  | a :: b :: c :: r, _ => ⟨a, b, c, r, rfl⟩
  | [], h => by simp at h
  | [_], h => by simp at h
  | [_, _], h => by simp at h
theorem four4 : ∀ {l : List Int}, l.length = 4 → ∃ a b c d, l = [a, b, c, d]
  | [a, b, c, d], _ => ⟨a, b, c, d, rfl⟩
theorem pF_dec {l : List Int} {k : Int} {body : List Int} {m : Nat} (hb : Bytes l) (h : pF l = .inr (k, body, m)) : l.take m = encF k body ∧ m ≤ l.length ∧ m = body.length + 8 ∧ body.length ≤ 8192 ∧ (0 ≤ k ∧ k ≤ 255) ∧ Bytes body := by
  unfold pF at h
  split at h
  · cases h
  · rename_i m0 l0
    split at h
    · cases h
    · rename_i h1
      split at h
      · cases h
      · rename_i h2
        split at h
        · cases h
        · rename_i h3
          split at h
          · cases h
          · rename_i h4
            split at h
            · cases h
            · rename_i h5
              simp only [Sum.inr.injEq, Prod.mk.injEq] at h
              obtain ⟨rfl, rfl, rfl⟩ := h
              simp only [ne_eq, Decidable.not_not] at h1 h5
              subst h1
              obtain ⟨k, a, b, r, rfl⟩ := cons3 (l := l0) (by simp only [List.length_cons] at h2; omega)
              have ha := hb a (by simp)
              have hbb := hb b (by simp)
              have hk := hb k (by simp)
              simp only [List.getD_cons_succ, List.getD_cons_zero, List.length_cons, List.drop_succ_cons, List.drop_zero] at h2 h3 h4 h5 ⊢
              generalize hn : numB 0 [a, b] = n at *
              have hn' : n = a.toNat * 256 + b.toNat := by rw [← hn]; simp [numB]
              have hlen : (r.take n).length = n := by rw [List.length_take]; omega
              have e1 : ((n / 256 : Nat) : Int) = a := by omega
              have e2 : ((n % 256 : Nat) : Int) = b := by omega
              have hin : inner k (r.take n) = (k :: a :: b :: r).take (n + 3) := by
                simp only [inner, hlen, e1, e2, List.take_succ_cons]
              have h4b : ∃ x y z u, (r.drop n).take 4 = [x, y, z, u] := by
                exact four4 (by rw [List.length_take, List.length_drop]; omega)
              obtain ⟨x, y, z, u, hxyz⟩ := h4b
              have hmem : ∀ c ∈ [x, y, z, u], 0 ≤ c ∧ c ≤ 255 := fun c hc => hb c (by
                rw [← hxyz] at hc
                simp only [List.mem_cons]
                exact .inr (.inr (.inr (.inr (List.mem_of_mem_drop (List.mem_of_mem_take hc))))))
              refine ⟨?_, by omega, by omega, by omega, hk, fun c hc => hb c (by simp only [List.mem_cons]; exact .inr (.inr (.inr (.inr (List.mem_of_mem_take hc)))))⟩
              unfold encF
              rw [hin, h5, hxyz, be4_num (hmem x (by simp)) (hmem y (by simp)) (hmem z (by simp)) (hmem u (by simp)), ← hxyz]
              rw [show n + 8 = (n + 7) + 1 from rfl, List.take_succ_cons, show n + 7 = (n + 3) + 4 from rfl, List.take_add]
              rfl
theorem pF_cut {k : Int} {body : List Int} (hk : 0 ≤ k ∧ k ≤ 255) (hb : Bytes body) (hl : body.length ≤ 8192) {j : Nat} (hj : j < body.length + 8) : ∃ e, pF ((encF k body).take j) = .inl e := by
  cases h : pF ((encF k body).take j) with
  | inl e => exact ⟨e, rfl⟩
  | inr x =>
    exfalso
    obtain ⟨k', body', m⟩ := x
    have hbb : Bytes ((encF k body).take j) := fun c hc => encF_bytes hk hb (by omega) c (List.mem_of_mem_take hc)
    obtain ⟨a1, a2, a3, a4, a5, a6⟩ := pF_dec hbb h
    have h1 := pF_enc hk hb hl []
    rw [List.append_nil] at h1
    have hs : encF k body = encF k' body' ++ (encF k body).drop m := by
      rw [← a1, List.take_take, Nat.min_eq_left (by rw [List.length_take] at a2; omega), List.take_append_drop]
    rw [hs, pF_enc a5 a6 a4] at h1
    simp only [Sum.inr.injEq, Prod.mk.injEq] at h1
    rw [List.length_take, encF_len] at a2
    omega
end Go.RX

set_option maxRecDepth 100000
namespace Go.RX.L
open Go Go.RX
theorem ofInt32 {n : Nat} (h : n < 4294967296) : (BitVec.ofInt IntKind.u32.bits (n : Int)).toNat = n := by
  rw [BitVec.ofInt_natCast, show IntKind.u32.bits = 32 from rfl, BitVec.toNat_ofNat, Nat.mod_eq_of_lt (by omega)]
theorem wrapU32 {n : Nat} (h : n < 4294967296) : IntKind.u32.wrap (n : Int) = n := wU32 (by omega) (by omega)
theorem xorU32 {a b : Nat} (ha : a < 4294967296) (hb : b < 4294967296) : xorI .u32 a b = ((a ^^^ b : Nat) : Int) := by
  unfold xorI
  rw [BitVec.toNat_xor, ofInt32 ha, ofInt32 hb, wrapU32 (Nat.xor_lt_two_pow (n := 32) ha hb)]
theorem andU32_15 {a : Nat} (ha : a < 4294967296) : andI .u32 a 15 = ((a % 16 : Nat) : Int) := by
  unfold andI
  rw [show (15 : Int) = ((15 : Nat) : Int) from rfl, BitVec.toNat_and, ofInt32 ha, ofInt32 (by omega), show (15 : Nat) = 2 ^ 4 - 1 from rfl, Nat.and_two_pow_sub_one_eq_mod, wrapU32 (by omega)]
theorem shrU32 {a k : Nat} (hk : k ≤ 32) : shrI .u32 a k = ((a / 2 ^ k : Nat) : Int) := by
  unfold shrI
  have e : min (k : Int).toNat IntKind.u32.bits = k := by simp [IntKind.bits]; omega
  rw [e, Int.fdiv_eq_ediv_of_nonneg _ (by exact Int.le_of_lt (Int.pow_pos (by decide)))]
  norm_cast
theorem onesU32 {n : Nat} (h : n < 4294967296) : xorI .u32 4294967295 n = ((4294967295 - n : Nat) : Int) := by
  unfold xorI
  have e : BitVec.ofInt IntKind.u32.bits 4294967295 = BitVec.allOnes IntKind.u32.bits := by decide
  rw [BitVec.xor_comm, e, BitVec.xor_allOnes, BitVec.toNat_not, ofInt32 h, show IntKind.u32.bits = 32 from rfl, show 2 ^ 32 - 1 - n = 4294967295 - n by omega, wrapU32 (by omega)]
/-! ### the program's: four bits at once -/
theorem four_get : ∀ i, i < 16 → gl_four[i]? = some ((citer 4 i : Nat) : Int) := by decide +kernel
theorem nib {r : Nat} (h : r < 4294967296) : xorI .u32 (shrI .u32 r 4) ((citer 4 (r % 16) : Nat) : Int) = ((citer 4 r : Nat) : Int) := by
  have e : shrI .u32 r 4 = ((r / 16 : Nat) : Int) := shrU32 (a := r) (k := 4) (by decide)
  rw [e, xorU32 (by omega) (citer_lt 4 (by omega)), citer_four r]
theorem lt16 (r : Nat) : decide (((r % 16 : Nat) : Int) < ((16 : Nat) : Int)) = true := ltB (by omega)
theorem add_loop {b : List Int} (hb : Bytes b) (hm : b.length < 9223372036854775807) : ∀ (j k r : Nat), k + j = b.length → r < 4294967296 → Ev crc_Add_step (.s1 r b b.length k) ((4294967295 - cfold r (b.drop k) : Nat) : Int) := by
  intro j
  induction j with
  | zero =>
    intro k r hk hr
    have e : cfold r (b.drop k) = r := by rw [List.drop_of_length_le (by omega)]; rfl
    rw [e]
    refine .done ?_
    simp only [crc_Add_step, crc_Add_1, geB (show b.length ≤ k by omega), cond_false, onesU32 hr]
  | succ j ih =>
    intro k r hk hr
    have hlt : k < b.length := by omega
    obtain ⟨c, hc⟩ : ∃ c : Nat, b[k] = (c : Int) := ⟨_, (Int.toNat_of_nonneg (hb _ (List.getElem_mem hlt)).1).symm⟩
    have hc' := hb _ (List.getElem_mem hlt)
    rw [hc] at hc'
    have h1 : r ^^^ c < 4294967296 := Nat.xor_lt_two_pow (n := 32) hr (by omega)
    have h2 := citer_lt 4 h1
    have e1 : xorI .u32 r (IntKind.u32.wrap (c : Int)) = ((r ^^^ c : Nat) : Int) := by rw [wrapU32 (by omega), xorU32 hr (by omega)]
    have hd : b.drop k = (c : Int) :: b.drop (k + 1) := by rw [← hc, List.drop_eq_getElem_cons hlt]
    have hs : cfold r (b.drop k) = cfold (citer 4 (citer 4 (r ^^^ c))) (b.drop (k + 1)) := by
      rw [hd]
      show cfold (cupd r c) _ = _
      rw [cupd, Int.toNat_natCast, show 8 = 4 + 4 from rfl, citer_add]
    rw [hs]
    refine .next (s' := .s1 ((citer 4 (citer 4 (r ^^^ c)) : Nat) : Int) b b.length ((k + 1 : Nat) : Int)) ?_ (ih (k + 1) _ (by omega) (citer_lt 4 h2))
    simp only [crc_Add_step, crc_Add_1, ltB hlt, cond_true, List.length_map, ixB hlt, le0, Bool.and_self, Int.toNat_natCast, List.getE hlt, Option.bind_some, hc, e1, andU32_15 h1, lt16]
    simp only [Nat.zero_add, four_get _ (Nat.mod_lt (r ^^^ c) (by decide : 0 < 16)), Option.bind_some, nib h1, andU32_15 h2, lt16, le0, Bool.and_self, cond_true, Int.toNat_natCast]
    simp only [four_get _ (Nat.mod_lt (citer 4 (r ^^^ c)) (by decide : 0 < 16)), Option.bind_some, nib h2, wS (show k < 9223372036854775807 by omega)]
theorem sum_ok {b : List Int} (hb : Bytes b) (hm : b.length < 9223372036854775807) : crc_Sum b = some (crc b : Int) := by
  have h : crc_Add 0 b = some (crc b : Int) := by
    refine evf_of (.next (s' := .s1 ((4294967295 : Nat) : Int) b b.length ((0 : Nat) : Int)) ?_ ?_)
    · have := onesU32 (n := 0) (by decide)
      simp only [crc_Add_step, crc_Add_0, List.length_map]
      rw [show (0 : Int) = ((0 : Nat) : Int) from rfl, this]
    · have := add_loop hb hm b.length 0 4294967295 (by omega) (by decide)
      simpa [crc, crcAdd] using this
  simp only [crc_Sum, h, Option.bind_some]
/-! ### the document's: one bit after the other -/
end Go.RX.L

set_option maxHeartbeats 4000000
namespace Go.RX.L
open Go Go.RX Go.Proofs
attribute [local irreducible] FinQ
noncomputable def wire_digits_e (y : Int) : D × Sto := (.fn 106 [] [.iptr 1 [[.int .i64 y]] 0 0], [])
noncomputable def wire_digits (n : Int) : Option Int := (some n)
theorem wire_digits_ok {n r : Int} (h : wire_digits n = some r) : Sound E 100 [.int .i64 n] [] (Rs wire_digits_e r) := so (fn := Tryd.f100) (k := false) (m := 0) h <| by
 intro r h; unfold wire_digits at h
 exact zu 11 h
end Go.RX.L

namespace Go.RX.L
open Go Go.RX Go.Proofs
attribute [local irreducible] FinQ
noncomputable def wire_digits_1_c := codeAt (bodyOf Tryd.f106)
def wire_digits_1_en (y : Int) : List D := [D.int .u8 y]
inductive wire_digits_1_S where
  | s0 (t : Int)
  | s1 (u : Int)
noncomputable def wire_digits_1_M (l : Nat) : wire_digits_1_S → M
  | .s0 t => ⟨[.code (bodyOf Tryd.f106)], [(0, D.yld l), (1, D.iptr 1 [[D.int .i64 t]] 0 0)], []⟩
  | .s1 u => ⟨[.lpc (wire_digits_1_c [1, 0, 0, 0]) 9, .blk 0, .code (wire_digits_1_c [1, 1])], [(0, D.yld l), (3, D.int .u64 u)], []⟩
noncomputable def wire_digits_1_0 (t : Int) : Option (List Int × Option wire_digits_1_S) := (some ([], some (.s1 (xorI .u64 (IntKind.u64.wrap ((shlI .i64 t 1))) (IntKind.u64.wrap ((shrI .i64 t 63)))))))
noncomputable def wire_digits_1_1 (u : Int) : Option (List Int × Option wire_digits_1_S) := (bif (decide ((u : Int) > 127)) then (Option.map (fun p => ((orI .u8 (IntKind.u8.wrap (u)) 128) :: p.1, p.2)) (some ([], some (.s1 (shrI .u64 u 7))))) else (Option.map (fun p => ((IntKind.u8.wrap (u)) :: p.1, p.2)) (some ([], none))))
noncomputable def wire_digits_1_ln : wire_digits_1_S → Sto
  | .s0 t => []
  | .s1 u => []
noncomputable def wire_digits_1_step : wire_digits_1_S → Option (List Int × Option wire_digits_1_S)
  | .s0 t => wire_digits_1_0 t
  | .s1 u => wire_digits_1_1 u
theorem wire_digits_1_0_ok {l : Nat} {ln : Sto} {φ0 : Phi} {J : Option (List (List D)) → World → (Nat → Prop) → (Nat → Prop) → Prop} {t : Int} {x : List Int × Option wire_digits_1_S} {Y : List (List D)} (hl : wire_digits_1_ln (.s0 t) = ln) (h : wire_digits_1_0 t = some x) (ha : AfterL E ln (Cx.seq Tryd.f106 0 ln l φ0 J) wire_digits_1_en (wire_digits_1_M l) wire_digits_1_ln x Y) : FinQ E (Cx.seq Tryd.f106 0 ln l φ0 J (some Y)) (fun _ s => Lent ln s) (.go (wire_digits_1_M l (.s0 t))) := by
 subst hl
 unfold wire_digits_1_0 at h
 refine adv_ok hm 19 _ ?_
 obtain rfl := Option.some.inj h
 exact r_to (q' := .go (wire_digits_1_M l (.s1 (xorI .u64 (IntKind.u64.wrap ((shlI .i64 t 1))) (IntKind.u64.wrap ((shrI .i64 t 63))))))) (by kernel_rfl) (afterL_jump (by kernel_rfl) ha)
theorem wire_digits_1_1_ok {l : Nat} {ln : Sto} {φ0 : Phi} {J : Option (List (List D)) → World → (Nat → Prop) → (Nat → Prop) → Prop} {u : Int} {x : List Int × Option wire_digits_1_S} {Y : List (List D)} (hl : wire_digits_1_ln (.s1 u) = ln) (h : wire_digits_1_1 u = some x) (ha : AfterL E ln (Cx.seq Tryd.f106 0 ln l φ0 J) wire_digits_1_en (wire_digits_1_M l) wire_digits_1_ln x Y) : FinQ E (Cx.seq Tryd.f106 0 ln l φ0 J (some Y)) (fun _ s => Lent ln s) (.go (wire_digits_1_M l (.s1 u))) := by
 subst hl
 unfold wire_digits_1_1 at h
 refine zs 8 h (fun h => ?_) fun h => ?_
 ·
  refine adv_ok hm 10 _ ?_
  refine p_yld (x := (orI .u8 (IntKind.u8.wrap (u)) 128)) (s := []) h ha (by kernel_rfl) (by kernel_rfl) ?_ (fun p Y h ha => ?_)
  · -- it is stopped
    refine adv_ok hm 5 _ ?_
    exact p_retN (d := D.tup []) (s := []) (by kernel_rfl) (by kernel_rfl)
  · -- it goes on
    refine adv_ok hm 13 _ ?_
    obtain rfl := Option.some.inj h
    exact r_to (q' := .go (wire_digits_1_M l (.s1 (shrI .u64 u 7)))) (by kernel_rfl) (afterL_jump (by kernel_rfl) ha)
 refine adv_ok hm 6 _ ?_
 refine p_yld (x := (IntKind.u8.wrap (u))) (s := []) h ha (by kernel_rfl) (by kernel_rfl) ?_ (fun p Y h ha => ?_)
 · -- it is stopped
   refine adv_ok hm 2 _ ?_
   exact p_retN (d := D.tup []) (s := []) (by kernel_rfl) (by kernel_rfl)
 · -- it goes on
   refine adv_ok hm 2 _ ?_
   obtain rfl := Option.some.inj h
   exact p_retY (d := D.tup []) (s := []) (by kernel_rfl) (by kernel_rfl) ha
noncomputable def wire_digits_1 (t : Int) : Option (List Int) := evl wire_digits_1_step (.s0 t)
theorem wire_digits_1_ok {t : Int} {r : List Int} (h : wire_digits_1 t = some r) : SoundSeq E 106 [D.iptr 1 [[D.int .i64 t]] 0 0] [] [] (List.map wire_digits_1_en r) :=
  seq_of (m := fun l => wire_digits_1_M l (.s0 t)) (fn := Tryd.f106) (by kernel_rfl) (fun l => by kernel_rfl) (show List.take _ _ = _ by kernel_rfl) (show mapSto _ _ = _ by kernel_rfl) (fun l φ0 J => evl_run (step := wire_digits_1_step) (lnS := wire_digits_1_ln) (fun s x Y hl hs ha => by
    cases s with
    | s0 => exact wire_digits_1_0_ok hl hs ha
    | s1 => exact wire_digits_1_1_ok hl hs ha) (by kernel_rfl) (evl_ev h))
end Go.RX.L

namespace Go.RX.L
open Go Go.RX Go.Proofs
attribute [local irreducible] FinQ
noncomputable def wire_Int_c := codeAt (bodyOf Tryd.f105)
noncomputable def wire_Int_e (y : Int × Int × Int) : D × Sto := (.tup [.int .i64 y.1, .int .i64 y.2.1, .int .i64 y.2.2], [])
inductive wire_Int_S where
 | s0 (b : List Int) (at_ : Int)
 | s1 (b : List Int) (at_ : Int) (t19 : Bool)
 | s2 (at_ u shift : Int) (t22 : List Int) (t23 t24 : Int)
 | s4 (at_ u : Int) (shift i c : Int) (t22 : List Int) (t23 t24 : Int) (t36 : Bool)
 | s3 (at_ u : Int) (shift i c : Int) (t22 : List Int) (t23 t24 : Int) (t36 : Bool)
noncomputable def wire_Int_M : wire_Int_S → M
 | .s0 b at_ => startM Tryd.f105 [.sl false 1 (List.map (eInt .u8) b), .int .i64 at_] []
 | .s1 b at_ t19 => ⟨[.code (wire_Int_c [1, 0, 0, 1]), .code (wire_Int_c [1, 0, 1]), .sc], [(0, .sl false 1 (List.map (eInt .u8) b)), (1, .int .i64 at_), (19, .bool t19)], []⟩
 | .s2 at_ u shift t22 t23 t24 => ⟨[.lpc (wire_Int_c [1, 0, 1, 1, 1, 1, 0, 1, 0, 0]) 29361026, .blk 0, .code (wire_Int_c [1, 0, 1, 1, 1, 1, 1]), .sc], [(1, .int .i64 at_), (7, .int .i64 11), (8, .int .u64 u), (9, .int .i64 shift), (22, .sl false 1 (List.map (eInt .u8) t22)), (23, .int .i64 t23), (24, .int .i64 t24)], []⟩
 | .s4 at_ u shift i c t22 t23 t24 t36 => ⟨[.code (wire_Int_c [1, 0, 1, 1, 1, 1, 0, 1, 0, 0, 1, 1, 0, 0, 1, 1, 0, 0, 0, 1]), .code (wire_Int_c [1, 0, 1, 1, 1, 1, 0, 1, 0, 0, 1, 1, 0, 0, 1, 1, 0, 0, 1]), .blk 2, .code (wire_Int_c [1, 0, 1, 1, 1, 1, 0, 1, 0, 0, 1, 1, 0, 0, 1, 1, 1]), .blk 1, .code (wire_Int_c [1, 0, 1, 1, 1, 1, 0, 1, 0, 0, 1, 1, 1]), .lp (wire_Int_c [1, 0, 1, 1, 1, 1, 0, 1, 0, 0]) 29361026, .blk 0, .code (wire_Int_c [1, 0, 1, 1, 1, 1, 1]), .sc], [(1, .int .i64 at_), (7, .int .i64 11), (8, .int .u64 u), (9, .int .i64 shift), (10, .int .i64 i), (11, .int .u8 c), (22, .sl false 1 (List.map (eInt .u8) t22)), (23, .int .i64 t23), (24, .int .i64 t24), (36, .bool t36)], []⟩
 | .s3 at_ u shift i c t22 t23 t24 t36 => ⟨[.code (wire_Int_c [1, 0, 1, 1, 1, 1, 0, 1, 0, 0, 1, 1, 0, 0, 1, 1, 0, 0, 1]), .blk 2, .code (wire_Int_c [1, 0, 1, 1, 1, 1, 0, 1, 0, 0, 1, 1, 0, 0, 1, 1, 1]), .blk 1, .code (wire_Int_c [1, 0, 1, 1, 1, 1, 0, 1, 0, 0, 1, 1, 1]), .lp (wire_Int_c [1, 0, 1, 1, 1, 1, 0, 1, 0, 0]) 29361026, .blk 0, .code (wire_Int_c [1, 0, 1, 1, 1, 1, 1]), .sc], [(1, .int .i64 at_), (7, .int .i64 11), (8, .int .u64 u), (9, .int .i64 shift), (10, .int .i64 i), (11, .int .u8 c), (22, .sl false 1 (List.map (eInt .u8) t22)), (23, .int .i64 t23), (24, .int .i64 t24), (36, .bool t36)], []⟩
abbrev wire_Int_W := SOk E (Cx.of Tryd.f105 false 0) wire_Int_e wire_Int_M
end Go.RX.L

namespace Go.RX.L
open Go Go.RX Go.Proofs
attribute [local irreducible] FinQ
noncomputable def wire_put_c := codeAt (bodyOf Tryd.f94)
noncomputable def wire_put_e (y : List Int) : D × Sto := ((grD 0 (List.map (eInt .u8) y)), [some ⟨1, false, (List.map (eInt .u8) y)⟩])
inductive wire_put_S where
 | s0 (n : Int)
 | s1 (t7 : Int) (b1 : List Int)
 | s2 (t7 : Int) (b1 Y : List Int)
noncomputable def wire_put_M : wire_put_S → M
 | .s0 n => startM Tryd.f94 [.sl true 0 [], .int .i64 n] []
 | .s1 t7 b1 => ⟨[.code (wire_put_c [1, 0, 1, 0]), .blk 0, .code (wire_put_c [1, 1])], [(2, .ptr 0 0 0), (7, .fn 106 [] [.iptr 1 [[.int .i64 t7]] 0 0])], [some ⟨1, true, [[(grD 1 (List.map (eInt .u8) b1))]]⟩, some ⟨1, false, (List.map (eInt .u8) b1)⟩]⟩
 | .s2 t7 b1 Y => ⟨[.blk 0, .code (wire_put_c [1, 1])], [(2, .ptr 0 0 0), (7, .fn 106 [] [.iptr 1 [[.int .i64 t7]] 0 0])], [some ⟨1, true, [[(grD 1 (List.map (eInt .u8) b1))]]⟩, some ⟨1, false, (List.map (eInt .u8) b1)⟩]⟩
noncomputable def wire_put_Pd : wire_put_S → (List Int) → Prop
 | .s0 n, r_ => FinQ E (Cx.of Tryd.f94 true 0) (QW (Rs wire_put_e r_)) (.go (wire_put_M (.s0 n)))
 | .s1 t7 b1, r_ => FinQ E (Cx.of Tryd.f94 true 0) (QW (Rs wire_put_e r_)) (.go (wire_put_M (.s1 t7 b1)))
 | .s2 t7 b1 Y, r_ => RngQ E (Cx.of Tryd.f94 true 0) (QW (Rs wire_put_e r_)) 1 (wire_put_c [1, 0, 1, 0]) [.blk 0, .code (wire_put_c [1, 1])] [(2, .ptr 0 0 0), (7, .fn 106 [] [.iptr 1 [[.int .i64 t7]] 0 0])] [] [] (List.map wire_digits_1_en Y) [some ⟨1, true, [[(grD 1 (List.map (eInt .u8) b1))]]⟩, some ⟨1, false, (List.map (eInt .u8) b1)⟩]
noncomputable def wire_put_0 (n : Int) : Option (wire_put_S ⊕ (List Int)) := ((wire_digits n).bind fun y1 => (some (.inl (.s1 y1 ([])))))
noncomputable def wire_put_1 (t7 : Int) (b1 : List Int) : Option (wire_put_S ⊕ (List Int)) := ((wire_digits_1 t7).bind fun y1 => (some (.inl (.s2 t7 b1 y1))))
noncomputable def wire_put_2n (t7 : Int) (b1 : List Int) : Option (wire_put_S ⊕ (List Int)) := (some (.inr b1))
noncomputable def wire_put_2c (t7 : Int) (b1 : List Int) (y : Int) (Y : List Int) : Option (wire_put_S ⊕ (List Int)) := (bif (decide (((List.map (eInt .u8) b1).length + 1) * 1 ≤ bytesLim)) then (some (.inl (.s2 t7 (b1 ++ [y]) Y))) else none)
noncomputable def wire_put_2 (t7 : Int) (b1 : List Int) : List Int → Option (wire_put_S ⊕ (List Int))
 | [] => wire_put_2n t7 b1
 | y :: Y => wire_put_2c t7 b1 y Y
noncomputable def wire_put_step : wire_put_S → Option (wire_put_S ⊕ (List Int))
 | .s0 n => wire_put_0 n
 | .s1 t7 b1 => wire_put_1 t7 b1
 | .s2 t7 b1 Y => wire_put_2 t7 b1 Y
theorem wire_put_0_ok {n : Int} {r : List Int} {x : wire_put_S ⊕ (List Int)} (h : wire_put_0 n = some x) (ha : AfterP wire_put_Pd r x) : FinQ E (Cx.of Tryd.f94 true 0) (QW (Rs wire_put_e r)) (.go (wire_put_M (.s0 n))) := by
 unfold wire_put_0 at h
 refine zc 10 [] h (fun _ => wire_digits_ok) fun y1 h => ?_
 refine adv_ok hm 2 _ ?_
 obtain rfl := Option.some.inj h
 refine r_cut 388 [.matc 0 0 0 1] (m' := ⟨[.code (wire_put_c [1, 0, 1, 0]), .blk 0, .code (wire_put_c [1, 1])], [(2, .ptr 0 0 0), (7, .fn 106 [] [.iptr 1 [[.int .i64 y1]] 0 0])], [some ⟨1, true, [[.msl 1 0 0 0 false]]⟩, some ⟨1, false, []⟩]⟩) (by kernel_rfl) ?_
 refine r_len (n1 := 0) (n2 := (List.map (eInt .u8) ([])).length) (fun n_len => .go ⟨[.code (wire_put_c [1, 0, 1, 0]), .blk 0, .code (wire_put_c [1, 1])], [(2, .ptr 0 0 0), (7, .fn 106 [] [.iptr 1 [[.int .i64 y1]] 0 0])], [some ⟨1, true, [[.msl 1 0 n_len n_len false]]⟩, some ⟨1, false, []⟩]⟩) (by simp) ?_
 exact ha
theorem wire_put_1_ok {t7 : Int} {b1 r : List Int} {x : wire_put_S ⊕ (List Int)} (h : wire_put_1 t7 b1 = some x) (ha : AfterP wire_put_Pd r x) : FinQ E (Cx.of Tryd.f94 true 0) (QW (Rs wire_put_e r)) (.go (wire_put_M (.s1 t7 b1))) := by
 unfold wire_put_1 at h
 refine adv_ok hm 1 _ ?_
 have ok1 := fun (y : List Int) (hy : wire_digits_1 t7 = some y) => wire_digits_1_ok hy
 refine p_rng (m := 1) (c := wire_put_c [1, 0, 1, 0]) (t := [.blk 0, .code (wire_put_c [1, 1])]) (fr := [(2, .ptr 0 0 0), (7, .fn 106 [] [.iptr 1 [[.int .i64 t7]] 0 0])]) (σ := [some ⟨1, true, [[(grD 1 (List.map (eInt .u8) b1))]]⟩, some ⟨1, false, (List.map (eInt .u8) b1)⟩]) (caps1 := [.iptr 1 [[.int .i64 t7]] 0 0]) (caps := [.iptr 1 [[.int .i64 t7]] 0 0]) (sub1 := []) (sub := []) wire_digits_1_en h (by kernel_rfl) ⟨rfl, rfl⟩ (by kernel_rfl) (by kernel_rfl) ok1 (fun y1 h1 h => ?_)
 obtain rfl := Option.some.inj h
 exact ha
theorem wire_put_2n_ok {t7 : Int} {b1 r : List Int} {x : wire_put_S ⊕ (List Int)} (h : wire_put_2n t7 b1 = some x) (ha : AfterP wire_put_Pd r x) : RngQ E (Cx.of Tryd.f94 true 0) (QW (Rs wire_put_e r)) 1 (wire_put_c [1, 0, 1, 0]) [.blk 0, .code (wire_put_c [1, 1])] [(2, .ptr 0 0 0), (7, .fn 106 [] [.iptr 1 [[.int .i64 t7]] 0 0])] [] [] ([]) [some ⟨1, true, [[(grD 1 (List.map (eInt .u8) b1))]]⟩, some ⟨1, false, (List.map (eInt .u8) b1)⟩] := by
 unfold wire_put_2n at h
 refine rng_nil ?_
 exact ztP 8 h ha
theorem wire_put_2c_ok {t7 : Int} {b1 : List Int} {y : Int} {Y r : List Int} {x : wire_put_S ⊕ (List Int)} (h : wire_put_2c t7 b1 y Y = some x) (ha : AfterP wire_put_Pd r x) : RngQ E (Cx.of Tryd.f94 true 0) (QW (Rs wire_put_e r)) 1 (wire_put_c [1, 0, 1, 0]) [.blk 0, .code (wire_put_c [1, 1])] [(2, .ptr 0 0 0), (7, .fn 106 [] [.iptr 1 [[.int .i64 t7]] 0 0])] [] [] (wire_digits_1_en y :: List.map wire_digits_1_en Y) [some ⟨1, true, [[(grD 1 (List.map (eInt .u8) b1))]]⟩, some ⟨1, false, (List.map (eInt .u8) b1)⟩] := by
 unfold wire_put_2c at h
 refine rng_cons ?_
 refine zn 8 h fun h => ?_
 refine za 0 (eInt .u8) b1 ([y]) ?_
 refine adv_ok hm 6 _ ?_
 obtain rfl := Option.some.inj h
 exact p_rend0 [] (s1 := [some ⟨1, true, [[.msl 1 0 ((List.map (eInt .u8) (b1 ++ [y])).length) ((List.map (eInt .u8) (b1 ++ [y])).length) false]]⟩, some ⟨1, false, (List.map (eInt .u8) (b1 ++ [y]))⟩]) (s := [some ⟨1, true, [[.msl 1 0 ((List.map (eInt .u8) (b1 ++ [y])).length) ((List.map (eInt .u8) (b1 ++ [y])).length) false]]⟩, some ⟨1, false, (List.map (eInt .u8) (b1 ++ [y]))⟩]) (by kernel_rfl) (rfl) (by kernel_rfl) ha
theorem wire_put_2_ok {t7 : Int} {b1 Y r : List Int} {x : wire_put_S ⊕ (List Int)} (h : wire_put_2 t7 b1 Y = some x) (ha : AfterP wire_put_Pd r x) : RngQ E (Cx.of Tryd.f94 true 0) (QW (Rs wire_put_e r)) 1 (wire_put_c [1, 0, 1, 0]) [.blk 0, .code (wire_put_c [1, 1])] [(2, .ptr 0 0 0), (7, .fn 106 [] [.iptr 1 [[.int .i64 t7]] 0 0])] [] [] (List.map wire_digits_1_en Y) [some ⟨1, true, [[(grD 1 (List.map (eInt .u8) b1))]]⟩, some ⟨1, false, (List.map (eInt .u8) b1)⟩] := by
 cases Y with
 | nil => exact wire_put_2n_ok h ha
 | cons y Y => exact wire_put_2c_ok h ha
noncomputable def wire_put (n : Int) : Option (List Int) := evf wire_put_step (.s0 n)
theorem wire_put_ev {n : Int} {r : List Int} (h : Ev wire_put_step (.s0 n) r) : Sound E 94 [.sl true 0 [], .int .i64 n] [] (Rs wire_put_e r) :=
 sound_ofW (m := wire_put_M (.s0 n)) (fn := Tryd.f94) (by kernel_rfl) (by kernel_rfl) (ev_runP (Pd := wire_put_Pd) (fun s x r hs ha => by
  cases s with
  | s0 => exact wire_put_0_ok hs ha
  | s1 => exact wire_put_1_ok hs ha
  | s2 => exact wire_put_2_ok hs ha) h)
theorem wire_put_ok {n : Int} {r : List Int} (h : wire_put n = some r) : Sound E 94 [.sl true 0 [], .int .i64 n] [] (Rs wire_put_e r) := wire_put_ev (evf_ev h)
end Go.RX.L

namespace Go.RX.L
open Go Go.RX Go.Proofs
attribute [local irreducible] FinQ
noncomputable def wire_put_v2_c := codeAt (bodyOf Tryd.f94)
noncomputable def wire_put_v2_e (y : List Int) : D × Sto := ((grD 1 (List.map (eInt .u8) y)), [none, some ⟨1, false, (List.map (eInt .u8) y)⟩])
inductive wire_put_v2_S where
 | s0 (n : Int) (b0 : List Int)
 | s1 (t7 : Int) (b2 : List Int)
 | s2 (t7 : Int) (b2 Y : List Int)
noncomputable def wire_put_v2_M : wire_put_v2_S → M
 | .s0 n b0 => startM Tryd.f94 [(grD 0 (List.map (eInt .u8) b0)), .int .i64 n] [some ⟨1, false, (List.map (eInt .u8) b0)⟩]
 | .s1 t7 b2 => ⟨[.code (wire_put_v2_c [1, 0, 1, 0]), .blk 0, .code (wire_put_v2_c [1, 1])], [(2, .ptr 1 0 0), (7, .fn 106 [] [.iptr 1 [[.int .i64 t7]] 0 0])], [none, some ⟨1, true, [[(grD 2 (List.map (eInt .u8) b2))]]⟩, some ⟨1, false, (List.map (eInt .u8) b2)⟩]⟩
 | .s2 t7 b2 Y => ⟨[.blk 0, .code (wire_put_v2_c [1, 1])], [(2, .ptr 1 0 0), (7, .fn 106 [] [.iptr 1 [[.int .i64 t7]] 0 0])], [none, some ⟨1, true, [[(grD 2 (List.map (eInt .u8) b2))]]⟩, some ⟨1, false, (List.map (eInt .u8) b2)⟩]⟩
noncomputable def wire_put_v2_Pd : wire_put_v2_S → (List Int) → Prop
 | .s0 n b0, r_ => FinQ E (Cx.of Tryd.f94 true 1) (QW (Rs wire_put_v2_e r_)) (.go (wire_put_v2_M (.s0 n b0)))
 | .s1 t7 b2, r_ => FinQ E (Cx.of Tryd.f94 true 1) (QW (Rs wire_put_v2_e r_)) (.go (wire_put_v2_M (.s1 t7 b2)))
 | .s2 t7 b2 Y, r_ => RngQ E (Cx.of Tryd.f94 true 1) (QW (Rs wire_put_v2_e r_)) 2 (wire_put_v2_c [1, 0, 1, 0]) [.blk 0, .code (wire_put_v2_c [1, 1])] [(2, .ptr 1 0 0), (7, .fn 106 [] [.iptr 1 [[.int .i64 t7]] 0 0])] [] [] (List.map wire_digits_1_en Y) [none, some ⟨1, true, [[(grD 2 (List.map (eInt .u8) b2))]]⟩, some ⟨1, false, (List.map (eInt .u8) b2)⟩]
noncomputable def wire_put_v2_0 (n : Int) (b0 : List Int) : Option (wire_put_v2_S ⊕ (List Int)) := ((wire_digits n).bind fun y1 => (some (.inl (.s1 y1 b0))))
noncomputable def wire_put_v2_1 (t7 : Int) (b2 : List Int) : Option (wire_put_v2_S ⊕ (List Int)) := ((wire_digits_1 t7).bind fun y1 => (some (.inl (.s2 t7 b2 y1))))
noncomputable def wire_put_v2_2n (t7 : Int) (b2 : List Int) : Option (wire_put_v2_S ⊕ (List Int)) := (some (.inr b2))
noncomputable def wire_put_v2_2c (t7 : Int) (b2 : List Int) (y : Int) (Y : List Int) : Option (wire_put_v2_S ⊕ (List Int)) := (bif (decide (((List.map (eInt .u8) b2).length + 1) * 1 ≤ bytesLim)) then (some (.inl (.s2 t7 (b2 ++ [y]) Y))) else none)
noncomputable def wire_put_v2_2 (t7 : Int) (b2 : List Int) : List Int → Option (wire_put_v2_S ⊕ (List Int))
 | [] => wire_put_v2_2n t7 b2
 | y :: Y => wire_put_v2_2c t7 b2 y Y
noncomputable def wire_put_v2_step : wire_put_v2_S → Option (wire_put_v2_S ⊕ (List Int))
 | .s0 n b0 => wire_put_v2_0 n b0
 | .s1 t7 b2 => wire_put_v2_1 t7 b2
 | .s2 t7 b2 Y => wire_put_v2_2 t7 b2 Y
theorem wire_put_v2_0_ok {n : Int} {b0 r : List Int} {x : wire_put_v2_S ⊕ (List Int)} (h : wire_put_v2_0 n b0 = some x) (ha : AfterP wire_put_v2_Pd r x) : FinQ E (Cx.of Tryd.f94 true 1) (QW (Rs wire_put_v2_e r)) (.go (wire_put_v2_M (.s0 n b0))) := by
 unfold wire_put_v2_0 at h
 refine zc 10 [] h (fun _ => wire_digits_ok) fun y1 h => ?_
 exact zkP 2 h ha id [.mv 0]
theorem wire_put_v2_1_ok {t7 : Int} {b2 r : List Int} {x : wire_put_v2_S ⊕ (List Int)} (h : wire_put_v2_1 t7 b2 = some x) (ha : AfterP wire_put_v2_Pd r x) : FinQ E (Cx.of Tryd.f94 true 1) (QW (Rs wire_put_v2_e r)) (.go (wire_put_v2_M (.s1 t7 b2))) := by
 unfold wire_put_v2_1 at h
 refine adv_ok hm 1 _ ?_
 have ok1 := fun (y : List Int) (hy : wire_digits_1 t7 = some y) => wire_digits_1_ok hy
 refine p_rng (m := 2) (c := wire_put_v2_c [1, 0, 1, 0]) (t := [.blk 0, .code (wire_put_v2_c [1, 1])]) (fr := [(2, .ptr 1 0 0), (7, .fn 106 [] [.iptr 1 [[.int .i64 t7]] 0 0])]) (σ := [none, some ⟨1, true, [[(grD 2 (List.map (eInt .u8) b2))]]⟩, some ⟨1, false, (List.map (eInt .u8) b2)⟩]) (caps1 := [.iptr 1 [[.int .i64 t7]] 0 0]) (caps := [.iptr 1 [[.int .i64 t7]] 0 0]) (sub1 := []) (sub := []) wire_digits_1_en h (by kernel_rfl) ⟨rfl, rfl⟩ (by kernel_rfl) (by kernel_rfl) ok1 (fun y1 h1 h => ?_)
 obtain rfl := Option.some.inj h
 exact ha
theorem wire_put_v2_2n_ok {t7 : Int} {b2 r : List Int} {x : wire_put_v2_S ⊕ (List Int)} (h : wire_put_v2_2n t7 b2 = some x) (ha : AfterP wire_put_v2_Pd r x) : RngQ E (Cx.of Tryd.f94 true 1) (QW (Rs wire_put_v2_e r)) 2 (wire_put_v2_c [1, 0, 1, 0]) [.blk 0, .code (wire_put_v2_c [1, 1])] [(2, .ptr 1 0 0), (7, .fn 106 [] [.iptr 1 [[.int .i64 t7]] 0 0])] [] [] ([]) [none, some ⟨1, true, [[(grD 2 (List.map (eInt .u8) b2))]]⟩, some ⟨1, false, (List.map (eInt .u8) b2)⟩] := by
 unfold wire_put_v2_2n at h
 refine rng_nil ?_
 exact ztP 8 h ha
theorem wire_put_v2_2c_ok {t7 : Int} {b2 : List Int} {y : Int} {Y r : List Int} {x : wire_put_v2_S ⊕ (List Int)} (h : wire_put_v2_2c t7 b2 y Y = some x) (ha : AfterP wire_put_v2_Pd r x) : RngQ E (Cx.of Tryd.f94 true 1) (QW (Rs wire_put_v2_e r)) 2 (wire_put_v2_c [1, 0, 1, 0]) [.blk 0, .code (wire_put_v2_c [1, 1])] [(2, .ptr 1 0 0), (7, .fn 106 [] [.iptr 1 [[.int .i64 t7]] 0 0])] [] [] (wire_digits_1_en y :: List.map wire_digits_1_en Y) [none, some ⟨1, true, [[(grD 2 (List.map (eInt .u8) b2))]]⟩, some ⟨1, false, (List.map (eInt .u8) b2)⟩] := by
 unfold wire_put_v2_2c at h
 refine rng_cons ?_
 refine zn 8 h fun h => ?_
 refine za 0 (eInt .u8) b2 ([y]) ?_
 refine adv_ok hm 6 _ ?_
 obtain rfl := Option.some.inj h
 exact p_rend0 [] (s1 := [none, some ⟨1, true, [[.msl 2 0 ((List.map (eInt .u8) (b2 ++ [y])).length) ((List.map (eInt .u8) (b2 ++ [y])).length) false]]⟩, some ⟨1, false, (List.map (eInt .u8) (b2 ++ [y]))⟩]) (s := [none, some ⟨1, true, [[.msl 2 0 ((List.map (eInt .u8) (b2 ++ [y])).length) ((List.map (eInt .u8) (b2 ++ [y])).length) false]]⟩, some ⟨1, false, (List.map (eInt .u8) (b2 ++ [y]))⟩]) (by kernel_rfl) (rfl) (by kernel_rfl) ha
theorem wire_put_v2_2_ok {t7 : Int} {b2 Y r : List Int} {x : wire_put_v2_S ⊕ (List Int)} (h : wire_put_v2_2 t7 b2 Y = some x) (ha : AfterP wire_put_v2_Pd r x) : RngQ E (Cx.of Tryd.f94 true 1) (QW (Rs wire_put_v2_e r)) 2 (wire_put_v2_c [1, 0, 1, 0]) [.blk 0, .code (wire_put_v2_c [1, 1])] [(2, .ptr 1 0 0), (7, .fn 106 [] [.iptr 1 [[.int .i64 t7]] 0 0])] [] [] (List.map wire_digits_1_en Y) [none, some ⟨1, true, [[(grD 2 (List.map (eInt .u8) b2))]]⟩, some ⟨1, false, (List.map (eInt .u8) b2)⟩] := by
 cases Y with
 | nil => exact wire_put_v2_2n_ok h ha
 | cons y Y => exact wire_put_v2_2c_ok h ha
noncomputable def wire_put_v2 (n : Int) (b0 : List Int) : Option (List Int) := evf wire_put_v2_step (.s0 n b0)
theorem wire_put_v2_ev {n : Int} {b0 r : List Int} (h : Ev wire_put_v2_step (.s0 n b0) r) : Sound E 94 [(grD 0 (List.map (eInt .u8) b0)), .int .i64 n] [some ⟨1, false, (List.map (eInt .u8) b0)⟩] (Rs wire_put_v2_e r) :=
 sound_ofW (m := wire_put_v2_M (.s0 n b0)) (fn := Tryd.f94) (by kernel_rfl) (by kernel_rfl) (ev_runP (Pd := wire_put_v2_Pd) (fun s x r hs ha => by
  cases s with
  | s0 => exact wire_put_v2_0_ok hs ha
  | s1 => exact wire_put_v2_1_ok hs ha
  | s2 => exact wire_put_v2_2_ok hs ha) h)
theorem wire_put_v2_ok {n : Int} {b0 r : List Int} (h : wire_put_v2 n b0 = some r) : Sound E 94 [(grD 0 (List.map (eInt .u8) b0)), .int .i64 n] [some ⟨1, false, (List.map (eInt .u8) b0)⟩] (Rs wire_put_v2_e r) := wire_put_v2_ev (evf_ev h)
end Go.RX.L

namespace Go.RX.L
open Go Go.RX Go.Proofs
attribute [local irreducible] FinQ
noncomputable def wire_PutInt_e (y : List Int) : D × Sto := ((grD 0 (List.map (eInt .u8) y)), [some ⟨1, false, (List.map (eInt .u8) y)⟩])
noncomputable def wire_PutInt (n : Int) : Option (List Int) := ((wire_put n).bind fun y1 => (some y1))
theorem wire_PutInt_ok {n : Int} {r : List Int} (h : wire_PutInt n = some r) : Sound E 93 [.int .i64 n] [] (Rs wire_PutInt_e r) := so (fn := Tryd.f93) (k := true) (m := 0) h <| by
 intro r h; unfold wire_PutInt at h
 refine zc 8 [none] h (fun _ => wire_put_ok) fun y1 h => ?_
 exact zu 3 h
end Go.RX.L

namespace Go.RX.L
open Go Go.RX Go.Proofs
attribute [local irreducible] FinQ
noncomputable def wire_sized_e (y : Int × Int × Int) : D × Sto := (.tup [.int .i64 y.1, .int .i64 y.2.1, .int .i64 y.2.2], [])
abbrev wire_sized_W := AOk E (Cx.of Tryd.f104 false 0) wire_sized_e
end Go.RX.L

namespace Go.RX.L
open Go Go.RX Go.Proofs
attribute [local irreducible] FinQ
noncomputable def wire_PutInts_c := codeAt (bodyOf Tryd.f73)
noncomputable def wire_PutInts_e (y : Int × (List Int)) : D × Sto := (.tup [(grD 0 (List.map (eInt .u8) y.2)), .int .i64 y.1], [some ⟨1, false, (List.map (eInt .u8) y.2)⟩])
inductive wire_PutInts_S where
 | s0 (l_ : List Int)
 | s1 (t13 : List Int) (t14 t15 : Int) (b : List Int)
noncomputable def wire_PutInts_M : wire_PutInts_S → M
 | .s0 l_ => startM Tryd.f73 [.sl false 1 (List.map (eInt .i64) l_)] []
 | .s1 t13 t14 t15 b => ⟨[.lpc (wire_PutInts_c [1, 1, 1, 0, 1, 0, 0]) 57360, .blk 0, .code (wire_PutInts_c [1, 1, 1, 1])], [(4, (grD 0 (List.map (eInt .u8) b))), (13, .sl false 1 (List.map (eInt .i64) t13)), (14, .int .i64 t14), (15, .int .i64 t15)], [some ⟨1, false, (List.map (eInt .u8) b)⟩]⟩
abbrev wire_PutInts_W := SOk E (Cx.of Tryd.f73 true 0) wire_PutInts_e wire_PutInts_M
noncomputable def wire_PutInts_0 (l_ : List Int) : Option (wire_PutInts_S ⊕ (Int × (List Int))) := (bif (decide (((((List.map (eInt .i64) l_).length : Nat) : Int) : Int) > 64)) then (some (.inr (2, []))) else ((wire_PutInt (((List.map (eInt .i64) l_).length : Nat) : Int)).bind fun y2 => (some (.inl (.s1 l_ (((List.map (eInt .i64) l_).length : Nat) : Int) 0 y2)))))
noncomputable def wire_PutInts_1 (t13 : List Int) (t14 t15 : Int) (b : List Int) : Option (wire_PutInts_S ⊕ (Int × (List Int))) := (bif (decide ((t15 : Int) < t14)) then (bif ((decide ((0 : Int) ≤ t15)) && (decide ((t15 : Int) < (((List.map (eInt .i64) t13).length : Nat) : Int)))) then (((t13)[t15.toNat]?).bind fun y3 => ((wire_put_v2 y3 b).bind fun y5 => (some (.inl (.s1 t13 t14 (IntKind.i64.wrap (t15 + 1)) y5))))) else none) else (some (.inr (0, b))))
noncomputable def wire_PutInts_step : wire_PutInts_S → Option (wire_PutInts_S ⊕ (Int × (List Int)))
 | .s0 l_ => wire_PutInts_0 l_
 | .s1 t13 t14 t15 b => wire_PutInts_1 t13 t14 t15 b
theorem wire_PutInts_0_ok {l_} : wire_PutInts_W (.s0 l_) (wire_PutInts_0 l_) := by
 intro r x h ha; unfold wire_PutInts_0 at h
 refine zs 13 h (fun h => ?_) fun h => ?_
 ·
  exact zt 6 h ha [.matt 0 0 1]
 refine zc 6 [] h (fun _ => wire_PutInt_ok) fun y2 h => ?_
 exact zj 12 h ha
theorem wire_PutInts_1_ok {t13 t14 t15 b} : wire_PutInts_W (.s1 t13 t14 t15 b) (wire_PutInts_1 t13 t14 t15 b) := by
 intro r x h ha; unfold wire_PutInts_1 at h
 refine zs 7 h (fun h => ?_) fun h => ?_
 ·
  refine zn 6 h fun h => ?_
  refine zr 1 (eInt .i64) h fun y3 h => ?_
  refine zc 6 [] h (fun _ => wire_put_v2_ok) fun y5 h => ?_
  exact zj 8 h ha
 exact zt 8 h ha
noncomputable def wire_PutInts (l_ : List Int) : Option (Int × (List Int)) := evf wire_PutInts_step (.s0 l_)
theorem wire_PutInts_ok {l_ : List Int} {r : Int × (List Int)} (h : wire_PutInts l_ = some r) : Sound E 73 [.sl false 1 (List.map (eInt .i64) l_)] [] (Rs wire_PutInts_e r) := sc (fn := Tryd.f73) (k := true) (m := 0) (stM := wire_PutInts_M) h fun s => by
 cases s with
 | s0 => exact wire_PutInts_0_ok
 | s1 => exact wire_PutInts_1_ok
end Go.RX.L

namespace Go.RX.L
open Go Go.RX Go.Proofs
attribute [local irreducible] FinQ
noncomputable def wire_Ints_c := codeAt (bodyOf Tryd.f97)
noncomputable def wire_Ints_e (y : (List Int) × Int × Int) : D × Sto := (.tup [.sl false 1 (List.map (eInt .i64) y.1), .int .i64 y.2.1, .int .i64 y.2.2], [])
inductive wire_Ints_S where
 | s0 (b : List Int) (at_ : Int)
 | s1 (b : List Int) (next e : Int) (t19 t20 : Int) (out : List Int)
 | s2 (next e : Int) (out : List Int)
noncomputable def wire_Ints_M : wire_Ints_S → M
 | .s0 b at_ => startM Tryd.f97 [.sl false 1 (List.map (eInt .u8) b), .int .i64 at_] []
 | .s1 b next e t19 t20 out => ⟨[.lpc (wire_Ints_c [1, 1, 1, 0, 1, 0, 0]) 1574657, .blk 0, .code (wire_Ints_c [1, 1, 1, 1])], [(0, .sl false 1 (List.map (eInt .u8) b)), (8, .int .i64 next), (9, .int .i64 e), (10, (grD 0 (List.map (eInt .i64) out))), (19, .int .i64 t19), (20, .int .i64 t20)], [some ⟨1, false, (List.map (eInt .i64) out)⟩]⟩
 | .s2 next e out => ⟨[.code (wire_Ints_c [1, 1, 1, 1])], [(8, .int .i64 next), (9, .int .i64 e), (10, (grD 0 (List.map (eInt .i64) out)))], [some ⟨1, false, (List.map (eInt .i64) out)⟩]⟩
abbrev wire_Ints_W := SOk E (Cx.of Tryd.f97 false 0) wire_Ints_e wire_Ints_M
end Go.RX.L

namespace Go.RX.L
open Go Go.RX
abbrev memB : Nat := 140737488351232
/-! ### the program's writer -/
theorem digits_ev : ∀ (u : Nat), u < 18446744073709551616 → EvL wire_digits_1_step (.s1 u) (venc u) := by
  intro u
  induction u using Nat.strongRecOn with
  | ind u ih =>
    intro hu
    by_cases h : u < 128
    · rw [venc_lt h]
      refine .done ?_
      have h1 : decide ((u : Int) > 127) = false := by simp; omega
      simp [wire_digits_1_step, wire_digits_1_1, h1, wrapU8 (show u < 256 by omega)]
    · rw [venc_ge (by omega)]
      have h1 : decide ((u : Int) > 127) = true := by simp; omega
      refine EvL.next (l := [((u % 128 + 128 : Nat) : Int)]) (s' := .s1 ((u / 128 : Nat) : Int)) ?_ (ih (u / 128) (by omega) (by omega))
      simp only [wire_digits_1_step, wire_digits_1_1, h1, cond_true, shr7, wrapU8_mod, or128 (show u % 256 < 256 by omega)]
      simp
theorem digits_ok {n : Int} (h : inK .i64 n) : wire_digits_1 n = some (encI n) := by
  refine evl_of ?_
  have := digits_ev (zz n) (zz_lt h)
  rw [← zz_xor h] at this
  exact EvL.next (l := []) rfl this
theorem put_loop {t : Int} : ∀ (Y b : List Int), b.length + Y.length ≤ memB → Ev wire_put_step (.s2 t b Y) (b ++ Y)
  | [], b, _ => .done (by simp [wire_put_step, wire_put_2, wire_put_2n])
  | y :: Y, b, h => by
    simp only [List.length_cons, memB] at h
    have hl : decide (((List.map (eInt .u8) b).length + 1) * 1 ≤ bytesLim) = true := limOk (by simp; omega)
    have ih := put_loop (t := t) Y (b ++ [y]) (by simp only [List.length_append, List.length_cons, List.length_nil, memB]; omega)
    rw [List.append_assoc] at ih
    exact .next (s' := .s2 t (b ++ [y]) Y) (by simp only [wire_put_step, wire_put_2, wire_put_2c, hl, cond_true]) ih
theorem put0_ok {n : Int} (h : inK .i64 n) : wire_put n = some (encI n) := by
  have hl := encI_len h
  refine evf_of (.next (s' := .s1 n []) (by simp [wire_put_step, wire_put_0, wire_digits]) (.next (s' := .s2 n [] (encI n)) (by simp [wire_put_step, wire_put_1, digits_ok h]) ?_))
  exact put_loop (encI n) [] (by simp [memB]; omega)
theorem putInt_ok {n : Int} (h : inK .i64 n) : wire_PutInt n = some (encI n) := by simp [wire_PutInt, put0_ok h]
theorem put2_loop {t : Int} : ∀ (Y b : List Int), b.length + Y.length ≤ memB → Ev wire_put_v2_step (.s2 t b Y) (b ++ Y)
  | [], b, _ => .done (by simp [wire_put_v2_step, wire_put_v2_2, wire_put_v2_2n])
  | y :: Y, b, h => by
    simp only [List.length_cons, memB] at h
    have hl : decide (((List.map (eInt .u8) b).length + 1) * 1 ≤ bytesLim) = true := limOk (by simp; omega)
    have ih := put2_loop (t := t) Y (b ++ [y]) (by simp only [List.length_append, List.length_cons, List.length_nil, memB]; omega)
    rw [List.append_assoc] at ih
    exact .next (s' := .s2 t (b ++ [y]) Y) (by simp only [wire_put_v2_step, wire_put_v2_2, wire_put_v2_2c, hl, cond_true]) ih
theorem put2_ok {n : Int} (h : inK .i64 n) {b : List Int} (hb : b.length ≤ 1000000) : wire_put_v2 n b = some (b ++ encI n) := by
  have hl := encI_len h
  refine evf_of (.next (s' := .s1 n b) (by simp [wire_put_v2_step, wire_put_v2_0, wire_digits]) (.next (s' := .s2 n b (encI n)) (by simp [wire_put_v2_step, wire_put_v2_1, digits_ok h]) ?_))
  exact put2_loop (encI n) b (by simp [memB]; omega)
theorem encN_snoc (xs : List Int) (x : Int) : encN (xs ++ [x]) = encN xs ++ encI x := by simp [encN]
theorem take_snoc {l : List Int} {k : Nat} (h : k < l.length) : l.take (k + 1) = l.take k ++ [l[k]] := by rw [List.take_add_one, List.getE h]; rfl
theorem putInts_loop {l : List Int} (hl : I64s l) (h64 : l.length ≤ 64) (p : List Int) (hp : p.length ≤ 10) : ∀ (j k : Nat), k + j = l.length → Ev wire_PutInts_step (.s1 l l.length k (p ++ encN (l.take k))) (0, p ++ encN l) := by
  intro j
  induction j with
  | zero =>
    intro k hk
    refine .done ?_
    rw [List.take_of_length_le (by omega)]
    simp [wire_PutInts_step, wire_PutInts_1, show ¬ ((k : Int) < l.length) by omega]
  | succ j ih =>
    intro k hk
    have hlt : k < l.length := by omega
    have hx := hl l[k] (List.getElem_mem hlt)
    have hs := encN_len (xs := l.take k) fun y hy => hl y (List.mem_of_mem_take hy)
    rw [List.length_take] at hs
    refine .next (s' := .s1 l l.length ((k + 1 : Nat) : Int) (p ++ encN (l.take (k + 1)))) ?_ (ih (k + 1) (by omega))
    have e : put2_ok hx (b := p ++ encN (l.take k)) (by simp; omega) = put2_ok hx (b := p ++ encN (l.take k)) (by simp; omega) := rfl
    have e2 : wire_put_v2 l[k] (p ++ encN (l.take k)) = some (p ++ encN (l.take (k + 1))) := by
      rw [put2_ok hx (by simp only [List.length_append]; omega), take_snoc hlt, encN_snoc, List.append_assoc]
    simp only [wire_PutInts_step, wire_PutInts_1, List.length_map, ltB hlt, ixB hlt, le0, Bool.and_self, cond_true, Int.toNat_natCast, List.getE hlt, Option.bind_some, e2, wS (show k < 9223372036854775807 by omega)]
theorem putInts_ok {l : List Int} (hl : I64s l) (h64 : l.length ≤ 64) : wire_PutInts l = some (0, encL l) := by
  have hn := inLen (n := l.length) (by omega)
  refine evf_of (.next (s' := .s1 l l.length 0 (encI l.length)) ?_ ?_)
  · have h1 : decide ((l.length : Int) > 64) = false := by simp; omega
    simp only [wire_PutInts_step, wire_PutInts_0, List.length_map, h1, cond_false, putInt_ok hn, Option.bind_some]
  · have := putInts_loop hl h64 (encI l.length) (encI_len hn) l.length 0 (by omega)
    simpa [encN, encL] using this
/-! ### the document's writer -/
/-! ### the program's reader -/
/-! ### the document's reader -/
/-! ### lists, read -/
end Go.RX.L

namespace Go.RX.L
open Go Go.RX
/-! ### writing -/
def putF (k : Int) (body : List Int) : List Int × Int := if body.length ≤ 8192 then (encF k body, 0) else ([], 2)
theorem shr8 {n : Nat} : shrI .i64 n 8 = ((n / 256 : Nat) : Int) := by
  unfold shrI
  rw [show min (8 : Int).toNat IntKind.i64.bits = 8 from rfl, Int.fdiv_eq_ediv_of_nonneg _ (by decide)]
  norm_cast
theorem headB (k : Int) {body : List Int} (h : body.length ≤ 8192) : [247, k, (IntKind.u8.wrap ((shrI .i64 ((body.length : Nat) : Int) 8))), (IntKind.u8.wrap (((body.length : Nat) : Int)))] ++ body = 247 :: inner k body := by
  rw [shr8, wrapU8_mod, wrapU8_mod, Nat.mod_eq_of_lt (a := body.length / 256) (by omega)]
  rfl
theorem sumB {k : Int} {body : List Int} (h : body.length ≤ 8192) : List.take ((247 :: inner k body).length - 1) (List.drop 1 (247 :: inner k body)) = inner k body := by
  simp
theorem frame_tail {s : Nat} (hs : s < 4294967296) {b : List Int} (hb : b.length ≤ 8300) : Ev frame_Put_step (.s1 s 24 b) (b ++ be4 s, 0) := by
  have e24 : shrI .u32 s 24 = ((s / 16777216 : Nat) : Int) := shrU32 (a := s) (k := 24) (by decide)
  have e16 : shrI .u32 s 16 = ((s / 65536 : Nat) : Int) := shrU32 (a := s) (k := 16) (by decide)
  have e8 : shrI .u32 s 8 = ((s / 256 : Nat) : Int) := shrU32 (a := s) (k := 8) (by decide)
  have e0 : shrI .u32 s 0 = (s : Int) := by have := shrU32 (a := s) (k := 0) (by decide); simpa using this
  have lim : ∀ n, n ≤ 8310 → decide ((n + 1) * 1 ≤ bytesLim) = true := fun n hn => limOk (by omega)
  refine .next (s' := .s1 s 16 (b ++ [((s / 16777216 % 256 : Nat) : Int)])) ?_ (.next (s' := .s1 s 8 (b ++ [((s / 16777216 % 256 : Nat) : Int), ((s / 65536 % 256 : Nat) : Int)])) ?_ (.next (s' := .s1 s 0 (b ++ [((s / 16777216 % 256 : Nat) : Int), ((s / 65536 % 256 : Nat) : Int), ((s / 256 % 256 : Nat) : Int)])) ?_ (.next (s' := .s1 s (-8) (b ++ be4 s)) ?_ (.done ?_))))
  · simp only [frame_Put_step, frame_Put_1, e24, wrapU8_mod, List.length_map, lim b.length (by omega)]
    rfl
  · simp only [frame_Put_step, frame_Put_1, e16, wrapU8_mod, List.length_map, List.length_append, List.length_cons, List.length_nil, lim (b.length + (0 + 1)) (by omega), List.append_assoc, List.cons_append, List.nil_append]
    rfl
  · simp only [frame_Put_step, frame_Put_1, e8, wrapU8_mod, List.length_map, List.length_append, List.length_cons, List.length_nil, lim (b.length + (0 + 1 + 1)) (by omega), List.append_assoc, List.cons_append, List.nil_append]
    rfl
  · simp only [frame_Put_step, frame_Put_1, e0, wrapU8_mod, List.length_map, List.length_append, List.length_cons, List.length_nil, lim (b.length + (0 + 1 + 1 + 1)) (by omega), List.append_assoc, List.cons_append, List.nil_append]
    rfl
  · rfl
theorem framePut_ok {k : Int} {body : List Int} (hk : 0 ≤ k ∧ k ≤ 255) (hb : Bytes body) (hm : body.length ≤ memB) : frame_Put k body = some (putF k body) := by
  unfold putF
  by_cases h : body.length ≤ 8192
  · rw [if_pos h]
    have hs := sum_ok (inner_bytes hk hb (by omega)) (by rw [inner_len]; omega)
    refine evf_of (.next (s' := .s1 (crc (inner k body) : Int) 24 (247 :: inner k body)) ?_ ?_)
    · have c1 : decide (((body.length : Nat) : Int) > 8192) = false := by simp; omega
      have c2 : decide ((4 + body.length) * 1 ≤ bytesLim) = true := limOk (by omega)
      have c3 : decide ((1 : Int) ≤ (((247 :: inner k body).length : Nat) : Int)) = true := by simp [inner_len]; omega
      have c4 : Nat.ble (1 + ((247 :: inner k body).length - 1)) (247 :: inner k body).length = true := by simp; omega
      simp only [frame_Put_step, frame_Put_0, List.length_map, c1, c2, headB k h, c3, c4, cond_false, cond_true, sumB h, hs, Option.bind_some]
    · exact frame_tail (crc_lt _) (by simp [inner_len]; omega)
  · rw [if_neg h]
    refine evf_of (.done ?_)
    have c1 : decide (((body.length : Nat) : Int) > 8192) = true := by simp; omega
    simp only [frame_Put_step, frame_Put_0, List.length_map, c1, cond_true]
end Go.RX.L

namespace Go.RX.L
open Go Go.RX
/-! ### the document's reader -/
end Go.RX.L

namespace Go.RX.L
open Go Go.RX Go.Proofs
attribute [local irreducible] FinQ
inductive frame_All_S where
 | s0
 | s1 (behind : Int) (b5 : List Int) (b6 : List (List Int))
 | s2 (behind : Int) (b5 : List Int) (b6 : List (List Int)) (Y : List (Int × oneT))
end Go.RX.L

namespace Go.RX.L
open Go Go.RX Go.Proofs
attribute [local irreducible] FinQ
end Go.RX.L

namespace Go.RX.L
open Go Go.RX Go.Proofs
attribute [local irreducible] FinQ
noncomputable def Journal_effect__Open_1_e (b2 : Int) (b4 : List Int) (y : Int × Int × Bool × (List Int)) : D × Sto := (.int .i64 y.1, [some ⟨4, true, [[(grD 5 (List.map (eInt .u8) y.2.2.2)), .msl 6 0 0 0 false, .int .i64 y.2.1, .bool y.2.2.1]]⟩, some ⟨1, true, [[.ptr 0 0 0]]⟩, some ⟨1, false, [[.int .i64 b2]]⟩, none, none, some ⟨1, false, (List.map (eInt .u8) y.2.2.2)⟩, some ⟨1, false, (List.map (eInt .u8) b4)⟩])
abbrev Journal_effect__Open_1_W (fuse : Int) (down : Bool) (b2 : Int) (b3 b4 : List Int) := AOk E (Cx.of Tryd.f77 true 5) (Journal_effect__Open_1_e b2 b4)
end Go.RX.L

namespace Go.RX.L
open Go Go.RX Go.Proofs
attribute [local irreducible] FinQ
end Go.RX.L

namespace Go.RX.L
open Go Go.RX
/-! ### frames, one behind the other -/
/-- A frame: its kind, its body. -/
abbrev Fr1 := Int × List Int
def okFr (x : Fr1) : Prop := (0 ≤ x.1 ∧ x.1 ≤ 255) ∧ Bytes x.2 ∧ x.2.length ≤ 8192
def frs : List Fr1 → List Int
  | [] => []
  | x :: l => encF x.1 x.2 ++ frs l
theorem frs_app (a b : List Fr1) : frs (a ++ b) = frs a ++ frs b := by
  induction a with
  | nil => rfl
  | cons x a ih => simp [frs, ih]
theorem frs_bytes {l : List Fr1} (h : ∀ x ∈ l, okFr x) : Bytes (frs l) := by
  induction l with
  | nil => intro c hc; simp [frs] at hc
  | cons x l ih =>
    intro c hc
    simp only [frs, List.mem_append] at hc
    obtain ⟨h1, h2, h3⟩ := h x (by simp)
    rcases hc with hc | hc
    · exact encF_bytes h1 h2 (by omega) c hc
    · exact ih (fun y hy => h y (by simp [hy])) c hc
end Go.RX.L

namespace Go.RX.L
open Go Go.RX Go.Proofs
attribute [local irreducible] FinQ
end Go.RX.L

namespace Go.RX.L
open Go Go.RX Go.Proofs
attribute [local irreducible] FinQ
end Go.RX.L

namespace Go.RX.L
open Go Go.RX Go.Proofs
attribute [local irreducible] FinQ
end Go.RX.L

namespace Go.RX.L
open Go Go.RX Go.Proofs
attribute [local irreducible] FinQ
noncomputable def plan_all_1_e (y : Bool) : D × Sto := (.bool y, [])
noncomputable def plan_all_1 (n t t2 : Int) : Option Bool := (bif (decide ((n : Int) < t)) then (some true) else (some (decide ((n : Int) > t2))))
theorem plan_all_1_ok {n t t2 : Int} {r : Bool} (h : plan_all_1 n t t2 = some r) : Sound E 91 [.int .i64 n, .iptr 1 [[.int .i64 t]] 0 0, .iptr 1 [[.int .i64 t2]] 0 0] [] (Rs plan_all_1_e r) := so (fn := Tryd.f91) (k := false) (m := 0) h <| by
 intro r h; unfold plan_all_1 at h
 refine zs 12 h (fun h => ?_) fun h => ?_
 ·
  exact zu 9 h
 exact zu 10 h
end Go.RX.L

namespace Go.RX.L
open Go Go.RX Go.Proofs
attribute [local irreducible] FinQ
noncomputable def slices_IndexFunc__all_1_c := codeAt (bodyOf Tryd.f89)
noncomputable def slices_IndexFunc__all_1_e (y : Int) : D × Sto := (.int .i64 y, [])
inductive slices_IndexFunc__all_1_S where
 | s0 (s_ : List Int) (f f2 : Int)
 | s1 (s_ : List Int) (f f2 : Int) (t7 t8 : Int)
noncomputable def slices_IndexFunc__all_1_M : slices_IndexFunc__all_1_S → M
 | .s0 s_ f f2 => startM Tryd.f89 [.sl false 1 (List.map (eInt .i64) s_), .fn 91 [] [.iptr 1 [[.int .i64 f]] 0 0, .iptr 1 [[.int .i64 f2]] 0 0]] []
 | .s1 s_ f f2 t7 t8 => ⟨[.lpc (slices_IndexFunc__all_1_c [1, 0, 1, 0, 0]) 387, .blk 0, .code (slices_IndexFunc__all_1_c [1, 1])], [(0, .sl false 1 (List.map (eInt .i64) s_)), (1, .fn 91 [] [.iptr 1 [[.int .i64 f]] 0 0, .iptr 1 [[.int .i64 f2]] 0 0]), (7, .int .i64 t7), (8, .int .i64 t8)], []⟩
abbrev slices_IndexFunc__all_1_W := SOk E (Cx.of Tryd.f89 false 0) slices_IndexFunc__all_1_e slices_IndexFunc__all_1_M
noncomputable def slices_IndexFunc__all_1_0 (s_ : List Int) (f f2 : Int) : Option (slices_IndexFunc__all_1_S ⊕ Int) := (some (.inl (.s1 s_ f f2 (((List.map (eInt .i64) s_).length : Nat) : Int) 0)))
noncomputable def slices_IndexFunc__all_1_1 (s_ : List Int) (f f2 : Int) (t7 t8 : Int) : Option (slices_IndexFunc__all_1_S ⊕ Int) := (bif (decide ((t8 : Int) < t7)) then (bif ((decide ((0 : Int) ≤ t8)) && (decide ((t8 : Int) < (((List.map (eInt .i64) s_).length : Nat) : Int)))) then (((s_)[t8.toNat]?).bind fun y3 => ((plan_all_1 y3 f f2).bind fun y5 => (bif y5 then (some (.inr t8)) else (some (.inl (.s1 s_ f f2 t7 (IntKind.i64.wrap (t8 + 1)))))))) else none) else (some (.inr (-1))))
noncomputable def slices_IndexFunc__all_1_step : slices_IndexFunc__all_1_S → Option (slices_IndexFunc__all_1_S ⊕ Int)
 | .s0 s_ f f2 => slices_IndexFunc__all_1_0 s_ f f2
 | .s1 s_ f f2 t7 t8 => slices_IndexFunc__all_1_1 s_ f f2 t7 t8
theorem slices_IndexFunc__all_1_0_ok {s_ f f2} : slices_IndexFunc__all_1_W (.s0 s_ f f2) (slices_IndexFunc__all_1_0 s_ f f2) := by
 intro r x h ha; unfold slices_IndexFunc__all_1_0 at h
 exact zj 14 h ha
theorem slices_IndexFunc__all_1_1_ok {s_ f f2 t7 t8} : slices_IndexFunc__all_1_W (.s1 s_ f f2 t7 t8) (slices_IndexFunc__all_1_1 s_ f f2 t7 t8) := by
 intro r x h ha; unfold slices_IndexFunc__all_1_1 at h
 refine zs 7 h (fun h => ?_) fun h => ?_
 ·
  refine zn 14 h fun h => ?_
  refine zr 1 (eInt .i64) h fun y3 h => ?_
  refine zc 1 [] h (fun _ => plan_all_1_ok) fun y5 h => ?_
  refine zs 2 h (fun h => ?_) fun h => ?_
  ·
   exact zt 6 h ha
  exact zj 7 h ha
 exact zt 6 h ha
noncomputable def slices_IndexFunc__all_1 (s_ : List Int) (f f2 : Int) : Option Int := evf slices_IndexFunc__all_1_step (.s0 s_ f f2)
theorem slices_IndexFunc__all_1_ok {s_ : List Int} {f f2 r : Int} (h : slices_IndexFunc__all_1 s_ f f2 = some r) : Sound E 89 [.sl false 1 (List.map (eInt .i64) s_), .fn 91 [] [.iptr 1 [[.int .i64 f]] 0 0, .iptr 1 [[.int .i64 f2]] 0 0]] [] (Rs slices_IndexFunc__all_1_e r) := sc (fn := Tryd.f89) (k := false) (m := 0) (stM := slices_IndexFunc__all_1_M) h fun s => by
 cases s with
 | s0 => exact slices_IndexFunc__all_1_0_ok
 | s1 => exact slices_IndexFunc__all_1_1_ok
end Go.RX.L

namespace Go.RX.L
open Go Go.RX Go.Proofs
attribute [local irreducible] FinQ
noncomputable def slices_ContainsFunc__all_1_e (y : Bool) : D × Sto := (.bool y, [])
noncomputable def slices_ContainsFunc__all_1 (s_ : List Int) (f f2 : Int) : Option Bool := ((slices_IndexFunc__all_1 s_ f f2).bind fun y1 => (some (decide ((y1 : Int) ≥ 0))))
theorem slices_ContainsFunc__all_1_ok {s_ : List Int} {f f2 : Int} {r : Bool} (h : slices_ContainsFunc__all_1 s_ f f2 = some r) : Sound E 66 [.sl false 1 (List.map (eInt .i64) s_), .fn 91 [] [.iptr 1 [[.int .i64 f]] 0 0, .iptr 1 [[.int .i64 f2]] 0 0]] [] (Rs slices_ContainsFunc__all_1_e r) := so (fn := Tryd.f66) (k := false) (m := 0) h <| by
 intro r h; unfold slices_ContainsFunc__all_1 at h
 refine zc 9 [] h (fun _ => slices_IndexFunc__all_1_ok) fun y1 h => ?_
 exact zu 4 h
end Go.RX.L

namespace Go.RX.L
open Go Go.RX Go.Proofs
attribute [local irreducible] FinQ
noncomputable def plan_all_e (y : Bool) : D × Sto := (.bool y, [])
noncomputable def plan_all (low high : Int) (l_ : List Int) : Option Bool := ((slices_ContainsFunc__all_1 l_ low high).bind fun y1 => (some (!y1)))
theorem plan_all_ok {low high : Int} {l_ : List Int} {r : Bool} (h : plan_all low high l_ = some r) : Sound E 69 [.int .i64 low, .int .i64 high, .sl false 1 (List.map (eInt .i64) l_)] [] (Rs plan_all_e r) := so (fn := Tryd.f69) (k := false) (m := 0) h <| by
 intro r h; unfold plan_all at h
 refine zc 11 [] h (fun _ => slices_ContainsFunc__all_1_ok) fun y1 h => ?_
 exact zu 4 h
end Go.RX.L

namespace Go.RX.L
open Go Go.RX Go.Proofs
attribute [local irreducible] FinQ
noncomputable def plan_all_1_v2_e (y : Bool) : D × Sto := (.bool y, [])
noncomputable def plan_all_1_v2 (n t t2 : Int) : Option Bool := (bif (decide ((n : Int) < t)) then (some true) else (some (decide ((n : Int) > t2))))
theorem plan_all_1_v2_ok {n t t2 : Int} {r : Bool} (h : plan_all_1_v2 n t t2 = some r) : Sound E 90 [.int .i64 n, .iptr 1 [[.int .i64 t]] 0 0, .iptr 1 [[.int .i64 t2]] 0 0] [] (Rs plan_all_1_v2_e r) := so (fn := Tryd.f90) (k := false) (m := 0) h <| by
 intro r h; unfold plan_all_1_v2 at h
 refine zs 12 h (fun h => ?_) fun h => ?_
 ·
  exact zu 9 h
 exact zu 10 h
end Go.RX.L

namespace Go.RX.L
open Go Go.RX Go.Proofs
attribute [local irreducible] FinQ
noncomputable def slices_IndexFunc__all_1_v2_c := codeAt (bodyOf Tryd.f88)
noncomputable def slices_IndexFunc__all_1_v2_e (y : Int) : D × Sto := (.int .i64 y, [])
inductive slices_IndexFunc__all_1_v2_S where
 | s0 (s_ : List Int) (f f2 : Int)
 | s1 (s_ : List Int) (f f2 : Int) (t7 t8 : Int)
noncomputable def slices_IndexFunc__all_1_v2_M : slices_IndexFunc__all_1_v2_S → M
 | .s0 s_ f f2 => startM Tryd.f88 [.sl false 1 (List.map (eInt .i64) s_), .fn 90 [] [.iptr 1 [[.int .i64 f]] 0 0, .iptr 1 [[.int .i64 f2]] 0 0]] []
 | .s1 s_ f f2 t7 t8 => ⟨[.lpc (slices_IndexFunc__all_1_v2_c [1, 0, 1, 0, 0]) 387, .blk 0, .code (slices_IndexFunc__all_1_v2_c [1, 1])], [(0, .sl false 1 (List.map (eInt .i64) s_)), (1, .fn 90 [] [.iptr 1 [[.int .i64 f]] 0 0, .iptr 1 [[.int .i64 f2]] 0 0]), (7, .int .i64 t7), (8, .int .i64 t8)], []⟩
abbrev slices_IndexFunc__all_1_v2_W := SOk E (Cx.of Tryd.f88 false 0) slices_IndexFunc__all_1_v2_e slices_IndexFunc__all_1_v2_M
noncomputable def slices_IndexFunc__all_1_v2_0 (s_ : List Int) (f f2 : Int) : Option (slices_IndexFunc__all_1_v2_S ⊕ Int) := (some (.inl (.s1 s_ f f2 (((List.map (eInt .i64) s_).length : Nat) : Int) 0)))
noncomputable def slices_IndexFunc__all_1_v2_1 (s_ : List Int) (f f2 : Int) (t7 t8 : Int) : Option (slices_IndexFunc__all_1_v2_S ⊕ Int) := (bif (decide ((t8 : Int) < t7)) then (bif ((decide ((0 : Int) ≤ t8)) && (decide ((t8 : Int) < (((List.map (eInt .i64) s_).length : Nat) : Int)))) then (((s_)[t8.toNat]?).bind fun y3 => ((plan_all_1_v2 y3 f f2).bind fun y5 => (bif y5 then (some (.inr t8)) else (some (.inl (.s1 s_ f f2 t7 (IntKind.i64.wrap (t8 + 1)))))))) else none) else (some (.inr (-1))))
noncomputable def slices_IndexFunc__all_1_v2_step : slices_IndexFunc__all_1_v2_S → Option (slices_IndexFunc__all_1_v2_S ⊕ Int)
 | .s0 s_ f f2 => slices_IndexFunc__all_1_v2_0 s_ f f2
 | .s1 s_ f f2 t7 t8 => slices_IndexFunc__all_1_v2_1 s_ f f2 t7 t8
theorem slices_IndexFunc__all_1_v2_0_ok {s_ f f2} : slices_IndexFunc__all_1_v2_W (.s0 s_ f f2) (slices_IndexFunc__all_1_v2_0 s_ f f2) := by
 intro r x h ha; unfold slices_IndexFunc__all_1_v2_0 at h
 exact zj 14 h ha
theorem slices_IndexFunc__all_1_v2_1_ok {s_ f f2 t7 t8} : slices_IndexFunc__all_1_v2_W (.s1 s_ f f2 t7 t8) (slices_IndexFunc__all_1_v2_1 s_ f f2 t7 t8) := by
 intro r x h ha; unfold slices_IndexFunc__all_1_v2_1 at h
 refine zs 7 h (fun h => ?_) fun h => ?_
 ·
  refine zn 14 h fun h => ?_
  refine zr 1 (eInt .i64) h fun y3 h => ?_
  refine zc 1 [] h (fun _ => plan_all_1_v2_ok) fun y5 h => ?_
  refine zs 2 h (fun h => ?_) fun h => ?_
  ·
   exact zt 6 h ha
  exact zj 7 h ha
 exact zt 6 h ha
noncomputable def slices_IndexFunc__all_1_v2 (s_ : List Int) (f f2 : Int) : Option Int := evf slices_IndexFunc__all_1_v2_step (.s0 s_ f f2)
theorem slices_IndexFunc__all_1_v2_ok {s_ : List Int} {f f2 r : Int} (h : slices_IndexFunc__all_1_v2 s_ f f2 = some r) : Sound E 88 [.sl false 1 (List.map (eInt .i64) s_), .fn 90 [] [.iptr 1 [[.int .i64 f]] 0 0, .iptr 1 [[.int .i64 f2]] 0 0]] [] (Rs slices_IndexFunc__all_1_v2_e r) := sc (fn := Tryd.f88) (k := false) (m := 0) (stM := slices_IndexFunc__all_1_v2_M) h fun s => by
 cases s with
 | s0 => exact slices_IndexFunc__all_1_v2_0_ok
 | s1 => exact slices_IndexFunc__all_1_v2_1_ok
end Go.RX.L

namespace Go.RX.L
open Go Go.RX Go.Proofs
attribute [local irreducible] FinQ
noncomputable def slices_ContainsFunc__all_1_v2_e (y : Bool) : D × Sto := (.bool y, [])
noncomputable def slices_ContainsFunc__all_1_v2 (s_ : List Int) (f f2 : Int) : Option Bool := ((slices_IndexFunc__all_1_v2 s_ f f2).bind fun y1 => (some (decide ((y1 : Int) ≥ 0))))
theorem slices_ContainsFunc__all_1_v2_ok {s_ : List Int} {f f2 : Int} {r : Bool} (h : slices_ContainsFunc__all_1_v2 s_ f f2 = some r) : Sound E 64 [.sl false 1 (List.map (eInt .i64) s_), .fn 90 [] [.iptr 1 [[.int .i64 f]] 0 0, .iptr 1 [[.int .i64 f2]] 0 0]] [] (Rs slices_ContainsFunc__all_1_v2_e r) := so (fn := Tryd.f64) (k := false) (m := 0) h <| by
 intro r h; unfold slices_ContainsFunc__all_1_v2 at h
 refine zc 9 [] h (fun _ => slices_IndexFunc__all_1_v2_ok) fun y1 h => ?_
 exact zu 4 h
end Go.RX.L

namespace Go.RX.L
open Go Go.RX Go.Proofs
attribute [local irreducible] FinQ
noncomputable def plan_all_v2_e (y : Bool) : D × Sto := (.bool y, [])
noncomputable def plan_all_v2 (low high : Int) (l_ : List Int) : Option Bool := ((slices_ContainsFunc__all_1_v2 l_ low high).bind fun y1 => (some (!y1)))
theorem plan_all_v2_ok {low high : Int} {l_ : List Int} {r : Bool} (h : plan_all_v2 low high l_ = some r) : Sound E 68 [.int .i64 low, .int .i64 high, .sl false 1 (List.map (eInt .i64) l_)] [] (Rs plan_all_v2_e r) := so (fn := Tryd.f68) (k := false) (m := 0) h <| by
 intro r h; unfold plan_all_v2 at h
 refine zc 11 [] h (fun _ => slices_ContainsFunc__all_1_v2_ok) fun y1 h => ?_
 exact zu 4 h
end Go.RX.L

namespace Go.RX.L
open Go Go.RX Go.Proofs
attribute [local irreducible] FinQ
noncomputable def cmp_isNaN_e (y : Bool) : D × Sto := (.bool y, [])
noncomputable def cmp_isNaN (x_ : Int) : Option Bool := (some ((x_ : Int) != x_))
theorem cmp_isNaN_ok {x_ : Int} {r : Bool} (h : cmp_isNaN x_ = some r) : Sound E 99 [.int .i64 x_] [] (Rs cmp_isNaN_e r) := so (fn := Tryd.f99) (k := false) (m := 0) h <| by
 intro r h; unfold cmp_isNaN at h
 exact zu 12 h
end Go.RX.L

namespace Go.RX.L
open Go Go.RX Go.Proofs
attribute [local irreducible] FinQ
noncomputable def cmp_Less_e (y : Bool) : D × Sto := (.bool y, [])
noncomputable def cmp_Less (x_ y_ : Int) : Option Bool := ((cmp_isNaN x_).bind fun y1 => (bif y1 then ((cmp_isNaN y_).bind fun y3 => (bif (!y3) then (some true) else (some (decide ((x_ : Int) < y_))))) else (some (decide ((x_ : Int) < y_)))))
theorem cmp_Less_ok {x_ y_ : Int} {r : Bool} (h : cmp_Less x_ y_ = some r) : Sound E 92 [.int .i64 x_, .int .i64 y_] [] (Rs cmp_Less_e r) := so (fn := Tryd.f92) (k := false) (m := 0) h <| by
 intro r h; unfold cmp_Less at h
 refine zc 8 [] h (fun _ => cmp_isNaN_ok) fun y1 h => ?_
 refine zs 2 h (fun h => ?_) fun h => ?_
 ·
  refine zc 2 [] h (fun _ => cmp_isNaN_ok) fun y3 h => ?_
  refine zs 6 h (fun h => ?_) fun h => ?_
  ·
   exact zu 9 h
  exact zu 9 h
 exact zu 18 h
end Go.RX.L

namespace Go.RX.L
open Go Go.RX Go.Proofs
attribute [local irreducible] FinQ
noncomputable def slices_IsSorted_c := codeAt (bodyOf Tryd.f70)
noncomputable def slices_IsSorted_e (y : Bool) : D × Sto := (.bool y, [])
inductive slices_IsSorted_S where
 | s0 (x_ : List Int)
 | s1 (x_ : List Int) (i : Int)
noncomputable def slices_IsSorted_M : slices_IsSorted_S → M
 | .s0 x_ => startM Tryd.f70 [.sl false 1 (List.map (eInt .i64) x_)] []
 | .s1 x_ i => ⟨[.lpc (slices_IsSorted_c [1, 0, 1, 0, 0]) 9, .blk 0, .code (slices_IsSorted_c [1, 1])], [(0, .sl false 1 (List.map (eInt .i64) x_)), (3, .int .i64 i)], []⟩
abbrev slices_IsSorted_W := SOk E (Cx.of Tryd.f70 false 0) slices_IsSorted_e slices_IsSorted_M
noncomputable def slices_IsSorted_0 (x_ : List Int) : Option (slices_IsSorted_S ⊕ Bool) := (some (.inl (.s1 x_ (IntKind.i64.wrap ((((List.map (eInt .i64) x_).length : Nat) : Int) - 1)))))
noncomputable def slices_IsSorted_1 (x_ : List Int) (i : Int) : Option (slices_IsSorted_S ⊕ Bool) := (bif (decide ((i : Int) > 0)) then (bif ((decide ((0 : Int) ≤ i)) && (decide ((i : Int) < (((List.map (eInt .i64) x_).length : Nat) : Int)))) then (((x_)[i.toNat]?).bind fun y3 => (bif ((decide ((0 : Int) ≤ (IntKind.i64.wrap (i - 1)))) && (decide (((IntKind.i64.wrap (i - 1)) : Int) < (((List.map (eInt .i64) x_).length : Nat) : Int)))) then (((x_)[(IntKind.i64.wrap (i - 1)).toNat]?).bind fun y6 => ((cmp_Less y3 y6).bind fun y8 => (bif y8 then (some (.inr false)) else (some (.inl (.s1 x_ (IntKind.i64.wrap (i - 1)))))))) else none)) else none) else (some (.inr true)))
noncomputable def slices_IsSorted_step : slices_IsSorted_S → Option (slices_IsSorted_S ⊕ Bool)
 | .s0 x_ => slices_IsSorted_0 x_
 | .s1 x_ i => slices_IsSorted_1 x_ i
theorem slices_IsSorted_0_ok {x_} : slices_IsSorted_W (.s0 x_) (slices_IsSorted_0 x_) := by
 intro r x h ha; unfold slices_IsSorted_0 at h
 exact zj 15 h ha
theorem slices_IsSorted_1_ok {x_ i} : slices_IsSorted_W (.s1 x_ i) (slices_IsSorted_1 x_ i) := by
 intro r x h ha; unfold slices_IsSorted_1 at h
 refine zs 8 h (fun h => ?_) fun h => ?_
 ·
  refine zn 5 h fun h => ?_
  refine zr 0 (eInt .i64) h fun y3 h => ?_
  refine zn 0 h fun h => ?_
  refine zr 0 (eInt .i64) h fun y6 h => ?_
  refine zd 0 [] h (fun _ => cmp_Less_ok) fun y8 h => ?_
  refine zs 1 h (fun h => ?_) fun h => ?_
  ·
   exact zt 5 h ha
  exact zj 8 h ha
 exact zt 6 h ha
noncomputable def slices_IsSorted (x_ : List Int) : Option Bool := evf slices_IsSorted_step (.s0 x_)
theorem slices_IsSorted_ok {x_ : List Int} {r : Bool} (h : slices_IsSorted x_ = some r) : Sound E 70 [.sl false 1 (List.map (eInt .i64) x_)] [] (Rs slices_IsSorted_e r) := sc (fn := Tryd.f70) (k := false) (m := 0) (stM := slices_IsSorted_M) h fun s => by
 cases s with
 | s0 => exact slices_IsSorted_0_ok
 | s1 => exact slices_IsSorted_1_ok
end Go.RX.L

namespace Go.RX.L
open Go Go.RX Go.Proofs
attribute [local irreducible] FinQ
noncomputable def plan_Right_c := codeAt (bodyOf Tryd.f49)
noncomputable def plan_Right_e (y : Bool) : D × Sto := (.bool y, [])
abbrev plan_Right_W := AOk E (Cx.of Tryd.f49 false 0) plan_Right_e
noncomputable def plan_Right_1M (t37 : Bool) (p_ : Plan) : M := ⟨[.code (plan_Right_c [1, 0, 0, 1, 1, 1, 1, 1]), .blk 0, .code (plan_Right_c [1, 1])], [(1, .ptr 0 0 0), (37, .bool t37)], [some ⟨12, false, [(Plan.enc p_)]⟩]⟩
noncomputable def plan_Right_1 (t37 : Bool) (p_ : Plan) : Option Bool := (bif t37 then (some false) else ((plan_all_v2 0 1000000 p_.Pen).bind fun y2 => (bif y2 then ((plan_all 0 1099511627776 p_.Changes).bind fun y4 => (bif y4 then ((slices_IsSorted p_.Changes).bind fun y6 => (some y6)) else (some false))) else (some false))))
theorem plan_Right_1_ok {t37 p_} : plan_Right_W (plan_Right_1M t37 p_) (plan_Right_1 t37 p_) := by
 intro r h; unfold plan_Right_1 at h
 refine zs 1 h (fun h => ?_) fun h => ?_
 ·
  exact zu 5 h
 refine zc 8 [] h (fun _ => plan_all_v2_ok) fun y2 h => ?_
 refine zs 2 h (fun h => ?_) fun h => ?_
 ·
  refine zc 5 [] h (fun _ => plan_all_ok) fun y4 h => ?_
  refine zs 4 h (fun h => ?_) fun h => ?_
  ·
   refine zc 5 [] h (fun _ => slices_IsSorted_ok) fun y6 h => ?_
   exact zu 5 h
  exact zu 9 h
 exact zu 18 h
noncomputable def plan_Right_2M (t21 : Bool) (p_ : Plan) : M := ⟨[.code (plan_Right_c [1, 0, 0, 1, 1, 1]), .blk 0, .code (plan_Right_c [1, 1])], [(1, .ptr 0 0 0), (21, .bool t21)], [some ⟨12, false, [(Plan.enc p_)]⟩]⟩
noncomputable def plan_Right_2 (t21 : Bool) (p_ : Plan) : Option Bool := (bif t21 then (some false) else (bif (decide (((((List.map (eInt .i64) p_.Pen).length : Nat) : Int) : Int) > 16)) then (plan_Right_1 (decide (((((List.map (eInt .i64) p_.Pen).length : Nat) : Int) : Int) > 16)) p_) else (plan_Right_1 (decide (((((List.map (eInt .i64) p_.Changes).length : Nat) : Int) : Int) > 8)) p_)))
theorem plan_Right_2_ok {t21 p_} : plan_Right_W (plan_Right_2M t21 p_) (plan_Right_2 t21 p_) := by
 intro r h; unfold plan_Right_2 at h
 refine zs 1 h (fun h => ?_) fun h => ?_
 ·
  exact zu 5 h
 refine zs 11 h (fun h => ?_) fun h => ?_
 ·
  exact zg 1 (plan_Right_1_ok h)
 exact zg 8 (plan_Right_1_ok h)
noncomputable def plan_Right_3M (t3 : Bool) (p_ : Plan) : M := ⟨[.code (plan_Right_c [1, 0, 0, 1]), .blk 0, .code (plan_Right_c [1, 1])], [(1, .ptr 0 0 0), (3, .bool t3)], [some ⟨12, false, [(Plan.enc p_)]⟩]⟩
noncomputable def plan_Right_3 (t3 : Bool) (p_ : Plan) : Option Bool := (bif t3 then (some false) else ((plan_all 0 1099511627776 ([p_.Stamp, p_.Since, p_.Ramped])).bind fun y2 => (bif (!y2) then (plan_Right_2 (!y2) p_) else (plan_Right_2 (decide (((mxI p_.Up p_.Sup) : Int) ≥ 65536)) p_))))
theorem plan_Right_3_ok {t3 p_} : plan_Right_W (plan_Right_3M t3 p_) (plan_Right_3 t3 p_) := by
 intro r h; unfold plan_Right_3 at h
 refine zs 1 h (fun h => ?_) fun h => ?_
 ·
  exact zu 5 h
 refine zc 15 [] h (fun _ => plan_all_ok) fun y2 h => ?_
 refine zs 4 h (fun h => ?_) fun h => ?_
 ·
  exact zg 1 (plan_Right_2_ok h)
 exact zg 11 (plan_Right_2_ok h)
noncomputable def plan_Right (p_ : Plan) : Option Bool := (bif (decide ((p_.Epoch : Int) < 0)) then (plan_Right_3 (decide ((p_.Epoch : Int) < 0)) p_) else ((plan_all_v2 (-1) 15 ([p_.Target, p_.Prev, p_.Spill])).bind fun y2 => (bif (!y2) then (plan_Right_3 (!y2) p_) else ((plan_all_v2 0 100 ([p_.Percent])).bind fun y4 => (plan_Right_3 (!y4) p_)))))
theorem plan_Right_ok {p_ : Plan} {r : Bool} (h : plan_Right p_ = some r) : Sound E 49 [.agg [.int .i64 p_.Epoch, .int .i64 p_.Target, .int .i64 p_.Prev, .int .i64 p_.Spill, .int .i64 p_.Percent, .int .i64 p_.Stamp, .int .i64 p_.Since, .int .i64 p_.Ramped, .int .u64 p_.Up, .int .u64 p_.Sup, .sl false 1 (List.map (eInt .i64) p_.Pen), .sl false 1 (List.map (eInt .i64) p_.Changes)]] [] (Rs plan_Right_e r) := so (fn := Tryd.f49) (k := false) (m := 0) h <| by
 intro r h; unfold plan_Right at h
 refine zs 17 h (fun h => ?_) fun h => ?_
 ·
  exact zg 1 (plan_Right_3_ok h)
 refine zc 14 [] h (fun _ => plan_all_v2_ok) fun y2 h => ?_
 refine zs 4 h (fun h => ?_) fun h => ?_
 ·
  exact zg 1 (plan_Right_3_ok h)
 refine zc 7 [] h (fun _ => plan_all_v2_ok) fun y4 h => ?_
 exact zg 3 (plan_Right_3_ok h)
end Go.RX.L

namespace Go.RX.L
open Go Go.RX Go.Proofs
attribute [local irreducible] FinQ
noncomputable def plan_numbers_e (y : Int × Int × Int × Int × Int × Int × Int × Int × Int × Int) : D × Sto := (.agg [.int .i64 y.1, .int .i64 y.2.1, .int .i64 y.2.2.1, .int .i64 y.2.2.2.1, .int .i64 y.2.2.2.2.1, .int .i64 y.2.2.2.2.2.1, .int .i64 y.2.2.2.2.2.2.1, .int .i64 y.2.2.2.2.2.2.2.1, .int .i64 y.2.2.2.2.2.2.2.2.1, .int .i64 y.2.2.2.2.2.2.2.2.2], [])
noncomputable def plan_numbers (p_ : Plan) : Option (Int × Int × Int × Int × Int × Int × Int × Int × Int × Int) := (some (p_.Epoch, p_.Target, p_.Prev, p_.Spill, p_.Percent, p_.Stamp, p_.Since, p_.Ramped, (IntKind.i64.wrap (p_.Up)), (IntKind.i64.wrap (p_.Sup))))
theorem plan_numbers_ok {p_ : Plan} {r : Int × Int × Int × Int × Int × Int × Int × Int × Int × Int} (h : plan_numbers p_ = some r) : Sound E 71 [.agg [.int .i64 p_.Epoch, .int .i64 p_.Target, .int .i64 p_.Prev, .int .i64 p_.Spill, .int .i64 p_.Percent, .int .i64 p_.Stamp, .int .i64 p_.Since, .int .i64 p_.Ramped, .int .u64 p_.Up, .int .u64 p_.Sup, .sl false 1 (List.map (eInt .i64) p_.Pen), .sl false 1 (List.map (eInt .i64) p_.Changes)]] [] (Rs plan_numbers_e r) := so (fn := Tryd.f71) (k := false) (m := 0) h <| by
 intro r h; unfold plan_numbers at h
 exact zu 47 h
end Go.RX.L

namespace Go.RX.L
open Go Go.RX Go.Proofs
attribute [local irreducible] FinQ
noncomputable def slices_Equal_c := codeAt (bodyOf Tryd.f72)
noncomputable def slices_Equal_e (y : Bool) : D × Sto := (.bool y, [])
inductive slices_Equal_S where
 | s0 (s1 s2 : List Int)
 | s1 (s1 s2 : List Int) (t12 t13 : Int)
noncomputable def slices_Equal_M : slices_Equal_S → M
 | .s0 s1 s2 => startM Tryd.f72 [.sl false 1 (List.map (eInt .i64) s1), .sl false 1 (List.map (eInt .i64) s2)] []
 | .s1 s1 s2 t12 t13 => ⟨[.lpc (slices_Equal_c [1, 1, 0, 1, 0, 0]) 12291, .blk 0, .code (slices_Equal_c [1, 1, 1])], [(0, .sl false 1 (List.map (eInt .i64) s1)), (1, .sl false 1 (List.map (eInt .i64) s2)), (12, .int .i64 t12), (13, .int .i64 t13)], []⟩
abbrev slices_Equal_W := SOk E (Cx.of Tryd.f72 false 0) slices_Equal_e slices_Equal_M
noncomputable def slices_Equal_0 (s1 s2 : List Int) : Option (slices_Equal_S ⊕ Bool) := (bif (((((List.map (eInt .i64) s1).length : Nat) : Int) : Int) != (((List.map (eInt .i64) s2).length : Nat) : Int)) then (some (.inr false)) else (some (.inl (.s1 s1 s2 (((List.map (eInt .i64) s1).length : Nat) : Int) 0))))
noncomputable def slices_Equal_1 (s1 s2 : List Int) (t12 t13 : Int) : Option (slices_Equal_S ⊕ Bool) := (bif (decide ((t13 : Int) < t12)) then (bif ((decide ((0 : Int) ≤ t13)) && (decide ((t13 : Int) < (((List.map (eInt .i64) s1).length : Nat) : Int)))) then (((s1)[t13.toNat]?).bind fun y3 => (bif ((decide ((0 : Int) ≤ t13)) && (decide ((t13 : Int) < (((List.map (eInt .i64) s2).length : Nat) : Int)))) then (((s2)[t13.toNat]?).bind fun y6 => (bif ((y3 : Int) != y6) then (some (.inr false)) else (some (.inl (.s1 s1 s2 t12 (IntKind.i64.wrap (t13 + 1))))))) else none)) else none) else (some (.inr true)))
noncomputable def slices_Equal_step : slices_Equal_S → Option (slices_Equal_S ⊕ Bool)
 | .s0 s1 s2 => slices_Equal_0 s1 s2
 | .s1 s1 s2 t12 t13 => slices_Equal_1 s1 s2 t12 t13
theorem slices_Equal_0_ok {s1 s2} : slices_Equal_W (.s0 s1 s2) (slices_Equal_0 s1 s2) := by
 intro r x h ha; unfold slices_Equal_0 at h
 refine zs 14 h (fun h => ?_) fun h => ?_
 ·
  exact zt 5 h ha
 exact zj 11 h ha
theorem slices_Equal_1_ok {s1 s2 t12 t13} : slices_Equal_W (.s1 s1 s2 t12 t13) (slices_Equal_1 s1 s2 t12 t13) := by
 intro r x h ha; unfold slices_Equal_1 at h
 refine zs 7 h (fun h => ?_) fun h => ?_
 ·
  refine zn 10 h fun h => ?_
  refine zr 0 (eInt .i64) h fun y3 h => ?_
  refine zn 0 h fun h => ?_
  refine zr 0 (eInt .i64) h fun y6 h => ?_
  refine zs 1 h (fun h => ?_) fun h => ?_
  ·
   exact zt 5 h ha
  exact zj 7 h ha
 exact zt 6 h ha
noncomputable def slices_Equal (s1 s2 : List Int) : Option Bool := evf slices_Equal_step (.s0 s1 s2)
theorem slices_Equal_ok {s1 s2 : List Int} {r : Bool} (h : slices_Equal s1 s2 = some r) : Sound E 72 [.sl false 1 (List.map (eInt .i64) s1), .sl false 1 (List.map (eInt .i64) s2)] [] (Rs slices_Equal_e r) := sc (fn := Tryd.f72) (k := false) (m := 0) (stM := slices_Equal_M) h fun s => by
 cases s with
 | s0 => exact slices_Equal_0_ok
 | s1 => exact slices_Equal_1_ok
end Go.RX.L

namespace Go.RX.L
open Go Go.RX Go.Proofs
attribute [local irreducible] FinQ
noncomputable def slices_Equal_v2_c := codeAt (bodyOf Tryd.f56)
noncomputable def slices_Equal_v2_e (y : Bool) : D × Sto := (.bool y, [])
inductive slices_Equal_v2_S where
 | s0 (s1 s2 : List Int)
 | s1 (s1 s2 : List Int) (t12 t13 : Int)
noncomputable def slices_Equal_v2_M : slices_Equal_v2_S → M
 | .s0 s1 s2 => startM Tryd.f56 [.sl false 1 (List.map (eInt .i64) s1), .sl false 1 (List.map (eInt .i64) s2)] []
 | .s1 s1 s2 t12 t13 => ⟨[.lpc (slices_Equal_v2_c [1, 1, 0, 1, 0, 0]) 12291, .blk 0, .code (slices_Equal_v2_c [1, 1, 1])], [(0, .sl false 1 (List.map (eInt .i64) s1)), (1, .sl false 1 (List.map (eInt .i64) s2)), (12, .int .i64 t12), (13, .int .i64 t13)], []⟩
abbrev slices_Equal_v2_W := SOk E (Cx.of Tryd.f56 false 0) slices_Equal_v2_e slices_Equal_v2_M
noncomputable def slices_Equal_v2_0 (s1 s2 : List Int) : Option (slices_Equal_v2_S ⊕ Bool) := (bif (((((List.map (eInt .i64) s1).length : Nat) : Int) : Int) != (((List.map (eInt .i64) s2).length : Nat) : Int)) then (some (.inr false)) else (some (.inl (.s1 s1 s2 (((List.map (eInt .i64) s1).length : Nat) : Int) 0))))
noncomputable def slices_Equal_v2_1 (s1 s2 : List Int) (t12 t13 : Int) : Option (slices_Equal_v2_S ⊕ Bool) := (bif (decide ((t13 : Int) < t12)) then (bif ((decide ((0 : Int) ≤ t13)) && (decide ((t13 : Int) < (((List.map (eInt .i64) s1).length : Nat) : Int)))) then (((s1)[t13.toNat]?).bind fun y3 => (bif ((decide ((0 : Int) ≤ t13)) && (decide ((t13 : Int) < (((List.map (eInt .i64) s2).length : Nat) : Int)))) then (((s2)[t13.toNat]?).bind fun y6 => (bif ((y3 : Int) != y6) then (some (.inr false)) else (some (.inl (.s1 s1 s2 t12 (IntKind.i64.wrap (t13 + 1))))))) else none)) else none) else (some (.inr true)))
noncomputable def slices_Equal_v2_step : slices_Equal_v2_S → Option (slices_Equal_v2_S ⊕ Bool)
 | .s0 s1 s2 => slices_Equal_v2_0 s1 s2
 | .s1 s1 s2 t12 t13 => slices_Equal_v2_1 s1 s2 t12 t13
theorem slices_Equal_v2_0_ok {s1 s2} : slices_Equal_v2_W (.s0 s1 s2) (slices_Equal_v2_0 s1 s2) := by
 intro r x h ha; unfold slices_Equal_v2_0 at h
 refine zs 14 h (fun h => ?_) fun h => ?_
 ·
  exact zt 5 h ha
 exact zj 11 h ha
theorem slices_Equal_v2_1_ok {s1 s2 t12 t13} : slices_Equal_v2_W (.s1 s1 s2 t12 t13) (slices_Equal_v2_1 s1 s2 t12 t13) := by
 intro r x h ha; unfold slices_Equal_v2_1 at h
 refine zs 7 h (fun h => ?_) fun h => ?_
 ·
  refine zn 10 h fun h => ?_
  refine zr 0 (eInt .i64) h fun y3 h => ?_
  refine zn 0 h fun h => ?_
  refine zr 0 (eInt .i64) h fun y6 h => ?_
  refine zs 1 h (fun h => ?_) fun h => ?_
  ·
   exact zt 5 h ha
  exact zj 7 h ha
 exact zt 6 h ha
noncomputable def slices_Equal_v2 (s1 s2 : List Int) : Option Bool := evf slices_Equal_v2_step (.s0 s1 s2)
theorem slices_Equal_v2_ok {s1 s2 : List Int} {r : Bool} (h : slices_Equal_v2 s1 s2 = some r) : Sound E 56 [.sl false 1 (List.map (eInt .i64) s1), .sl false 1 (List.map (eInt .i64) s2)] [] (Rs slices_Equal_v2_e r) := sc (fn := Tryd.f56) (k := false) (m := 0) (stM := slices_Equal_v2_M) h fun s => by
 cases s with
 | s0 => exact slices_Equal_v2_0_ok
 | s1 => exact slices_Equal_v2_1_ok
end Go.RX.L

namespace Go.RX.L
open Go Go.RX Go.Proofs
attribute [local irreducible] FinQ
noncomputable def plan_Same_e (y : Bool) : D × Sto := (.bool y, [])
noncomputable def plan_Same (a b : Plan) : Option Bool := ((plan_numbers a).bind fun y1 => ((plan_numbers b).bind fun y2 => (bif (((y1.1 : Int) == y2.1) && (((y1.2.1 : Int) == y2.2.1) && (((y1.2.2.1 : Int) == y2.2.2.1) && (((y1.2.2.2.1 : Int) == y2.2.2.2.1) && (((y1.2.2.2.2.1 : Int) == y2.2.2.2.2.1) && (((y1.2.2.2.2.2.1 : Int) == y2.2.2.2.2.2.1) && (((y1.2.2.2.2.2.2.1 : Int) == y2.2.2.2.2.2.2.1) && (((y1.2.2.2.2.2.2.2.1 : Int) == y2.2.2.2.2.2.2.2.1) && (((y1.2.2.2.2.2.2.2.2.1 : Int) == y2.2.2.2.2.2.2.2.2.1) && (((y1.2.2.2.2.2.2.2.2.2 : Int) == y2.2.2.2.2.2.2.2.2.2) && true)))))))))) then ((slices_Equal a.Pen b.Pen).bind fun y4 => (bif y4 then ((slices_Equal_v2 a.Changes b.Changes).bind fun y6 => (some y6)) else (some false))) else (some false))))
theorem plan_Same_ok {a b : Plan} {r : Bool} (h : plan_Same a b = some r) : Sound E 50 [.agg [.int .i64 a.Epoch, .int .i64 a.Target, .int .i64 a.Prev, .int .i64 a.Spill, .int .i64 a.Percent, .int .i64 a.Stamp, .int .i64 a.Since, .int .i64 a.Ramped, .int .u64 a.Up, .int .u64 a.Sup, .sl false 1 (List.map (eInt .i64) a.Pen), .sl false 1 (List.map (eInt .i64) a.Changes)], .agg [.int .i64 b.Epoch, .int .i64 b.Target, .int .i64 b.Prev, .int .i64 b.Spill, .int .i64 b.Percent, .int .i64 b.Stamp, .int .i64 b.Since, .int .i64 b.Ramped, .int .u64 b.Up, .int .u64 b.Sup, .sl false 1 (List.map (eInt .i64) b.Pen), .sl false 1 (List.map (eInt .i64) b.Changes)]] [] (Rs plan_Same_e r) := so (fn := Tryd.f50) (k := false) (m := 0) h <| by
 intro r h; unfold plan_Same at h
 refine zd 9 [] h (fun _ => plan_numbers_ok) fun y1 h => ?_
 refine zd 1 [] h (fun _ => plan_numbers_ok) fun y2 h => ?_
 refine zs 0 h (fun h => ?_) fun h => ?_
 ·
  refine zd 6 [] h (fun _ => slices_Equal_ok) fun y4 h => ?_
  refine zs 1 h (fun h => ?_) fun h => ?_
  ·
   refine zd 6 [] h (fun _ => slices_Equal_v2_ok) fun y6 h => ?_
   exact zu 2 h
  exact zu 6 h
 exact zu 12 h
end Go.RX.L

namespace Go.RX.L
open Go Go.RX Go.Proofs
attribute [local irreducible] FinQ
noncomputable def msg_Right_c := codeAt (bodyOf Tryd.f30)
noncomputable def msg_Right_e (y : Bool) : D × Sto := (.bool y, [])
abbrev msg_Right_W := AOk E (Cx.of Tryd.f30 false 0) msg_Right_e
noncomputable def msg_Right_1M (t30 : Bool) (m : Msg) : M := ⟨[.code (msg_Right_c [1, 0, 0, 1, 1, 1]), .blk 0, .code (msg_Right_c [1, 1])], [(1, .ptr 0 0 0), (30, .bool t30)], [some ⟨26, false, [(Msg.enc m)]⟩]⟩
noncomputable def msg_Right_1 (t30 : Bool) (m : Msg) : Option Bool := (bif t30 then (some false) else (bif m.HasPlan then ((plan_Right m.Plan).bind fun y3 => (some y3)) else ((plan_Same m.Plan (⟨0, 0, 0, 0, 0, 0, 0, 0, 0, 0, [], []⟩ : Plan)).bind fun y4 => (some y4))))
theorem msg_Right_1_ok {t30 m} : msg_Right_W (msg_Right_1M t30 m) (msg_Right_1 t30 m) := by
 intro r h; unfold msg_Right_1 at h
 refine zs 1 h (fun h => ?_) fun h => ?_
 ·
  exact zu 5 h
 refine zs 8 h (fun h => ?_) fun h => ?_
 ·
  refine zc 6 [] h (fun _ => plan_Right_ok) fun y3 h => ?_
  exact zu 3 h
 refine zc 9 [some 1, some 1] h (fun _ => plan_Same_ok) fun y4 h => ?_
 exact zu 3 h
noncomputable def msg_Right_2M (t30 : Bool) (m : Msg) : M := ⟨[.code (msg_Right_c [1, 0, 0, 1, 1, 0, 1]), .code (msg_Right_c [1, 0, 0, 1, 1, 1]), .blk 0, .code (msg_Right_c [1, 1])], [(1, .ptr 0 0 0), (30, .bool t30)], [some ⟨26, false, [(Msg.enc m)]⟩]⟩
noncomputable def msg_Right_2 (t30 : Bool) (m : Msg) : Option Bool := (bif t30 then (msg_Right_1 t30 m) else (bif (decide (((((List.map (eInt .u8) m.Session).length : Nat) : Int) : Int) > 64)) then (msg_Right_1 (decide (((((List.map (eInt .u8) m.Session).length : Nat) : Int) : Int) > 64)) m) else (msg_Right_1 (decide (((((List.map (eInt .u8) m.Payload).length : Nat) : Int) : Int) > 1024)) m)))
theorem msg_Right_2_ok {t30 m} : msg_Right_W (msg_Right_2M t30 m) (msg_Right_2 t30 m) := by
 intro r h; unfold msg_Right_2 at h
 refine zs 1 h (fun h => ?_) fun h => ?_
 ·
  exact zg 1 (msg_Right_1_ok h)
 refine zs 10 h (fun h => ?_) fun h => ?_
 ·
  exact zg 1 (msg_Right_1_ok h)
 exact zg 8 (msg_Right_1_ok h)
noncomputable def msg_Right_3M (t3 : Bool) (m : Msg) : M := ⟨[.code (msg_Right_c [1, 0, 0, 1]), .blk 0, .code (msg_Right_c [1, 1])], [(1, .ptr 0 0 0), (3, .bool t3)], [some ⟨26, false, [(Msg.enc m)]⟩]⟩
noncomputable def msg_Right_3 (t3 : Bool) (m : Msg) : Option Bool := (bif t3 then (some false) else (bif (decide (((((List.map (eInt .i64) m.ID).length : Nat) : Int) : Int) > 0)) then (msg_Right_2 (((((List.map (eInt .i64) m.ID).length : Nat) : Int) : Int) != 3) m) else (msg_Right_2 false m)))
theorem msg_Right_3_ok {t3 m} : msg_Right_W (msg_Right_3M t3 m) (msg_Right_3 t3 m) := by
 intro r h; unfold msg_Right_3 at h
 refine zs 1 h (fun h => ?_) fun h => ?_
 ·
  exact zu 5 h
 refine zs 10 h (fun h => ?_) fun h => ?_
 ·
  exact zg 11 (msg_Right_2_ok h)
 exact zg 10 (msg_Right_2_ok h)
noncomputable def msg_Right (m : Msg) : Option Bool := (bif (decide ((m.Kind : Int) < 1)) then (msg_Right_3 (decide ((m.Kind : Int) < 1)) m) else (bif (decide ((m.Kind : Int) > 19)) then (msg_Right_3 (decide ((m.Kind : Int) > 19)) m) else (bif (decide (((mnI (mnI m.From m.To) m.Code) : Int) < 0)) then (msg_Right_3 (decide (((mnI (mnI m.From m.To) m.Code) : Int) < 0)) m) else (bif (decide (((mxI m.From m.To) : Int) > 255)) then (msg_Right_3 (decide (((mxI m.From m.To) : Int) > 255)) m) else (bif (decide ((m.Code : Int) > 1000)) then (msg_Right_3 (decide ((m.Code : Int) > 1000)) m) else (msg_Right_3 (decide ((m.Up : Int) ≥ 65536)) m))))))
theorem msg_Right_ok {m : Msg} {r : Bool} (h : msg_Right m = some r) : Sound E 30 [.agg [.int .i64 m.Kind, .int .i64 m.From, .int .i64 m.To, .int .i64 m.Epoch, .int .i64 m.Ballot, .int .i64 m.Accepted, .int .i64 m.Nonce, .int .i64 m.Time, .int .u64 m.Up, .int .i64 m.Code, .bool m.HasPlan, .int .i64 m.Plan.Epoch, .int .i64 m.Plan.Target, .int .i64 m.Plan.Prev, .int .i64 m.Plan.Spill, .int .i64 m.Plan.Percent, .int .i64 m.Plan.Stamp, .int .i64 m.Plan.Since, .int .i64 m.Plan.Ramped, .int .u64 m.Plan.Up, .int .u64 m.Plan.Sup, .sl false 1 (List.map (eInt .i64) m.Plan.Pen), .sl false 1 (List.map (eInt .i64) m.Plan.Changes), .sl false 1 (List.map (eInt .i64) m.ID), .sl false 1 (List.map (eInt .u8) m.Session), .sl false 1 (List.map (eInt .u8) m.Payload)]] [] (Rs msg_Right_e r) := so (fn := Tryd.f30) (k := false) (m := 0) h <| by
 intro r h; unfold msg_Right at h
 refine zs 17 h (fun h => ?_) fun h => ?_
 ·
  exact zg 1 (msg_Right_3_ok h)
 refine zs 9 h (fun h => ?_) fun h => ?_
 ·
  exact zg 1 (msg_Right_3_ok h)
 refine zs 16 h (fun h => ?_) fun h => ?_
 ·
  exact zg 1 (msg_Right_3_ok h)
 refine zs 13 h (fun h => ?_) fun h => ?_
 ·
  exact zg 1 (msg_Right_3_ok h)
 refine zs 9 h (fun h => ?_) fun h => ?_
 ·
  exact zg 1 (msg_Right_3_ok h)
 exact zg 7 (msg_Right_3_ok h)
end Go.RX.L

namespace Go.RX.L
open Go Go.RX Go.Proofs
attribute [local irreducible] FinQ
noncomputable def plan_Get_c := codeAt (bodyOf Tryd.f86)
noncomputable def plan_Get_e (y : Plan × Int) : D × Sto := (.tup [.agg [.int .i64 y.1.Epoch, .int .i64 y.1.Target, .int .i64 y.1.Prev, .int .i64 y.1.Spill, .int .i64 y.1.Percent, .int .i64 y.1.Stamp, .int .i64 y.1.Since, .int .i64 y.1.Ramped, .int .u64 y.1.Up, .int .u64 y.1.Sup, .sl false 1 (List.map (eInt .i64) y.1.Pen), .sl false 1 (List.map (eInt .i64) y.1.Changes)], .int .i64 y.2], [])
inductive plan_Get_S where
 | s0 (b : List Int)
 | s1 (b : List Int) (at_ t12 : Int) (b0 : Plan) (lists : List (List Int))
 | s2 (l_ : List Int) (t67 : Bool) (b0 : Plan) (lists : List (List Int))
 | s3 (t105 : List Int) (t106 t107 : Int) (b0 : Plan) (Epoch_ Target_ : Int) (Prev_ Spill_ : Int) (Percent_ Stamp_ : Int) (Since_ Ramped_ : Int) (Up_ Sup_ : Int) (Changes_ b2 : List Int)
noncomputable def plan_Get_M : plan_Get_S → M
 | .s0 b => startM Tryd.f86 [.sl false 1 (List.map (eInt .u8) b)] []
 | .s1 b at_ t12 b0 lists => ⟨[.lpc (plan_Get_c [1, 1, 1, 0, 1, 0, 0]) 4149, .blk 0, .code (plan_Get_c [1, 1, 1, 1])], [(0, .sl false 1 (List.map (eInt .u8) b)), (2, .ptr 0 0 0), (4, .ptr 1 0 0), (5, .int .i64 at_), (12, .int .i64 t12)], [some ⟨12, false, [(Plan.enc b0)]⟩, some ⟨1, false, (List.map (eSl 1 (eInt .i64)) lists)⟩]⟩
 | .s2 l_ t67 b0 lists => ⟨[.code (plan_Get_c [1, 1, 1, 1, 1, 0, 1]), .code (plan_Get_c [1, 1, 1, 1, 1, 1])], [(2, .ptr 0 0 0), (4, .ptr 1 0 0), (8, .sl false 1 (List.map (eInt .i64) l_)), (67, .bool t67)], [some ⟨12, false, [(Plan.enc b0)]⟩, some ⟨1, false, (List.map (eSl 1 (eInt .i64)) lists)⟩]⟩
 | .s3 t105 t106 t107 b0 Epoch_ Target_ Prev_ Spill_ Percent_ Stamp_ Since_ Ramped_ Up_ Sup_ Changes_ b2 => ⟨[.lpc (plan_Get_c [1, 1, 1, 1, 1, 1, 1, 0, 1, 0, 0]) 283953734451123385935261518004740, .blk 2, .code (plan_Get_c [1, 1, 1, 1, 1, 1, 1, 1])], [(2, .ptr 0 0 0), (9, .ptr 1 0 0), (105, .sl false 1 (List.map (eInt .i64) t105)), (106, .int .i64 t106), (107, .int .i64 t107)], [some ⟨12, false, [(Plan.enc b0)]⟩, some ⟨12, true, [[.int .i64 Epoch_, .int .i64 Target_, .int .i64 Prev_, .int .i64 Spill_, .int .i64 Percent_, .int .i64 Stamp_, .int .i64 Since_, .int .i64 Ramped_, .int .u64 Up_, .int .u64 Sup_, (grD 2 (List.map (eInt .i64) b2)), .sl false 1 (List.map (eInt .i64) Changes_)]]⟩, some ⟨1, false, (List.map (eInt .i64) b2)⟩]⟩
abbrev plan_Get_W := SOk E (Cx.of Tryd.f86 false 0) plan_Get_e plan_Get_M
end Go.RX.L

namespace Go.RX.L
open Go Go.RX Go.Proofs
attribute [local irreducible] FinQ
noncomputable def msg_Of_e (y : Msg × Int) : D × Sto := (.tup [.agg [.int .i64 y.1.Kind, .int .i64 y.1.From, .int .i64 y.1.To, .int .i64 y.1.Epoch, .int .i64 y.1.Ballot, .int .i64 y.1.Accepted, .int .i64 y.1.Nonce, .int .i64 y.1.Time, .int .u64 y.1.Up, .int .i64 y.1.Code, .bool y.1.HasPlan, .int .i64 y.1.Plan.Epoch, .int .i64 y.1.Plan.Target, .int .i64 y.1.Plan.Prev, .int .i64 y.1.Plan.Spill, .int .i64 y.1.Plan.Percent, .int .i64 y.1.Plan.Stamp, .int .i64 y.1.Plan.Since, .int .i64 y.1.Plan.Ramped, .int .u64 y.1.Plan.Up, .int .u64 y.1.Plan.Sup, .sl false 1 (List.map (eInt .i64) y.1.Plan.Pen), .sl false 1 (List.map (eInt .i64) y.1.Plan.Changes), .sl false 1 (List.map (eInt .i64) y.1.ID), .sl false 1 (List.map (eInt .u8) y.1.Session), .sl false 1 (List.map (eInt .u8) y.1.Payload)], .int .i64 y.2], [])
abbrev msg_Of_W := AOk E (Cx.of Tryd.f63 false 0) msg_Of_e
end Go.RX.L

namespace Go.RX.L
open Go Go.RX Go.Proofs
attribute [local irreducible] FinQ
noncomputable def plan_Put_c := codeAt (bodyOf Tryd.f74)
noncomputable def plan_Put_e (y : (List Int) × Int) : D × Sto := (.tup [.sl false 1 (List.map (eInt .u8) y.1), .int .i64 y.2], [])
inductive plan_Put_S where
 | s0 (p_ : Plan)
 | s1 (t17 : List Int) (t18 t19 : Int) (p_ : Plan) (pen : List Int)
 | s2 (t36 : Int) (b : List Int) (b1 : List (List Int))
noncomputable def plan_Put_M : plan_Put_S → M
 | .s0 p_ => startM Tryd.f74 [.agg [.int .i64 p_.Epoch, .int .i64 p_.Target, .int .i64 p_.Prev, .int .i64 p_.Spill, .int .i64 p_.Percent, .int .i64 p_.Stamp, .int .i64 p_.Since, .int .i64 p_.Ramped, .int .u64 p_.Up, .int .u64 p_.Sup, .sl false 1 (List.map (eInt .i64) p_.Pen), .sl false 1 (List.map (eInt .i64) p_.Changes)]] []
 | .s1 t17 t18 t19 p_ pen => ⟨[.lpc (plan_Put_c [1, 1, 1, 0, 1, 0, 0]) 917522, .blk 0, .code (plan_Put_c [1, 1, 1, 1])], [(1, .ptr 0 0 0), (4, (grD 1 (List.map (eInt .i64) pen))), (17, .sl false 1 (List.map (eInt .i64) t17)), (18, .int .i64 t18), (19, .int .i64 t19)], [some ⟨12, false, [(Plan.enc p_)]⟩, some ⟨1, false, (List.map (eInt .i64) pen)⟩]⟩
 | .s2 t36 b b1 => ⟨[.lpc (plan_Put_c [1, 1, 1, 1, 1, 1, 0, 1, 0, 0]) 120259084544, .blk 2, .code (plan_Put_c [1, 1, 1, 1, 1, 1, 1])], [(8, (grD 0 (List.map (eInt .u8) b))), (34, .msl 1 0 ((List.map (eSl 1 (eInt .i64)) b1).length) ((List.map (eSl 1 (eInt .i64)) b1).length) true), (35, .int .i64 3), (36, .int .i64 t36)], [some ⟨1, false, (List.map (eInt .u8) b)⟩, some ⟨1, false, (List.map (eSl 1 (eInt .i64)) b1)⟩]⟩
abbrev plan_Put_W := SOk E (Cx.of Tryd.f74 false 0) plan_Put_e plan_Put_M
noncomputable def plan_Put_0 (p_ : Plan) : Option (plan_Put_S ⊕ ((List Int) × Int)) := ((plan_Right p_).bind fun y1 => (bif (!y1) then (some (.inr ([], 41))) else (some (.inl (.s1 p_.Pen (((List.map (eInt .i64) p_.Pen).length : Nat) : Int) 0 p_ ([]))))))
noncomputable def plan_Put_1 (t17 : List Int) (t18 t19 : Int) (p_ : Plan) (pen : List Int) : Option (plan_Put_S ⊕ ((List Int) × Int)) := (bif (decide ((t19 : Int) < t18)) then (bif ((decide ((0 : Int) ≤ t19)) && (decide ((t19 : Int) < (((List.map (eInt .i64) t17).length : Nat) : Int)))) then (((t17)[t19.toNat]?).bind fun y3 => (bif (decide (((List.map (eInt .i64) pen).length + 1) * 8 ≤ bytesLim)) then (some (.inl (.s1 t17 t18 (IntKind.i64.wrap (t19 + 1)) p_ (pen ++ [y3])))) else none)) else none) else ((plan_numbers p_).bind fun y6 => (some (.inl (.s2 0 ([]) ([[y6.1, y6.2.1, y6.2.2.1, y6.2.2.2.1, y6.2.2.2.2.1, y6.2.2.2.2.2.1, y6.2.2.2.2.2.2.1, y6.2.2.2.2.2.2.2.1, y6.2.2.2.2.2.2.2.2.1, y6.2.2.2.2.2.2.2.2.2], pen, p_.Changes]))))))
noncomputable def plan_Put_2 (t36 : Int) (b : List Int) (b1 : List (List Int)) : Option (plan_Put_S ⊕ ((List Int) × Int)) := (bif (decide ((t36 : Int) < 3)) then (bif ((decide ((0 : Int) ≤ t36)) && (decide ((t36 : Int) < (((List.map (eSl 1 (eInt .i64)) b1).length : Nat) : Int)))) then (((b1)[(0 + t36.toNat)]?).bind fun y3 => ((wire_PutInts y3).bind fun y5 => (bif (decide (((List.map (eInt .u8) b).length + (List.take ((List.map (eInt .u8) y5.2).length) (List.drop 0 (List.map (eInt .u8) y5.2))).length) * 1 ≤ bytesLim)) then (some (.inl (.s2 (IntKind.i64.wrap (t36 + 1)) (b ++ y5.2) b1))) else none))) else none) else (some (.inr (b, 0))))
noncomputable def plan_Put_step : plan_Put_S → Option (plan_Put_S ⊕ ((List Int) × Int))
 | .s0 p_ => plan_Put_0 p_
 | .s1 t17 t18 t19 p_ pen => plan_Put_1 t17 t18 t19 p_ pen
 | .s2 t36 b b1 => plan_Put_2 t36 b b1
theorem plan_Put_0_ok {p_} : plan_Put_W (.s0 p_) (plan_Put_0 p_) := by
 intro r x h ha; unfold plan_Put_0 at h
 refine zc 12 [] h (fun _ => plan_Right_ok) fun y1 h => ?_
 refine zs 3 h (fun h => ?_) fun h => ?_
 ·
  exact zt 6 h ha [.slot 0 [some 1]]
 refine adv_ok hm 17 _ ?_
 obtain rfl := Option.some.inj h
 refine r_cut 917522 [.mat 4 1] (m' := ⟨[.lpc (plan_Put_c [1, 1, 1, 0, 1, 0, 0]) 917522, .blk 0, .code (plan_Put_c [1, 1, 1, 1])], [(1, .ptr 0 0 0), (4, .msl 1 0 0 0 false), (17, .sl false 1 (List.map (eInt .i64) p_.Pen)), (18, .int .i64 (((List.map (eInt .i64) p_.Pen).length : Nat) : Int)), (19, .int .i64 0)], [some ⟨12, false, [(Plan.enc p_)]⟩, some ⟨1, false, []⟩]⟩) (by kernel_rfl) ?_
 refine r_len (n1 := 0) (n2 := (List.map (eInt .i64) ([])).length) (fun n_len => .go ⟨[.lpc (plan_Put_c [1, 1, 1, 0, 1, 0, 0]) 917522, .blk 0, .code (plan_Put_c [1, 1, 1, 1])], [(1, .ptr 0 0 0), (4, .msl 1 0 n_len n_len false), (17, .sl false 1 (List.map (eInt .i64) p_.Pen)), (18, .int .i64 (((List.map (eInt .i64) p_.Pen).length : Nat) : Int)), (19, .int .i64 0)], [some ⟨12, false, [(Plan.enc p_)]⟩, some ⟨1, false, []⟩]⟩) (by simp) ?_
 exact ha
theorem plan_Put_1_ok {t17 t18 t19 p_ pen} : plan_Put_W (.s1 t17 t18 t19 p_ pen) (plan_Put_1 t17 t18 t19 p_ pen) := by
 intro r x h ha; unfold plan_Put_1 at h
 refine zs 7 h (fun h => ?_) fun h => ?_
 ·
  refine zn 6 h fun h => ?_
  refine zr 1 (eInt .i64) h fun y3 h => ?_
  refine zn 8 h fun h => ?_
  refine za 0 (eInt .i64) pen ([y3]) ?_
  exact zj 8 h ha
 refine zc 6 [] h (fun _ => plan_numbers_ok) fun y6 h => ?_
 refine adv_ok hm 16 _ ?_
 refine r_fzC 0 0 0 (n1 := 10) (n2 := 10) (raw := ([[.int .i64 y6.1], [.int .i64 y6.2.1], [.int .i64 y6.2.2.1], [.int .i64 y6.2.2.2.1], [.int .i64 y6.2.2.2.2.1], [.int .i64 y6.2.2.2.2.2.1], [.int .i64 y6.2.2.2.2.2.2.1], [.int .i64 y6.2.2.2.2.2.2.2.1], [.int .i64 y6.2.2.2.2.2.2.2.2.1], [.int .i64 y6.2.2.2.2.2.2.2.2.2]])) (rs := ([[.int .i64 y6.1], [.int .i64 y6.2.1], [.int .i64 y6.2.2.1], [.int .i64 y6.2.2.2.1], [.int .i64 y6.2.2.2.2.1], [.int .i64 y6.2.2.2.2.2.1], [.int .i64 y6.2.2.2.2.2.2.1], [.int .i64 y6.2.2.2.2.2.2.2.1], [.int .i64 y6.2.2.2.2.2.2.2.2.1], [.int .i64 y6.2.2.2.2.2.2.2.2.2]])) (by kernel_rfl) rfl rfl ?_
 refine r_fzC 0 1 0 (n1 := (0 + (List.map (eInt .i64) pen).length)) (n2 := ((List.map (eInt .i64) pen).length)) (raw := (List.take ((List.map (eInt .i64) pen).length) (List.drop 0 (List.map (eInt .i64) pen)))) (rs := (List.map (eInt .i64) pen)) (by kernel_rfl) (ble_full _) (by simp only [take_full, take_full', List.map_take, List.map_drop]) ?_
 obtain rfl := Option.some.inj h
 refine r_cut 120259084544 [.mat 8 1] (m' := ⟨[.lpc (plan_Put_c [1, 1, 1, 1, 1, 1, 0, 1, 0, 0]) 120259084544, .blk 2, .code (plan_Put_c [1, 1, 1, 1, 1, 1, 1])], [(8, .msl 0 0 0 0 false), (34, .msl 1 0 3 3 true), (35, .int .i64 3), (36, .int .i64 0)], [some ⟨1, false, []⟩, some ⟨1, false, [[.sl false 1 [[.int .i64 y6.1], [.int .i64 y6.2.1], [.int .i64 y6.2.2.1], [.int .i64 y6.2.2.2.1], [.int .i64 y6.2.2.2.2.1], [.int .i64 y6.2.2.2.2.2.1], [.int .i64 y6.2.2.2.2.2.2.1], [.int .i64 y6.2.2.2.2.2.2.2.1], [.int .i64 y6.2.2.2.2.2.2.2.2.1], [.int .i64 y6.2.2.2.2.2.2.2.2.2]]], [.sl false 1 (List.map (eInt .i64) pen)], [.sl false 1 (List.map (eInt .i64) p_.Changes)]]⟩]⟩) (by kernel_rfl) ?_
 refine r_len (n1 := 0) (n2 := (List.map (eInt .u8) ([])).length) (fun n_len => .go ⟨[.lpc (plan_Put_c [1, 1, 1, 1, 1, 1, 0, 1, 0, 0]) 120259084544, .blk 2, .code (plan_Put_c [1, 1, 1, 1, 1, 1, 1])], [(8, .msl 0 0 n_len n_len false), (34, .msl 1 0 3 3 true), (35, .int .i64 3), (36, .int .i64 0)], [some ⟨1, false, []⟩, some ⟨1, false, [[.sl false 1 [[.int .i64 y6.1], [.int .i64 y6.2.1], [.int .i64 y6.2.2.1], [.int .i64 y6.2.2.2.1], [.int .i64 y6.2.2.2.2.1], [.int .i64 y6.2.2.2.2.2.1], [.int .i64 y6.2.2.2.2.2.2.1], [.int .i64 y6.2.2.2.2.2.2.2.1], [.int .i64 y6.2.2.2.2.2.2.2.2.1], [.int .i64 y6.2.2.2.2.2.2.2.2.2]]], [.sl false 1 (List.map (eInt .i64) pen)], [.sl false 1 (List.map (eInt .i64) p_.Changes)]]⟩]⟩) (by simp) ?_
 refine r_len (n1 := 3) (n2 := (List.map (eSl 1 (eInt .i64)) ([[y6.1, y6.2.1, y6.2.2.1, y6.2.2.2.1, y6.2.2.2.2.1, y6.2.2.2.2.2.1, y6.2.2.2.2.2.2.1, y6.2.2.2.2.2.2.2.1, y6.2.2.2.2.2.2.2.2.1, y6.2.2.2.2.2.2.2.2.2], pen, p_.Changes])).length) (fun n_len => .go ⟨[.lpc (plan_Put_c [1, 1, 1, 1, 1, 1, 0, 1, 0, 0]) 120259084544, .blk 2, .code (plan_Put_c [1, 1, 1, 1, 1, 1, 1])], [(8, .msl 0 0 ((List.map (eInt .u8) ([])).length) ((List.map (eInt .u8) ([])).length) false), (34, .msl 1 0 n_len n_len true), (35, .int .i64 3), (36, .int .i64 0)], [some ⟨1, false, []⟩, some ⟨1, false, [[.sl false 1 [[.int .i64 y6.1], [.int .i64 y6.2.1], [.int .i64 y6.2.2.1], [.int .i64 y6.2.2.2.1], [.int .i64 y6.2.2.2.2.1], [.int .i64 y6.2.2.2.2.2.1], [.int .i64 y6.2.2.2.2.2.2.1], [.int .i64 y6.2.2.2.2.2.2.2.1], [.int .i64 y6.2.2.2.2.2.2.2.2.1], [.int .i64 y6.2.2.2.2.2.2.2.2.2]]], [.sl false 1 (List.map (eInt .i64) pen)], [.sl false 1 (List.map (eInt .i64) p_.Changes)]]⟩]⟩) (by simp) ?_
 exact ha
theorem plan_Put_2_ok {t36 b b1} : plan_Put_W (.s2 t36 b b1) (plan_Put_2 t36 b b1) := by
 intro r x h ha; unfold plan_Put_2 at h
 refine zs 7 h (fun h => ?_) fun h => ?_
 ·
  refine zn 6 h fun h => ?_
  refine zr 1 (eSl 1 (eInt .i64)) h fun y3 h => ?_
  refine zc 6 [] h (fun _ => wire_PutInts_ok) fun y5 h => ?_
  refine zm 10 (b := (Nat.beq ((List.take ((List.map (eInt .u8) y5.2).length) (List.drop 0 (List.map (eInt .u8) y5.2))).length) ((List.map (eInt .u8) y5.2).length))) (by simp) ?_
  refine zn 0 h fun h => ?_
  refine zm 0 (b := (Nat.ble (0 + (List.map (eInt .u8) b).length) ((List.map (eInt .u8) b).length))) (ble_full _) ?_
  refine zw 0 (a := (List.take ((List.map (eInt .u8) b).length) (List.drop 0 (List.map (eInt .u8) b)) ++ (List.take ((List.map (eInt .u8) y5.2).length) (List.drop 0 (List.map (eInt .u8) y5.2))))) (b := (List.map (eInt .u8) (b ++ y5.2))) (by simp only [take_full, take_full', List.map_append, List.map_take, List.map_drop]) ?_
  exact zj 8 h ha
 refine zm 8 (b := (Nat.ble (0 + (List.map (eInt .u8) b).length) ((List.map (eInt .u8) b).length))) (ble_full _) ?_
 obtain rfl := Option.some.inj h
 have hv := ha
 simp only [After] at hv
 subst hv
 exact r_retE [] (d1 := .tup [.sl false 1 (List.take ((List.map (eInt .u8) b).length) (List.drop 0 (List.map (eInt .u8) b))), .int .i64 0]) (d := .tup [.sl false 1 (List.map (eInt .u8) b), .int .i64 0]) (s1 := []) (s := []) (by kernel_rfl) ⟨by simp [List.take_of_length_le, List.map_take, List.map_drop], rfl⟩ ⟨rfl, rfl⟩ Cx.fin_of
noncomputable def plan_Put (p_ : Plan) : Option ((List Int) × Int) := evf plan_Put_step (.s0 p_)
theorem plan_Put_ok {p_ : Plan} {r : (List Int) × Int} (h : plan_Put p_ = some r) : Sound E 74 [.agg [.int .i64 p_.Epoch, .int .i64 p_.Target, .int .i64 p_.Prev, .int .i64 p_.Spill, .int .i64 p_.Percent, .int .i64 p_.Stamp, .int .i64 p_.Since, .int .i64 p_.Ramped, .int .u64 p_.Up, .int .u64 p_.Sup, .sl false 1 (List.map (eInt .i64) p_.Pen), .sl false 1 (List.map (eInt .i64) p_.Changes)]] [] (Rs plan_Put_e r) := sc (fn := Tryd.f74) (k := false) (m := 0) (stM := plan_Put_M) h fun s => by
 cases s with
 | s0 => exact plan_Put_0_ok
 | s1 => exact plan_Put_1_ok
 | s2 => exact plan_Put_2_ok
end Go.RX.L

namespace Go.RX.L
open Go Go.RX Go.Proofs
attribute [local irreducible] FinQ
noncomputable def wire_PutText_e (y : Int × (List Int)) : D × Sto := (.tup [(grD 0 (List.map (eInt .u8) y.2)), .int .i64 y.1], [some ⟨1, false, (List.map (eInt .u8) y.2)⟩])
noncomputable def wire_PutText (s_ : List Int) : Option (Int × (List Int)) := (bif (decide (((((List.map (eInt .u8) s_).length : Nat) : Int) : Int) > 4096)) then (some (2, [])) else ((wire_PutInt (((List.map (eInt .u8) s_).length : Nat) : Int)).bind fun y2 => (bif (decide (((List.map (eInt .u8) y2).length + (List.map (eInt .u8) s_).length) * 1 ≤ bytesLim)) then (some (0, (y2 ++ s_))) else none)))
theorem wire_PutText_ok {s_ : List Int} {r : Int × (List Int)} (h : wire_PutText s_ = some r) : Sound E 75 [.sl false 1 (List.map (eInt .u8) s_)] [] (Rs wire_PutText_e r) := so (fn := Tryd.f75) (k := true) (m := 0) h <| by
 intro r h; unfold wire_PutText at h
 refine zs 13 h (fun h => ?_) fun h => ?_
 ·
  exact zu 6 h [.matt 0 0 1]
 refine zc 6 [] h (fun _ => wire_PutInt_ok) fun y2 h => ?_
 refine zn 2 h fun h => ?_
 refine za 0 (eInt .u8) y2 s_ ?_
 exact zu 4 h
end Go.RX.L

namespace Go.RX.L
open Go Go.RX Go.Proofs
attribute [local irreducible] FinQ
noncomputable def msg_Body_c := codeAt (bodyOf Tryd.f51)
noncomputable def msg_Body_e (y : Int × (List Int) × Int) : D × Sto := (.tup [.int .u8 y.1, .sl false 1 (List.map (eInt .u8) y.2.1), .int .i64 y.2.2], [])
inductive msg_Body_S where
 | s0 (m : Msg)
 | s3 (m : Msg) (l_ : List Int)
 | s2 (m : Msg) (b : List Int)
 | s1 (t81 : Int) (m : Msg) (b : List Int) (b2 : List (List Int))
noncomputable def msg_Body_M : msg_Body_S → M
 | .s0 m => startM Tryd.f51 [.agg [.int .i64 m.Kind, .int .i64 m.From, .int .i64 m.To, .int .i64 m.Epoch, .int .i64 m.Ballot, .int .i64 m.Accepted, .int .i64 m.Nonce, .int .i64 m.Time, .int .u64 m.Up, .int .i64 m.Code, .bool m.HasPlan, .int .i64 m.Plan.Epoch, .int .i64 m.Plan.Target, .int .i64 m.Plan.Prev, .int .i64 m.Plan.Spill, .int .i64 m.Plan.Percent, .int .i64 m.Plan.Stamp, .int .i64 m.Plan.Since, .int .i64 m.Plan.Ramped, .int .u64 m.Plan.Up, .int .u64 m.Plan.Sup, .sl false 1 (List.map (eInt .i64) m.Plan.Pen), .sl false 1 (List.map (eInt .i64) m.Plan.Changes), .sl false 1 (List.map (eInt .i64) m.ID), .sl false 1 (List.map (eInt .u8) m.Session), .sl false 1 (List.map (eInt .u8) m.Payload)]] []
 | .s3 m l_ => ⟨[.code (msg_Body_c [1, 1, 1, 1])], [(1, .ptr 0 0 0), (5, .msl 1 0 ((List.map (eInt .i64) l_).length) ((List.map (eInt .i64) l_).length) true)], [some ⟨26, false, [(Msg.enc m)]⟩, some ⟨1, false, (List.map (eInt .i64) l_)⟩]⟩
 | .s2 m b => ⟨[.code (msg_Body_c [1, 1, 1, 1, 1, 1])], [(1, .ptr 0 0 0), (6, (grD 1 (List.map (eInt .u8) b)))], [some ⟨26, false, [(Msg.enc m)]⟩, some ⟨1, false, (List.map (eInt .u8) b)⟩]⟩
 | .s1 t81 m b b2 => ⟨[.lpc (msg_Body_c [1, 1, 1, 1, 1, 1, 1, 1, 0, 1, 0, 0]) 4231240368651202111471682, .blk 0, .code (msg_Body_c [1, 1, 1, 1, 1, 1, 1, 1, 1])], [(1, .ptr 0 0 0), (6, (grD 1 (List.map (eInt .u8) b))), (79, .msl 2 0 ((List.map (eSl 1 (eInt .u8)) b2).length) ((List.map (eSl 1 (eInt .u8)) b2).length) true), (80, .int .i64 2), (81, .int .i64 t81)], [some ⟨26, false, [(Msg.enc m)]⟩, some ⟨1, false, (List.map (eInt .u8) b)⟩, some ⟨1, false, (List.map (eSl 1 (eInt .u8)) b2)⟩]⟩
abbrev msg_Body_W := SOk E (Cx.of Tryd.f51 false 0) msg_Body_e msg_Body_M
noncomputable def msg_Body_0 (m : Msg) : Option (msg_Body_S ⊕ (Int × (List Int) × Int)) := ((msg_Right m).bind fun y1 => (bif (!y1) then (some (.inr (0, [], 51))) else (bif m.HasPlan then (some (.inl (.s3 m ([m.From, m.To, m.Epoch, m.Ballot, m.Accepted, m.Nonce, m.Time, (IntKind.i64.wrap (m.Up)), m.Code, 1])))) else (some (.inl (.s3 m ([m.From, m.To, m.Epoch, m.Ballot, m.Accepted, m.Nonce, m.Time, (IntKind.i64.wrap (m.Up)), m.Code, 0])))))))
noncomputable def msg_Body_3 (m : Msg) (l_ : List Int) : Option (msg_Body_S ⊕ (Int × (List Int) × Int)) := ((wire_PutInts l_).bind fun y1 => (bif m.HasPlan then ((plan_Put m.Plan).bind fun y3 => ((wire_PutText y3.1).bind fun y4 => (bif (decide (((List.map (eInt .u8) y1.2).length + (List.take ((List.map (eInt .u8) y4.2).length) (List.drop 0 (List.map (eInt .u8) y4.2))).length) * 1 ≤ bytesLim)) then (some (.inl (.s2 m (y1.2 ++ y4.2)))) else none))) else (some (.inl (.s2 m y1.2)))))
noncomputable def msg_Body_2 (m : Msg) (b : List Int) : Option (msg_Body_S ⊕ (Int × (List Int) × Int)) := ((wire_PutInts m.ID).bind fun y1 => (bif (decide (((List.map (eInt .u8) b).length + (List.take ((List.map (eInt .u8) y1.2).length) (List.drop 0 (List.map (eInt .u8) y1.2))).length) * 1 ≤ bytesLim)) then (some (.inl (.s1 0 m (b ++ y1.2) ([m.Session, m.Payload])))) else none))
noncomputable def msg_Body_1 (t81 : Int) (m : Msg) (b : List Int) (b2 : List (List Int)) : Option (msg_Body_S ⊕ (Int × (List Int) × Int)) := (bif (decide ((t81 : Int) < 2)) then (bif ((decide ((0 : Int) ≤ t81)) && (decide ((t81 : Int) < (((List.map (eSl 1 (eInt .u8)) b2).length : Nat) : Int)))) then (((b2)[(0 + t81.toNat)]?).bind fun y3 => ((wire_PutText y3).bind fun y5 => (bif (decide (((List.map (eInt .u8) b).length + (List.take ((List.map (eInt .u8) y5.2).length) (List.drop 0 (List.map (eInt .u8) y5.2))).length) * 1 ≤ bytesLim)) then (some (.inl (.s1 (IntKind.i64.wrap (t81 + 1)) m (b ++ y5.2) b2))) else none))) else none) else (some (.inr ((IntKind.u8.wrap (m.Kind)), b, 0))))
noncomputable def msg_Body_step : msg_Body_S → Option (msg_Body_S ⊕ (Int × (List Int) × Int))
 | .s0 m => msg_Body_0 m
 | .s3 m l_ => msg_Body_3 m l_
 | .s2 m b => msg_Body_2 m b
 | .s1 t81 m b b2 => msg_Body_1 t81 m b b2
theorem msg_Body_0_ok {m} : msg_Body_W (.s0 m) (msg_Body_0 m) := by
 intro r x h ha; unfold msg_Body_0 at h
 refine zc 13 [] h (fun _ => msg_Right_ok) fun y1 h => ?_
 refine zs 3 h (fun h => ?_) fun h => ?_
 ·
  exact zt 7 h ha [.slot 0 [some 1]]
 refine zs 42 h (fun h => ?_) fun h => ?_
 ·
  refine adv_ok hm 8 _ ?_
  obtain rfl := Option.some.inj h
  refine r_cut 34 [] (m' := ⟨[.code (msg_Body_c [1, 1, 1, 1])], [(1, .ptr 0 0 0), (5, .msl 1 0 10 10 true)], [some ⟨26, false, [(Msg.enc m)]⟩, some ⟨1, false, [[.int .i64 m.From], [.int .i64 m.To], [.int .i64 m.Epoch], [.int .i64 m.Ballot], [.int .i64 m.Accepted], [.int .i64 m.Nonce], [.int .i64 m.Time], [.int .i64 (IntKind.i64.wrap (m.Up))], [.int .i64 m.Code], [.int .i64 1]]⟩]⟩) (by kernel_rfl) ?_
  refine r_len (n1 := 10) (n2 := (List.map (eInt .i64) ([m.From, m.To, m.Epoch, m.Ballot, m.Accepted, m.Nonce, m.Time, (IntKind.i64.wrap (m.Up)), m.Code, 1])).length) (fun n_len => .go ⟨[.code (msg_Body_c [1, 1, 1, 1])], [(1, .ptr 0 0 0), (5, .msl 1 0 n_len n_len true)], [some ⟨26, false, [(Msg.enc m)]⟩, some ⟨1, false, [[.int .i64 m.From], [.int .i64 m.To], [.int .i64 m.Epoch], [.int .i64 m.Ballot], [.int .i64 m.Accepted], [.int .i64 m.Nonce], [.int .i64 m.Time], [.int .i64 (IntKind.i64.wrap (m.Up))], [.int .i64 m.Code], [.int .i64 1]]⟩]⟩) (by simp) ?_
  exact ha
 refine adv_ok hm 1 _ ?_
 obtain rfl := Option.some.inj h
 refine r_cut 34 [] (m' := ⟨[.code (msg_Body_c [1, 1, 1, 1])], [(1, .ptr 0 0 0), (5, .msl 1 0 10 10 true)], [some ⟨26, false, [(Msg.enc m)]⟩, some ⟨1, false, [[.int .i64 m.From], [.int .i64 m.To], [.int .i64 m.Epoch], [.int .i64 m.Ballot], [.int .i64 m.Accepted], [.int .i64 m.Nonce], [.int .i64 m.Time], [.int .i64 (IntKind.i64.wrap (m.Up))], [.int .i64 m.Code], [.int .i64 0]]⟩]⟩) (by kernel_rfl) ?_
 refine r_len (n1 := 10) (n2 := (List.map (eInt .i64) ([m.From, m.To, m.Epoch, m.Ballot, m.Accepted, m.Nonce, m.Time, (IntKind.i64.wrap (m.Up)), m.Code, 0])).length) (fun n_len => .go ⟨[.code (msg_Body_c [1, 1, 1, 1])], [(1, .ptr 0 0 0), (5, .msl 1 0 n_len n_len true)], [some ⟨26, false, [(Msg.enc m)]⟩, some ⟨1, false, [[.int .i64 m.From], [.int .i64 m.To], [.int .i64 m.Epoch], [.int .i64 m.Ballot], [.int .i64 m.Accepted], [.int .i64 m.Nonce], [.int .i64 m.Time], [.int .i64 (IntKind.i64.wrap (m.Up))], [.int .i64 m.Code], [.int .i64 0]]⟩]⟩) (by simp) ?_
 exact ha
theorem msg_Body_3_ok {m l_} : msg_Body_W (.s3 m l_) (msg_Body_3 m l_) := by
 intro r x h ha; unfold msg_Body_3 at h
 refine zm 4 (b := (Nat.ble (0 + (List.map (eInt .i64) l_).length) ((List.map (eInt .i64) l_).length))) (ble_full _) ?_
 refine zcE 0 [] (args1 := [.sl false 1 (List.take ((List.map (eInt .i64) l_).length) (List.drop 0 (List.map (eInt .i64) l_)))]) h (fun _ => wire_PutInts_ok) ⟨by simp [List.take_of_length_le, List.map_take, List.map_drop], rfl⟩ fun y1 h => ?_
 refine zs 14 h (fun h => ?_) fun h => ?_
 ·
  refine zc 6 [] h (fun _ => plan_Put_ok) fun y3 h => ?_
  refine zc 10 [] h (fun _ => wire_PutText_ok) fun y4 h => ?_
  refine zm 10 (b := (Nat.beq ((List.take ((List.map (eInt .u8) y4.2).length) (List.drop 0 (List.map (eInt .u8) y4.2))).length) ((List.map (eInt .u8) y4.2).length))) (by simp) ?_
  refine zn 0 h fun h => ?_
  refine zm 0 (b := (Nat.ble (0 + (List.map (eInt .u8) y1.2).length) ((List.map (eInt .u8) y1.2).length))) (ble_full _) ?_
  refine zw 0 (a := (List.take ((List.map (eInt .u8) y1.2).length) (List.drop 0 (List.map (eInt .u8) y1.2)) ++ (List.take ((List.map (eInt .u8) y4.2).length) (List.drop 0 (List.map (eInt .u8) y4.2))))) (b := (List.map (eInt .u8) (y1.2 ++ y4.2))) (by simp only [take_full, take_full', List.map_append, List.map_take, List.map_drop]) ?_
  exact zk 2 h ha
 exact zk 1 h ha
theorem msg_Body_2_ok {m b} : msg_Body_W (.s2 m b) (msg_Body_2 m b) := by
 intro r x h ha; unfold msg_Body_2 at h
 refine zc 6 [] h (fun _ => wire_PutInts_ok) fun y1 h => ?_
 refine zm 11 (b := (Nat.beq ((List.take ((List.map (eInt .u8) y1.2).length) (List.drop 0 (List.map (eInt .u8) y1.2))).length) ((List.map (eInt .u8) y1.2).length))) (by simp) ?_
 refine zn 0 h fun h => ?_
 refine zm 0 (b := (Nat.ble (0 + (List.map (eInt .u8) b).length) ((List.map (eInt .u8) b).length))) (ble_full _) ?_
 refine zw 0 (a := (List.take ((List.map (eInt .u8) b).length) (List.drop 0 (List.map (eInt .u8) b)) ++ (List.take ((List.map (eInt .u8) y1.2).length) (List.drop 0 (List.map (eInt .u8) y1.2))))) (b := (List.map (eInt .u8) (b ++ y1.2))) (by simp only [take_full, take_full', List.map_append, List.map_take, List.map_drop]) ?_
 refine adv_ok hm 18 _ ?_
 obtain rfl := Option.some.inj h
 refine r_to (q' := .go ⟨[.lpc (msg_Body_c [1, 1, 1, 1, 1, 1, 1, 1, 0, 1, 0, 0]) 4231240368651202111471682, .blk 0, .code (msg_Body_c [1, 1, 1, 1, 1, 1, 1, 1, 1])], [(1, .ptr 0 0 0), (6, .msl 1 0 ((List.map (eInt .u8) (b ++ y1.2)).length) ((List.map (eInt .u8) (b ++ y1.2)).length) false), (79, .msl 2 0 2 2 true), (80, .int .i64 2), (81, .int .i64 0)], [some ⟨26, false, [(Msg.enc m)]⟩, some ⟨1, false, (List.map (eInt .u8) (b ++ y1.2))⟩, some ⟨1, false, [[.sl false 1 (List.map (eInt .u8) m.Session)], [.sl false 1 (List.map (eInt .u8) m.Payload)]]⟩]⟩) (by kernel_rfl) ?_
 refine r_len (n1 := 2) (n2 := (List.map (eSl 1 (eInt .u8)) ([m.Session, m.Payload])).length) (fun n_len => .go ⟨[.lpc (msg_Body_c [1, 1, 1, 1, 1, 1, 1, 1, 0, 1, 0, 0]) 4231240368651202111471682, .blk 0, .code (msg_Body_c [1, 1, 1, 1, 1, 1, 1, 1, 1])], [(1, .ptr 0 0 0), (6, .msl 1 0 ((List.map (eInt .u8) (b ++ y1.2)).length) ((List.map (eInt .u8) (b ++ y1.2)).length) false), (79, .msl 2 0 n_len n_len true), (80, .int .i64 2), (81, .int .i64 0)], [some ⟨26, false, [(Msg.enc m)]⟩, some ⟨1, false, (List.map (eInt .u8) (b ++ y1.2))⟩, some ⟨1, false, [[.sl false 1 (List.map (eInt .u8) m.Session)], [.sl false 1 (List.map (eInt .u8) m.Payload)]]⟩]⟩) (by simp) ?_
 exact ha
theorem msg_Body_1_ok {t81 m b b2} : msg_Body_W (.s1 t81 m b b2) (msg_Body_1 t81 m b b2) := by
 intro r x h ha; unfold msg_Body_1 at h
 refine zs 7 h (fun h => ?_) fun h => ?_
 ·
  refine zn 6 h fun h => ?_
  refine zr 1 (eSl 1 (eInt .u8)) h fun y3 h => ?_
  refine zc 6 [] h (fun _ => wire_PutText_ok) fun y5 h => ?_
  refine zm 10 (b := (Nat.beq ((List.take ((List.map (eInt .u8) y5.2).length) (List.drop 0 (List.map (eInt .u8) y5.2))).length) ((List.map (eInt .u8) y5.2).length))) (by simp) ?_
  refine zn 0 h fun h => ?_
  refine zm 0 (b := (Nat.ble (0 + (List.map (eInt .u8) b).length) ((List.map (eInt .u8) b).length))) (ble_full _) ?_
  refine zw 0 (a := (List.take ((List.map (eInt .u8) b).length) (List.drop 0 (List.map (eInt .u8) b)) ++ (List.take ((List.map (eInt .u8) y5.2).length) (List.drop 0 (List.map (eInt .u8) y5.2))))) (b := (List.map (eInt .u8) (b ++ y5.2))) (by simp only [take_full, take_full', List.map_append, List.map_take, List.map_drop]) ?_
  exact zj 8 h ha
 refine zm 13 (b := (Nat.ble (0 + (List.map (eInt .u8) b).length) ((List.map (eInt .u8) b).length))) (ble_full _) ?_
 obtain rfl := Option.some.inj h
 have hv := ha
 simp only [After] at hv
 subst hv
 exact r_retE [] (d1 := .tup [.int .u8 (IntKind.u8.wrap (m.Kind)), .sl false 1 (List.take ((List.map (eInt .u8) b).length) (List.drop 0 (List.map (eInt .u8) b))), .int .i64 0]) (d := .tup [.int .u8 (IntKind.u8.wrap (m.Kind)), .sl false 1 (List.map (eInt .u8) b), .int .i64 0]) (s1 := []) (s := []) (by kernel_rfl) ⟨by simp [List.take_of_length_le, List.map_take, List.map_drop], rfl⟩ ⟨rfl, rfl⟩ Cx.fin_of
noncomputable def msg_Body (m : Msg) : Option (Int × (List Int) × Int) := evf msg_Body_step (.s0 m)
theorem msg_Body_ok {m : Msg} {r : Int × (List Int) × Int} (h : msg_Body m = some r) : Sound E 51 [.agg [.int .i64 m.Kind, .int .i64 m.From, .int .i64 m.To, .int .i64 m.Epoch, .int .i64 m.Ballot, .int .i64 m.Accepted, .int .i64 m.Nonce, .int .i64 m.Time, .int .u64 m.Up, .int .i64 m.Code, .bool m.HasPlan, .int .i64 m.Plan.Epoch, .int .i64 m.Plan.Target, .int .i64 m.Plan.Prev, .int .i64 m.Plan.Spill, .int .i64 m.Plan.Percent, .int .i64 m.Plan.Stamp, .int .i64 m.Plan.Since, .int .i64 m.Plan.Ramped, .int .u64 m.Plan.Up, .int .u64 m.Plan.Sup, .sl false 1 (List.map (eInt .i64) m.Plan.Pen), .sl false 1 (List.map (eInt .i64) m.Plan.Changes), .sl false 1 (List.map (eInt .i64) m.ID), .sl false 1 (List.map (eInt .u8) m.Session), .sl false 1 (List.map (eInt .u8) m.Payload)]] [] (Rs msg_Body_e r) := sc (fn := Tryd.f51) (k := false) (m := 0) (stM := msg_Body_M) h fun s => by
 cases s with
 | s0 => exact msg_Body_0_ok
 | s3 => exact msg_Body_3_ok
 | s2 => exact msg_Body_2_ok
 | s1 => exact msg_Body_1_ok
end Go.RX.L

namespace Go.RX.L
open Go Go.RX
def encT (s : List Int) : List Int := encI (s.length : Int) ++ s
def putT (s : List Int) : Int × List Int := if s.length ≤ 4096 then (0, encT s) else (2, [])
theorem encT_bytes {s : List Int} (h : Bytes s) : Bytes (encT s) := fun c hc => (List.mem_append.1 hc).elim (encI_bytes _ c) (h c)
theorem encT_len {s : List Int} (h : s.length ≤ 4096) : (encT s).length ≤ s.length + 10 := by
  have := encI_len (inLen (n := s.length) (by omega))
  simp only [encT, List.length_append]; omega
theorem putText_ok {s : List Int} (hm : s.length ≤ memB) : wire_PutText s = some (putT s) := by
  unfold putT
  by_cases h : s.length ≤ 4096
  · rw [if_pos h]
    have hn := inLen (n := s.length) (by omega)
    have hl := encI_len hn
    have c1 : decide (((s.length : Nat) : Int) > 4096) = false := by simp; omega
    have c2 : decide (((encI (s.length : Int)).length + s.length) * 1 ≤ bytesLim) = true := limOk (by omega)
    simp only [wire_PutText, List.length_map, c1, cond_false, putInt_ok hn, Option.bind_some, c2, cond_true, encT]
  · rw [if_neg h]
    have c1 : decide (((s.length : Nat) : Int) > 4096) = true := by simp; omega
    simp only [wire_PutText, List.length_map, c1, cond_true]
end Go.RX.L

namespace Go.RX.L
open Go Go.RX Go.Proofs
attribute [local irreducible] FinQ
noncomputable def ref01_Same_c := codeAt (bodyOf Tryd.f46)
noncomputable def ref01_Same_e (y : Bool) : D × Sto := (.bool y, [])
inductive ref01_Same_S where
 | s0 (a b : List Int)
 | s1 (a b : List Int) (i : Int)
noncomputable def ref01_Same_M : ref01_Same_S → M
 | .s0 a b => startM Tryd.f46 [.sl false 1 (List.map (eInt .i64) a), .sl false 1 (List.map (eInt .i64) b)] []
 | .s1 a b i => ⟨[.lpc (ref01_Same_c [1, 1, 0, 1, 0, 0]) 35, .blk 0, .code (ref01_Same_c [1, 1, 1])], [(0, .sl false 1 (List.map (eInt .i64) a)), (1, .sl false 1 (List.map (eInt .i64) b)), (5, .int .i64 i)], []⟩
abbrev ref01_Same_W := SOk E (Cx.of Tryd.f46 false 0) ref01_Same_e ref01_Same_M
end Go.RX.L

namespace Go.RX.L
open Go Go.RX
def btw (lo hi : Int) (l : List Int) : Bool := l.all fun n => decide (lo ≤ n ∧ n ≤ hi)
theorem btw_cons (lo hi x : Int) (l : List Int) : btw lo hi (x :: l) = (decide (lo ≤ x ∧ x ≤ hi) && btw lo hi l) := rfl
theorem btw_iff {lo hi : Int} {l : List Int} : btw lo hi l = true ↔ ∀ x ∈ l, lo ≤ x ∧ x ≤ hi := by simp [btw]
theorem ix_loop (l : List Int) (lo hi : Int) (hl : l.length < 9223372036854775807) : ∀ (j k : Nat), k + j = l.length → ∃ r : Int, Ev slices_IndexFunc__all_1_step (.s1 l lo hi l.length k) r ∧ decide (r ≥ 0) = !(btw lo hi (l.drop k)) := by
  intro j
  induction j with
  | zero =>
    intro k hk
    refine ⟨-1, .done ?_, ?_⟩
    · simp [slices_IndexFunc__all_1_step, slices_IndexFunc__all_1_1, show ¬ (k : Int) < l.length by omega]
    · rw [List.drop_eq_nil_of_le (by omega)]; rfl
  | succ j ih =>
    intro k hk
    have hlt : k < l.length := by omega
    rw [List.drop_eq_getElem_cons hlt, btw_cons]
    by_cases h : lo ≤ l[k] ∧ l[k] ≤ hi
    · obtain ⟨r, h1, h2⟩ := ih (k + 1) (by omega)
      refine ⟨r, .next (s' := .s1 l lo hi l.length ((k + 1 : Nat) : Int)) ?_ h1, ?_⟩
      · have e1 : decide (l[k] < lo) = false := by simp; omega
        have e2 : decide (l[k] > hi) = false := by simp; omega
        simp only [slices_IndexFunc__all_1_step, slices_IndexFunc__all_1_1, List.length_map, ltB hlt, le0, Bool.and_self, cond_true, Int.toNat_natCast, List.getE hlt, Option.bind_some, plan_all_1, e1, e2, cond_false, wS (show k < 9223372036854775807 by omega)]
      · rw [h2, decide_eq_true h, Bool.true_and]
    · refine ⟨k, .done ?_, ?_⟩
      · have e : plan_all_1 l[k] lo hi = some true := by
          unfold plan_all_1
          by_cases h1 : l[k] < lo
          · rw [decide_eq_true h1]; rfl
          · have h2 : l[k] > hi := by omega
            rw [decide_eq_false h1, decide_eq_true h2]; rfl
        simp only [slices_IndexFunc__all_1_step, slices_IndexFunc__all_1_1, List.length_map, ltB hlt, le0, Bool.and_self, cond_true, Int.toNat_natCast, List.getE hlt, Option.bind_some, e]
      · rw [decide_eq_false h, Bool.false_and]; simp
theorem all_ok (lo hi : Int) {l : List Int} (hl : l.length < 9223372036854775807) : plan_all lo hi l = some (btw lo hi l) := by
  obtain ⟨r, h1, h2⟩ := ix_loop l lo hi hl l.length 0 (by omega)
  have h3 : slices_IndexFunc__all_1 l lo hi = some r := evf_of (.next (s' := .s1 l lo hi l.length 0) (by simp [slices_IndexFunc__all_1_step, slices_IndexFunc__all_1_0]) h1)
  simp only [plan_all, slices_ContainsFunc__all_1, h3, Option.bind_some, h2]
  simp
theorem ix_v2_loop (l : List Int) (lo hi : Int) (hl : l.length < 9223372036854775807) : ∀ (j k : Nat), k + j = l.length → ∃ r : Int, Ev slices_IndexFunc__all_1_v2_step (.s1 l lo hi l.length k) r ∧ decide (r ≥ 0) = !(btw lo hi (l.drop k)) := by
  intro j
  induction j with
  | zero =>
    intro k hk
    refine ⟨-1, .done ?_, ?_⟩
    · simp [slices_IndexFunc__all_1_v2_step, slices_IndexFunc__all_1_v2_1, show ¬ (k : Int) < l.length by omega]
    · rw [List.drop_eq_nil_of_le (by omega)]; rfl
  | succ j ih =>
    intro k hk
    have hlt : k < l.length := by omega
    rw [List.drop_eq_getElem_cons hlt, btw_cons]
    by_cases h : lo ≤ l[k] ∧ l[k] ≤ hi
    · obtain ⟨r, h1, h2⟩ := ih (k + 1) (by omega)
      refine ⟨r, .next (s' := .s1 l lo hi l.length ((k + 1 : Nat) : Int)) ?_ h1, ?_⟩
      · have e1 : decide (l[k] < lo) = false := by simp; omega
        have e2 : decide (l[k] > hi) = false := by simp; omega
        simp only [slices_IndexFunc__all_1_v2_step, slices_IndexFunc__all_1_v2_1, List.length_map, ltB hlt, le0, Bool.and_self, cond_true, Int.toNat_natCast, List.getE hlt, Option.bind_some, plan_all_1_v2, e1, e2, cond_false, wS (show k < 9223372036854775807 by omega)]
      · rw [h2, decide_eq_true h, Bool.true_and]
    · refine ⟨k, .done ?_, ?_⟩
      · have e : plan_all_1_v2 l[k] lo hi = some true := by
          unfold plan_all_1_v2
          by_cases h1 : l[k] < lo
          · rw [decide_eq_true h1]; rfl
          · have h2 : l[k] > hi := by omega
            rw [decide_eq_false h1, decide_eq_true h2]; rfl
        simp only [slices_IndexFunc__all_1_v2_step, slices_IndexFunc__all_1_v2_1, List.length_map, ltB hlt, le0, Bool.and_self, cond_true, Int.toNat_natCast, List.getE hlt, Option.bind_some, e]
      · rw [decide_eq_false h, Bool.false_and]; simp
theorem all_v2_ok (lo hi : Int) {l : List Int} (hl : l.length < 9223372036854775807) : plan_all_v2 lo hi l = some (btw lo hi l) := by
  obtain ⟨r, h1, h2⟩ := ix_v2_loop l lo hi hl l.length 0 (by omega)
  have h3 : slices_IndexFunc__all_1_v2 l lo hi = some r := evf_of (.next (s' := .s1 l lo hi l.length 0) (by simp [slices_IndexFunc__all_1_v2_step, slices_IndexFunc__all_1_v2_0]) h1)
  simp only [plan_all_v2, slices_ContainsFunc__all_1_v2, h3, Option.bind_some, h2]
  simp
theorem eq_loop (a b : List Int) (hl : a.length < 9223372036854775807) (hab : a.length = b.length) : ∀ (j k : Nat), k + j = a.length → Ev slices_Equal_step (.s1 a b a.length k) (decide (a.drop k = b.drop k)) := by
  intro j
  induction j with
  | zero =>
    intro k hk
    refine .done ?_
    rw [List.drop_eq_nil_of_le (by omega), List.drop_eq_nil_of_le (by omega)]
    simp [slices_Equal_step, slices_Equal_1, show ¬ (k : Int) < a.length by omega]
  | succ j ih =>
    intro k hk
    have h1 : k < a.length := by omega
    have h2 : k < b.length := by omega
    rw [List.drop_eq_getElem_cons h1, List.drop_eq_getElem_cons h2]
    by_cases h : a[k] = b[k]
    · refine .next (s' := .s1 a b a.length ((k + 1 : Nat) : Int)) ?_ ?_
      · have e : (a[k] != b[k]) = false := by simp [h]
        simp only [slices_Equal_step, slices_Equal_1, List.length_map, ltB h1, ltB h2, le0, Bool.and_self, cond_true, Int.toNat_natCast, List.getE h1, List.getE h2, Option.bind_some, e, cond_false, wS (show k < 9223372036854775807 by omega)]
      · rw [show (decide (a[k] :: a.drop (k + 1) = b[k] :: b.drop (k + 1))) = decide (a.drop (k + 1) = b.drop (k + 1)) by simp only [h, List.cons.injEq, true_and]]
        exact ih (k + 1) (by omega)
    · refine .done ?_
      have e : (a[k] != b[k]) = true := by simp [h]
      simp only [slices_Equal_step, slices_Equal_1, List.length_map, ltB h1, ltB h2, le0, Bool.and_self, cond_true, Int.toNat_natCast, List.getE h1, List.getE h2, Option.bind_some, e]
      rw [show (decide (a[k] :: a.drop (k + 1) = b[k] :: b.drop (k + 1))) = false by simp only [h, List.cons.injEq, false_and, decide_false]]
theorem equal_ok {a b : List Int} (hl : a.length < 9223372036854775807) : slices_Equal a b = some (decide (a = b)) := by
  by_cases hab : a.length = b.length
  · refine evf_of (.next (s' := .s1 a b a.length 0) (by simp [slices_Equal_step, slices_Equal_0, hab]) ?_)
    simpa using eq_loop a b hl hab a.length 0 (by omega)
  · refine evf_of (.done ?_)
    have e : (((a.length : Nat) : Int) != ((b.length : Nat) : Int)) = true := by simp; omega
    have hne : a ≠ b := fun h => hab (by rw [h])
    simp [slices_Equal_step, slices_Equal_0, e, hne]
theorem eq_v2_loop (a b : List Int) (hl : a.length < 9223372036854775807) (hab : a.length = b.length) : ∀ (j k : Nat), k + j = a.length → Ev slices_Equal_v2_step (.s1 a b a.length k) (decide (a.drop k = b.drop k)) := by
  intro j
  induction j with
  | zero =>
    intro k hk
    refine .done ?_
    rw [List.drop_eq_nil_of_le (by omega), List.drop_eq_nil_of_le (by omega)]
    simp [slices_Equal_v2_step, slices_Equal_v2_1, show ¬ (k : Int) < a.length by omega]
  | succ j ih =>
    intro k hk
    have h1 : k < a.length := by omega
    have h2 : k < b.length := by omega
    rw [List.drop_eq_getElem_cons h1, List.drop_eq_getElem_cons h2]
    by_cases h : a[k] = b[k]
    · refine .next (s' := .s1 a b a.length ((k + 1 : Nat) : Int)) ?_ ?_
      · have e : (a[k] != b[k]) = false := by simp [h]
        simp only [slices_Equal_v2_step, slices_Equal_v2_1, List.length_map, ltB h1, ltB h2, le0, Bool.and_self, cond_true, Int.toNat_natCast, List.getE h1, List.getE h2, Option.bind_some, e, cond_false, wS (show k < 9223372036854775807 by omega)]
      · rw [show (decide (a[k] :: a.drop (k + 1) = b[k] :: b.drop (k + 1))) = decide (a.drop (k + 1) = b.drop (k + 1)) by simp only [h, List.cons.injEq, true_and]]
        exact ih (k + 1) (by omega)
    · refine .done ?_
      have e : (a[k] != b[k]) = true := by simp [h]
      simp only [slices_Equal_v2_step, slices_Equal_v2_1, List.length_map, ltB h1, ltB h2, le0, Bool.and_self, cond_true, Int.toNat_natCast, List.getE h1, List.getE h2, Option.bind_some, e]
      rw [show (decide (a[k] :: a.drop (k + 1) = b[k] :: b.drop (k + 1))) = false by simp only [h, List.cons.injEq, false_and, decide_false]]
theorem equal_v2_ok {a b : List Int} (hl : a.length < 9223372036854775807) : slices_Equal_v2 a b = some (decide (a = b)) := by
  by_cases hab : a.length = b.length
  · refine evf_of (.next (s' := .s1 a b a.length 0) (by simp [slices_Equal_v2_step, slices_Equal_v2_0, hab]) ?_)
    simpa using eq_v2_loop a b hl hab a.length 0 (by omega)
  · refine evf_of (.done ?_)
    have e : (((a.length : Nat) : Int) != ((b.length : Nat) : Int)) = true := by simp; omega
    have hne : a ≠ b := fun h => hab (by rw [h])
    simp [slices_Equal_v2_step, slices_Equal_v2_0, e, hne]
def srtB (l : List Int) (n : Nat) : Bool := (List.range n).all fun i => decide (l.getD i 0 ≤ l.getD (i + 1) 0)
def srt (l : List Int) : Bool := srtB l (l.length - 1)
theorem srtB_succ (l : List Int) (n : Nat) : srtB l (n + 1) = (srtB l n && decide (l.getD n 0 ≤ l.getD (n + 1) 0)) := by
  simp [srtB, List.range_succ, Bool.and_comm]
theorem sorted_loop (l : List Int) (hl : l.length < 9223372036854775807) : ∀ (i : Nat), i < l.length ∨ i = 0 → Ev slices_IsSorted_step (.s1 l i) (srtB l i)
  | 0, _ => .done (by simp [slices_IsSorted_step, slices_IsSorted_1, srtB])
  | i + 1, h => by
    have h1 : i + 1 < l.length := by omega
    have h0 : i < l.length := by omega
    have e0 : decide (((i + 1 : Nat) : Int) > 0) = true := decide_eq_true (by omega)
    have e1 : IntKind.i64.wrap (((i + 1 : Nat) : Int) - 1) = (i : Int) := by rw [wI64 (by omega) (by omega)]; omega
    have less : ∀ x y : Int, cmp_Less x y = some (decide (x < y)) := fun x y => by
      simp only [cmp_Less, cmp_isNaN, Option.bind_some]
      simp
    rw [srtB_succ]
    have g1 : l.getD i 0 = l[i] := by simp [h0]
    have g2 : l.getD (i + 1) 0 = l[i + 1] := by simp [h1]
    rw [g1, g2]
    by_cases hle : l[i] ≤ l[i + 1]
    · rw [decide_eq_true hle, Bool.and_true]
      refine .next (s' := .s1 l i) ?_ (sorted_loop l hl i (.inl h0))
      have e2 : decide (l[i + 1] < l[i]) = false := by simp; omega
      simp only [slices_IsSorted_step, slices_IsSorted_1, List.length_map, e0, e1, ltB h0, ltB h1, le0, Bool.and_self, cond_true, Int.toNat_natCast, List.getE h0, List.getE h1, Option.bind_some, less, e2, cond_false]
    · rw [decide_eq_false hle, Bool.and_false]
      refine .done ?_
      have e2 : decide (l[i + 1] < l[i]) = true := by simp; omega
      simp only [slices_IsSorted_step, slices_IsSorted_1, List.length_map, e0, e1, ltB h0, ltB h1, le0, Bool.and_self, cond_true, Int.toNat_natCast, List.getE h0, List.getE h1, Option.bind_some, less, e2]
theorem sorted_ok {l : List Int} (hl : l.length < 9223372036854775807) : slices_IsSorted l = some (srt l) := by
  by_cases h0 : l.length = 0
  · have : l = [] := List.eq_nil_of_length_eq_zero h0
    subst this
    refine evf_of (.next (s' := .s1 [] (-1)) (by simp [slices_IsSorted_step, slices_IsSorted_0]; rfl) (.done (by simp [slices_IsSorted_step, slices_IsSorted_1, srt, srtB])))
  · refine evf_of (.next (s' := .s1 l ((l.length - 1 : Nat) : Int)) ?_ (sorted_loop l hl (l.length - 1) (.inl (by omega))))
    have : IntKind.i64.wrap ((l.length : Int) - 1) = ((l.length - 1 : Nat) : Int) := by rw [wI64 (by omega) (by omega)]; omega
    simp [slices_IsSorted_step, slices_IsSorted_0, this]
/-! ### right -/
def right0 (p : Plan) : Bool := decide (0 ≤ p.Epoch) && (btw (-1) 15 [p.Target, p.Prev, p.Spill] && btw 0 100 [p.Percent])
def right1 (p : Plan) : Bool := btw 0 1099511627776 [p.Stamp, p.Since, p.Ramped] && (decide (p.Up ≤ 65535) && decide (p.Sup ≤ 65535))
def right2 (p : Plan) : Bool := decide (p.Pen.length ≤ 16) && decide (p.Changes.length ≤ 8)
def right3 (p : Plan) : Bool := btw 0 1000000 p.Pen && (btw 0 1099511627776 p.Changes && srt p.Changes)
def rightP (p : Plan) : Bool := right0 p && (right1 p && (right2 p && right3 p))
structure Rt (p : Plan) : Prop where
  epoch : 0 ≤ p.Epoch
  tps : ∀ x ∈ [p.Target, p.Prev, p.Spill], -1 ≤ x ∧ x ≤ 15
  pc : 0 ≤ p.Percent ∧ p.Percent ≤ 100
  times : ∀ x ∈ [p.Stamp, p.Since, p.Ramped], 0 ≤ x ∧ x ≤ 1099511627776
  up : p.Up ≤ 65535
  sup : p.Sup ≤ 65535
  penl : p.Pen.length ≤ 16
  chl : p.Changes.length ≤ 8
  pen : ∀ x ∈ p.Pen, 0 ≤ x ∧ x ≤ 1000000
  ch : ∀ x ∈ p.Changes, 0 ≤ x ∧ x ≤ 1099511627776
  srt : srt p.Changes = true
theorem rightP_iff {p : Plan} : rightP p = true ↔ Rt p := by
  constructor
  · intro h
    simp only [rightP, right0, right1, right2, right3, Bool.and_eq_true, decide_eq_true_eq, btw_iff] at h
    obtain ⟨⟨a1, a2, a3⟩, ⟨b1, b2, b3⟩, ⟨c1, c2⟩, d1, d2, d3⟩ := h
    exact ⟨a1, a2, a3 _ (by simp), b1, b2, b3, c1, c2, d1, d2, d3⟩
  · rintro ⟨a1, a2, a3, b1, b2, b3, c1, c2, d1, d2, d3⟩
    simp only [rightP, right0, right1, right2, right3, Bool.and_eq_true, decide_eq_true_eq, btw_iff]
    exact ⟨⟨a1, a2, fun x hx => by simp at hx; subst hx; exact a3⟩, ⟨b1, b2, b3⟩, ⟨c1, c2⟩, d1, d2, d3⟩
/-- Short enough. -/
structure Shrt (a : Plan) : Prop where
  pen : a.Pen.length < 9223372036854775807
  ch : a.Changes.length < 9223372036854775807
theorem short {l : List Int} (h : l.length * 8 ≤ reachBytes) : l.length < 9223372036854775807 := by
  have : reachBytes ≤ 9223372036854775807 := by decide
  omega
theorem right_ok {p : Plan} (hs : Shrt p) (hu : 0 ≤ p.Up) (hv : 0 ≤ p.Sup) : plan_Right p = some (rightP p) := by
  have k1 : plan_Right_1 false p = some (right3 p) := by
    simp only [plan_Right_1, cond_false, all_v2_ok 0 1000000 hs.pen, all_ok 0 1099511627776 hs.ch, sorted_ok hs.ch, Option.bind_some, right3]
    cases btw 0 1000000 p.Pen <;> cases btw 0 1099511627776 p.Changes <;> cases srt p.Changes <;> rfl
  have k2 : plan_Right_2 false p = some (right2 p && right3 p) := by
    simp only [plan_Right_2, cond_false, List.length_map, right2]
    by_cases h1 : p.Pen.length ≤ 16
    · have e1 : decide (((p.Pen.length : Nat) : Int) > 16) = false := by simp; omega
      rw [e1, decide_eq_true h1]
      by_cases h2 : p.Changes.length ≤ 8
      · have e2 : decide (((p.Changes.length : Nat) : Int) > 8) = false := by simp; omega
        rw [e2, decide_eq_true h2, cond_false, k1]; rfl
      · have e2 : decide (((p.Changes.length : Nat) : Int) > 8) = true := by simp; omega
        rw [e2, decide_eq_false h2]; rfl
    · have e1 : decide (((p.Pen.length : Nat) : Int) > 16) = true := by simp; omega
      rw [e1, decide_eq_false h1]; rfl
  have k3 : plan_Right_3 false p = some (right1 p && (right2 p && right3 p)) := by
    simp only [plan_Right_3, cond_false, all_ok 0 1099511627776 (l := [p.Stamp, p.Since, p.Ramped]) (by simp), Option.bind_some, right1]
    cases hb : btw 0 1099511627776 [p.Stamp, p.Since, p.Ramped] with
    | false => rfl
    | true =>
      have e : decide (mxI p.Up p.Sup ≥ 65536) = !(decide (p.Up ≤ 65535) && decide (p.Sup ≤ 65535)) := by
        unfold mxI
        by_cases h1 : p.Up ≤ 65535 <;> by_cases h2 : p.Sup ≤ 65535 <;> simp [h1, h2] <;> split <;> omega
      simp only [Bool.not_true, cond_false, e]
      cases (decide (p.Up ≤ 65535) && decide (p.Sup ≤ 65535)) with
      | false => rfl
      | true => simp only [Bool.not_true, k2]; rfl
  simp only [plan_Right, rightP, right0]
  by_cases h0 : p.Epoch < 0
  · rw [decide_eq_true h0, decide_eq_false (by omega : ¬ 0 ≤ p.Epoch)]; rfl
  · rw [decide_eq_false h0, decide_eq_true (by omega : 0 ≤ p.Epoch)]
    simp only [cond_false, all_v2_ok (-1) 15 (l := [p.Target, p.Prev, p.Spill]) (by simp), all_v2_ok 0 100 (l := [p.Percent]) (by simp), Option.bind_some]
    cases btw (-1) 15 [p.Target, p.Prev, p.Spill] with
    | false => rfl
    | true =>
      cases btw 0 100 [p.Percent] with
      | false => rfl
      | true => simp only [Bool.not_true, cond_false, k3]; rfl
end Go.RX.L

namespace Go.RX.L
open Go Go.RX
/-- A plan of words. -/
structure Fine (p : Plan) : Prop where
  e : inK .i64 p.Epoch
  up : 0 ≤ p.Up
  sup : 0 ≤ p.Sup
  s : Shrt p
def nums (p : Plan) : List Int := [p.Epoch, p.Target, p.Prev, p.Spill, p.Percent, p.Stamp, p.Since, p.Ramped, p.Up, p.Sup]
def encP (p : Plan) : List Int := encL (nums p) ++ (encL p.Pen ++ encL p.Changes)
theorem nums_in {p : Plan} (hf : Fine p) (h : Rt p) : I64s (nums p) := by
  have t1 := h.tps p.Target (by simp)
  have t2 := h.tps p.Prev (by simp)
  have t3 := h.tps p.Spill (by simp)
  have u1 := h.times p.Stamp (by simp)
  have u2 := h.times p.Since (by simp)
  have u3 := h.times p.Ramped (by simp)
  have v1 := h.up
  have v2 := h.sup
  have v3 := hf.up
  have v4 := hf.sup
  have pc := h.pc
  intro x hx
  simp only [nums, List.mem_cons, List.not_mem_nil, or_false] at hx
  rcases hx with rfl | rfl | rfl | rfl | rfl | rfl | rfl | rfl | rfl | rfl
  · exact hf.e
  all_goals exact inI64.2 (by omega)
theorem pen_in {p : Plan} (h : Rt p) : I64s p.Pen := fun x hx => inI64.2 (by have := h.pen x hx; omega)
theorem ch_in {p : Plan} (h : Rt p) : I64s p.Changes := fun x hx => inI64.2 (by have := h.ch x hx; omega)
theorem encP_bytes (p : Plan) : Bytes (encP p) := fun c hc => by
  rcases List.mem_append.1 hc with h | h
  · exact encL_bytes _ c h
  · rcases List.mem_append.1 h with h | h <;> exact encL_bytes _ c h
theorem encP_len {p : Plan} (hf : Fine p) (h : Rt p) : (encP p).length ≤ 1950 := by
  have h1 := encL_len (nums_in hf h) (by simp [nums])
  have h2 := encL_len (pen_in h) (by have := h.penl; omega)
  have h3 := encL_len (ch_in h) (by have := h.chl; omega)
  simp only [encP, List.length_append]; omega
/-! ### written -/
def putP (p : Plan) : List Int × Int := if rightP p = true then (encP p, 0) else ([], 41)
theorem put_s2 {l0 l1 l2 : List Int} (h0 : I64s l0) (h1 : I64s l1) (h2 : I64s l2) (k0 : l0.length ≤ 64) (k1 : l1.length ≤ 64) (k2 : l2.length ≤ 64) : Ev plan_Put_step (.s2 0 [] [l0, l1, l2]) (encL l0 ++ (encL l1 ++ encL l2), 0) := by
  have n0 := encL_len h0 k0
  have n1 := encL_len h1 k1
  have n2 := encL_len h2 k2
  refine .next (s' := .s2 1 (encL l0) [l0, l1, l2]) ?_ (.next (s' := .s2 2 (encL l0 ++ encL l1) [l0, l1, l2]) ?_ (.next (s' := .s2 3 (encL l0 ++ encL l1 ++ encL l2) [l0, l1, l2]) ?_ (.done ?_)))
  · have hl : decide (((List.map (eInt .u8) ([] : List Int)).length + (List.map (eInt .u8) (encL l0)).length) * 1 ≤ bytesLim) = true := limOk (by simp; omega)
    simp only [plan_Put_step, plan_Put_2, take_full]
    simp only [show (0 + (0 : Int).toNat) = 0 from rfl, List.getElem?_cons_zero, Option.bind_some, putInts_ok h0 k0, hl]
    rfl
  · have hl : decide (((List.map (eInt .u8) (encL l0)).length + (List.map (eInt .u8) (encL l1)).length) * 1 ≤ bytesLim) = true := limOk (by simp; omega)
    simp only [plan_Put_step, plan_Put_2, take_full]
    simp only [show (0 + (1 : Int).toNat) = 1 from rfl, List.getElem?_cons_succ, List.getElem?_cons_zero, Option.bind_some, putInts_ok h1 k1, hl]
    rfl
  · have hl : decide (((List.map (eInt .u8) (encL l0 ++ encL l1)).length + (List.map (eInt .u8) (encL l2)).length) * 1 ≤ bytesLim) = true := limOk (by simp; omega)
    simp only [plan_Put_step, plan_Put_2, take_full]
    simp only [show (0 + (2 : Int).toNat) = 2 from rfl, List.getElem?_cons_succ, List.getElem?_cons_zero, Option.bind_some, putInts_ok h2 k2, hl]
    rfl
  · rw [List.append_assoc]; rfl
theorem put_s1 {p : Plan} (hf : Fine p) (h : Rt p) : ∀ (j k : Nat), k + j = p.Pen.length → Ev plan_Put_step (.s1 p.Pen p.Pen.length k p (p.Pen.take k)) (encP p, 0) := by
  intro j
  have hpl := h.penl
  induction j with
  | zero =>
    intro k hk
    have hup := h.up
    have hsup := h.sup
    have e1 : IntKind.i64.wrap p.Up = p.Up := wI64 (by have := hf.up; omega) (by omega)
    have e2 : IntKind.i64.wrap p.Sup = p.Sup := wI64 (by have := hf.sup; omega) (by omega)
    rw [List.take_of_length_le (by omega)]
    refine .next (s' := .s2 0 [] [nums p, p.Pen, p.Changes]) ?_ (put_s2 (nums_in hf h) (pen_in h) (ch_in h) (by simp [nums]) (by omega) (by have := h.chl; omega))
    simp only [plan_Put_step, plan_Put_1, geB (show p.Pen.length ≤ k by omega), cond_false, plan_numbers, Option.bind_some, e1, e2, nums]
  | succ j ih =>
    intro k hk
    have hlt : k < p.Pen.length := by omega
    refine .next (s' := .s1 p.Pen p.Pen.length ((k + 1 : Nat) : Int) p (p.Pen.take (k + 1))) ?_ (ih (k + 1) (by omega))
    have hl : decide (((List.map (eInt .i64) (p.Pen.take k)).length + 1) * 8 ≤ bytesLim) = true := limOk (by simp; omega)
    simp only [plan_Put_step, plan_Put_1, ltB hlt, cond_true, List.length_map] at hl ⊢
    simp only [ltB hlt, le0, Bool.and_self, cond_true, Int.toNat_natCast, List.getE hlt, Option.bind_some, hl, wS (show k < 9223372036854775807 by omega), take_snoc hlt]
theorem put_ok {p : Plan} (hf : Fine p) : plan_Put p = some (putP p) := by
  unfold putP
  by_cases hr : rightP p = true
  · rw [if_pos hr]
    refine evf_of (.next (s' := .s1 p.Pen p.Pen.length 0 p []) ?_ (put_s1 hf (rightP_iff.1 hr) p.Pen.length 0 (by omega)))
    simp only [plan_Put_step, plan_Put_0, right_ok hf.s hf.up hf.sup, hr, Option.bind_some, List.length_map]
    rfl
  · rw [if_neg hr]
    refine evf_of (.done ?_)
    simp only [plan_Put_step, plan_Put_0, right_ok hf.s hf.up hf.sup, Option.bind_some]
    rw [Bool.eq_false_iff.2 hr]; rfl
/-! ### read -/
def zeroPl : Plan := ⟨0, 0, 0, 0, 0, 0, 0, 0, 0, 0, [], []⟩
end Go.RX.L

namespace Go.RX.L
open Go Go.RX
/-! ### alike -/
def sameN (a b : Plan) : Bool := decide (a.Epoch = b.Epoch) && (decide (a.Target = b.Target) && (decide (a.Prev = b.Prev) && (decide (a.Spill = b.Spill) && (decide (a.Percent = b.Percent) && (decide (a.Stamp = b.Stamp) && (decide (a.Since = b.Since) && (decide (a.Ramped = b.Ramped) && (decide (a.Up = b.Up) && decide (a.Sup = b.Sup)))))))))
def sameP (a b : Plan) : Bool := sameN a b && (decide (a.Pen = b.Pen) && decide (a.Changes = b.Changes))
theorem sameP_iff {a b : Plan} : sameP a b = true ↔ a = b := by
  cases a; cases b
  simp only [sameP, sameN, Bool.and_eq_true, decide_eq_true_eq, Plan.mk.injEq, and_assoc]
theorem wrapI_inj {x y : Int} (hx : inK .u64 x) (hy : inK .u64 y) : (IntKind.i64.wrap x == IntKind.i64.wrap y) = decide (x = y) := by
  obtain ⟨n, rfl⟩ := Int.eq_ofNat_of_zero_le (inU64.1 hx).1
  obtain ⟨m, rfl⟩ := Int.eq_ofNat_of_zero_le (inU64.1 hy).1
  have h1 := (inU64.1 hx).2
  have h2 := (inU64.1 hy).2
  rw [wrapI64_nat n (by omega), wrapI64_nat m (by omega)]
  rw [Bool.eq_iff_iff]
  simp only [beq_iff_eq, decide_eq_true_eq]
  split <;> split <;> omega
theorem wrapI_inj' {x y : Int} (hx : inK .u64 x) (hy : inK .u64 y) : decide (IntKind.i64.wrap x = IntKind.i64.wrap y) = decide (x = y) := by
  rw [← wrapI_inj hx hy, Bool.eq_iff_iff]; simp
theorem same_ok {a b : Plan} (hs : Shrt a) (h1 : inK .u64 a.Up) (h2 : inK .u64 b.Up) (h3 : inK .u64 a.Sup) (h4 : inK .u64 b.Sup) : plan_Same a b = some (sameP a b) := by
  have hb : ∀ x y : Int, (x == y) = decide (x = y) := fun x y => by by_cases h : x = y <;> simp [h]
  simp only [plan_Same, plan_numbers, Option.bind_some, wrapI_inj' h1 h2, wrapI_inj' h3 h4, hb, Bool.and_true, equal_ok hs.pen, equal_v2_ok hs.ch]
  rw [show (decide (a.Epoch = b.Epoch) && (decide (a.Target = b.Target) && (decide (a.Prev = b.Prev) && (decide (a.Spill = b.Spill) && (decide (a.Percent = b.Percent) && (decide (a.Stamp = b.Stamp) && (decide (a.Since = b.Since) && (decide (a.Ramped = b.Ramped) && (decide (a.Up = b.Up) && decide (a.Sup = b.Sup)))))))))) = sameN a b from rfl]
  unfold sameP
  cases sameN a b with
  | false => rfl
  | true => cases decide (a.Pen = b.Pen) <;> rfl
/-! ### the head -/
def namesP (p : Plan) (t : Int) : Bool := decide (0 ≤ t) && (decide (t = p.Target) || ((decide (t = p.Prev) && decide (p.Percent < 100)) || decide (t = p.Spill)))
theorem bytesOf {b : List Int} (h : b.length * 1 ≤ reachBytes ∧ ∀ y ∈ b, inK .u8 y) : Bytes b ∧ b.length ≤ memB := by
  refine ⟨fun c hc => inU8.1 (h.2 c hc), ?_⟩
  have : reachBytes ≤ memB := by decide
  omega
end Go.RX.L

namespace Go.RX.L
open Go Go.RX
/-! ### may it be? -/
def hdM (m : Msg) : Prop := 1 ≤ m.Kind ∧ m.Kind ≤ 19 ∧ 0 ≤ m.From ∧ m.From ≤ 255 ∧ 0 ≤ m.To ∧ m.To ≤ 255 ∧ m.Up ≤ 65535 ∧ 0 ≤ m.Code ∧ m.Code ≤ 1000
instance (m : Msg) : Decidable (hdM m) := by unfold hdM; infer_instance
def txM (m : Msg) : Prop := (m.ID.length = 0 ∨ m.ID.length = 3) ∧ m.Session.length ≤ 64 ∧ m.Payload.length ≤ 1024
instance (m : Msg) : Decidable (txM m) := by unfold txM; infer_instance
def planB (m : Msg) : Bool := bif m.HasPlan then rightP m.Plan else sameP m.Plan zeroPl
def rightM (m : Msg) : Bool := decide (hdM m) && (decide (txM m) && planB m)
structure Shm (m : Msg) : Prop where
  s : Shrt m.Plan
  up : inK .u64 m.Plan.Up
  sup : inK .u64 m.Plan.Sup
theorem mn3_lt (a b c : Int) : (mnI (mnI a b) c < 0) ↔ a < 0 ∨ b < 0 ∨ c < 0 := by unfold mnI; split <;> split <;> omega
theorem mx_gt (a b n : Int) : (mxI a b > n) ↔ a > n ∨ b > n := by unfold mxI; split <;> omega
theorem zero_u : inK .u64 (0 : Int) := inU64.2 (by omega)
theorem right1_ok {m : Msg} (h : Shm m) : msg_Right_1 false m = some (planB m) := by
  have hu := inU64.1 h.up
  have hv := inU64.1 h.sup
  unfold msg_Right_1 planB
  cases m.HasPlan
  · have := same_ok (a := m.Plan) (b := zeroPl) h.s h.up zero_u h.sup zero_u
    simp only [cond_false]
    show (plan_Same m.Plan zeroPl).bind _ = _
    rw [this]; rfl
  · simp only [cond_false, cond_true, right_ok h.s hu.1 hv.1, Option.bind_some]
theorem right3_ok {m : Msg} (h : Shm m) : msg_Right_3 false m = some (decide (txM m) && planB m) := by
  have h1 := right1_ok h
  have t1 : msg_Right_1 true m = some false := rfl
  have t2 : msg_Right_2 true m = some false := rfl
  have h2 : msg_Right_2 false m = some (decide (m.Session.length ≤ 64 ∧ m.Payload.length ≤ 1024) && planB m) := by
    simp only [msg_Right_2, cond_false, List.length_map]
    by_cases a : m.Session.length ≤ 64
    · rw [show decide (((m.Session.length : Nat) : Int) > 64) = false from decide_eq_false (by omega)]
      by_cases b : m.Payload.length ≤ 1024
      · rw [show decide (((m.Payload.length : Nat) : Int) > 1024) = false from decide_eq_false (by omega), show decide (m.Session.length ≤ 64 ∧ m.Payload.length ≤ 1024) = true from decide_eq_true ⟨a, b⟩, Bool.true_and]; exact h1
      · rw [show decide (((m.Payload.length : Nat) : Int) > 1024) = true from decide_eq_true (by omega), show decide (m.Session.length ≤ 64 ∧ m.Payload.length ≤ 1024) = false from decide_eq_false (fun h => b h.2)]; rfl
    · rw [show decide (((m.Session.length : Nat) : Int) > 64) = true from decide_eq_true (by omega), show decide (m.Session.length ≤ 64 ∧ m.Payload.length ≤ 1024) = false from decide_eq_false (fun h => a h.1)]; rfl
  simp only [msg_Right_3, cond_false, List.length_map]
  by_cases a : m.ID.length = 0
  · rw [show decide (((m.ID.length : Nat) : Int) > 0) = false from decide_eq_false (by omega)]
    rw [show decide (txM m) = decide (m.Session.length ≤ 64 ∧ m.Payload.length ≤ 1024) from decide_eq_decide.2 (by unfold txM; omega)]
    exact h2
  · rw [show decide (((m.ID.length : Nat) : Int) > 0) = true from decide_eq_true (by omega)]
    by_cases b : m.ID.length = 3
    · rw [show (((m.ID.length : Nat) : Int) != 3) = false from by rw [b]; rfl, show decide (txM m) = decide (m.Session.length ≤ 64 ∧ m.Payload.length ≤ 1024) from decide_eq_decide.2 (by unfold txM; omega)]
      exact h2
    · rw [show (((m.ID.length : Nat) : Int) != 3) = true from bne_iff_ne.2 (by omega), show decide (txM m) = false from decide_eq_false (by unfold txM; omega)]
      rfl
theorem mright_ok {m : Msg} (h : Shm m) : msg_Right m = some (rightM m) := by
  have t3 : msg_Right_3 true m = some false := rfl
  by_cases hh : hdM m
  · have h' := hh
    unfold hdM at h'
    rw [rightM, decide_eq_true hh, Bool.true_and, ← right3_ok h]
    simp only [msg_Right]
    rw [show decide (m.Kind < 1) = false from decide_eq_false (by omega), show decide (m.Kind > 19) = false from decide_eq_false (by omega),
      show decide (mnI (mnI m.From m.To) m.Code < 0) = false from decide_eq_false (by rw [mn3_lt]; omega), show decide (mxI m.From m.To > 255) = false from decide_eq_false (by rw [mx_gt]; omega),
      show decide (m.Code > 1000) = false from decide_eq_false (by omega), show decide (m.Up ≥ 65536) = false from decide_eq_false (by omega)]
    rfl
  · rw [rightM, decide_eq_false hh, Bool.false_and]
    unfold hdM at hh
    simp only [msg_Right]
    cases h1 : decide (m.Kind < 1)
    · cases h2 : decide (m.Kind > 19)
      · cases h3 : decide (mnI (mnI m.From m.To) m.Code < 0)
        · cases h4 : decide (mxI m.From m.To > 255)
          · cases h5 : decide (m.Code > 1000)
            · rw [decide_eq_false_iff_not] at h1 h2 h3 h4 h5
              rw [mn3_lt] at h3
              rw [mx_gt] at h4
              rw [show decide (m.Up ≥ 65536) = true from decide_eq_true (by omega)]
              rfl
            · rfl
          · rfl
        · rfl
      · rfl
    · rfl
end Go.RX.L

namespace Go.RX.L
open Go Go.RX
/-! ### bytes -/
/-- A message of words. -/
structure FineM (m : Msg) : Prop where
  sh : Shm m
  pl : Fine m.Plan
  w : I64s [m.Epoch, m.Ballot, m.Accepted, m.Nonce, m.Time]
  up : 0 ≤ m.Up
  id : I64s m.ID
  ses : Bytes m.Session
  pay : Bytes m.Payload
def numsM (m : Msg) : List Int := [m.From, m.To, m.Epoch, m.Ballot, m.Accepted, m.Nonce, m.Time, m.Up, m.Code, bif m.HasPlan then 1 else 0]
def encQ (m : Msg) : List Int := bif m.HasPlan then encT (encP m.Plan) else []
def encB (m : Msg) : List Int := encL (numsM m) ++ (encQ m ++ (encL m.ID ++ (encT m.Session ++ encT m.Payload)))
theorem right_and {m : Msg} (h : rightM m = true) : hdM m ∧ txM m ∧ planB m = true := by
  simpa only [rightM, Bool.and_eq_true, decide_eq_true_eq] using h
theorem right_plan {m : Msg} (h : rightM m = true) (hp : m.HasPlan = true) : Rt m.Plan := by
  have := (right_and h).2.2
  rw [planB, hp] at this
  exact rightP_iff.1 this
theorem numsM_in {m : Msg} (hf : FineM m) (h : rightM m = true) : I64s (numsM m) := by
  obtain ⟨h1, h2, h3⟩ := right_and h
  unfold hdM at h1
  have hu := hf.up
  have e1 := inI64.2 (show -9223372036854775808 ≤ m.From ∧ m.From ≤ 9223372036854775807 by omega)
  have e2 := inI64.2 (show -9223372036854775808 ≤ m.To ∧ m.To ≤ 9223372036854775807 by omega)
  have e3 := inI64.2 (show -9223372036854775808 ≤ m.Up ∧ m.Up ≤ 9223372036854775807 by omega)
  have e4 := inI64.2 (show -9223372036854775808 ≤ m.Code ∧ m.Code ≤ 9223372036854775807 by omega)
  have e5 : inK .i64 (bif m.HasPlan then 1 else 0) := by cases m.HasPlan <;> exact inI64.2 (by decide)
  have hw := hf.w
  intro x hx
  simp only [numsM, List.mem_cons, List.not_mem_nil, or_false] at hx
  rcases hx with rfl | rfl | rfl | rfl | rfl | rfl | rfl | rfl | rfl | rfl
  · exact e1
  · exact e2
  · exact hw _ (by simp)
  · exact hw _ (by simp)
  · exact hw _ (by simp)
  · exact hw _ (by simp)
  · exact hw _ (by simp)
  · exact e3
  · exact e4
  · exact e5
theorem encQ_bytes (m : Msg) : Bytes (encQ m) := by
  unfold encQ
  cases m.HasPlan
  · intro c hc; cases hc
  · exact encT_bytes (encP_bytes _)
theorem encB_bytes {m : Msg} (hf : FineM m) : Bytes (encB m) := fun c hc => by
  simp only [encB, List.mem_append] at hc
  rcases hc with hc | hc | hc | hc | hc
  · exact encL_bytes _ c hc
  · exact encQ_bytes m c hc
  · exact encL_bytes _ c hc
  · exact encT_bytes hf.ses c hc
  · exact encT_bytes hf.pay c hc
theorem encQ_len {m : Msg} (hf : FineM m) (h : rightM m = true) : (encQ m).length ≤ 1960 := by
  unfold encQ
  cases hp : m.HasPlan
  · simp
  · have h1 := encP_len hf.pl (right_plan h hp)
    have := encT_len (s := encP m.Plan) (by omega)
    simp only [cond_true]; omega
theorem id_len {m : Msg} (h : rightM m = true) : m.ID.length ≤ 3 ∧ m.Session.length ≤ 64 ∧ m.Payload.length ≤ 1024 := by
  have := (right_and h).2.1
  unfold txM at this
  omega
theorem encB_len {m : Msg} (hf : FineM m) (h : rightM m = true) : (encB m).length ≤ 4400 := by
  have a := encL_len (numsM_in hf h) (by simp [numsM])
  have b := encQ_len hf h
  have hi := id_len h
  have c := encL_len hf.id (by omega)
  have d := encT_len (s := m.Session) (by omega)
  have e := encT_len (s := m.Payload) (by omega)
  simp only [encB, List.length_append]
  omega
def bodyM (m : Msg) : Int × List Int × Int := if rightM m = true then (m.Kind, encB m, 0) else (0, [], 51)
theorem putT_s {s : List Int} (h : s.length ≤ 4096) : putT s = (0, encT s) := if_pos h
theorem body_s1 {m : Msg} (hs : m.Session.length ≤ 64) (hq : m.Payload.length ≤ 1024) (hk : 0 ≤ m.Kind ∧ m.Kind ≤ 255) {b : List Int} (hb : b.length ≤ 8000) :
    Ev msg_Body_step (.s1 0 m b [m.Session, m.Payload]) (m.Kind, b ++ (encT m.Session ++ encT m.Payload), 0) := by
  have n1 := encT_len (s := m.Session) (by omega)
  have n2 := encT_len (s := m.Payload) (by omega)
  have k1 := putText_ok (s := m.Session) (by simp only [memB]; omega)
  have k2 := putText_ok (s := m.Payload) (by simp only [memB]; omega)
  rw [putT_s (by omega)] at k1 k2
  refine .next (s' := .s1 1 m (b ++ encT m.Session) [m.Session, m.Payload]) ?_ (.next (s' := .s1 2 m (b ++ encT m.Session ++ encT m.Payload) [m.Session, m.Payload]) ?_ (.done ?_))
  · have hl : decide (((List.map (eInt .u8) b).length + (List.map (eInt .u8) (encT m.Session)).length) * 1 ≤ bytesLim) = true := limOk (by simp only [List.length_map]; omega)
    simp only [msg_Body_step, msg_Body_1, take_full]
    simp only [show (0 + (0 : Int).toNat) = 0 from rfl, List.getElem?_cons_zero, Option.bind_some, k1, hl]
    rfl
  · have hl : decide (((List.map (eInt .u8) (b ++ encT m.Session)).length + (List.map (eInt .u8) (encT m.Payload)).length) * 1 ≤ bytesLim) = true := limOk (by simp only [List.length_map, List.length_append]; omega)
    simp only [msg_Body_step, msg_Body_1, take_full]
    simp only [show (0 + (1 : Int).toNat) = 1 from rfl, List.getElem?_cons_succ, List.getElem?_cons_zero, Option.bind_some, k2, hl]
    rfl
  · rw [← List.append_assoc]
    simp only [msg_Body_step, msg_Body_1, wU8 hk.1 hk.2]
    rfl
theorem body_s2 {m : Msg} (hf : FineM m) (h : rightM m = true) {b : List Int} (hb : b.length ≤ 7000) :
    Ev msg_Body_step (.s2 m b) (m.Kind, b ++ (encL m.ID ++ (encT m.Session ++ encT m.Payload)), 0) := by
  have hi := id_len h
  have hh := (right_and h).1
  unfold hdM at hh
  have c := encL_len hf.id (by omega)
  have hl : decide (((List.map (eInt .u8) b).length + (List.map (eInt .u8) (encL m.ID)).length) * 1 ≤ bytesLim) = true := limOk (by simp only [List.length_map]; omega)
  refine .next (s' := .s1 0 m (b ++ encL m.ID) [m.Session, m.Payload]) ?_ ?_
  · simp only [msg_Body_step, msg_Body_2, take_full, putInts_ok hf.id (by omega), Option.bind_some, hl, cond_true]
  · have := body_s1 (m := m) (b := b ++ encL m.ID) hi.2.1 hi.2.2 (by omega) (by simp only [List.length_append]; omega)
    rw [List.append_assoc] at this
    exact this
theorem body_ok {m : Msg} (hf : FineM m) : msg_Body m = some (bodyM m) := by
  unfold bodyM
  by_cases h : rightM m = true
  · rw [if_pos h]
    have hi := numsM_in hf h
    have hu := hf.up
    have hh := (right_and h).1
    unfold hdM at hh
    have hw : IntKind.i64.wrap m.Up = m.Up := wI64 (by omega) (by omega)
    have nl := encL_len hi (by simp [numsM])
    refine evf_of (.next (s' := .s3 m (numsM m)) ?_ ?_)
    · simp only [msg_Body_step, msg_Body_0, mright_ok hf.sh, h, Option.bind_some, Bool.not_true, cond_false, hw, numsM]
      cases m.HasPlan <;> rfl
    · refine .next (s' := .s2 m (encL (numsM m) ++ encQ m)) ?_ ?_
      · simp only [msg_Body_step, msg_Body_3, putInts_ok hi (by simp [numsM]), Option.bind_some, take_full]
        unfold encQ
        cases hp : m.HasPlan
        · simp only [cond_false, List.append_nil]
        · have rp := right_plan h hp
          have pl := encP_len hf.pl rp
          have tl := encT_len (s := encP m.Plan) (by omega)
          have e1 : plan_Put m.Plan = some (encP m.Plan, 0) := by rw [put_ok hf.pl, putP, if_pos (rightP_iff.2 rp)]
          have e2 : wire_PutText (encP m.Plan) = some (0, encT (encP m.Plan)) := by rw [putText_ok (by simp only [memB]; omega), putT_s (by omega)]
          have hl : decide (((List.map (eInt .u8) (encL (numsM m))).length + (List.map (eInt .u8) (encT (encP m.Plan))).length) * 1 ≤ bytesLim) = true := limOk (by simp only [List.length_map]; omega)
          simp only [cond_true, e1, e2, Option.bind_some, hl]
      · have q := encQ_len hf h
        have := body_s2 hf h (b := encL (numsM m) ++ encQ m) (by simp only [List.length_append]; omega)
        rw [List.append_assoc] at this
        exact this
  · rw [if_neg h]
    refine evf_of (.done ?_)
    simp only [msg_Body_step, msg_Body_0, mright_ok hf.sh, Bool.eq_false_iff.2 h, Option.bind_some, Bool.not_false, cond_true]
end Go.RX.L

namespace Go.RX.L
open Go Go.RX
def wideM (l : List Int) : Prop := l.length = 10 ∧ 0 ≤ l.getD 0 0 ∧ l.getD 0 0 ≤ 255 ∧ 0 ≤ l.getD 1 0 ∧ l.getD 1 0 ≤ 255 ∧ 0 ≤ l.getD 7 0 ∧ l.getD 7 0 ≤ 65535 ∧ 0 ≤ l.getD 8 0 ∧ l.getD 8 0 ≤ 65535 ∧ 0 ≤ l.getD 9 0 ∧ l.getD 9 0 ≤ 1
instance (l : List Int) : Decidable (wideM l) := by unfold wideM; infer_instance
end Go.RX.L

namespace Go.RX.L
open Go Go.RX
/-! ### the document's reader -/
end Go.RX.L

namespace Go.RX.L
open Go Go.RX
/-! ### frames -/
/-! ### what is written is read -/
/-! ### alike? -/
end Go.RX.L

namespace Go.RX.L
open Go Go.RX
theorem kind_in {m : Msg} (h : rightM m = true) : 0 ≤ m.Kind ∧ m.Kind ≤ 255 := by
  have hh := (right_and h).1
  unfold hdM at hh
  omega
/-! ### the head -/
theorem frame_bytes {m : Msg} (hf : FineM m) (h : rightM m = true) : Bytes (encF m.Kind (encB m)) := by
  have hl := encB_len hf h
  exact encF_bytes (kind_in h) (encB_bytes hf) (by omega)
end Go.RX.L

namespace Go.RX.L
open Go Go.RX Go.Proofs
attribute [local irreducible] FinQ
noncomputable def Journal_Append_1_e (b1 : List Int) (fuse : Int) (down : Bool) (b3 y : List Int) : D × Sto := (.tup [], [some ⟨1, true, [[.ptr 2 0 0]]⟩, some ⟨1, false, [[.sl false 1 (List.map (eInt .u8) b1)]]⟩, some ⟨4, true, [[(grD 3 (List.map (eInt .u8) b3)), (grD 5 (List.map (eInt .u8) y)), .int .i64 fuse, .bool down]]⟩, some ⟨1, false, (List.map (eInt .u8) b3)⟩, none, some ⟨1, false, (List.map (eInt .u8) y)⟩])
noncomputable def Journal_Append_1 (b1 : List Int) (fuse : Int) (down : Bool) (b3 b4 : List Int) : Option (List Int) := (bif (decide (((List.map (eInt .u8) b4).length + (List.map (eInt .u8) b1).length) * 1 ≤ bytesLim)) then (some (b4 ++ b1)) else none)
theorem Journal_Append_1_ok {b1 : List Int} {fuse : Int} {down : Bool} {b3 b4 r : List Int} (h : Journal_Append_1 b1 fuse down b3 b4 = some r) : Sound E 78 [.ptr 0 0 0, .ptr 1 0 0] [some ⟨1, true, [[.ptr 2 0 0]]⟩, some ⟨1, false, [[.sl false 1 (List.map (eInt .u8) b1)]]⟩, some ⟨4, true, [[(grD 3 (List.map (eInt .u8) b3)), (grD 4 (List.map (eInt .u8) b4)), .int .i64 fuse, .bool down]]⟩, some ⟨1, false, (List.map (eInt .u8) b3)⟩, some ⟨1, false, (List.map (eInt .u8) b4)⟩] (Rs (Journal_Append_1_e b1 fuse down b3) r) := so (fn := Tryd.f78) (k := true) (m := 5) h <| by
 intro r h; unfold Journal_Append_1 at h
 refine zn 5 h fun h => ?_
 refine za 0 (eInt .u8) b4 b1 ?_
 exact zu 3 h
end Go.RX.L

namespace Go.RX.L
open Go Go.RX Go.Proofs
attribute [local irreducible] FinQ
noncomputable def Journal_effect__Append_1_c := codeAt (bodyOf Tryd.f77)
noncomputable def Journal_effect__Append_1_e (b2 b3 : List Int) (y : Int × Int × Bool × (List Int)) : D × Sto := (.int .i64 y.1, [some ⟨4, true, [[(grD 5 (List.map (eInt .u8) b3)), (grD 6 (List.map (eInt .u8) y.2.2.2)), .int .i64 y.2.1, .bool y.2.2.1]]⟩, some ⟨1, true, [[.ptr 0 0 0]]⟩, some ⟨1, false, [[.sl false 1 (List.map (eInt .u8) b2)]]⟩, none, none, some ⟨1, false, (List.map (eInt .u8) b3)⟩, some ⟨1, false, (List.map (eInt .u8) y.2.2.2)⟩])
abbrev Journal_effect__Append_1_W (fuse : Int) (down : Bool) (b2 b3 b4 : List Int) := AOk E (Cx.of Tryd.f77 true 5) (Journal_effect__Append_1_e b2 b3)
noncomputable def Journal_effect__Append_1_1M (fuse : Int) (down : Bool) (b2 b3 b4 : List Int) (fuse2 : Int) (down2 : Bool) : M := ⟨[.code (Journal_effect__Append_1_c [1, 1])], [(0, .ptr 0 0 0), (1, .fn 78 [] [.ptr 1 0 0, .ptr 2 0 0])], [some ⟨4, true, [[(grD 3 (List.map (eInt .u8) b3)), (grD 4 (List.map (eInt .u8) b4)), .int .i64 fuse2, .bool down2]]⟩, some ⟨1, true, [[.ptr 0 0 0]]⟩, some ⟨1, false, [[.sl false 1 (List.map (eInt .u8) b2)]]⟩, some ⟨1, false, (List.map (eInt .u8) b3)⟩, some ⟨1, false, (List.map (eInt .u8) b4)⟩]⟩
noncomputable def Journal_effect__Append_1_1 (fuse : Int) (down : Bool) (b2 b3 b4 : List Int) (fuse2 : Int) (down2 : Bool) : Option (Int × Int × Bool × (List Int)) := (bif down2 then (some (61, fuse2, down2, b4)) else (bif (decide ((fuse2 : Int) > 0)) then ((Journal_Append_1 b2 (IntKind.i64.wrap (fuse2 - 1)) down2 b3 b4).bind fun y3 => (some (0, (IntKind.i64.wrap (fuse2 - 1)), down2, y3))) else ((Journal_Append_1 b2 fuse2 down2 b3 b4).bind fun y4 => (some (0, fuse2, down2, y4)))))
theorem Journal_effect__Append_1_1_ok {fuse down b2 b3 b4 fuse2 down2} : Journal_effect__Append_1_W fuse down b2 b3 b4 (Journal_effect__Append_1_1M fuse down b2 b3 b4 fuse2 down2) (Journal_effect__Append_1_1 fuse down b2 b3 b4 fuse2 down2) := by
 intro r h; unfold Journal_effect__Append_1_1 at h
 refine zs 10 h (fun h => ?_) fun h => ?_
 ·
  refine zf 4 [.mv 3, .mv 4] ?_
  exact zu 1 h
 refine zs 12 h (fun h => ?_) fun h => ?_
 ·
  refine zc 17 [] h (fun _ => Journal_Append_1_ok) fun y3 h => ?_
  refine zf 5 [.mv 3] ?_
  exact zu 1 h
 refine zc 5 [] h (fun _ => Journal_Append_1_ok) fun y4 h => ?_
 refine zf 5 [.mv 3] ?_
 exact zu 1 h
noncomputable def Journal_effect__Append_1_2M (fuse : Int) (down : Bool) (b2 b3 b4 : List Int) (t16 : Bool) : M := ⟨[.code (Journal_effect__Append_1_c [1, 0, 1]), .code (Journal_effect__Append_1_c [1, 1])], [(0, .ptr 0 0 0), (1, .fn 78 [] [.ptr 1 0 0, .ptr 2 0 0]), (16, .bool t16)], [some ⟨4, true, [[(grD 3 (List.map (eInt .u8) b3)), (grD 4 (List.map (eInt .u8) b4)), .int .i64 fuse, .bool down]]⟩, some ⟨1, true, [[.ptr 0 0 0]]⟩, some ⟨1, false, [[.sl false 1 (List.map (eInt .u8) b2)]]⟩, some ⟨1, false, (List.map (eInt .u8) b3)⟩, some ⟨1, false, (List.map (eInt .u8) b4)⟩]⟩
noncomputable def Journal_effect__Append_1_2 (fuse : Int) (down : Bool) (b2 b3 b4 : List Int) (t16 : Bool) : Option (Int × Int × Bool × (List Int)) := (bif t16 then (Journal_effect__Append_1_1 fuse down b2 b3 b4 (-1) true) else (Journal_effect__Append_1_1 fuse down b2 b3 b4 fuse down))
theorem Journal_effect__Append_1_2_ok {fuse down b2 b3 b4 t16} : Journal_effect__Append_1_W fuse down b2 b3 b4 (Journal_effect__Append_1_2M fuse down b2 b3 b4 t16) (Journal_effect__Append_1_2 fuse down b2 b3 b4 t16) := by
 intro r h; unfold Journal_effect__Append_1_2 at h
 refine zs 1 h (fun h => ?_) fun h => ?_
 ·
  exact zg 14 (Journal_effect__Append_1_1_ok h)
 exact zg 1 (Journal_effect__Append_1_1_ok h)
noncomputable def Journal_effect__Append_1 (fuse : Int) (down : Bool) (b2 b3 b4 : List Int) : Option (Int × Int × Bool × (List Int)) := (bif (!down) then (Journal_effect__Append_1_2 fuse down b2 b3 b4 ((fuse : Int) == 0)) else (Journal_effect__Append_1_2 fuse down b2 b3 b4 false))
theorem Journal_effect__Append_1_ok {fuse : Int} {down : Bool} {b2 b3 b4 : List Int} {r : Int × Int × Bool × (List Int)} (h : Journal_effect__Append_1 fuse down b2 b3 b4 = some r) : Sound E 77 [.ptr 0 0 0, .fn 78 [] [.ptr 1 0 0, .ptr 2 0 0]] [some ⟨4, true, [[(grD 3 (List.map (eInt .u8) b3)), (grD 4 (List.map (eInt .u8) b4)), .int .i64 fuse, .bool down]]⟩, some ⟨1, true, [[.ptr 0 0 0]]⟩, some ⟨1, false, [[.sl false 1 (List.map (eInt .u8) b2)]]⟩, some ⟨1, false, (List.map (eInt .u8) b3)⟩, some ⟨1, false, (List.map (eInt .u8) b4)⟩] (Rs (Journal_effect__Append_1_e b2 b3) r) := so (fn := Tryd.f77) (k := true) (m := 5) h <| by
 intro r h; unfold Journal_effect__Append_1 at h
 refine zs 15 h (fun h => ?_) fun h => ?_
 ·
  exact zg 12 (Journal_effect__Append_1_2_ok h)
 exact zg 11 (Journal_effect__Append_1_2_ok h)
end Go.RX.L
