/-
  Tally: bits, counts.
-/
import Derived.Test.YthooiaebbikjiaaT3
set_option linter.unusedSimpArgs false
set_option linter.unusedVariables false
set_option maxRecDepth 100000
namespace Go.RX.Tally
open Go Go.RX Go.Proofs

def bitN (u : Int) (b : Nat) : Int := if u.toNat.testBit b then 1 else 0

theorem u64wrap {n : Nat} (h : n < 18446744073709551616) : IntKind.u64.wrap (n : Int) = n := by
  simp only [IntKind.wrap, IntKind.signed, IntKind.bits]
  simp
  omega

theorem bitE {u : Int} {b : Nat} (h0 : 0 ≤ u) (hb : b < 64) : IntKind.i64.wrap (IntKind.u64.wrap ↑(BitVec.ofInt IntKind.u64.bits (u.fdiv (2 ^ min (b : Int).toNat IntKind.u64.bits)) &&& BitVec.ofInt IntKind.u64.bits 1).toNat) = bitN u b := by
  obtain ⟨m, rfl⟩ := Int.eq_ofNat_of_zero_le h0
  have e1 : min (b : Int).toNat IntKind.u64.bits = b := by simp [IntKind.bits]; omega
  have e2 : (m : Int).fdiv (2 ^ b) = ((m / 2 ^ b : Nat) : Int) := by
    rw [Int.fdiv_eq_ediv_of_nonneg _ (by exact Int.le_of_lt (Int.pow_pos (by decide)))]
    norm_cast
  rw [e1, e2, BitVec.ofInt_natCast]
  have e4 : (BitVec.ofNat IntKind.u64.bits (m / 2 ^ b) &&& BitVec.ofInt IntKind.u64.bits 1).toNat = m / 2 ^ b % 2 := by
    rw [BitVec.toNat_and, BitVec.toNat_ofNat]
    rw [show (BitVec.ofInt IntKind.u64.bits 1).toNat = 1 from rfl, Nat.and_one_is_mod, show IntKind.u64.bits = 64 from rfl]
    omega
  rw [e4, u64wrap (by omega), wrap64 (by omega) (by omega)]
  simp only [bitN, Int.toNat_natCast, Nat.testBit_eq_decide_div_mod_eq]
  by_cases h : m / 2 ^ b % 2 = 1
  · simp [h]
  · have : m / 2 ^ b % 2 = 0 := by omega
    simp [this]

def upTo (p : Nat → Bool) : Nat → Nat
  | 0 => 0
  | b + 1 => if p b then upTo p b ||| 2 ^ b else upTo p b

theorem upTo_bit (p : Nat → Bool) (j : Nat) : ∀ n, (upTo p n).testBit j = (decide (j < n) && p j)
  | 0 => by simp [upTo]
  | n + 1 => by
    have ih := upTo_bit p j n
    simp only [upTo]
    split
    · rename_i h
      rw [Nat.testBit_or, ih, Nat.testBit_two_pow]
      by_cases hj : j = n
      · subst hj; simp [h]
      · have : (n = j) = False := by simp; omega
        simp only [this, decide_false, Bool.or_false]
        congr 1
        simp only [decide_eq_decide]; omega
    · rename_i h
      rw [ih]
      by_cases hj : j = n
      · subst hj; simp [h]
      · congr 1
        simp only [decide_eq_decide]; omega

theorem upTo_lt (p : Nat → Bool) : ∀ n, upTo p n < 2 ^ n
  | 0 => by simp [upTo]
  | n + 1 => by
    have ih := upTo_lt p n
    have h2 : 2 ^ n < 2 ^ (n + 1) := Nat.pow_lt_pow_right (by decide) (by omega)
    simp only [upTo]
    split
    · exact Nat.or_lt_two_pow (by omega) h2
    · omega

theorem orE {p b : Nat} (hp : p < 18446744073709551616) (hb : b < 64) : IntKind.u64.wrap ↑(BitVec.ofInt IntKind.u64.bits (p : Int) ||| BitVec.ofInt IntKind.u64.bits (IntKind.u64.wrap (1 * 2 ^ min (b : Int).toNat IntKind.u64.bits))).toNat = ((p ||| 2 ^ b : Nat) : Int) := by
  have e1 : min (b : Int).toNat IntKind.u64.bits = b := by simp [IntKind.bits]; omega
  have h64 : 2 ^ b < 2 ^ 64 := Nat.pow_lt_pow_right (by decide) hb
  have e2 : (1 * 2 ^ b : Int) = ((2 ^ b : Nat) : Int) := by rw [Int.one_mul]; norm_cast
  rw [e1, e2, u64wrap h64, BitVec.ofInt_natCast, BitVec.ofInt_natCast]
  rw [show IntKind.u64.bits = 64 from rfl, BitVec.toNat_or, BitVec.toNat_ofNat, BitVec.toNat_ofNat, Nat.mod_eq_of_lt hp, Nat.mod_eq_of_lt h64]
  exact u64wrap (Nat.or_lt_two_pow (n := 64) hp h64)

/-! ### counts -/
def rows64 (f : Nat → Int) : List (List D) := (List.range 64).map fun b => [.int .i64 (f b)]

theorem rows64_get (f : Nat → Int) {b : Nat} (h : b < 64) : (rows64 f)[b]? = some [.int .i64 (f b)] := by
  simp [rows64, h]

theorem rows64_set (f : Nat → Int) {b : Nat} (h : b < 64) (c : Int) : (rows64 f).set b [.int .i64 c] = rows64 (fun j => if j = b then c else f j) := by
  refine List.ext_getElem? fun j => ?_
  by_cases hj : j < 64
  · rw [rows64_get _ hj]
    by_cases hjb : b = j
    · subst hjb
      rw [List.getElem?_set_self (by simp [rows64]; exact h)]; simp
    · rw [List.getElem?_set_ne hjb, rows64_get _ hj, if_neg fun e => hjb e.symm]
  · rw [List.getElem?_eq_none (by simp [rows64]; omega), List.getElem?_eq_none (by simp [rows64]; omega)]

theorem flat_one (f : Nat → Int) : ∀ l : List Nat, (l.map fun b => [D.int .i64 (f b)]).flatten = l.map fun b => D.int .i64 (f b)
  | [] => rfl
  | a :: l => by simp only [List.map_cons, List.flatten_cons, flat_one f l]; rfl
theorem rows64_flat (f : Nat → Int) : (rows64 f).flatten = (List.range 64).map fun b => .int .i64 (f b) := flat_one f _

def validB (l : List Vote) (o n f : Int) (i : Nat) (v : Vote) : Bool :=
  !(decide (v.who < 0)) && (!(decide (v.who ≥ o)) && (timeB v.at_ && (!(decide (v.at_ > n)) && (!(decide (v.at_ < n - f)) && !(decide (idxP l v.who 0 < i))))))

/-- How many of the first i votes count for a bit. -/
def cntB (l : List Vote) (o n f : Int) (b : Nat) : Nat → Int
  | 0 => 0
  | i + 1 => cntB l o n f b i + (match l[i]? with | some v => if validB l o n f i v then bitN v.up b else 0 | none => 0)

theorem bitN_01 (u : Int) (b : Nat) : 0 ≤ bitN u b ∧ bitN u b ≤ 1 := by unfold bitN; split <;> omega

theorem cntB_le (l : List Vote) (o n f : Int) (b : Nat) : ∀ i, 0 ≤ cntB l o n f b i ∧ cntB l o n f b i ≤ i
  | 0 => by simp [cntB]
  | i + 1 => by
    have ih := cntB_le l o n f b i
    simp only [cntB]
    split
    · rename_i v _
      have := bitN_01 v.up b
      split <;> omega
    · omega

/-- What most say is up. -/
def tallyP (l : List Vote) (o n f : Int) : Nat :=
  if timeB n && (timeB f && !(decide (o < 1))) then upTo (fun b => decide (cntB l o n f b l.length > o - cntB l o n f b l.length)) 64 else 0

end Go.RX.Tally
