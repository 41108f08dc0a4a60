/-
  Words and walks for TallyMore. No condition.
-/
import Derived.Test.YthooiaebbikjiaaTallyMoreY3
set_option linter.unusedSimpArgs false
set_option linter.unusedVariables false
set_option maxRecDepth 100000
namespace Go.RX.L
open Go Go.RX Go.Proofs
def timeB (n : Int) : Bool := decide (n ≥ 0) && decide (n ≤ 1099511627776)

theorem wrap64 {n : Int} (h1 : -9223372036854775808 ≤ n) (h2 : n ≤ 9223372036854775807) : IntKind.i64.wrap n = n := by
  simp only [IntKind.wrap, IntKind.signed, IntKind.bits]
  simp
  omega

theorem call19 (n : Int) : Sound E 19 [.int .i64 n] [] fun d s => d = .bool (timeB n) ∧ s = [] := by
  refine sound_of (m := ⟨[.code (bodyOf Try.f19)], [(0, .int .i64 n)], []⟩) (fn := Try.f19) (by kernel_rfl) (by kernel_rfl) ?_
  refine adv_ok hm 10 _ ?_
  refine r_split (decide (n ≥ 0)) (by kernel_rfl) (fun h0 => ?_) (fun h0 => ?_)
  · -- true
    refine adv_ok hm 7 _ ?_
    exact r_ret (D.bool (decide (n ≤ 1099511627776))) ([]) (by kernel_rfl) (by simp only [timeB, h0, Bool.true_and, and_self])
  · -- false
    refine adv_ok hm 7 _ ?_
    exact r_ret (D.bool false) ([]) (by kernel_rfl) (by simp only [timeB, h0, Bool.false_and, and_self])

theorem call18 (n : Int) : Sound E 18 [.int .i64 n] [] fun d s => d = .fn 22 [] [.iptr 1 [[.int .i64 n]] 0 0] ∧ s = [] := by
  refine sound_of (m := ⟨[.code (bodyOf Try.f18)], [(0, .int .i64 n)], []⟩) (fn := Try.f18) (by kernel_rfl) (by kernel_rfl) ?_
  refine adv_ok hm 11 _ ?_
  exact r_ret (D.fn 22 [] [D.iptr 1 [[D.int IntKind.i64 n]] 0 0]) ([]) (by kernel_rfl) ⟨rfl, rfl⟩

theorem call22 (v : Vote) (n : Int) : Sound E 22 [.agg (Vote.enc v), .iptr 1 [[.int .i64 n]] 0 0] [] fun d s => d = .bool (v.Observer == n) ∧ s = [] := by
  refine sound_of (m := ⟨[.code (bodyOf Try.f22)], [(0, .agg (Vote.enc v)), (1, .iptr 1 [[.int .i64 n]] 0 0)], []⟩) (fn := Try.f22) (by kernel_rfl) (by kernel_rfl) ?_
  refine adv_ok hm 16 _ ?_
  exact r_ret (D.bool (v.Observer == n)) ([]) (by kernel_rfl) ⟨rfl, rfl⟩

/-- The first of an observer; -1: there is none. -/
def idxP : List Vote → Int → Int → Int
  | [], _, _ => -1
  | v :: r, n, i => if v.Observer = n then i else idxP r n (i + 1)

def lim : Nat := 5864062014805

theorem call17 (nl : Bool) (l : List Vote) (n : Int) (hl : l.length ≤ lim) (hnl : nl = true → l = []) : Sound E 17 [.sl nl 3 (l.map Vote.enc), .fn 22 [] [.iptr 1 [[.int .i64 n]] 0 0]] [] fun d s => d = .int .i64 (idxP l n 0) ∧ s = [] := by
  refine sound_of (m := ⟨[.code (bodyOf Try.f17)], [(0, .sl nl 3 (l.map Vote.enc)), (1, .fn 22 [] [.iptr 1 [[.int .i64 n]] 0 0])], []⟩) (fn := Try.f17) (by kernel_rfl) (by kernel_rfl) ?_
  refine adv_ok hm 14 _ ?_
  have loop : ∀ (k i : Nat), i + k = l.length → FinQ E ⟨Try.f17, false, 0⟩ (fun d s => d = .int .i64 (idxP (l.drop i) n i) ∧ s = []) (.go { td := [It.lpc (codeAt (bodyOf Try.f17) [1, 0, 1, 0, 0]) 387, It.blk 0, It.code (codeAt (bodyOf Try.f17) [1, 1])], fr := [(0, D.sl nl 3 (List.map Vote.enc l)), (1, D.fn 22 [] [D.iptr 1 [[D.int IntKind.i64 n]] 0 0]), (7, D.int IntKind.i64 ↑(List.map Vote.enc l).length), (8, D.int IntKind.i64 i)], st := [] }) := by
    intro k
    induction k with
    | zero =>
      intro i hi
      refine adv_ok hm 7 _ ?_
      refine r_split (decide (↑i < ((List.map Vote.enc l).length : Int))) (by kernel_rfl) (fun h0 => ?_) (fun h0 => ?_)
      · simp at h0; omega
      · refine adv_ok hm 6 _ ?_
        exact r_ret (D.int IntKind.i64 (-1)) ([]) (by kernel_rfl) (by rw [List.drop_eq_nil_of_le (by omega)]; exact ⟨rfl, rfl⟩)
    | succ k ih =>
      intro i hi
      have hlt : i < l.length := by omega
      have hnl' : nl = false := by cases nl with | false => rfl | true => rw [hnl rfl] at hlt; simp at hlt
      subst hnl'
      refine adv_ok hm 7 _ ?_
      refine r_split (decide (↑i < ((List.map Vote.enc l).length : Int))) (by kernel_rfl) (fun h0 => ?_) (fun h0 => ?_)
      · refine adv_ok hm 14 _ ?_
        refine r_need (true && decide (↑i < ((List.map Vote.enc l).length : Int))) (by kernel_rfl) (by simpa using h0) ?_
        refine adv_ok hm 1 _ ?_
        refine r_row ((List.map Vote.enc l)[(Int.ofNat i).toNat]?) (Vote.enc l[i]) (by kernel_rfl) (by simp [hlt]) ?_
        refine adv_ok hm 1 _ ?_
        refine r_call 22 [D.agg (Vote.enc l[i]), D.iptr 1 [[D.int IntKind.i64 n]] 0 0] [] (by kernel_rfl) (call22 l[i] n) ?_
        rintro d s ⟨rfl, rfl⟩
        refine adv_ok hm 2 _ ?_
        refine r_split (l[i].Observer == n) (by kernel_rfl) (fun h4 => ?_) (fun h4 => ?_)
        · -- true
          refine adv_ok hm 6 _ ?_
          exact r_ret (D.int IntKind.i64 ↑i) ([]) (by kernel_rfl) (by
            rw [List.drop_eq_getElem_cons hlt, idxP, if_pos (eq_of_beq h4)]; exact ⟨rfl, rfl⟩)
        · -- false
          refine adv_ok hm 7 _ ?_
          refine r_to (q' := .go { td := [It.lpc (codeAt (bodyOf Try.f17) [1, 0, 1, 0, 0]) 387, It.blk 0, It.code (codeAt (bodyOf Try.f17) [1, 1])], fr := [(0, D.sl false 3 (List.map Vote.enc l)), (1, D.fn 22 [] [D.iptr 1 [[D.int IntKind.i64 n]] 0 0]), (7, D.int IntKind.i64 ↑(List.map Vote.enc l).length), (8, D.int IntKind.i64 (IntKind.i64.wrap (↑i + 1)))], st := [] }) (by kernel_rfl) ?_
          rw [wrap64 (by omega) (by unfold lim at hl; omega)]
          have := ih (i + 1) (by omega)
          rw [List.drop_eq_getElem_cons hlt, idxP, if_neg (by simpa using h4)]
          exact this
      · simp at h0; omega
  cases nl with
  | true =>
    have := hnl rfl
    subst this
    refine r_to (q' := .go { td := [It.lpc (codeAt (bodyOf Try.f17) [1, 0, 1, 0, 0]) 387, It.blk 0, It.code (codeAt (bodyOf Try.f17) [1, 1])], fr := [(0, D.sl true 3 (List.map Vote.enc [])), (1, D.fn 22 [] [D.iptr 1 [[D.int IntKind.i64 n]] 0 0]), (7, D.int IntKind.i64 0), (8, D.int IntKind.i64 0)], st := [] }) (by kernel_rfl) ?_
    exact loop 0 0 rfl
  | false =>
    refine r_to (q' := .go { td := [It.lpc (codeAt (bodyOf Try.f17) [1, 0, 1, 0, 0]) 387, It.blk 0, It.code (codeAt (bodyOf Try.f17) [1, 1])], fr := [(0, D.sl false 3 (List.map Vote.enc l)), (1, D.fn 22 [] [D.iptr 1 [[D.int IntKind.i64 n]] 0 0]), (7, D.int IntKind.i64 ↑(List.map Vote.enc l).length), (8, D.int IntKind.i64 0)], st := [] }) (by kernel_rfl) ?_
    exact loop l.length 0 (by omega)



def bitN (u : Int) (b : Nat) : Int := if u.toNat.testBit b then 1 else 0

theorem u64wrap {n : Nat} (h : n < 18446744073709551616) : IntKind.u64.wrap (n : Int) = n := by
  simp only [IntKind.wrap, IntKind.signed, IntKind.bits]
  simp
  omega

theorem bitE {u : Int} {b : Nat} (h0 : 0 ≤ u) (hb : b < 64) : IntKind.i64.wrap (IntKind.u64.wrap ↑(BitVec.ofInt IntKind.u64.bits (u.fdiv (2 ^ min (b : Int).toNat IntKind.u64.bits)) &&& BitVec.ofInt IntKind.u64.bits 1).toNat) = bitN u b := by
  obtain ⟨m, rfl⟩ := Int.eq_ofNat_of_zero_le h0
  have e1 : min (b : Int).toNat IntKind.u64.bits = b := by simp [IntKind.bits]; omega
  have e2 : (m : Int).fdiv (2 ^ b) = ((m / 2 ^ b : Nat) : Int) := by
    rw [Int.fdiv_eq_ediv_of_nonneg _ (by exact Int.le_of_lt (Int.pow_pos (by decide)))]
    norm_cast
  rw [e1, e2, BitVec.ofInt_natCast]
  have e4 : (BitVec.ofNat IntKind.u64.bits (m / 2 ^ b) &&& BitVec.ofInt IntKind.u64.bits 1).toNat = m / 2 ^ b % 2 := by
    rw [BitVec.toNat_and, BitVec.toNat_ofNat]
    rw [show (BitVec.ofInt IntKind.u64.bits 1).toNat = 1 from rfl, Nat.and_one_is_mod, show IntKind.u64.bits = 64 from rfl]
    omega
  rw [e4, u64wrap (by omega), wrap64 (by omega) (by omega)]
  simp only [bitN, Int.toNat_natCast, Nat.testBit_eq_decide_div_mod_eq]
  by_cases h : m / 2 ^ b % 2 = 1
  · simp [h]
  · have : m / 2 ^ b % 2 = 0 := by omega
    simp [this]

def upTo (p : Nat → Bool) : Nat → Nat
  | 0 => 0
  | b + 1 => if p b then upTo p b ||| 2 ^ b else upTo p b

theorem upTo_bit (p : Nat → Bool) (j : Nat) : ∀ n, (upTo p n).testBit j = (decide (j < n) && p j)
  | 0 => by simp [upTo]
  | n + 1 => by
    have ih := upTo_bit p j n
    simp only [upTo]
    split
    · rename_i h
      rw [Nat.testBit_or, ih, Nat.testBit_two_pow]
      by_cases hj : j = n
      · subst hj; simp [h]
      · have : (n = j) = False := by simp; omega
        simp only [this, decide_false, Bool.or_false]
        congr 1
        simp only [decide_eq_decide]; omega
    · rename_i h
      rw [ih]
      by_cases hj : j = n
      · subst hj; simp [h]
      · congr 1
        simp only [decide_eq_decide]; omega

theorem upTo_lt (p : Nat → Bool) : ∀ n, upTo p n < 2 ^ n
  | 0 => by simp [upTo]
  | n + 1 => by
    have ih := upTo_lt p n
    have h2 : 2 ^ n < 2 ^ (n + 1) := Nat.pow_lt_pow_right (by decide) (by omega)
    simp only [upTo]
    split
    · exact Nat.or_lt_two_pow (by omega) h2
    · omega

theorem orE {p b : Nat} (hp : p < 18446744073709551616) (hb : b < 64) : IntKind.u64.wrap ↑(BitVec.ofInt IntKind.u64.bits (p : Int) ||| BitVec.ofInt IntKind.u64.bits (IntKind.u64.wrap (1 * 2 ^ min (b : Int).toNat IntKind.u64.bits))).toNat = ((p ||| 2 ^ b : Nat) : Int) := by
  have e1 : min (b : Int).toNat IntKind.u64.bits = b := by simp [IntKind.bits]; omega
  have h64 : 2 ^ b < 2 ^ 64 := Nat.pow_lt_pow_right (by decide) hb
  have e2 : (1 * 2 ^ b : Int) = ((2 ^ b : Nat) : Int) := by rw [Int.one_mul]; norm_cast
  rw [e1, e2, u64wrap h64, BitVec.ofInt_natCast, BitVec.ofInt_natCast]
  rw [show IntKind.u64.bits = 64 from rfl, BitVec.toNat_or, BitVec.toNat_ofNat, BitVec.toNat_ofNat, Nat.mod_eq_of_lt hp, Nat.mod_eq_of_lt h64]
  exact u64wrap (Nat.or_lt_two_pow (n := 64) hp h64)

/-! ### counts -/
def rows64 (f : Nat → Int) : List (List D) := (List.range 64).map fun b => [.int .i64 (f b)]

theorem rows64_get (f : Nat → Int) {b : Nat} (h : b < 64) : (rows64 f)[b]? = some [.int .i64 (f b)] := by
  simp [rows64, h]

theorem rows64_set (f : Nat → Int) {b : Nat} (h : b < 64) (c : Int) : (rows64 f).set b [.int .i64 c] = rows64 (fun j => if j = b then c else f j) := by
  refine List.ext_getElem? fun j => ?_
  by_cases hj : j < 64
  · rw [rows64_get _ hj]
    by_cases hjb : b = j
    · subst hjb
      rw [List.getElem?_set_self (by simp [rows64]; exact h)]; simp
    · rw [List.getElem?_set_ne hjb, rows64_get _ hj, if_neg fun e => hjb e.symm]
  · rw [List.getElem?_eq_none (by simp [rows64]; omega), List.getElem?_eq_none (by simp [rows64]; omega)]

theorem flat_one64 (f : Nat → Int) : ∀ l : List Nat, (l.map fun b => [D.int .i64 (f b)]).flatten = l.map fun b => D.int .i64 (f b)
  | [] => rfl
  | a :: l => by simp only [List.map_cons, List.flatten_cons, flat_one64 f l]; rfl
theorem rows64_flat (f : Nat → Int) : (rows64 f).flatten = (List.range 64).map fun b => .int .i64 (f b) := flat_one64 f _

def validB (l : List Vote) (o n f : Int) (i : Nat) (v : Vote) : Bool :=
  !(decide (v.Observer < 0)) && (!(decide (v.Observer ≥ o)) && (timeB v.At && (!(decide (v.At > n)) && (!(decide (v.At < n - f)) && !(decide (idxP l v.Observer 0 < i))))))

/-- How many of the first i votes count for a bit. -/
def cntB (l : List Vote) (o n f : Int) (b : Nat) : Nat → Int
  | 0 => 0
  | i + 1 => cntB l o n f b i + (match l[i]? with | some v => if validB l o n f i v then bitN v.Up b else 0 | none => 0)

theorem bitN_01 (u : Int) (b : Nat) : 0 ≤ bitN u b ∧ bitN u b ≤ 1 := by unfold bitN; split <;> omega

theorem cntB_le (l : List Vote) (o n f : Int) (b : Nat) : ∀ i, 0 ≤ cntB l o n f b i ∧ cntB l o n f b i ≤ i
  | 0 => by simp [cntB]
  | i + 1 => by
    have ih := cntB_le l o n f b i
    simp only [cntB]
    split
    · rename_i v _
      have := bitN_01 v.Up b
      split <;> omega
    · omega

/-- What most say is up. -/
def tallyP (l : List Vote) (o n f : Int) : Nat :=
  if timeB n && (timeB f && !(decide (o < 1))) then upTo (fun b => decide (cntB l o n f b l.length > o - cntB l o n f b l.length)) 64 else 0


structure VOk (v : Vote) : Prop where
  who : -9223372036854775808 ≤ v.Observer ∧ v.Observer ≤ 9223372036854775807
  up : 0 ≤ v.Up ∧ v.Up ≤ 18446744073709551615
  at_ : -9223372036854775808 ≤ v.At ∧ v.At ≤ 9223372036854775807




noncomputable abbrev stF (o u b : Int) (c : Nat → Int) : Qy := .go { td := [It.lpc (codeAt (bodyOf Try.f13) [1, 1, 1, 1, 1, 0, 1, 0, 0]) 1856910058928070412348694530, It.blk 4, It.code (codeAt (bodyOf Try.f13) [1, 1, 1, 1, 1, 1])], fr := [(1, D.int IntKind.i64 o), (13, D.int IntKind.u64 u), (89, D.agg (rows64 c).flatten), (90, D.int IntKind.i64 b)], st := [] }

theorem loopF (o : Int) (c : Nat → Int) (ho : 1 ≤ o ∧ o ≤ 9223372036854775807) (hc : ∀ b, 0 ≤ c b ∧ c b ≤ 9223372036854775807) : ∀ (k b : Nat), b + k = 64 →
    FinQ E ⟨Try.f13, false, 0⟩ (Is (.int .u64 (upTo (fun b => decide (c b > o - c b)) 64))) (stF o (upTo (fun b => decide (c b > o - c b)) b) b c) := by
  intro k
  induction k with
  | zero =>
    intro b hb
    refine adv_ok hm 7 _ ?_
    refine r_split (decide ((b : Int) < 64)) (by kernel_rfl) (fun h0 => ?_) (fun h0 => ?_)
    · simp at h0; omega
    · refine adv_ok hm 7 _ ?_
      refine r_ret (D.int IntKind.u64 (upTo (fun b => decide (c b > o - c b)) b)) ([]) (by kernel_rfl) ⟨?_, rfl⟩
      have : b = 64 := by omega
      rw [this]
  | succ k ih =>
    intro b hb
    have hb64 : b < 64 := by omega
    have hcb := hc b
    refine adv_ok hm 7 _ ?_
    refine r_split (decide ((b : Int) < 64)) (by kernel_rfl) (fun h0 => ?_) (fun h0 => ?_)
    · refine adv_ok hm 7 _ ?_
      refine r_need (true && decide ((b : Int) < 64)) (by kernel_rfl) (by simpa using h0) ?_
      refine r_row (Option.map (fun d ↦ [d]) (rows64 c).flatten[(Int.ofNat b).toNat * 1]?) [D.int .i64 (c b)] (by kernel_rfl) (by rw [rows64_flat]; simp [hb64]) ?_
      refine adv_ok hm 12 _ ?_
      refine r_split (decide (c b > IntKind.i64.wrap (o - c b))) (by kernel_rfl) (fun h3 => ?_) (fun h3 => ?_)
      · refine adv_ok hm 14 _ ?_
        refine r_to (q' := stF o (IntKind.u64.wrap ↑(BitVec.ofInt IntKind.u64.bits (upTo (fun b => decide (c b > o - c b)) b : Int) ||| BitVec.ofInt IntKind.u64.bits (IntKind.u64.wrap (1 * 2 ^ min (b : Int).toNat IntKind.u64.bits))).toNat) (IntKind.i64.wrap (↑b + 1)) c) (by kernel_rfl) ?_
        rw [wrap64 (by omega) (by omega)] at h3
        rw [wrap64 (by omega) (by omega), orE (Nat.lt_of_lt_of_le (upTo_lt _ b) (show 2 ^ b ≤ 2 ^ 64 from Nat.pow_le_pow_right (by decide) (by omega))) hb64]
        have := ih (b + 1) (by omega)
        simp only [upTo, h3, if_true] at this
        exact this
      · refine adv_ok hm 7 _ ?_
        refine r_to (q' := stF o (upTo (fun b => decide (c b > o - c b)) b) (IntKind.i64.wrap (↑b + 1)) c) (by kernel_rfl) ?_
        rw [wrap64 (by omega) (by omega)] at h3
        rw [wrap64 (by omega) (by omega)]
        have := ih (b + 1) (by omega)
        simp only [upTo, h3] at this
        exact this
    · simp at h0; omega

noncomputable abbrev frO (nl : Bool) (l : List Vote) (o n f i : Int) : Fr := [(0, D.sl nl 3 (List.map Vote.enc l)), (1, D.int IntKind.i64 o), (2, D.int IntKind.i64 n), (3, D.int IntKind.i64 f), (9, D.ptr 0 0 0), (28, D.sl nl 3 (List.map Vote.enc l)), (29, D.int IntKind.i64 ↑(List.map Vote.enc l).length), (30, D.int IntKind.i64 i)]
noncomputable abbrev stO (nl : Bool) (l : List Vote) (o n f i : Int) (c : Nat → Int) : Qy := .go { td := [It.lpc (codeAt (bodyOf Try.f13) [1, 1, 1, 0, 1, 0, 0]) 1879048719, It.blk 0, It.code (codeAt (bodyOf Try.f13) [1, 1, 1, 1])], fr := frO nl l o n f i, st := [some { sz := 1, deep := false, rows := rows64 c }] }
noncomputable abbrev stB (nl : Bool) (l : List Vote) (o n f i b : Int) (v : Vote) (c : Nat → Int) : Qy := .go { td := [It.lpc (codeAt (bodyOf Try.f13) [1, 1, 1, 0, 1, 0, 0, 1, 1, 0, 0, 1, 1, 1, 0, 0]) 9444732965741169478159, It.blk 2, It.blk 1, It.code (codeAt (bodyOf Try.f13) [1, 1, 1, 0, 1, 0, 0, 1, 1, 1]), It.lp (codeAt (bodyOf Try.f13) [1, 1, 1, 0, 1, 0, 0]) 1879048719, It.blk 0, It.code (codeAt (bodyOf Try.f13) [1, 1, 1, 1])], fr := [(0, D.sl nl 3 (List.map Vote.enc l)), (1, D.int IntKind.i64 o), (2, D.int IntKind.i64 n), (3, D.int IntKind.i64 f), (9, D.ptr 0 0 0), (11, D.ptr 1 0 0), (28, D.sl nl 3 (List.map Vote.enc l)), (29, D.int IntKind.i64 ↑(List.map Vote.enc l).length), (30, D.int IntKind.i64 i), (73, D.int IntKind.i64 b)], st := [some { sz := 1, deep := false, rows := rows64 c }, some { sz := 3, deep := false, rows := [Vote.enc v] }] }

set_option maxHeartbeats 4000000 in
/-- All bits of a vote are counted. -/
theorem loopB {Q : D → Sto → Prop} (nl : Bool) (l : List Vote) (o n f : Int) (i : Nat) (v : Vote) (c : Nat → Int) (hi : i < lim) (hv : 0 ≤ v.Up) (hc : ∀ b, 0 ≤ c b ∧ c b ≤ i)
    (next : FinQ E ⟨Try.f13, false, 0⟩ Q (stO nl l o n f (i + 1) (fun j => if j < 64 then c j + bitN v.Up j else c j))) : ∀ (k b : Nat), b + k = 64 →
    FinQ E ⟨Try.f13, false, 0⟩ Q (stB nl l o n f i b v (fun j => if j < b then c j + bitN v.Up j else c j)) := by
  intro k
  induction k with
  | zero =>
    intro b hb
    have hb' : b = 64 := by omega
    subst hb'
    refine adv_ok hm 7 _ ?_
    refine r_split (decide (((64 : Nat) : Int) < 64)) (by kernel_rfl) (fun h0 => ?_) (fun h0 => ?_)
    · simp at h0
    · refine adv_ok hm 7 _ ?_
      refine r_to (q' := stO nl l o n f (IntKind.i64.wrap (↑i + 1)) (fun j => if j < 64 then c j + bitN v.Up j else c j)) (by kernel_rfl) ?_
      rw [wrap64 (by omega) (by unfold lim at hi; omega)]
      exact next
  | succ k ih =>
    intro b hb
    have hb64 : b < 64 := by omega
    have hcb := hc b
    have hbit := bitN_01 v.Up b
    have hget : (rows64 (fun j => if j < b then c j + bitN v.Up j else c j))[0 + (Int.ofNat b).toNat]? = some [D.int .i64 (c b)] := by
      rw [show 0 + (Int.ofNat b).toNat = b by simp, rows64_get _ hb64]; simp
    refine adv_ok hm 7 _ ?_
    refine r_split (decide ((b : Int) < 64)) (by kernel_rfl) (fun h0 => ?_) (fun h0 => ?_)
    · refine adv_ok hm 9 _ ?_
      refine r_need (true && decide ((b : Int) < 64)) (by kernel_rfl) (by simpa using h0) ?_
      refine r_row ((rows64 (fun j => if j < b then c j + bitN v.Up j else c j))[0 + (Int.ofNat b).toNat]?) [D.int .i64 (c b)] (by kernel_rfl) hget ?_
      refine adv_ok hm 2 _ ?_
      refine r_need (true && decide ((b : Int) < 64)) (by kernel_rfl) (by simpa using h0) ?_
      refine r_row ((rows64 (fun j => if j < b then c j + bitN v.Up j else c j))[0 + (Int.ofNat b).toNat]?) [D.int .i64 (c b)] (by kernel_rfl) hget ?_
      refine adv_ok hm 7 _ ?_
      refine r_to (q' := .go { td := [It.lpc (codeAt (bodyOf Try.f13) [1, 1, 1, 0, 1, 0, 0, 1, 1, 0, 0, 1, 1, 1, 0, 0]) 9444732965741169478159, It.blk 2, It.blk 1, It.code (codeAt (bodyOf Try.f13) [1, 1, 1, 0, 1, 0, 0, 1, 1, 1]), It.lp (codeAt (bodyOf Try.f13) [1, 1, 1, 0, 1, 0, 0]) 1879048719, It.blk 0, It.code (codeAt (bodyOf Try.f13) [1, 1, 1, 1])], fr := [(0, D.sl nl 3 (List.map Vote.enc l)), (1, D.int IntKind.i64 o), (2, D.int IntKind.i64 n), (3, D.int IntKind.i64 f), (9, D.ptr 0 0 0), (11, D.ptr 1 0 0), (28, D.sl nl 3 (List.map Vote.enc l)), (29, D.int IntKind.i64 ↑(List.map Vote.enc l).length), (30, D.int IntKind.i64 i), (73, D.int IntKind.i64 (IntKind.i64.wrap (↑b + 1)))], st := [some { sz := 1, deep := false, rows := (rows64 (fun j => if j < b then c j + bitN v.Up j else c j)).set (0 + (Int.ofNat b).toNat) [D.int .i64 (IntKind.i64.wrap (c b + IntKind.i64.wrap (IntKind.u64.wrap ↑(BitVec.ofInt IntKind.u64.bits (v.Up.fdiv (2 ^ min (b : Int).toNat IntKind.u64.bits)) &&& BitVec.ofInt IntKind.u64.bits 1).toNat)))] }, some { sz := 3, deep := false, rows := [Vote.enc v] }] }) (by kernel_rfl) ?_
      rw [wrap64 (n := (b : Int) + 1) (by omega) (by omega), bitE hv hb64, wrap64 (n := c b + bitN v.Up b) (by omega) (by unfold lim at hi; omega), show 0 + (Int.ofNat b).toNat = b by simp, rows64_set _ hb64]
      have e : (fun j => if j = b then c b + bitN v.Up b else if j < b then c j + bitN v.Up j else c j) = fun j => if j < b + 1 then c j + bitN v.Up j else c j := by
        funext j
        by_cases h1 : j = b
        · subst h1; simp
        · by_cases h2 : j < b
          · rw [if_neg h1, if_pos h2, if_pos (by omega)]
          · rw [if_neg h1, if_neg h2, if_neg (by omega)]
      rw [e]
      exact ih (b + 1) (by omega)
    · simp at h0; omega



theorem rows64_congr {f g : Nat → Int} (h : ∀ b, b < 64 → f b = g b) : rows64 f = rows64 g := by
  unfold rows64
  refine List.map_congr_left fun b hb => ?_
  rw [h b (by simpa using hb)]

theorem rowGet' {l : List Vote} {i : Nat} (h : i < l.length) : (List.map Vote.enc l)[(Int.ofNat i).toNat]? = some (Vote.enc l[i]) := by simp [h]
theorem inR' {l : List Vote} {i : Nat} (h : i < l.length) : (true && decide ((i : Int) < ((List.map Vote.enc l).length : Int))) = true := by simp; exact h

set_option maxHeartbeats 8000000 in
theorem loopO (nl : Bool) (l : List Vote) (o n f : Int) (hnl : nl = true → l = []) (hl : l.length ≤ lim) (hv : ∀ v ∈ l, VOk v) (ho : 1 ≤ o ∧ o ≤ 9223372036854775807) (hn : timeB n = true) (hf : timeB f = true) :
    ∀ (k i : Nat), i + k = l.length → FinQ E ⟨Try.f13, false, 0⟩ (Is (.int .u64 (upTo (fun b => decide (cntB l o n f b l.length > o - cntB l o n f b l.length)) 64))) (stO nl l o n f i (fun b => cntB l o n f b i)) := by
  intro k
  induction k with
  | zero =>
    intro i hi
    have hi' : i = l.length := by omega
    subst hi'
    refine adv_ok hm 7 _ ?_
    refine r_split (decide ((l.length : Int) < ((List.map Vote.enc l).length : Int))) (by kernel_rfl) (fun h0 => ?_) (fun h0 => ?_)
    · simp at h0
    · refine adv_ok hm 16 _ ?_
      refine r_to (q' := stF o 0 0 (fun b => cntB l o n f b l.length)) (by kernel_rfl) ?_
      exact loopF o (fun b => cntB l o n f b l.length) ho (fun b => by have := cntB_le l o n f b l.length; unfold lim at hl; omega) 64 0 rfl
  | succ k ih =>
    intro i hi
    have hil : i < l.length := by omega
    have hnl' : nl = false := by cases nl with | false => rfl | true => rw [hnl rfl] at hil; simp at hil
    subst hnl'
    have hw : IntKind.i64.wrap ((i : Int) + 1) = i + 1 := wrap64 (by omega) (by unfold lim at hl; omega)
    have hget : l[i]? = some l[i] := by simp [hil]
    have bad : validB l o n f i l[i] = false → FinQ E ⟨Try.f13, false, 0⟩ (Is (.int .u64 (upTo (fun b => decide (cntB l o n f b l.length > o - cntB l o n f b l.length)) 64))) (stO false l o n f (IntKind.i64.wrap ((i : Int) + 1)) (fun b => cntB l o n f b i)) := fun hbad => by
      have := ih (i + 1) (by omega)
      rw [hw]
      have e : (fun b => cntB l o n f b (i + 1)) = fun b => cntB l o n f b i := by funext b; simp [cntB, hget, hbad]
      rw [e] at this
      exact this
    refine adv_ok hm 7 _ ?_
    refine r_split (decide ((i : Int) < ((List.map Vote.enc l).length : Int))) (by kernel_rfl) (fun h0 => ?_) (fun h0 => ?_)
    · refine adv_ok hm 7 _ ?_
      refine r_need (true && decide ((i : Int) < ((List.map Vote.enc l).length : Int))) (by kernel_rfl) (inR' hil) ?_
      refine adv_ok hm 1 _ ?_
      refine r_row ((List.map Vote.enc l)[(Int.ofNat i).toNat]?) (Vote.enc l[i]) (by kernel_rfl) (rowGet' hil) ?_
      refine adv_ok hm 15 _ ?_
      refine r_split (decide (l[i].Observer < 0)) (by kernel_rfl) (fun h3 => ?_) (fun h3 => ?_)
      · refine adv_ok hm 71 _ ?_
        refine r_to (q' := stO false l o n f (IntKind.i64.wrap ((i : Int) + 1)) (fun b => cntB l o n f b i)) (by kernel_rfl) ?_
        exact bad (by simp only [validB, h3]; rfl)
      · refine adv_ok hm 11 _ ?_
        refine r_split (decide (l[i].Observer ≥ o)) (by kernel_rfl) (fun h4 => ?_) (fun h4 => ?_)
        · refine adv_ok hm 60 _ ?_
          refine r_to (q' := stO false l o n f (IntKind.i64.wrap ((i : Int) + 1)) (fun b => cntB l o n f b i)) (by kernel_rfl) ?_
          exact bad (by simp only [validB, h3, h4]; rfl)
        · refine adv_ok hm 5 _ ?_
          refine r_call 19 [D.int IntKind.i64 l[i].At] [] (by kernel_rfl) (call19 l[i].At) ?_
          rintro d s ⟨rfl, rfl⟩
          refine adv_ok hm 6 _ ?_
          refine r_split (!timeB l[i].At) (by kernel_rfl) (fun h6 => ?_) (fun h6 => ?_)
          · refine adv_ok hm 49 _ ?_
            refine r_to (q' := stO false l o n f (IntKind.i64.wrap ((i : Int) + 1)) (fun b => cntB l o n f b i)) (by kernel_rfl) ?_
            have h6' : timeB l[i].At = false := by simpa using h6
            exact bad (by simp only [validB, h3, h4, h6']; rfl)
          · have h6' : timeB l[i].At = true := by simpa using h6
            refine adv_ok hm 11 _ ?_
            refine r_split (decide (l[i].At > n)) (by kernel_rfl) (fun h7 => ?_) (fun h7 => ?_)
            · refine adv_ok hm 38 _ ?_
              refine r_to (q' := stO false l o n f (IntKind.i64.wrap ((i : Int) + 1)) (fun b => cntB l o n f b i)) (by kernel_rfl) ?_
              exact bad (by simp only [validB, h3, h4, h6', h7]; rfl)
            · refine adv_ok hm 15 _ ?_
              refine r_split (decide (l[i].At < IntKind.i64.wrap (n - f))) (by kernel_rfl) (fun h8 => ?_) (fun h8 => ?_)
              · refine adv_ok hm 23 _ ?_
                refine r_to (q' := stO false l o n f (IntKind.i64.wrap ((i : Int) + 1)) (fun b => cntB l o n f b i)) (by kernel_rfl) ?_
                have hnf : IntKind.i64.wrap (n - f) = n - f := by simp [timeB] at hn hf; exact wrap64 (by omega) (by omega)
                rw [hnf] at h8
                exact bad (by simp only [validB, h3, h4, h6', h7, h8]; rfl)
              · have hnf : IntKind.i64.wrap (n - f) = n - f := by simp [timeB] at hn hf; exact wrap64 (by omega) (by omega)
                rw [hnf] at h8
                refine adv_ok hm 7 _ ?_
                refine r_call 18 [D.int IntKind.i64 l[i].Observer] [] (by kernel_rfl) (call18 l[i].Observer) ?_
                rintro d s ⟨rfl, rfl⟩
                refine adv_ok hm 2 _ ?_
                refine r_call 17 [D.sl false 3 (List.map Vote.enc l), D.fn 22 [] [D.iptr 1 [[D.int IntKind.i64 l[i].Observer]] 0 0]] [] (by kernel_rfl) (call17 false l l[i].Observer hl (fun h => by cases h)) ?_
                rintro d s ⟨rfl, rfl⟩
                refine adv_ok hm 8 _ ?_
                refine r_split (decide (idxP l l[i].Observer 0 < i)) (by kernel_rfl) (fun h11 => ?_) (fun h11 => ?_)
                · refine adv_ok hm 6 _ ?_
                  refine r_to (q' := stO false l o n f (IntKind.i64.wrap ((i : Int) + 1)) (fun b => cntB l o n f b i)) (by kernel_rfl) ?_
                  exact bad (by simp only [validB, h3, h4, h6', h7, h8, h11]; rfl)
                · refine adv_ok hm 8 _ ?_
                  refine r_to (q' := stB false l o n f i 0 l[i] (fun b => cntB l o n f b i)) (by kernel_rfl) ?_
                  have hgood : validB l o n f i l[i] = true := by simp only [validB, h3, h4, h6', h7, h8, h11]; rfl
                  have := loopB (Q := Is (.int .u64 (upTo (fun b => decide (cntB l o n f b l.length > o - cntB l o n f b l.length)) 64))) false l o n f i l[i] (fun b => cntB l o n f b i) (by omega) (hv l[i] (List.getElem_mem hil)).up.1 (fun b => cntB_le l o n f b i) (by
                    have h2 := ih (i + 1) (by omega)
                    have e : rows64 (fun b => cntB l o n f b (i + 1)) = rows64 (fun j => if j < 64 then cntB l o n f j i + bitN l[i].Up j else cntB l o n f j i) := rows64_congr fun b hb => by simp [cntB, hget, hgood, hb]
                    simp only [stO] at h2 ⊢
                    rw [e] at h2
                    exact h2) 64 0 rfl
                  simpa using this
    · simp at h0; omega

theorem call13 (nl : Bool) (l : List Vote) (o n f : Int) (hnl : nl = true → l = []) (hl : l.length ≤ lim) (hv : ∀ v ∈ l, VOk v) (ho : o ≤ 9223372036854775807) :
    Sound E 13 [.sl nl 3 (l.map Vote.enc), .int .i64 o, .int .i64 n, .int .i64 f] [] (Is (.int .u64 (tallyP l o n f))) := by
  refine sound_of (m := ⟨[.code (bodyOf Try.f13)], [(0, .sl nl 3 (l.map Vote.enc)), (1, .int .i64 o), (2, .int .i64 n), (3, .int .i64 f)], []⟩) (fn := Try.f13) (by kernel_rfl) (by kernel_rfl) ?_
  refine adv_ok hm 13 _ ?_
  refine r_call 19 [D.int IntKind.i64 n] [] (by kernel_rfl) (call19 n) ?_
  rintro d s ⟨rfl, rfl⟩
  refine adv_ok hm 3 _ ?_
  refine r_split (!timeB n) (by kernel_rfl) (fun h1 => ?_) (fun h1 => ?_)
  · refine adv_ok hm 21 _ ?_
    have h1' : timeB n = false := by simpa using h1
    exact r_ret (D.int IntKind.u64 0) ([]) (by kernel_rfl) (by simp only [tallyP, h1']; exact ⟨rfl, rfl⟩)
  · have h1' : timeB n = true := by simpa using h1
    refine adv_ok hm 2 _ ?_
    refine r_call 19 [D.int IntKind.i64 f] [] (by kernel_rfl) (call19 f) ?_
    rintro d s ⟨rfl, rfl⟩
    refine adv_ok hm 6 _ ?_
    refine r_split (!timeB f) (by kernel_rfl) (fun h3 => ?_) (fun h3 => ?_)
    · refine adv_ok hm 12 _ ?_
      have h3' : timeB f = false := by simpa using h3
      exact r_ret (D.int IntKind.u64 0) ([]) (by kernel_rfl) (by simp only [tallyP, h1', h3']; exact ⟨rfl, rfl⟩)
    · have h3' : timeB f = true := by simpa using h3
      refine adv_ok hm 6 _ ?_
      refine r_split (decide (o < 1)) (by kernel_rfl) (fun h4 => ?_) (fun h4 => ?_)
      · refine adv_ok hm 5 _ ?_
        exact r_ret (D.int IntKind.u64 0) ([]) (by kernel_rfl) (by simp only [tallyP, h1', h3', h4]; exact ⟨rfl, rfl⟩)
      · have h4' : 1 ≤ o := by simp at h4; omega
        refine adv_ok hm 11 _ ?_
        have e : tallyP l o n f = upTo (fun b => decide (cntB l o n f b l.length > o - cntB l o n f b l.length)) 64 := by simp only [tallyP, h1', h3', h4]; rfl
        rw [e]
        refine r_to (q' := stO nl l o n f 0 (fun b => 0)) ?_ ?_
        · cases nl with
          | true => rw [hnl rfl]; kernel_rfl
          | false => kernel_rfl
        · exact loopO nl l o n f hnl hl hv ⟨h4', ho⟩ h1' h3' l.length 0 (by omega)


def tallyOkB (l : List Vote) (o : Int) : Prop := l.length ≤ lim ∧ (∀ v ∈ l, VOk v) ∧ o ≤ 9223372036854775807
open Classical in
noncomputable def tally_Tally (l : List Vote) (observers now fresh : Int) : Option Int := if tallyOkB l observers then some (tallyP l observers now fresh) else none
def tally_Tally_Q (y : Int) (d : D) (s : Sto) : Prop := d = D.int .u64 y ∧ s = []
theorem tally_Tally_ok {l : List Vote} {observers now fresh : Int} {r : Int} (h : tally_Tally l observers now fresh = some r) : Sound E 13 [D.sl false 3 (List.map Vote.enc l), D.int .i64 observers, D.int .i64 now, D.int .i64 fresh] [] (tally_Tally_Q r) := by
  unfold tally_Tally at h
  split at h
  · rename_i hh
    obtain rfl := Option.some.inj h
    exact call13 false l observers now fresh (fun h => by cases h) hh.1 hh.2.1 hh.2.2
  · cases h
end Go.RX.L
