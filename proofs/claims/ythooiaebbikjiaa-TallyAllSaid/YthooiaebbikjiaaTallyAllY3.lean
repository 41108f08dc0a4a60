/-
  Words and walks for TallyAll. No condition.
-/
import Derived.Test.YthooiaebbikjiaaRows
import Derived.Test.YthooiaebbikjiaaX2
set_option linter.unusedSimpArgs false
set_option linter.unusedVariables false
set_option maxRecDepth 100000
namespace Go.RX.L
open Go Go.RX Go.Proofs
noncomputable def E : Env := ⟨Try.prog, fun f => ⟨f == 16, false⟩⟩
theorem hm : E.P.follows .mixedOrders = true := Try.checked.mixed
structure Vote where
  Observer : Int
  Up : Int
  At : Int
def Vote.enc (x : Vote) : List D := [D.int .i64 x.Observer, D.int .u64 x.Up, D.int .i64 x.At]
def Vote.Ok (x : Vote) : Prop := inK .i64 x.Observer ∧ inK .u64 x.Up ∧ inK .i64 x.At
end Go.RX.L

set_option linter.unusedSimpArgs false
set_option linter.unusedVariables false
set_option maxRecDepth 100000
namespace Go.RX.L
open Go Go.RX Go.Proofs
def timeB (n : Int) : Bool := decide (n ≥ 0) && decide (n ≤ 1099511627776)

theorem wrap64 {n : Int} (h1 : -9223372036854775808 ≤ n) (h2 : n ≤ 9223372036854775807) : IntKind.i64.wrap n = n := by
  simp only [IntKind.wrap, IntKind.signed, IntKind.bits]
  simp
  omega

theorem call19 (n : Int) : Sound E 19 [.int .i64 n] [] fun d s => d = .bool (timeB n) ∧ s = [] := by
  refine sound_of (m := ⟨[.code (bodyOf Try.f19)], [(0, .int .i64 n)], []⟩) (fn := Try.f19) (by kernel_rfl) (by kernel_rfl) ?_
  refine adv_ok hm 10 _ ?_
  refine r_split (decide (n ≥ 0)) (by kernel_rfl) (fun h0 => ?_) (fun h0 => ?_)
  · -- true
    refine adv_ok hm 7 _ ?_
    exact r_ret (D.bool (decide (n ≤ 1099511627776))) ([]) (by kernel_rfl) (by simp only [timeB, h0, Bool.true_and, and_self])
  · -- false
    refine adv_ok hm 7 _ ?_
    exact r_ret (D.bool false) ([]) (by kernel_rfl) (by simp only [timeB, h0, Bool.false_and, and_self])

theorem call18 (n : Int) : Sound E 18 [.int .i64 n] [] fun d s => d = .fn 22 [] [.iptr 1 [[.int .i64 n]] 0 0] ∧ s = [] := by
  refine sound_of (m := ⟨[.code (bodyOf Try.f18)], [(0, .int .i64 n)], []⟩) (fn := Try.f18) (by kernel_rfl) (by kernel_rfl) ?_
  refine adv_ok hm 11 _ ?_
  exact r_ret (D.fn 22 [] [D.iptr 1 [[D.int IntKind.i64 n]] 0 0]) ([]) (by kernel_rfl) ⟨rfl, rfl⟩

theorem call22 (v : Vote) (n : Int) : Sound E 22 [.agg (Vote.enc v), .iptr 1 [[.int .i64 n]] 0 0] [] fun d s => d = .bool (v.Observer == n) ∧ s = [] := by
  refine sound_of (m := ⟨[.code (bodyOf Try.f22)], [(0, .agg (Vote.enc v)), (1, .iptr 1 [[.int .i64 n]] 0 0)], []⟩) (fn := Try.f22) (by kernel_rfl) (by kernel_rfl) ?_
  refine adv_ok hm 16 _ ?_
  exact r_ret (D.bool (v.Observer == n)) ([]) (by kernel_rfl) ⟨rfl, rfl⟩

/-- The first of an observer; -1: there is none. -/
def idxP : List Vote → Int → Int → Int
  | [], _, _ => -1
  | v :: r, n, i => if v.Observer = n then i else idxP r n (i + 1)

def lim : Nat := 5864062014805

theorem call17 (nl : Bool) (l : List Vote) (n : Int) (hl : l.length ≤ lim) (hnl : nl = true → l = []) : Sound E 17 [.sl nl 3 (l.map Vote.enc), .fn 22 [] [.iptr 1 [[.int .i64 n]] 0 0]] [] fun d s => d = .int .i64 (idxP l n 0) ∧ s = [] := by
  refine sound_of (m := ⟨[.code (bodyOf Try.f17)], [(0, .sl nl 3 (l.map Vote.enc)), (1, .fn 22 [] [.iptr 1 [[.int .i64 n]] 0 0])], []⟩) (fn := Try.f17) (by kernel_rfl) (by kernel_rfl) ?_
  refine adv_ok hm 14 _ ?_
  have loop : ∀ (k i : Nat), i + k = l.length → FinQ E ⟨Try.f17, false, 0⟩ (fun d s => d = .int .i64 (idxP (l.drop i) n i) ∧ s = []) (.go { td := [It.lpc (codeAt (bodyOf Try.f17) [1, 0, 1, 0, 0]) 387, It.blk 0, It.code (codeAt (bodyOf Try.f17) [1, 1])], fr := [(0, D.sl nl 3 (List.map Vote.enc l)), (1, D.fn 22 [] [D.iptr 1 [[D.int IntKind.i64 n]] 0 0]), (7, D.int IntKind.i64 ↑(List.map Vote.enc l).length), (8, D.int IntKind.i64 i)], st := [] }) := by
    intro k
    induction k with
    | zero =>
      intro i hi
      refine adv_ok hm 7 _ ?_
      refine r_split (decide (↑i < ((List.map Vote.enc l).length : Int))) (by kernel_rfl) (fun h0 => ?_) (fun h0 => ?_)
      · simp at h0; omega
      · refine adv_ok hm 6 _ ?_
        exact r_ret (D.int IntKind.i64 (-1)) ([]) (by kernel_rfl) (by rw [List.drop_eq_nil_of_le (by omega)]; exact ⟨rfl, rfl⟩)
    | succ k ih =>
      intro i hi
      have hlt : i < l.length := by omega
      have hnl' : nl = false := by cases nl with | false => rfl | true => rw [hnl rfl] at hlt; simp at hlt
      subst hnl'
      refine adv_ok hm 7 _ ?_
      refine r_split (decide (↑i < ((List.map Vote.enc l).length : Int))) (by kernel_rfl) (fun h0 => ?_) (fun h0 => ?_)
      · refine adv_ok hm 14 _ ?_
        refine r_need (true && decide (↑i < ((List.map Vote.enc l).length : Int))) (by kernel_rfl) (by simpa using h0) ?_
        refine adv_ok hm 1 _ ?_
        refine r_row ((List.map Vote.enc l)[(Int.ofNat i).toNat]?) (Vote.enc l[i]) (by kernel_rfl) (by simp [hlt]) ?_
        refine adv_ok hm 1 _ ?_
        refine r_call 22 [D.agg (Vote.enc l[i]), D.iptr 1 [[D.int IntKind.i64 n]] 0 0] [] (by kernel_rfl) (call22 l[i] n) ?_
        rintro d s ⟨rfl, rfl⟩
        refine adv_ok hm 2 _ ?_
        refine r_split (l[i].Observer == n) (by kernel_rfl) (fun h4 => ?_) (fun h4 => ?_)
        · -- true
          refine adv_ok hm 6 _ ?_
          exact r_ret (D.int IntKind.i64 ↑i) ([]) (by kernel_rfl) (by
            rw [List.drop_eq_getElem_cons hlt, idxP, if_pos (eq_of_beq h4)]; exact ⟨rfl, rfl⟩)
        · -- false
          refine adv_ok hm 7 _ ?_
          refine r_to (q' := .go { td := [It.lpc (codeAt (bodyOf Try.f17) [1, 0, 1, 0, 0]) 387, It.blk 0, It.code (codeAt (bodyOf Try.f17) [1, 1])], fr := [(0, D.sl false 3 (List.map Vote.enc l)), (1, D.fn 22 [] [D.iptr 1 [[D.int IntKind.i64 n]] 0 0]), (7, D.int IntKind.i64 ↑(List.map Vote.enc l).length), (8, D.int IntKind.i64 (IntKind.i64.wrap (↑i + 1)))], st := [] }) (by kernel_rfl) ?_
          rw [wrap64 (by omega) (by unfold lim at hl; omega)]
          have := ih (i + 1) (by omega)
          rw [List.drop_eq_getElem_cons hlt, idxP, if_neg (by simpa using h4)]
          exact this
      · simp at h0; omega
  cases nl with
  | true =>
    have := hnl rfl
    subst this
    refine r_to (q' := .go { td := [It.lpc (codeAt (bodyOf Try.f17) [1, 0, 1, 0, 0]) 387, It.blk 0, It.code (codeAt (bodyOf Try.f17) [1, 1])], fr := [(0, D.sl true 3 (List.map Vote.enc [])), (1, D.fn 22 [] [D.iptr 1 [[D.int IntKind.i64 n]] 0 0]), (7, D.int IntKind.i64 0), (8, D.int IntKind.i64 0)], st := [] }) (by kernel_rfl) ?_
    exact loop 0 0 rfl
  | false =>
    refine r_to (q' := .go { td := [It.lpc (codeAt (bodyOf Try.f17) [1, 0, 1, 0, 0]) 387, It.blk 0, It.code (codeAt (bodyOf Try.f17) [1, 1])], fr := [(0, D.sl false 3 (List.map Vote.enc l)), (1, D.fn 22 [] [D.iptr 1 [[D.int IntKind.i64 n]] 0 0]), (7, D.int IntKind.i64 ↑(List.map Vote.enc l).length), (8, D.int IntKind.i64 0)], st := [] }) (by kernel_rfl) ?_
    exact loop l.length 0 (by omega)



def bitN (u : Int) (b : Nat) : Int := if u.toNat.testBit b then 1 else 0

theorem u64wrap {n : Nat} (h : n < 18446744073709551616) : IntKind.u64.wrap (n : Int) = n := by
  simp only [IntKind.wrap, IntKind.signed, IntKind.bits]
  simp
  omega

theorem bitE {u : Int} {b : Nat} (h0 : 0 ≤ u) (hb : b < 64) : IntKind.i64.wrap (IntKind.u64.wrap ↑(BitVec.ofInt IntKind.u64.bits (u.fdiv (2 ^ min (b : Int).toNat IntKind.u64.bits)) &&& BitVec.ofInt IntKind.u64.bits 1).toNat) = bitN u b := by
  obtain ⟨m, rfl⟩ := Int.eq_ofNat_of_zero_le h0
  have e1 : min (b : Int).toNat IntKind.u64.bits = b := by simp [IntKind.bits]; omega
  have e2 : (m : Int).fdiv (2 ^ b) = ((m / 2 ^ b : Nat) : Int) := by
    rw [Int.fdiv_eq_ediv_of_nonneg _ (by exact Int.le_of_lt (Int.pow_pos (by decide)))]
    norm_cast
  rw [e1, e2, BitVec.ofInt_natCast]
  have e4 : (BitVec.ofNat IntKind.u64.bits (m / 2 ^ b) &&& BitVec.ofInt IntKind.u64.bits 1).toNat = m / 2 ^ b % 2 := by
    rw [BitVec.toNat_and, BitVec.toNat_ofNat]
    rw [show (BitVec.ofInt IntKind.u64.bits 1).toNat = 1 from rfl, Nat.and_one_is_mod, show IntKind.u64.bits = 64 from rfl]
    omega
  rw [e4, u64wrap (by omega), wrap64 (by omega) (by omega)]
  simp only [bitN, Int.toNat_natCast, Nat.testBit_eq_decide_div_mod_eq]
  by_cases h : m / 2 ^ b % 2 = 1
  · simp [h]
  · have : m / 2 ^ b % 2 = 0 := by omega
    simp [this]

def upTo (p : Nat → Bool) : Nat → Nat
  | 0 => 0
  | b + 1 => if p b then upTo p b ||| 2 ^ b else upTo p b

theorem upTo_bit (p : Nat → Bool) (j : Nat) : ∀ n, (upTo p n).testBit j = (decide (j < n) && p j)
  | 0 => by simp [upTo]
  | n + 1 => by
    have ih := upTo_bit p j n
    simp only [upTo]
    split
    · rename_i h
      rw [Nat.testBit_or, ih, Nat.testBit_two_pow]
      by_cases hj : j = n
      · subst hj; simp [h]
      · have : (n = j) = False := by simp; omega
        simp only [this, decide_false, Bool.or_false]
        congr 1
        simp only [decide_eq_decide]; omega
    · rename_i h
      rw [ih]
      by_cases hj : j = n
      · subst hj; simp [h]
      · congr 1
        simp only [decide_eq_decide]; omega

theorem upTo_lt (p : Nat → Bool) : ∀ n, upTo p n < 2 ^ n
  | 0 => by simp [upTo]
  | n + 1 => by
    have ih := upTo_lt p n
    have h2 : 2 ^ n < 2 ^ (n + 1) := Nat.pow_lt_pow_right (by decide) (by omega)
    simp only [upTo]
    split
    · exact Nat.or_lt_two_pow (by omega) h2
    · omega

theorem orE {p b : Nat} (hp : p < 18446744073709551616) (hb : b < 64) : IntKind.u64.wrap ↑(BitVec.ofInt IntKind.u64.bits (p : Int) ||| BitVec.ofInt IntKind.u64.bits (IntKind.u64.wrap (1 * 2 ^ min (b : Int).toNat IntKind.u64.bits))).toNat = ((p ||| 2 ^ b : Nat) : Int) := by
  have e1 : min (b : Int).toNat IntKind.u64.bits = b := by simp [IntKind.bits]; omega
  have h64 : 2 ^ b < 2 ^ 64 := Nat.pow_lt_pow_right (by decide) hb
  have e2 : (1 * 2 ^ b : Int) = ((2 ^ b : Nat) : Int) := by rw [Int.one_mul]; norm_cast
  rw [e1, e2, u64wrap h64, BitVec.ofInt_natCast, BitVec.ofInt_natCast]
  rw [show IntKind.u64.bits = 64 from rfl, BitVec.toNat_or, BitVec.toNat_ofNat, BitVec.toNat_ofNat, Nat.mod_eq_of_lt hp, Nat.mod_eq_of_lt h64]
  exact u64wrap (Nat.or_lt_two_pow (n := 64) hp h64)

/-! ### counts -/
def rows64 (f : Nat → Int) : List (List D) := (List.range 64).map fun b => [.int .i64 (f b)]

theorem rows64_get (f : Nat → Int) {b : Nat} (h : b < 64) : (rows64 f)[b]? = some [.int .i64 (f b)] := by
  simp [rows64, h]

theorem rows64_set (f : Nat → Int) {b : Nat} (h : b < 64) (c : Int) : (rows64 f).set b [.int .i64 c] = rows64 (fun j => if j = b then c else f j) := by
  refine List.ext_getElem? fun j => ?_
  by_cases hj : j < 64
  · rw [rows64_get _ hj]
    by_cases hjb : b = j
    · subst hjb
      rw [List.getElem?_set_self (by simp [rows64]; exact h)]; simp
    · rw [List.getElem?_set_ne hjb, rows64_get _ hj, if_neg fun e => hjb e.symm]
  · rw [List.getElem?_eq_none (by simp [rows64]; omega), List.getElem?_eq_none (by simp [rows64]; omega)]

theorem flat_one64 (f : Nat → Int) : ∀ l : List Nat, (l.map fun b => [D.int .i64 (f b)]).flatten = l.map fun b => D.int .i64 (f b)
  | [] => rfl
  | a :: l => by simp only [List.map_cons, List.flatten_cons, flat_one64 f l]; rfl
theorem rows64_flat (f : Nat → Int) : (rows64 f).flatten = (List.range 64).map fun b => .int .i64 (f b) := flat_one64 f _

def validB (l : List Vote) (o n f : Int) (i : Nat) (v : Vote) : Bool :=
  !(decide (v.Observer < 0)) && (!(decide (v.Observer ≥ o)) && (timeB v.At && (!(decide (v.At > n)) && (!(decide (v.At < n - f)) && !(decide (idxP l v.Observer 0 < i))))))

/-- How many of the first i votes count for a bit. -/
def cntB (l : List Vote) (o n f : Int) (b : Nat) : Nat → Int
  | 0 => 0
  | i + 1 => cntB l o n f b i + (match l[i]? with | some v => if validB l o n f i v then bitN v.Up b else 0 | none => 0)

theorem bitN_01 (u : Int) (b : Nat) : 0 ≤ bitN u b ∧ bitN u b ≤ 1 := by unfold bitN; split <;> omega

theorem cntB_le (l : List Vote) (o n f : Int) (b : Nat) : ∀ i, 0 ≤ cntB l o n f b i ∧ cntB l o n f b i ≤ i
  | 0 => by simp [cntB]
  | i + 1 => by
    have ih := cntB_le l o n f b i
    simp only [cntB]
    split
    · rename_i v _
      have := bitN_01 v.Up b
      split <;> omega
    · omega

/-- What most say is up. -/
def tallyP (l : List Vote) (o n f : Int) : Nat :=
  if timeB n && (timeB f && !(decide (o < 1))) then upTo (fun b => decide (cntB l o n f b l.length > o - cntB l o n f b l.length)) 64 else 0


structure VOk (v : Vote) : Prop where
  who : -9223372036854775808 ≤ v.Observer ∧ v.Observer ≤ 9223372036854775807
  up : 0 ≤ v.Up ∧ v.Up ≤ 18446744073709551615
  at_ : -9223372036854775808 ≤ v.At ∧ v.At ≤ 9223372036854775807




noncomputable abbrev stF (o u b : Int) (c : Nat → Int) : Qy := .go { td := [It.lpc (codeAt (bodyOf Try.f13) [1, 1, 1, 1, 1, 0, 1, 0, 0]) 1856910058928070412348694530, It.blk 4, It.code (codeAt (bodyOf Try.f13) [1, 1, 1, 1, 1, 1])], fr := [(1, D.int IntKind.i64 o), (13, D.int IntKind.u64 u), (89, D.agg (rows64 c).flatten), (90, D.int IntKind.i64 b)], st := [] }

theorem loopF (o : Int) (c : Nat → Int) (ho : 1 ≤ o ∧ o ≤ 9223372036854775807) (hc : ∀ b, 0 ≤ c b ∧ c b ≤ 9223372036854775807) : ∀ (k b : Nat), b + k = 64 →
    FinQ E ⟨Try.f13, false, 0⟩ (Is (.int .u64 (upTo (fun b => decide (c b > o - c b)) 64))) (stF o (upTo (fun b => decide (c b > o - c b)) b) b c) := by
  intro k
  induction k with
  | zero =>
    intro b hb
    refine adv_ok hm 7 _ ?_
    refine r_split (decide ((b : Int) < 64)) (by kernel_rfl) (fun h0 => ?_) (fun h0 => ?_)
    · simp at h0; omega
    · refine adv_ok hm 7 _ ?_
      refine r_ret (D.int IntKind.u64 (upTo (fun b => decide (c b > o - c b)) b)) ([]) (by kernel_rfl) ⟨?_, rfl⟩
      have : b = 64 := by omega
      rw [this]
  | succ k ih =>
    intro b hb
    have hb64 : b < 64 := by omega
    have hcb := hc b
    refine adv_ok hm 7 _ ?_
    refine r_split (decide ((b : Int) < 64)) (by kernel_rfl) (fun h0 => ?_) (fun h0 => ?_)
    · refine adv_ok hm 7 _ ?_
      refine r_need (true && decide ((b : Int) < 64)) (by kernel_rfl) (by simpa using h0) ?_
      refine r_row (Option.map (fun d ↦ [d]) (rows64 c).flatten[(Int.ofNat b).toNat * 1]?) [D.int .i64 (c b)] (by kernel_rfl) (by rw [rows64_flat]; simp [hb64]) ?_
      refine adv_ok hm 12 _ ?_
      refine r_split (decide (c b > IntKind.i64.wrap (o - c b))) (by kernel_rfl) (fun h3 => ?_) (fun h3 => ?_)
      · refine adv_ok hm 14 _ ?_
        refine r_to (q' := stF o (IntKind.u64.wrap ↑(BitVec.ofInt IntKind.u64.bits (upTo (fun b => decide (c b > o - c b)) b : Int) ||| BitVec.ofInt IntKind.u64.bits (IntKind.u64.wrap (1 * 2 ^ min (b : Int).toNat IntKind.u64.bits))).toNat) (IntKind.i64.wrap (↑b + 1)) c) (by kernel_rfl) ?_
        rw [wrap64 (by omega) (by omega)] at h3
        rw [wrap64 (by omega) (by omega), orE (Nat.lt_of_lt_of_le (upTo_lt _ b) (show 2 ^ b ≤ 2 ^ 64 from Nat.pow_le_pow_right (by decide) (by omega))) hb64]
        have := ih (b + 1) (by omega)
        simp only [upTo, h3, if_true] at this
        exact this
      · refine adv_ok hm 7 _ ?_
        refine r_to (q' := stF o (upTo (fun b => decide (c b > o - c b)) b) (IntKind.i64.wrap (↑b + 1)) c) (by kernel_rfl) ?_
        rw [wrap64 (by omega) (by omega)] at h3
        rw [wrap64 (by omega) (by omega)]
        have := ih (b + 1) (by omega)
        simp only [upTo, h3] at this
        exact this
    · simp at h0; omega

noncomputable abbrev frO (nl : Bool) (l : List Vote) (o n f i : Int) : Fr := [(0, D.sl nl 3 (List.map Vote.enc l)), (1, D.int IntKind.i64 o), (2, D.int IntKind.i64 n), (3, D.int IntKind.i64 f), (9, D.ptr 0 0 0), (28, D.sl nl 3 (List.map Vote.enc l)), (29, D.int IntKind.i64 ↑(List.map Vote.enc l).length), (30, D.int IntKind.i64 i)]
noncomputable abbrev stO (nl : Bool) (l : List Vote) (o n f i : Int) (c : Nat → Int) : Qy := .go { td := [It.lpc (codeAt (bodyOf Try.f13) [1, 1, 1, 0, 1, 0, 0]) 1879048719, It.blk 0, It.code (codeAt (bodyOf Try.f13) [1, 1, 1, 1])], fr := frO nl l o n f i, st := [some { sz := 1, deep := false, rows := rows64 c }] }
noncomputable abbrev stB (nl : Bool) (l : List Vote) (o n f i b : Int) (v : Vote) (c : Nat → Int) : Qy := .go { td := [It.lpc (codeAt (bodyOf Try.f13) [1, 1, 1, 0, 1, 0, 0, 1, 1, 0, 0, 1, 1, 1, 0, 0]) 9444732965741169478159, It.blk 2, It.blk 1, It.code (codeAt (bodyOf Try.f13) [1, 1, 1, 0, 1, 0, 0, 1, 1, 1]), It.lp (codeAt (bodyOf Try.f13) [1, 1, 1, 0, 1, 0, 0]) 1879048719, It.blk 0, It.code (codeAt (bodyOf Try.f13) [1, 1, 1, 1])], fr := [(0, D.sl nl 3 (List.map Vote.enc l)), (1, D.int IntKind.i64 o), (2, D.int IntKind.i64 n), (3, D.int IntKind.i64 f), (9, D.ptr 0 0 0), (11, D.ptr 1 0 0), (28, D.sl nl 3 (List.map Vote.enc l)), (29, D.int IntKind.i64 ↑(List.map Vote.enc l).length), (30, D.int IntKind.i64 i), (73, D.int IntKind.i64 b)], st := [some { sz := 1, deep := false, rows := rows64 c }, some { sz := 3, deep := false, rows := [Vote.enc v] }] }

set_option maxHeartbeats 4000000 in
/-- All bits of a vote are counted. -/
theorem loopB {Q : D → Sto → Prop} (nl : Bool) (l : List Vote) (o n f : Int) (i : Nat) (v : Vote) (c : Nat → Int) (hi : i < lim) (hv : 0 ≤ v.Up) (hc : ∀ b, 0 ≤ c b ∧ c b ≤ i)
    (next : FinQ E ⟨Try.f13, false, 0⟩ Q (stO nl l o n f (i + 1) (fun j => if j < 64 then c j + bitN v.Up j else c j))) : ∀ (k b : Nat), b + k = 64 →
    FinQ E ⟨Try.f13, false, 0⟩ Q (stB nl l o n f i b v (fun j => if j < b then c j + bitN v.Up j else c j)) := by
  intro k
  induction k with
  | zero =>
    intro b hb
    have hb' : b = 64 := by omega
    subst hb'
    refine adv_ok hm 7 _ ?_
    refine r_split (decide (((64 : Nat) : Int) < 64)) (by kernel_rfl) (fun h0 => ?_) (fun h0 => ?_)
    · simp at h0
    · refine adv_ok hm 7 _ ?_
      refine r_to (q' := stO nl l o n f (IntKind.i64.wrap (↑i + 1)) (fun j => if j < 64 then c j + bitN v.Up j else c j)) (by kernel_rfl) ?_
      rw [wrap64 (by omega) (by unfold lim at hi; omega)]
      exact next
  | succ k ih =>
    intro b hb
    have hb64 : b < 64 := by omega
    have hcb := hc b
    have hbit := bitN_01 v.Up b
    have hget : (rows64 (fun j => if j < b then c j + bitN v.Up j else c j))[0 + (Int.ofNat b).toNat]? = some [D.int .i64 (c b)] := by
      rw [show 0 + (Int.ofNat b).toNat = b by simp, rows64_get _ hb64]; simp
    refine adv_ok hm 7 _ ?_
    refine r_split (decide ((b : Int) < 64)) (by kernel_rfl) (fun h0 => ?_) (fun h0 => ?_)
    · refine adv_ok hm 9 _ ?_
      refine r_need (true && decide ((b : Int) < 64)) (by kernel_rfl) (by simpa using h0) ?_
      refine r_row ((rows64 (fun j => if j < b then c j + bitN v.Up j else c j))[0 + (Int.ofNat b).toNat]?) [D.int .i64 (c b)] (by kernel_rfl) hget ?_
      refine adv_ok hm 2 _ ?_
      refine r_need (true && decide ((b : Int) < 64)) (by kernel_rfl) (by simpa using h0) ?_
      refine r_row ((rows64 (fun j => if j < b then c j + bitN v.Up j else c j))[0 + (Int.ofNat b).toNat]?) [D.int .i64 (c b)] (by kernel_rfl) hget ?_
      refine adv_ok hm 7 _ ?_
      refine r_to (q' := .go { td := [It.lpc (codeAt (bodyOf Try.f13) [1, 1, 1, 0, 1, 0, 0, 1, 1, 0, 0, 1, 1, 1, 0, 0]) 9444732965741169478159, It.blk 2, It.blk 1, It.code (codeAt (bodyOf Try.f13) [1, 1, 1, 0, 1, 0, 0, 1, 1, 1]), It.lp (codeAt (bodyOf Try.f13) [1, 1, 1, 0, 1, 0, 0]) 1879048719, It.blk 0, It.code (codeAt (bodyOf Try.f13) [1, 1, 1, 1])], fr := [(0, D.sl nl 3 (List.map Vote.enc l)), (1, D.int IntKind.i64 o), (2, D.int IntKind.i64 n), (3, D.int IntKind.i64 f), (9, D.ptr 0 0 0), (11, D.ptr 1 0 0), (28, D.sl nl 3 (List.map Vote.enc l)), (29, D.int IntKind.i64 ↑(List.map Vote.enc l).length), (30, D.int IntKind.i64 i), (73, D.int IntKind.i64 (IntKind.i64.wrap (↑b + 1)))], st := [some { sz := 1, deep := false, rows := (rows64 (fun j => if j < b then c j + bitN v.Up j else c j)).set (0 + (Int.ofNat b).toNat) [D.int .i64 (IntKind.i64.wrap (c b + IntKind.i64.wrap (IntKind.u64.wrap ↑(BitVec.ofInt IntKind.u64.bits (v.Up.fdiv (2 ^ min (b : Int).toNat IntKind.u64.bits)) &&& BitVec.ofInt IntKind.u64.bits 1).toNat)))] }, some { sz := 3, deep := false, rows := [Vote.enc v] }] }) (by kernel_rfl) ?_
      rw [wrap64 (n := (b : Int) + 1) (by omega) (by omega), bitE hv hb64, wrap64 (n := c b + bitN v.Up b) (by omega) (by unfold lim at hi; omega), show 0 + (Int.ofNat b).toNat = b by simp, rows64_set _ hb64]
      have e : (fun j => if j = b then c b + bitN v.Up b else if j < b then c j + bitN v.Up j else c j) = fun j => if j < b + 1 then c j + bitN v.Up j else c j := by
        funext j
        by_cases h1 : j = b
        · subst h1; simp
        · by_cases h2 : j < b
          · rw [if_neg h1, if_pos h2, if_pos (by omega)]
          · rw [if_neg h1, if_neg h2, if_neg (by omega)]
      rw [e]
      exact ih (b + 1) (by omega)
    · simp at h0; omega



theorem rows64_congr {f g : Nat → Int} (h : ∀ b, b < 64 → f b = g b) : rows64 f = rows64 g := by
  unfold rows64
  refine List.map_congr_left fun b hb => ?_
  rw [h b (by simpa using hb)]

theorem rowGet' {l : List Vote} {i : Nat} (h : i < l.length) : (List.map Vote.enc l)[(Int.ofNat i).toNat]? = some (Vote.enc l[i]) := by simp [h]
theorem inR' {l : List Vote} {i : Nat} (h : i < l.length) : (true && decide ((i : Int) < ((List.map Vote.enc l).length : Int))) = true := by simp; exact h

set_option maxHeartbeats 8000000 in
theorem loopO (nl : Bool) (l : List Vote) (o n f : Int) (hnl : nl = true → l = []) (hl : l.length ≤ lim) (hv : ∀ v ∈ l, VOk v) (ho : 1 ≤ o ∧ o ≤ 9223372036854775807) (hn : timeB n = true) (hf : timeB f = true) :
    ∀ (k i : Nat), i + k = l.length → FinQ E ⟨Try.f13, false, 0⟩ (Is (.int .u64 (upTo (fun b => decide (cntB l o n f b l.length > o - cntB l o n f b l.length)) 64))) (stO nl l o n f i (fun b => cntB l o n f b i)) := by
  intro k
  induction k with
  | zero =>
    intro i hi
    have hi' : i = l.length := by omega
    subst hi'
    refine adv_ok hm 7 _ ?_
    refine r_split (decide ((l.length : Int) < ((List.map Vote.enc l).length : Int))) (by kernel_rfl) (fun h0 => ?_) (fun h0 => ?_)
    · simp at h0
    · refine adv_ok hm 16 _ ?_
      refine r_to (q' := stF o 0 0 (fun b => cntB l o n f b l.length)) (by kernel_rfl) ?_
      exact loopF o (fun b => cntB l o n f b l.length) ho (fun b => by have := cntB_le l o n f b l.length; unfold lim at hl; omega) 64 0 rfl
  | succ k ih =>
    intro i hi
    have hil : i < l.length := by omega
    have hnl' : nl = false := by cases nl with | false => rfl | true => rw [hnl rfl] at hil; simp at hil
    subst hnl'
    have hw : IntKind.i64.wrap ((i : Int) + 1) = i + 1 := wrap64 (by omega) (by unfold lim at hl; omega)
    have hget : l[i]? = some l[i] := by simp [hil]
    have bad : validB l o n f i l[i] = false → FinQ E ⟨Try.f13, false, 0⟩ (Is (.int .u64 (upTo (fun b => decide (cntB l o n f b l.length > o - cntB l o n f b l.length)) 64))) (stO false l o n f (IntKind.i64.wrap ((i : Int) + 1)) (fun b => cntB l o n f b i)) := fun hbad => by
      have := ih (i + 1) (by omega)
      rw [hw]
      have e : (fun b => cntB l o n f b (i + 1)) = fun b => cntB l o n f b i := by funext b; simp [cntB, hget, hbad]
      rw [e] at this
      exact this
    refine adv_ok hm 7 _ ?_
    refine r_split (decide ((i : Int) < ((List.map Vote.enc l).length : Int))) (by kernel_rfl) (fun h0 => ?_) (fun h0 => ?_)
    · refine adv_ok hm 7 _ ?_
      refine r_need (true && decide ((i : Int) < ((List.map Vote.enc l).length : Int))) (by kernel_rfl) (inR' hil) ?_
      refine adv_ok hm 1 _ ?_
      refine r_row ((List.map Vote.enc l)[(Int.ofNat i).toNat]?) (Vote.enc l[i]) (by kernel_rfl) (rowGet' hil) ?_
      refine adv_ok hm 15 _ ?_
      refine r_split (decide (l[i].Observer < 0)) (by kernel_rfl) (fun h3 => ?_) (fun h3 => ?_)
      · refine adv_ok hm 71 _ ?_
        refine r_to (q' := stO false l o n f (IntKind.i64.wrap ((i : Int) + 1)) (fun b => cntB l o n f b i)) (by kernel_rfl) ?_
        exact bad (by simp only [validB, h3]; rfl)
      · refine adv_ok hm 11 _ ?_
        refine r_split (decide (l[i].Observer ≥ o)) (by kernel_rfl) (fun h4 => ?_) (fun h4 => ?_)
        · refine adv_ok hm 60 _ ?_
          refine r_to (q' := stO false l o n f (IntKind.i64.wrap ((i : Int) + 1)) (fun b => cntB l o n f b i)) (by kernel_rfl) ?_
          exact bad (by simp only [validB, h3, h4]; rfl)
        · refine adv_ok hm 5 _ ?_
          refine r_call 19 [D.int IntKind.i64 l[i].At] [] (by kernel_rfl) (call19 l[i].At) ?_
          rintro d s ⟨rfl, rfl⟩
          refine adv_ok hm 6 _ ?_
          refine r_split (!timeB l[i].At) (by kernel_rfl) (fun h6 => ?_) (fun h6 => ?_)
          · refine adv_ok hm 49 _ ?_
            refine r_to (q' := stO false l o n f (IntKind.i64.wrap ((i : Int) + 1)) (fun b => cntB l o n f b i)) (by kernel_rfl) ?_
            have h6' : timeB l[i].At = false := by simpa using h6
            exact bad (by simp only [validB, h3, h4, h6']; rfl)
          · have h6' : timeB l[i].At = true := by simpa using h6
            refine adv_ok hm 11 _ ?_
            refine r_split (decide (l[i].At > n)) (by kernel_rfl) (fun h7 => ?_) (fun h7 => ?_)
            · refine adv_ok hm 38 _ ?_
              refine r_to (q' := stO false l o n f (IntKind.i64.wrap ((i : Int) + 1)) (fun b => cntB l o n f b i)) (by kernel_rfl) ?_
              exact bad (by simp only [validB, h3, h4, h6', h7]; rfl)
            · refine adv_ok hm 15 _ ?_
              refine r_split (decide (l[i].At < IntKind.i64.wrap (n - f))) (by kernel_rfl) (fun h8 => ?_) (fun h8 => ?_)
              · refine adv_ok hm 23 _ ?_
                refine r_to (q' := stO false l o n f (IntKind.i64.wrap ((i : Int) + 1)) (fun b => cntB l o n f b i)) (by kernel_rfl) ?_
                have hnf : IntKind.i64.wrap (n - f) = n - f := by simp [timeB] at hn hf; exact wrap64 (by omega) (by omega)
                rw [hnf] at h8
                exact bad (by simp only [validB, h3, h4, h6', h7, h8]; rfl)
              · have hnf : IntKind.i64.wrap (n - f) = n - f := by simp [timeB] at hn hf; exact wrap64 (by omega) (by omega)
                rw [hnf] at h8
                refine adv_ok hm 7 _ ?_
                refine r_call 18 [D.int IntKind.i64 l[i].Observer] [] (by kernel_rfl) (call18 l[i].Observer) ?_
                rintro d s ⟨rfl, rfl⟩
                refine adv_ok hm 2 _ ?_
                refine r_call 17 [D.sl false 3 (List.map Vote.enc l), D.fn 22 [] [D.iptr 1 [[D.int IntKind.i64 l[i].Observer]] 0 0]] [] (by kernel_rfl) (call17 false l l[i].Observer hl (fun h => by cases h)) ?_
                rintro d s ⟨rfl, rfl⟩
                refine adv_ok hm 8 _ ?_
                refine r_split (decide (idxP l l[i].Observer 0 < i)) (by kernel_rfl) (fun h11 => ?_) (fun h11 => ?_)
                · refine adv_ok hm 6 _ ?_
                  refine r_to (q' := stO false l o n f (IntKind.i64.wrap ((i : Int) + 1)) (fun b => cntB l o n f b i)) (by kernel_rfl) ?_
                  exact bad (by simp only [validB, h3, h4, h6', h7, h8, h11]; rfl)
                · refine adv_ok hm 8 _ ?_
                  refine r_to (q' := stB false l o n f i 0 l[i] (fun b => cntB l o n f b i)) (by kernel_rfl) ?_
                  have hgood : validB l o n f i l[i] = true := by simp only [validB, h3, h4, h6', h7, h8, h11]; rfl
                  have := loopB (Q := Is (.int .u64 (upTo (fun b => decide (cntB l o n f b l.length > o - cntB l o n f b l.length)) 64))) false l o n f i l[i] (fun b => cntB l o n f b i) (by omega) (hv l[i] (List.getElem_mem hil)).up.1 (fun b => cntB_le l o n f b i) (by
                    have h2 := ih (i + 1) (by omega)
                    have e : rows64 (fun b => cntB l o n f b (i + 1)) = rows64 (fun j => if j < 64 then cntB l o n f j i + bitN l[i].Up j else cntB l o n f j i) := rows64_congr fun b hb => by simp [cntB, hget, hgood, hb]
                    simp only [stO] at h2 ⊢
                    rw [e] at h2
                    exact h2) 64 0 rfl
                  simpa using this
    · simp at h0; omega

theorem call13 (nl : Bool) (l : List Vote) (o n f : Int) (hnl : nl = true → l = []) (hl : l.length ≤ lim) (hv : ∀ v ∈ l, VOk v) (ho : o ≤ 9223372036854775807) :
    Sound E 13 [.sl nl 3 (l.map Vote.enc), .int .i64 o, .int .i64 n, .int .i64 f] [] (Is (.int .u64 (tallyP l o n f))) := by
  refine sound_of (m := ⟨[.code (bodyOf Try.f13)], [(0, .sl nl 3 (l.map Vote.enc)), (1, .int .i64 o), (2, .int .i64 n), (3, .int .i64 f)], []⟩) (fn := Try.f13) (by kernel_rfl) (by kernel_rfl) ?_
  refine adv_ok hm 13 _ ?_
  refine r_call 19 [D.int IntKind.i64 n] [] (by kernel_rfl) (call19 n) ?_
  rintro d s ⟨rfl, rfl⟩
  refine adv_ok hm 3 _ ?_
  refine r_split (!timeB n) (by kernel_rfl) (fun h1 => ?_) (fun h1 => ?_)
  · refine adv_ok hm 21 _ ?_
    have h1' : timeB n = false := by simpa using h1
    exact r_ret (D.int IntKind.u64 0) ([]) (by kernel_rfl) (by simp only [tallyP, h1']; exact ⟨rfl, rfl⟩)
  · have h1' : timeB n = true := by simpa using h1
    refine adv_ok hm 2 _ ?_
    refine r_call 19 [D.int IntKind.i64 f] [] (by kernel_rfl) (call19 f) ?_
    rintro d s ⟨rfl, rfl⟩
    refine adv_ok hm 6 _ ?_
    refine r_split (!timeB f) (by kernel_rfl) (fun h3 => ?_) (fun h3 => ?_)
    · refine adv_ok hm 12 _ ?_
      have h3' : timeB f = false := by simpa using h3
      exact r_ret (D.int IntKind.u64 0) ([]) (by kernel_rfl) (by simp only [tallyP, h1', h3']; exact ⟨rfl, rfl⟩)
    · have h3' : timeB f = true := by simpa using h3
      refine adv_ok hm 6 _ ?_
      refine r_split (decide (o < 1)) (by kernel_rfl) (fun h4 => ?_) (fun h4 => ?_)
      · refine adv_ok hm 5 _ ?_
        exact r_ret (D.int IntKind.u64 0) ([]) (by kernel_rfl) (by simp only [tallyP, h1', h3', h4]; exact ⟨rfl, rfl⟩)
      · have h4' : 1 ≤ o := by simp at h4; omega
        refine adv_ok hm 11 _ ?_
        have e : tallyP l o n f = upTo (fun b => decide (cntB l o n f b l.length > o - cntB l o n f b l.length)) 64 := by simp only [tallyP, h1', h3', h4]; rfl
        rw [e]
        refine r_to (q' := stO nl l o n f 0 (fun b => 0)) ?_ ?_
        · cases nl with
          | true => rw [hnl rfl]; kernel_rfl
          | false => kernel_rfl
        · exact loopO nl l o n f hnl hl hv ⟨h4', ho⟩ h1' h3' l.length 0 (by omega)


def tallyOkB (l : List Vote) (o : Int) : Prop := l.length ≤ lim ∧ (∀ v ∈ l, VOk v) ∧ o ≤ 9223372036854775807
open Classical in
noncomputable def tally_Tally (l : List Vote) (observers now fresh : Int) : Option Int := if tallyOkB l observers then some (tallyP l observers now fresh) else none
def tally_Tally_Q (y : Int) (d : D) (s : Sto) : Prop := d = D.int .u64 y ∧ s = []
theorem tally_Tally_ok {l : List Vote} {observers now fresh : Int} {r : Int} (h : tally_Tally l observers now fresh = some r) : Sound E 13 [D.sl false 3 (List.map Vote.enc l), D.int .i64 observers, D.int .i64 now, D.int .i64 fresh] [] (tally_Tally_Q r) := by
  unfold tally_Tally at h
  split at h
  · rename_i hh
    obtain rfl := Option.some.inj h
    exact call13 false l observers now fresh (fun h => by cases h) hh.1 hh.2.1 hh.2.2
  · cases h
end Go.RX.L

set_option linter.unusedSimpArgs false
set_option linter.unusedVariables false
set_option maxRecDepth 100000
set_option maxHeartbeats 4000000
namespace Go.RX.L
open Go Go.RX Go.Proofs
def slices_Clone_Q (y : List Vote) (d : D) (s : Sto) : Prop := d = D.msl 0 0 ((List.map Vote.enc y).length) ((List.map Vote.enc y).length) false ∧ s = [some { sz := 3, deep := false, rows := (List.map Vote.enc y) }]
noncomputable def slices_Clone (s_ : List Vote) : Option (List Vote) := (bif (decide ((0 + (List.map Vote.enc s_).length) * 24 ≤ bytesLim)) then (some s_) else none)
theorem slices_Clone_ok {s_ : List Vote} {r : List Vote} (h : slices_Clone s_ = some r) : Sound E 16 [D.sl false 3 (List.map Vote.enc s_)] [] (slices_Clone_Q r) := by
  refine sound_ofW (m := ⟨[.code (bodyOf Try.f16)], [(0, D.sl false 3 (List.map Vote.enc s_))], []⟩) (fn := Try.f16) (by kernel_rfl) (by kernel_rfl) ?_
  show FinQ E ⟨Try.f16, true, 0⟩ (QW (slices_Clone_Q r)) _
  unfold slices_Clone at h
  refine adv_ok hm 9 _ ?_
  refine r_any (List.isEmpty (List.map Vote.enc s_)) (by kernel_rfl) ?_ (fun h1 => ?_)
  · -- it is not nil
    refine adv_ok hm 9 _ ?_
    refine p_need h (by kernel_rfl) (fun h2 h => ?_)
    refine adv_ok hm 1 _ ?_
    refine r_rows (List.map Vote.enc s_) (List.map Vote.enc s_) (by kernel_rfl) (rfl) ?_
    refine adv_ok hm 3 _ ?_
    obtain rfl := Option.some.inj h
    exact r_retF [] (d := D.msl 0 0 ((List.map Vote.enc s_).length) ((List.map Vote.enc s_).length) false) (s := [some { sz := 3, deep := false, rows := (List.map Vote.enc s_) }]) (by kernel_rfl) ⟨rfl, rfl⟩
  · -- nil
    obtain rfl : s_ = [] := by simpa using h1
    simp [bytesLim] at h
    subst h
    refine adv_ok hm 8 _ ?_
    exact r_retF [.mat 0 3] (d := D.msl 0 0 0 0 false) (s := [some { sz := 3, deep := false, rows := [] }]) (by kernel_rfl) ⟨rfl, rfl⟩
end Go.RX.L

set_option linter.unusedSimpArgs false
set_option linter.unusedVariables false
set_option maxRecDepth 100000
set_option maxHeartbeats 4000000
namespace Go.RX.L
open Go Go.RX Go.Proofs
def tally_by_1_Q (y : Bool) (d : D) (s : Sto) : Prop := d = D.bool y ∧ s = []
noncomputable def tally_by_1 (v : Vote) (t : Int) : Option Bool := (some ((v.Observer : Int) == t))
theorem tally_by_1_ok {v : Vote} {t : Int} {r : Bool} (h : tally_by_1 v t = some r) : Sound E 22 [D.agg [D.int .i64 v.Observer, D.int .u64 v.Up, D.int .i64 v.At], D.iptr 1 [[D.int .i64 t]] 0 0] [] (tally_by_1_Q r) := by
  refine sound_ofW (m := ⟨[.code (bodyOf Try.f22)], [(0, D.agg [D.int .i64 v.Observer, D.int .u64 v.Up, D.int .i64 v.At]), (1, D.iptr 1 [[D.int .i64 t]] 0 0)], []⟩) (fn := Try.f22) (by kernel_rfl) (by kernel_rfl) ?_
  show FinQ E ⟨Try.f22, false, 0⟩ (QW (tally_by_1_Q r)) _
  unfold tally_by_1 at h
  refine adv_ok hm 16 _ ?_
  obtain rfl := Option.some.inj h
  exact r_retF [] (d := D.bool ((v.Observer : Int) == t)) (s := []) (by kernel_rfl) ⟨rfl, rfl⟩
end Go.RX.L

set_option linter.unusedSimpArgs false
set_option linter.unusedVariables false
set_option maxRecDepth 100000
set_option maxHeartbeats 4000000
namespace Go.RX.L
open Go Go.RX Go.Proofs
def slices_IndexFunc__by_1_Q (y : Int) (d : D) (s : Sto) : Prop := d = D.int .i64 y ∧ s = []
inductive slices_IndexFunc__by_1_S where
  | s0 (s_ : List Vote) (f : Int)
  | s1 (s_ : List Vote) (f : Int) (t7 : Int) (t8 : Int)
noncomputable def slices_IndexFunc__by_1_M : slices_IndexFunc__by_1_S → M
  | .s0 s_ f => ⟨[.code (bodyOf Try.f17)], [(0, D.sl false 3 (List.map Vote.enc s_)), (1, D.fn 22 [] [D.iptr 1 [[D.int .i64 f]] 0 0])], []⟩
  | .s1 s_ f t7 t8 => { td := [It.lpc (codeAt (bodyOf Try.f17) [1, 0, 1, 0, 0]) 387, It.blk 0, It.code (codeAt (bodyOf Try.f17) [1, 1])], fr := [(0, D.sl false 3 (List.map Vote.enc s_)), (1, D.fn 22 [] [D.iptr 1 [[D.int .i64 f]] 0 0]), (7, D.int .i64 t7), (8, D.int .i64 t8)], st := [] }
noncomputable def slices_IndexFunc__by_1_0 (s_ : List Vote) (f : Int) : Option (slices_IndexFunc__by_1_S ⊕ Int) := (some (.inl (.s1 s_ f (((List.map Vote.enc s_).length : Nat) : Int) 0)))
noncomputable def slices_IndexFunc__by_1_1 (s_ : List Vote) (f : Int) (t7 : Int) (t8 : Int) : Option (slices_IndexFunc__by_1_S ⊕ Int) := (bif (decide ((t8 : Int) < t7)) then (bif ((decide ((0 : Int) ≤ t8)) && (decide ((t8 : Int) < (((List.map Vote.enc s_).length : Nat) : Int)))) then (((s_)[t8.toNat]?).bind fun y3 => ((tally_by_1 y3 f).bind fun y5 => (bif y5 then (some (.inr t8)) else (some (.inl (.s1 s_ f t7 (IntKind.i64.wrap (t8 + 1)))))))) else none) else (some (.inr (-1))))
noncomputable def slices_IndexFunc__by_1_step : slices_IndexFunc__by_1_S → Option (slices_IndexFunc__by_1_S ⊕ Int)
  | .s0 s_ f => slices_IndexFunc__by_1_0 s_ f
  | .s1 s_ f t7 t8 => slices_IndexFunc__by_1_1 s_ f t7 t8
theorem slices_IndexFunc__by_1_0_ok {s_ : List Vote} {f : Int} {r : Int} {x : slices_IndexFunc__by_1_S ⊕ Int} (h : slices_IndexFunc__by_1_0 s_ f = some x) (ha : After E ⟨Try.f17, false, 0⟩ slices_IndexFunc__by_1_Q slices_IndexFunc__by_1_M r x) : FinQ E ⟨Try.f17, false, 0⟩ (QW (slices_IndexFunc__by_1_Q r)) (.go (slices_IndexFunc__by_1_M (.s0 s_ f))) := by
  unfold slices_IndexFunc__by_1_0 at h
  refine adv_ok hm 14 _ ?_
  obtain rfl := Option.some.inj h
  exact r_to (q' := .go (slices_IndexFunc__by_1_M (.s1 s_ f (((List.map Vote.enc s_).length : Nat) : Int) 0))) (by kernel_rfl) ha
theorem slices_IndexFunc__by_1_1_ok {s_ : List Vote} {f : Int} {t7 : Int} {t8 : Int} {r : Int} {x : slices_IndexFunc__by_1_S ⊕ Int} (h : slices_IndexFunc__by_1_1 s_ f t7 t8 = some x) (ha : After E ⟨Try.f17, false, 0⟩ slices_IndexFunc__by_1_Q slices_IndexFunc__by_1_M r x) : FinQ E ⟨Try.f17, false, 0⟩ (QW (slices_IndexFunc__by_1_Q r)) (.go (slices_IndexFunc__by_1_M (.s1 s_ f t7 t8))) := by
  unfold slices_IndexFunc__by_1_1 at h
  refine adv_ok hm 7 _ ?_
  refine p_split h (by kernel_rfl) (fun h1 h => ?_) (fun h1 h => ?_)
  · -- true
    refine adv_ok hm 14 _ ?_
    refine p_need h (by kernel_rfl) (fun h2 h => ?_)
    refine adv_ok hm 1 _ ?_
    refine p_row (((List.map Vote.enc s_))[t8.toNat]?) Vote.enc h (by kernel_rfl) List.getElem?_map (fun y3 h4 h => ?_)
    refine adv_ok hm 1 _ ?_
    have ok5 := fun (y : Bool) (hy : tally_by_1 y3 f = some y) => tally_by_1_ok hy
    refine p_callE [] (args1 := [D.agg [D.int .i64 y3.Observer, D.int .u64 y3.Up, D.int .i64 y3.At], D.iptr 1 [[D.int .i64 f]] 0 0]) (args := [D.agg [D.int .i64 y3.Observer, D.int .u64 y3.Up, D.int .i64 y3.At], D.iptr 1 [[D.int .i64 f]] 0 0]) (fun y5 => D.bool y5) (fun y5 => []) h (by kernel_rfl) ⟨rfl, rfl⟩ ok5 (fun y5 h5 h => ?_)
    refine adv_ok hm 2 _ ?_
    refine p_split h (by kernel_rfl) (fun h6 h => ?_) (fun h6 h => ?_)
    · -- true
      refine adv_ok hm 6 _ ?_
      obtain rfl := Option.some.inj h
      have hv := ha
      simp only [After] at hv
      subst hv
      exact r_retF [] (d := D.int .i64 t8) (s := []) (by kernel_rfl) ⟨rfl, rfl⟩
    · -- false
      refine adv_ok hm 7 _ ?_
      obtain rfl := Option.some.inj h
      exact r_to (q' := .go (slices_IndexFunc__by_1_M (.s1 s_ f t7 (IntKind.i64.wrap (t8 + 1))))) (by kernel_rfl) ha
  · -- false
    refine adv_ok hm 6 _ ?_
    obtain rfl := Option.some.inj h
    have hv := ha
    simp only [After] at hv
    subst hv
    exact r_retF [] (d := D.int .i64 (-1)) (s := []) (by kernel_rfl) ⟨rfl, rfl⟩
theorem slices_IndexFunc__by_1_ev {s_ : List Vote} {f : Int} {r : Int} (h : Ev slices_IndexFunc__by_1_step (.s0 s_ f) r) : Sound E 17 [D.sl false 3 (List.map Vote.enc s_), D.fn 22 [] [D.iptr 1 [[D.int .i64 f]] 0 0]] [] (slices_IndexFunc__by_1_Q r) :=
  sound_ofW (m := slices_IndexFunc__by_1_M (.s0 s_ f)) (fn := Try.f17) (by kernel_rfl) (by kernel_rfl) (ev_run (C := ⟨Try.f17, false, 0⟩) (fun s x r hs ha => by
    cases s with
    | s0 => exact slices_IndexFunc__by_1_0_ok hs ha
    | s1 => exact slices_IndexFunc__by_1_1_ok hs ha) h)
noncomputable def slices_IndexFunc__by_1 (s_ : List Vote) (f : Int) : Option Int := evf slices_IndexFunc__by_1_step (.s0 s_ f)
theorem slices_IndexFunc__by_1_ok {s_ : List Vote} {f : Int} {r : Int} (h : slices_IndexFunc__by_1 s_ f = some r) : Sound E 17 [D.sl false 3 (List.map Vote.enc s_), D.fn 22 [] [D.iptr 1 [[D.int .i64 f]] 0 0]] [] (slices_IndexFunc__by_1_Q r) := slices_IndexFunc__by_1_ev (evf_ev h)
end Go.RX.L

set_option linter.unusedSimpArgs false
set_option linter.unusedVariables false
set_option maxRecDepth 100000
set_option maxHeartbeats 4000000
namespace Go.RX.L
open Go Go.RX Go.Proofs
def tally_by_Q (y : Int) (d : D) (s : Sto) : Prop := d = D.fn 22 [] [D.iptr 1 [[D.int .i64 y]] 0 0] ∧ s = []
noncomputable def tally_by (observer : Int) : Option Int := (some observer)
theorem tally_by_ok {observer : Int} {r : Int} (h : tally_by observer = some r) : Sound E 18 [D.int .i64 observer] [] (tally_by_Q r) := by
  refine sound_ofW (m := ⟨[.code (bodyOf Try.f18)], [(0, D.int .i64 observer)], []⟩) (fn := Try.f18) (by kernel_rfl) (by kernel_rfl) ?_
  show FinQ E ⟨Try.f18, false, 0⟩ (QW (tally_by_Q r)) _
  unfold tally_by at h
  refine adv_ok hm 11 _ ?_
  obtain rfl := Option.some.inj h
  exact r_retF [] (d := D.fn 22 [] [D.iptr 1 [[D.int .i64 observer]] 0 0]) (s := []) (by kernel_rfl) ⟨rfl, rfl⟩
end Go.RX.L

set_option linter.unusedSimpArgs false
set_option linter.unusedVariables false
set_option maxRecDepth 100000
set_option maxHeartbeats 4000000
namespace Go.RX.L
open Go Go.RX Go.Proofs
def tally_Put_Q (y : List Vote) (d : D) (s : Sto) : Prop := d = D.sl false 3 (List.map Vote.enc y) ∧ s = []
noncomputable def tally_Put (l : List Vote) (v : Vote) : Option (List Vote) := ((slices_Clone l).bind fun y1 => ((tally_by v.Observer).bind fun y2 => ((slices_IndexFunc__by_1 y1 y2).bind fun y3 => (bif (decide ((y3 : Int) ≥ 0)) then (bif ((decide ((0 : Int) ≤ y3)) && (decide ((y3 : Int) < (((List.map Vote.enc y1).length : Nat) : Int)))) then (((y1)[(0 + y3.toNat)]?).bind fun y6 => (some (List.set y1 (0 + y3.toNat) v))) else none) else (bif (decide (((List.map Vote.enc y1).length + 1) * 24 ≤ bytesLim)) then (some (y1 ++ [v])) else none)))))
theorem tally_Put_ok {l : List Vote} {v : Vote} {r : List Vote} (h : tally_Put l v = some r) : Sound E 11 [D.sl false 3 (List.map Vote.enc l), D.agg [D.int .i64 v.Observer, D.int .u64 v.Up, D.int .i64 v.At]] [] (tally_Put_Q r) := by
  refine sound_ofW (m := ⟨[.code (bodyOf Try.f11)], [(0, D.sl false 3 (List.map Vote.enc l)), (1, D.agg [D.int .i64 v.Observer, D.int .u64 v.Up, D.int .i64 v.At])], []⟩) (fn := Try.f11) (by kernel_rfl) (by kernel_rfl) ?_
  show FinQ E ⟨Try.f11, false, 0⟩ (QW (tally_Put_Q r)) _
  unfold tally_Put at h
  refine adv_ok hm 9 _ ?_
  have ok1 := fun (y : List Vote) (hy : slices_Clone l = some y) => slices_Clone_ok hy
  refine p_callE [] (args1 := [D.sl false 3 (List.map Vote.enc l)]) (args := [D.sl false 3 (List.map Vote.enc l)]) (fun y1 => D.msl 0 0 ((List.map Vote.enc y1).length) ((List.map Vote.enc y1).length) false) (fun y1 => [some { sz := 3, deep := false, rows := (List.map Vote.enc y1) }]) h (by kernel_rfl) ⟨rfl, rfl⟩ ok1 (fun y1 h1 h => ?_)
  refine adv_ok hm 10 _ ?_
  have ok2 := fun (y : Int) (hy : tally_by v.Observer = some y) => tally_by_ok hy
  refine p_callE [] (args1 := [D.int .i64 v.Observer]) (args := [D.int .i64 v.Observer]) (fun y2 => D.fn 22 [] [D.iptr 1 [[D.int .i64 y2]] 0 0]) (fun y2 => []) h (by kernel_rfl) ⟨rfl, rfl⟩ ok2 (fun y2 h2 h => ?_)
  refine adv_ok hm 1 _ ?_
  refine r_needT (b := (Nat.ble (0 + (List.map Vote.enc y1).length) ((List.map Vote.enc y1).length))) (by kernel_rfl) (ble_full _) ?_
  have ok3 := fun (y : Int) (hy : slices_IndexFunc__by_1 y1 y2 = some y) => slices_IndexFunc__by_1_ok hy
  refine p_callE [] (args1 := [D.sl false 3 (List.take ((List.map Vote.enc y1).length) (List.drop 0 (List.map Vote.enc y1))), D.fn 22 [] [D.iptr 1 [[D.int .i64 y2]] 0 0]]) (args := [D.sl false 3 (List.map Vote.enc y1), D.fn 22 [] [D.iptr 1 [[D.int .i64 y2]] 0 0]]) (fun y3 => D.int .i64 y3) (fun y3 => []) h (by kernel_rfl) ⟨by simp [List.take_of_length_le], rfl⟩ ok3 (fun y3 h3 h => ?_)
  refine adv_ok hm 8 _ ?_
  refine p_split h (by kernel_rfl) (fun h4 h => ?_) (fun h4 h => ?_)
  · -- true
    refine adv_ok hm 7 _ ?_
    refine p_need h (by kernel_rfl) (fun h5 h => ?_)
    refine adv_ok hm 1 _ ?_
    refine p_row (((List.map Vote.enc y1))[(0 + y3.toNat)]?) Vote.enc h (by kernel_rfl) List.getElem?_map (fun y6 h7 h => ?_)
    refine r_rows (List.set (List.map Vote.enc y1) (0 + y3.toNat) (Vote.enc v)) (List.map Vote.enc (List.set y1 (0 + y3.toNat) v)) (by kernel_rfl) (rows_set _ _ _ _) ?_
    refine adv_ok hm 7 _ ?_
    refine r_needT (b := (Nat.ble (0 + (List.map Vote.enc y1).length) ((List.map Vote.enc (List.set y1 (0 + y3.toNat) v)).length))) (by kernel_rfl) (by simp) ?_
    obtain rfl := Option.some.inj h
    exact r_retE [] (d1 := D.sl false 3 (List.take ((List.map Vote.enc y1).length) (List.drop 0 (List.map Vote.enc (List.set y1 (0 + y3.toNat) v))))) (d := D.sl false 3 (List.map Vote.enc (List.set y1 (0 + y3.toNat) v))) (s1 := []) (s := []) (by kernel_rfl) ⟨by simp [List.take_of_length_le], rfl⟩ ⟨rfl, rfl⟩
  · -- false
    refine adv_ok hm 9 _ ?_
    refine p_need h (by kernel_rfl) (fun h8 h => ?_)
    refine r_needT (b := (Nat.ble (0 + (List.map Vote.enc y1).length) ((List.map Vote.enc y1).length))) (by kernel_rfl) (ble_full _) ?_
    refine r_rows (List.take ((List.map Vote.enc y1).length) (List.drop 0 (List.map Vote.enc y1)) ++ (List.map Vote.enc ([v]))) (List.map Vote.enc (y1 ++ [v])) (by kernel_rfl) (rows_app _ _ _) ?_
    refine adv_ok hm 3 _ ?_
    refine r_needT (b := (Nat.ble (0 + (List.map Vote.enc (y1 ++ [v])).length) ((List.map Vote.enc (y1 ++ [v])).length))) (by kernel_rfl) (ble_full _) ?_
    obtain rfl := Option.some.inj h
    exact r_retE [] (d1 := D.sl false 3 (List.take ((List.map Vote.enc (y1 ++ [v])).length) (List.drop 0 (List.map Vote.enc (y1 ++ [v]))))) (d := D.sl false 3 (List.map Vote.enc (y1 ++ [v]))) (s1 := []) (s := []) (by kernel_rfl) ⟨by simp [List.take_of_length_le], rfl⟩ ⟨rfl, rfl⟩
end Go.RX.L

set_option linter.unusedSimpArgs false
set_option linter.unusedVariables false
set_option maxRecDepth 100000
set_option maxHeartbeats 4000000
namespace Go.RX.L
open Go Go.RX Go.Proofs
def law11_head_Q (y : Bool) (d : D) (s : Sto) : Prop := d = D.bool y ∧ s = []
noncomputable def law11_head  : Option Bool := ((tally_Put ([]) (⟨0, 3, 0⟩ : Vote)).bind fun y1 => ((tally_Put y1 (⟨1, 1, 0⟩ : Vote)).bind fun y2 => (bif (((((List.map Vote.enc y2).length : Nat) : Int) : Int) == 2) then ((tally_Tally y2 3 0 5).bind fun y4 => (bif ((y4 : Int) == 1) then ((tally_Tally y2 3 9 5).bind fun y6 => (some ((y6 : Int) == 0))) else (some false))) else (some false))))
theorem law11_head_ok  {r : Bool} (h : law11_head = some r) : Sound E 9 [] [] (law11_head_Q r) := by
  refine sound_ofW (m := ⟨[.code (bodyOf Try.f9)], [], []⟩) (fn := Try.f9) (by kernel_rfl) (by kernel_rfl) ?_
  show FinQ E ⟨Try.f9, false, 0⟩ (QW (law11_head_Q r)) _
  unfold law11_head at h
  refine adv_ok hm 8 _ ?_
  have ok1 := fun (y : List Vote) (hy : tally_Put ([]) (⟨0, 3, 0⟩ : Vote) = some y) => tally_Put_ok hy
  refine p_callE [some 3] (args1 := [D.sl false 3 [], D.agg [D.int .i64 0, D.int .u64 3, D.int .i64 0]]) (args := [D.sl false 3 [], D.agg [D.int .i64 0, D.int .u64 3, D.int .i64 0]]) (fun y1 => D.sl false 3 (List.map Vote.enc y1)) (fun y1 => []) h (by kernel_rfl) ⟨rfl, rfl⟩ ok1 (fun y1 h1 h => ?_)
  refine adv_ok hm 2 _ ?_
  have ok2 := fun (y : List Vote) (hy : tally_Put y1 (⟨1, 1, 0⟩ : Vote) = some y) => tally_Put_ok hy
  refine p_callE [] (args1 := [D.sl false 3 (List.map Vote.enc y1), D.agg [D.int .i64 1, D.int .u64 1, D.int .i64 0]]) (args := [D.sl false 3 (List.map Vote.enc y1), D.agg [D.int .i64 1, D.int .u64 1, D.int .i64 0]]) (fun y2 => D.sl false 3 (List.map Vote.enc y2)) (fun y2 => []) h (by kernel_rfl) ⟨rfl, rfl⟩ ok2 (fun y2 h2 h => ?_)
  refine adv_ok hm 9 _ ?_
  refine p_split h (by kernel_rfl) (fun h3 h => ?_) (fun h3 h => ?_)
  · -- true
    refine adv_ok hm 2 _ ?_
    have ok4 := fun (y : Int) (hy : tally_Tally y2 3 0 5 = some y) => tally_Tally_ok hy
    refine p_callE [] (args1 := [D.sl false 3 (List.map Vote.enc y2), D.int .i64 3, D.int .i64 0, D.int .i64 5]) (args := [D.sl false 3 (List.map Vote.enc y2), D.int .i64 3, D.int .i64 0, D.int .i64 5]) (fun y4 => D.int .u64 y4) (fun y4 => []) h (by kernel_rfl) ⟨rfl, rfl⟩ ok4 (fun y4 h4 h => ?_)
    refine adv_ok hm 6 _ ?_
    refine p_split h (by kernel_rfl) (fun h5 h => ?_) (fun h5 h => ?_)
    · -- true
      refine adv_ok hm 2 _ ?_
      have ok6 := fun (y : Int) (hy : tally_Tally y2 3 9 5 = some y) => tally_Tally_ok hy
      refine p_callE [] (args1 := [D.sl false 3 (List.map Vote.enc y2), D.int .i64 3, D.int .i64 9, D.int .i64 5]) (args := [D.sl false 3 (List.map Vote.enc y2), D.int .i64 3, D.int .i64 9, D.int .i64 5]) (fun y6 => D.int .u64 y6) (fun y6 => []) h (by kernel_rfl) ⟨rfl, rfl⟩ ok6 (fun y6 h6 h => ?_)
      refine adv_ok hm 7 _ ?_
      obtain rfl := Option.some.inj h
      exact r_retF [] (d := D.bool ((y6 : Int) == 0)) (s := []) (by kernel_rfl) ⟨rfl, rfl⟩
    · -- false
      refine adv_ok hm 9 _ ?_
      obtain rfl := Option.some.inj h
      exact r_retF [] (d := D.bool false) (s := []) (by kernel_rfl) ⟨rfl, rfl⟩
  · -- false
    refine adv_ok hm 18 _ ?_
    obtain rfl := Option.some.inj h
    exact r_retF [] (d := D.bool false) (s := []) (by kernel_rfl) ⟨rfl, rfl⟩
end Go.RX.L

set_option linter.unusedSimpArgs false
set_option linter.unusedVariables false
namespace Go.RX.L
open Go Go.RX

theorem ixf_loop (l : List Vote) (n : Int) (hl : l.length ≤ 300000) : ∀ (j k : Nat), k + j = l.length → Ev slices_IndexFunc__by_1_step (.s1 l n (l.length : Nat) (k : Nat)) (idxP (l.drop k) n k) := by
  intro j
  induction j with
  | zero =>
    intro k hk
    refine .done ?_
    have : l.drop k = [] := List.drop_eq_nil_of_le (by omega)
    simp [slices_IndexFunc__by_1_step, slices_IndexFunc__by_1_1, this, idxP, show ¬ (k : Int) < l.length by omega]
  | succ j ih =>
    intro k hk
    have hlt : k < l.length := by omega
    rw [List.drop_eq_getElem_cons hlt, idxP]
    by_cases he : l[k].Observer = n
    · rw [if_pos he]
      refine .done ?_
      simp [slices_IndexFunc__by_1_step, slices_IndexFunc__by_1_1, hlt, tally_by_1, he]
    · rw [if_neg he]
      refine .next (s' := .s1 l n (l.length : Nat) ((k + 1 : Nat) : Int)) ?_ (ih (k + 1) (by omega))
      have hw : IntKind.i64.wrap ((k : Int) + 1) = k + 1 := wI64 (by omega) (by omega)
      have hb : (l[k].Observer == n) = false := by simpa using he
      simp [slices_IndexFunc__by_1_step, slices_IndexFunc__by_1_1, hlt, tally_by_1, hb, hw]

theorem ixf (l : List Vote) (n : Int) (hl : l.length ≤ 300000) : slices_IndexFunc__by_1 l n = some (idxP l n 0) :=
  evf_of (.next (s' := .s1 l n (l.length : Nat) ((0 : Nat) : Int)) (by simp [slices_IndexFunc__by_1_step, slices_IndexFunc__by_1_0]) (by simpa using ixf_loop l n hl l.length 0 (by omega)))

/-- Votes, with one more. -/
def putP (l : List Vote) (v : Vote) : List Vote := match l with
  | [] => [v]
  | x :: r => if x.Observer = v.Observer then v :: r else x :: putP r v

theorem idx_put (v : Vote) : ∀ (l : List Vote) (i : Nat), (idxP l v.Observer i = -1 ∧ putP l v = l ++ [v] ∧ ∀ x ∈ l, x.Observer ≠ v.Observer) ∨ ∃ j : Nat, j < l.length ∧ idxP l v.Observer i = i + j ∧ putP l v = l.set j v
  | [], i => .inl ⟨rfl, rfl, fun x h => by simp at h⟩
  | x :: r, i => by
    by_cases h : x.Observer = v.Observer
    · exact .inr ⟨0, by simp, by simp [idxP, h], by simp [putP, h]⟩
    · rcases idx_put v r (i + 1) with ⟨h1, h2, h3⟩ | ⟨j, h1, h2, h3⟩
      · exact .inl ⟨by simp only [idxP, if_neg h]; exact_mod_cast h1, by simp [putP, h, h2], fun y hy => by rcases List.mem_cons.1 hy with rfl | hy; exact h; exact h3 y hy⟩
      · refine .inr ⟨j + 1, by simp; omega, ?_, by simp [putP, h, h3]⟩
        simp only [idxP, if_neg h]
        have : ((i + 1 : Nat) : Int) = (i : Int) + 1 := by omega
        rw [← this, h2]; omega

theorem put_len (l : List Vote) (v : Vote) : (putP l v).length = l.length ∨ (putP l v).length = l.length + 1 := by
  induction l with
  | nil => exact .inr rfl
  | cons x r ih => unfold putP; split <;> simp; simpa using ih

theorem put_ok (l : List Vote) (v : Vote) (hl : l.length ≤ 300000) : tally_Put l v = some (putP l v) := by
  unfold tally_Put slices_Clone tally_by
  rw [show decide ((0 + (List.map Vote.enc l).length) * 24 ≤ bytesLim) = true from limOk (by simp; omega)]
  simp only [cond_true, Option.bind_some, ixf l v.Observer hl]
  rcases idx_put v l 0 with ⟨h1, h2, -⟩ | ⟨j, hj, h1, h2⟩
  · simp only [Int.natCast_zero] at h1
    rw [h1, h2, show decide (((List.map Vote.enc l).length + 1) * 24 ≤ bytesLim) = true from limOk (by simp; omega)]
    simp
  · simp only [Int.natCast_zero, Int.zero_add] at h1
    rw [h1, h2]
    simp [hj]

theorem put_mem {l : List Vote} {v x : Vote} (h : x ∈ putP l v) : x ∈ l ∨ x = v := by
  induction l with
  | nil => simp [putP] at h; exact .inr h
  | cons y r ih =>
    unfold putP at h
    split at h
    · rcases List.mem_cons.1 h with rfl | h
      · exact .inr rfl
      · exact .inl (by simp [h])
    · rcases List.mem_cons.1 h with rfl | h
      · exact .inl (by simp)
      · rcases ih h with h | h
        · exact .inl (by simp [h])
        · exact .inr h

theorem tal_ok {l : List Vote} {o n f : Int} (hl : l.length ≤ 300000) (hv : ∀ v ∈ l, VOk v) (ho : o ≤ 9223372036854775807) : tally_Tally l o n f = some (tallyP l o n f : Int) := by
  unfold tally_Tally
  rw [if_pos ⟨by unfold lim; omega, hv, ho⟩]

theorem head_ok : law11_head = some true := by
  have p1 : putP [] (⟨0, 3, 0⟩ : Vote) = [⟨0, 3, 0⟩] := rfl
  have p2 : putP [⟨0, 3, 0⟩] (⟨1, 1, 0⟩ : Vote) = [⟨0, 3, 0⟩, ⟨1, 1, 0⟩] := rfl
  have hv : ∀ v ∈ ([⟨0, 3, 0⟩, ⟨1, 1, 0⟩] : List Vote), VOk v := fun v hv => by
    simp at hv
    rcases hv with rfl | rfl <;> exact ⟨by decide, by decide, by decide⟩
  unfold law11_head
  rw [put_ok _ _ (by simp)]
  simp only [Option.bind_some, p1]
  rw [put_ok _ _ (by simp)]
  simp only [Option.bind_some, p2]
  rw [tal_ok (by simp) hv (by omega), tal_ok (by simp) hv (by omega), show tallyP [⟨0, 3, 0⟩, ⟨1, 1, 0⟩] 3 0 5 = 1 by decide, show tallyP [⟨0, 3, 0⟩, ⟨1, 1, 0⟩] 3 9 5 = 0 by decide]
  rfl

end Go.RX.L

set_option linter.unusedSimpArgs false
set_option linter.unusedVariables false
namespace Go.RX.L
open Go Go.RX

def firstV (l : List Vote) (k : Int) : Option Vote := l.find? (fun v => v.Observer == k)
def freshB (v : Vote) (n f : Int) : Bool := timeB v.At && (!(decide (v.At > n)) && !(decide (v.At < n - f)))
/-- What an observer adds to a bit. -/
def con (l : List Vote) (n f : Int) (b : Nat) (k : Int) : Int := match firstV l k with | some v => if freshB v n f then bitN v.Up b else 0 | none => 0
def sumI (g : Nat → Int) : Nat → Int
  | 0 => 0
  | k + 1 => sumI g k + g k

theorem idx_spec (k : Int) : ∀ (l : List Vote) (i : Int), (idxP l k i = -1 ∧ firstV l k = none ∧ ∀ v ∈ l, v.Observer ≠ k) ∨ ∃ (j : Nat) (v : Vote), l[j]? = some v ∧ idxP l k i = i + j ∧ v.Observer = k ∧ firstV l k = some v ∧ ∀ (j' : Nat) (u : Vote), j' < j → l[j']? = some u → u.Observer ≠ k
  | [], i => .inl ⟨rfl, rfl, fun v h => by simp at h⟩
  | x :: r, i => by
    by_cases h : x.Observer = k
    · exact .inr ⟨0, x, rfl, by simp [idxP, h], h, by simp [firstV, h], fun j' u hj => by omega⟩
    · have hb : (x.Observer == k) = false := by simpa using h
      rcases idx_spec k r (i + 1) with ⟨h1, h2, h3⟩ | ⟨j, v, h1, h2, h3, h4, h5⟩
      · refine .inl ⟨by simp only [idxP, if_neg h]; exact h1, by simpa [firstV, List.find?_cons, hb] using h2, fun v hv => ?_⟩
        rcases List.mem_cons.1 hv with rfl | hv
        · exact h
        · exact h3 v hv
      · refine .inr ⟨j + 1, v, by simpa using h1, by simp only [idxP, if_neg h, h2]; omega, h3, by simpa [firstV, List.find?_cons, hb] using h4, fun j' u hj hu => ?_⟩
        cases j' with
        | zero => simp at hu; subst hu; exact h
        | succ j' => exact h5 j' u (by omega) (by simpa using hu)

theorem sumI_add (g h : Nat → Int) (n : Nat) : sumI (fun k => g k + h k) n = sumI g n + sumI h n := by
  induction n with
  | zero => rfl
  | succ n ih => simp only [sumI, ih]; omega
theorem sumI_congr {g h : Nat → Int} {n : Nat} (e : ∀ k, k < n → g k = h k) : sumI g n = sumI h n := by
  induction n with
  | zero => rfl
  | succ n ih => rw [sumI, sumI, ih fun k hk => e k (by omega), e n (by omega)]
theorem sumI_le {g h : Nat → Int} {n : Nat} (e : ∀ k, k < n → g k ≤ h k) : sumI g n ≤ sumI h n := by
  induction n with
  | zero => exact Int.le_refl _
  | succ n ih => rw [sumI, sumI]; have := ih fun k hk => e k (by omega); have := e n (by omega); omega
theorem sumI_const (c : Int) (n : Nat) : sumI (fun _ => c) n = n * c := by
  induction n with
  | zero => simp [sumI]
  | succ n ih => rw [sumI, ih]; push_cast; rw [Int.add_mul]; omega
theorem sumI_one (c : Int) (i : Nat) (n : Nat) : sumI (fun k => if k = i then c else 0) n = if i < n then c else 0 := by
  induction n with
  | zero => rfl
  | succ n ih =>
    rw [sumI, ih]
    by_cases h : n = i
    · subst h; simp
    · by_cases h2 : i < n
      · simp [h, h2, show i < n + 1 by omega]
      · simp [h, h2, show ¬ i < n + 1 by omega]

/-- What the first i votes come to is what the observers, whose first votes these are, add. -/
theorem cnt_sum (l : List Vote) (o : Nat) (n f : Int) (b : Nat) : ∀ i, cntB l o n f b i = sumI (fun k => if 0 ≤ idxP l k 0 ∧ idxP l k 0 < i then con l n f b k else 0) o
  | 0 => by
    rw [cntB, sumI_congr (h := fun _ => 0) (fun k _ => by rw [if_neg (by omega)]), sumI_const]; simp
  | i + 1 => by
    rw [cntB, cnt_sum l o n f b i]
    cases hg : l[i]? with
    | none =>
      simp only [Int.add_zero]
      refine sumI_congr fun k _ => ?_
      have hlen : l.length ≤ i := by rw [List.getElem?_eq_none_iff] at hg; exact hg
      rcases idx_spec k l 0 with ⟨h1, -⟩ | ⟨j, v, h1, h2, -⟩
      · rw [h1]; simp
      · have := (List.getElem?_eq_some_iff.1 h1).1
        rw [h2]
        have e1 : (0 : Int) ≤ 0 + j ∧ 0 + (j : Int) < i := by omega
        have e2 : (0 : Int) ≤ 0 + j ∧ 0 + (j : Int) < (i + 1 : Nat) := by omega
        rw [if_pos e1, if_pos e2]
    | some v =>
      simp only
      -- the observer of this vote
      rcases idx_spec v.Observer l 0 with ⟨-, -, h3⟩ | ⟨j, u, h1, h2, h3, h4, h5⟩
      · exact absurd rfl (h3 v (List.mem_of_getElem? hg))
      have hji : j ≤ i := by
        rcases Nat.lt_or_ge i j with h | h
        · exact absurd rfl (h5 i v h hg)
        · exact h
      have other : ∀ k : Nat, (k : Int) ≠ v.Observer → ((0 ≤ idxP l k 0 ∧ idxP l k 0 < (i + 1 : Nat)) ↔ (0 ≤ idxP l k 0 ∧ idxP l k 0 < i)) := fun k hk => by
        rcases idx_spec k l 0 with ⟨e1, -⟩ | ⟨j', u', e1, e2, e3, -⟩
        · rw [e1]; omega
        · rw [e2]
          have : j' ≠ i := fun e => by
            subst e
            rw [hg] at e1
            simp only [Option.some.injEq] at e1
            subst e1; exact hk e3.symm
          omega
      by_cases hlt : j < i
      · -- not the first one
        have hv : validB l o n f i v = false := by
          unfold validB
          rw [h2]
          simp [show (j : Int) < i by omega]
        rw [hv]
        simp only [Bool.false_eq_true, if_false, Int.add_zero]
        refine sumI_congr fun k _ => ?_
        by_cases hk : (k : Int) = v.Observer
        · rw [hk, h2, if_pos (by omega), if_pos (by omega)]
        · by_cases hc : 0 ≤ idxP l k 0 ∧ idxP l k 0 < i
          · rw [if_pos hc, if_pos ((other k hk).2 hc)]
          · rw [if_neg hc, if_neg fun h => hc ((other k hk).1 h)]
      · have hje : j = i := by omega
        subst hje
        obtain rfl : u = v := by rw [hg] at h1; exact (Option.some.inj h1).symm
        by_cases hin : 0 ≤ u.Observer ∧ u.Observer < o
        · obtain ⟨w, hw⟩ := Int.eq_ofNat_of_zero_le hin.1
          have hwo : w < o := by omega
          have hval : (if validB l o n f j u then bitN u.Up b else 0) = con l n f b w := by
            unfold con
            rw [← hw, h4]
            unfold validB freshB
            rw [h2]
            simp [show ¬ u.Observer < 0 by omega, show ¬ (o : Int) ≤ u.Observer by omega]
          rw [hval]
          have : sumI (fun k => if 0 ≤ idxP l k 0 ∧ idxP l k 0 < (j + 1 : Nat) then con l n f b k else 0) o = sumI (fun k => (if 0 ≤ idxP l k 0 ∧ idxP l k 0 < j then con l n f b k else 0) + (if k = w then con l n f b w else 0)) o := by
            refine sumI_congr fun k _ => ?_
            by_cases hk : k = w
            · subst hk
              have hk' : (k : Int) = u.Observer := hw.symm
              rw [hk', h2, if_pos (by omega), if_neg (by omega), if_pos rfl]; omega
            · have hk' : (k : Int) ≠ u.Observer := by omega
              rw [if_neg hk, Int.add_zero]
              by_cases hc : 0 ≤ idxP l k 0 ∧ idxP l k 0 < j
              · rw [if_pos hc, if_pos ((other k hk').2 hc)]
              · rw [if_neg hc, if_neg fun h => hc ((other k hk').1 h)]
          rw [this, sumI_add, sumI_one, if_pos hwo]
        · have hv : validB l o n f j u = false := by
            unfold validB
            by_cases h : u.Observer < 0
            · simp [h]
            · simp [show (o : Int) ≤ u.Observer by omega]
          rw [hv]
          simp only [Bool.false_eq_true, if_false, Int.add_zero]
          refine sumI_congr fun k hk => ?_
          have hk' : (k : Int) ≠ u.Observer := by omega
          by_cases hc : 0 ≤ idxP l k 0 ∧ idxP l k 0 < j
          · rw [if_pos hc, if_pos ((other k hk').2 hc)]
          · rw [if_neg hc, if_neg fun h => hc ((other k hk').1 h)]

theorem cnt_all (l : List Vote) (o : Nat) (n f : Int) (b : Nat) : cntB l o n f b l.length = sumI (fun k => con l n f b k) o := by
  rw [cnt_sum]
  refine sumI_congr fun k _ => ?_
  rcases idx_spec k l 0 with ⟨h1, h2, -⟩ | ⟨j, v, h1, h2, -⟩
  · rw [if_neg (by omega), con, h2]
  · have := (List.getElem?_eq_some_iff.1 h1).1
    rw [if_pos (by omega)]

theorem con_01 (l : List Vote) (n f : Int) (b : Nat) (k : Int) : 0 ≤ con l n f b k ∧ con l n f b k ≤ 1 := by
  unfold con
  split
  · split
    · exact bitN_01 _ _
    · omega
  · omega

theorem eq_bits {p : Nat → Bool} {m : Nat} (hm : m < 18446744073709551616) (h : ∀ j, j < 64 → p j = m.testBit j) : upTo p 64 = m := by
  refine Nat.eq_of_testBit_eq fun j => ?_
  rw [upTo_bit]
  by_cases hj : j < 64
  · simp [hj, h j hj]
  · have : m < 2 ^ j := Nat.lt_of_lt_of_le hm (show 2 ^ 64 ≤ 2 ^ j from Nat.pow_le_pow_right (by decide) (by omega))
    rw [Nat.testBit_lt_two_pow this]
    simp [hj]

theorem tally_bit (l : List Vote) {o : Nat} {n f : Int} (ho : 1 ≤ o) (hn : timeB n = true) (hf : timeB f = true) (j : Nat) (hj : j < 64) :
    (tallyP l o n f).testBit j = decide (sumI (fun k => con l n f j k) o > o - sumI (fun k => con l n f j k) o) := by
  unfold tallyP
  rw [if_pos (by simp [hn, hf]; omega), upTo_bit, cnt_all]
  simp [hj]
theorem tally_lt (l : List Vote) (o n f : Int) : tallyP l o n f < 18446744073709551616 := by
  unfold tallyP
  split
  · exact upTo_lt _ 64
  · decide

/-- Votes that are put in are the observer's first ones. -/
theorem first_put (l : List Vote) (v : Vote) (k : Int) : firstV (putP l v) k = if v.Observer = k then some v else firstV l k := by
  induction l with
  | nil => unfold putP firstV; by_cases h : v.Observer = k <;> simp [h]
  | cons x r ih =>
    unfold putP
    by_cases h : x.Observer = v.Observer
    · rw [if_pos h]
      unfold firstV
      by_cases hk : v.Observer = k
      · simp [hk]
      · have : (x.Observer == k) = false := by simp; omega
        have h2 : (v.Observer == k) = false := by simpa using hk
        simp [List.find?_cons, this, h2, hk]
    · rw [if_neg h]
      unfold firstV at ih ⊢
      by_cases hx : x.Observer = k
      · have : ¬ v.Observer = k := by omega
        simp [hx, this]
      · have h2 : (x.Observer == k) = false := by simpa using hx
        simp only [List.find?_cons, h2]
        exact ih

end Go.RX.L

set_option linter.unusedSimpArgs false
set_option linter.unusedVariables false
set_option maxRecDepth 100000
set_option maxHeartbeats 4000000
namespace Go.RX.L
open Go Go.RX Go.Proofs
def law11_TallyAll_Q (y : Bool) (d : D) (s : Sto) : Prop := d = D.bool y ∧ s = []
inductive law11_TallyAll_S where
  | s0 (observers : Int) (mask_ : Int) (now : Int) (age : Int) (fresh : Int)
  | s1 (mask_ : Int) (age : Int) (fresh : Int) (up : Bool) (n : Int) (l : List Vote) (at_ : Int) (i : Int)
noncomputable def law11_TallyAll_M : law11_TallyAll_S → M
  | .s0 observers mask_ now age fresh => ⟨[.code (bodyOf Try.f7)], [(0, D.int .u8 observers), (1, D.int .u64 mask_), (2, D.int .u16 now), (3, D.int .u8 age), (4, D.int .u8 fresh)], []⟩
  | .s1 mask_ age fresh up n l at_ i => { td := [It.lpc (codeAt (bodyOf Try.f7) [1, 1, 1, 1, 1, 0, 1, 0, 0]) 63514, It.blk 0, It.code (codeAt (bodyOf Try.f7) [1, 1, 1, 1, 1, 1])], fr := [(1, D.int .u64 mask_), (3, D.int .u8 age), (4, D.int .u8 fresh), (11, D.bool up), (12, D.int .i64 n), (13, D.sl false 3 (List.map Vote.enc l)), (14, D.int .i64 at_), (15, D.int .i64 i)], st := [] }
noncomputable def law11_TallyAll_0 (observers : Int) (mask_ : Int) (now : Int) (age : Int) (fresh : Int) : Option (law11_TallyAll_S ⊕ Bool) := ((law11_head ).bind fun y1 => (some (.inl (.s1 mask_ age fresh y1 (IntKind.i64.wrap ((1 : Int) + (IntKind.i64.wrap ((Int.tmod observers 9))))) ([]) (IntKind.i64.wrap (now)) 0))))
noncomputable def law11_TallyAll_1 (mask_ : Int) (age : Int) (fresh : Int) (up : Bool) (n : Int) (l : List Vote) (at_ : Int) (i : Int) : Option (law11_TallyAll_S ⊕ Bool) := (bif (decide ((i : Int) < n)) then ((tally_Put l (⟨i, mask_, at_⟩ : Vote)).bind fun y2 => (some (.inl (.s1 mask_ age fresh up n y2 at_ (IntKind.i64.wrap (i + 1)))))) else ((tally_Tally l n (IntKind.i64.wrap (at_ + (IntKind.i64.wrap (age)))) (IntKind.i64.wrap (fresh))).bind fun y3 => (bif (decide ((age : Int) > fresh)) then (bif up then (some (.inr ((y3 : Int) == 0))) else (some (.inr false))) else (bif up then (bif ((y3 : Int) == mask_) then (some (.inr (((((List.map Vote.enc l).length : Nat) : Int) : Int) == n))) else (some (.inr false))) else (some (.inr false))))))
noncomputable def law11_TallyAll_step : law11_TallyAll_S → Option (law11_TallyAll_S ⊕ Bool)
  | .s0 observers mask_ now age fresh => law11_TallyAll_0 observers mask_ now age fresh
  | .s1 mask_ age fresh up n l at_ i => law11_TallyAll_1 mask_ age fresh up n l at_ i
theorem law11_TallyAll_0_ok {observers : Int} {mask_ : Int} {now : Int} {age : Int} {fresh : Int} {r : Bool} {x : law11_TallyAll_S ⊕ Bool} (h : law11_TallyAll_0 observers mask_ now age fresh = some x) (ha : After E ⟨Try.f7, false, 0⟩ law11_TallyAll_Q law11_TallyAll_M r x) : FinQ E ⟨Try.f7, false, 0⟩ (QW (law11_TallyAll_Q r)) (.go (law11_TallyAll_M (.s0 observers mask_ now age fresh))) := by
  unfold law11_TallyAll_0 at h
  refine adv_ok hm 7 _ ?_
  have ok1 := fun (y : Bool) (hy : law11_head  = some y) => law11_head_ok hy
  refine p_callE [] (args1 := []) (args := []) (fun y1 => D.bool y1) (fun y1 => []) h (by kernel_rfl) ⟨rfl, rfl⟩ ok1 (fun y1 h1 h => ?_)
  refine adv_ok hm 29 _ ?_
  obtain rfl := Option.some.inj h
  exact r_cut 63514 [.slot 13 [some 3]] (m' := (law11_TallyAll_M (.s1 mask_ age fresh y1 (IntKind.i64.wrap ((1 : Int) + (IntKind.i64.wrap ((Int.tmod observers 9))))) ([]) (IntKind.i64.wrap (now)) 0))) (by kernel_rfl) ha
theorem law11_TallyAll_1_ok {mask_ : Int} {age : Int} {fresh : Int} {up : Bool} {n : Int} {l : List Vote} {at_ : Int} {i : Int} {r : Bool} {x : law11_TallyAll_S ⊕ Bool} (h : law11_TallyAll_1 mask_ age fresh up n l at_ i = some x) (ha : After E ⟨Try.f7, false, 0⟩ law11_TallyAll_Q law11_TallyAll_M r x) : FinQ E ⟨Try.f7, false, 0⟩ (QW (law11_TallyAll_Q r)) (.go (law11_TallyAll_M (.s1 mask_ age fresh up n l at_ i))) := by
  unfold law11_TallyAll_1 at h
  refine adv_ok hm 9 _ ?_
  refine p_split h (by kernel_rfl) (fun h1 h => ?_) (fun h1 h => ?_)
  · -- true
    refine adv_ok hm 10 _ ?_
    have ok2 := fun (y : List Vote) (hy : tally_Put l (⟨i, mask_, at_⟩ : Vote) = some y) => tally_Put_ok hy
    refine p_callE [] (args1 := [D.sl false 3 (List.map Vote.enc l), D.agg [D.int .i64 i, D.int .u64 mask_, D.int .i64 at_]]) (args := [D.sl false 3 (List.map Vote.enc l), D.agg [D.int .i64 i, D.int .u64 mask_, D.int .i64 at_]]) (fun y2 => D.sl false 3 (List.map Vote.enc y2)) (fun y2 => []) h (by kernel_rfl) ⟨rfl, rfl⟩ ok2 (fun y2 h2 h => ?_)
    refine adv_ok hm 9 _ ?_
    obtain rfl := Option.some.inj h
    exact r_to (q' := .go (law11_TallyAll_M (.s1 mask_ age fresh up n y2 at_ (IntKind.i64.wrap (i + 1))))) (by kernel_rfl) ha
  · -- false
    refine adv_ok hm 12 _ ?_
    have ok3 := fun (y : Int) (hy : tally_Tally l n (IntKind.i64.wrap (at_ + (IntKind.i64.wrap (age)))) (IntKind.i64.wrap (fresh)) = some y) => tally_Tally_ok hy
    refine p_callE [] (args1 := [D.sl false 3 (List.map Vote.enc l), D.int .i64 n, D.int .i64 (IntKind.i64.wrap (at_ + (IntKind.i64.wrap (age)))), D.int .i64 (IntKind.i64.wrap (fresh))]) (args := [D.sl false 3 (List.map Vote.enc l), D.int .i64 n, D.int .i64 (IntKind.i64.wrap (at_ + (IntKind.i64.wrap (age)))), D.int .i64 (IntKind.i64.wrap (fresh))]) (fun y3 => D.int .u64 y3) (fun y3 => []) h (by kernel_rfl) ⟨rfl, rfl⟩ ok3 (fun y3 h3 h => ?_)
    refine adv_ok hm 10 _ ?_
    refine p_split h (by kernel_rfl) (fun h4 h => ?_) (fun h4 h => ?_)
    · -- true
      refine adv_ok hm 5 _ ?_
      refine p_split h (by kernel_rfl) (fun h5 h => ?_) (fun h5 h => ?_)
      · -- true
        refine adv_ok hm 7 _ ?_
        obtain rfl := Option.some.inj h
        have hv := ha
        simp only [After] at hv
        subst hv
        exact r_retF [] (d := D.bool ((y3 : Int) == 0)) (s := []) (by kernel_rfl) ⟨rfl, rfl⟩
      · -- false
        refine adv_ok hm 7 _ ?_
        obtain rfl := Option.some.inj h
        have hv := ha
        simp only [After] at hv
        subst hv
        exact r_retF [] (d := D.bool false) (s := []) (by kernel_rfl) ⟨rfl, rfl⟩
    · -- false
      refine adv_ok hm 6 _ ?_
      refine p_split h (by kernel_rfl) (fun h6 h => ?_) (fun h6 h => ?_)
      · -- true
        refine adv_ok hm 8 _ ?_
        refine p_split h (by kernel_rfl) (fun h7 h => ?_) (fun h7 h => ?_)
        · -- true
          refine adv_ok hm 11 _ ?_
          obtain rfl := Option.some.inj h
          have hv := ha
          simp only [After] at hv
          subst hv
          exact r_retF [] (d := D.bool (((((List.map Vote.enc l).length : Nat) : Int) : Int) == n)) (s := []) (by kernel_rfl) ⟨rfl, rfl⟩
        · -- false
          refine adv_ok hm 11 _ ?_
          obtain rfl := Option.some.inj h
          have hv := ha
          simp only [After] at hv
          subst hv
          exact r_retF [] (d := D.bool false) (s := []) (by kernel_rfl) ⟨rfl, rfl⟩
      · -- false
        refine adv_ok hm 20 _ ?_
        obtain rfl := Option.some.inj h
        have hv := ha
        simp only [After] at hv
        subst hv
        exact r_retF [] (d := D.bool false) (s := []) (by kernel_rfl) ⟨rfl, rfl⟩
theorem law11_TallyAll_ev {observers : Int} {mask_ : Int} {now : Int} {age : Int} {fresh : Int} {r : Bool} (h : Ev law11_TallyAll_step (.s0 observers mask_ now age fresh) r) : Sound E 7 [D.int .u8 observers, D.int .u64 mask_, D.int .u16 now, D.int .u8 age, D.int .u8 fresh] [] (law11_TallyAll_Q r) :=
  sound_ofW (m := law11_TallyAll_M (.s0 observers mask_ now age fresh)) (fn := Try.f7) (by kernel_rfl) (by kernel_rfl) (ev_run (C := ⟨Try.f7, false, 0⟩) (fun s x r hs ha => by
    cases s with
    | s0 => exact law11_TallyAll_0_ok hs ha
    | s1 => exact law11_TallyAll_1_ok hs ha) h)
noncomputable def law11_TallyAll (observers : Int) (mask_ : Int) (now : Int) (age : Int) (fresh : Int) : Option Bool := evf law11_TallyAll_step (.s0 observers mask_ now age fresh)
theorem law11_TallyAll_ok {observers : Int} {mask_ : Int} {now : Int} {age : Int} {fresh : Int} {r : Bool} (h : law11_TallyAll observers mask_ now age fresh = some r) : Sound E 7 [D.int .u8 observers, D.int .u64 mask_, D.int .u16 now, D.int .u8 age, D.int .u8 fresh] [] (law11_TallyAll_Q r) := law11_TallyAll_ev (evf_ev h)
end Go.RX.L

set_option linter.unusedSimpArgs false
set_option linter.unusedVariables false
set_option maxRecDepth 100000
namespace Go.RX.L
open Go Go.RX Go.Proofs
theorem of_t5 {n : Nat} {ds : List D} (h : wtF Try.prog (n + 1) 5 ds) : ∃ x : Int, ds = (eInt .u8) x ∧ inK .u8 x := by
  obtain ⟨m, rfl, o⟩ := wt_int (k := .u8) (by kernel_rfl) h
  exact ⟨m, rfl, o⟩
theorem of_t23 {n : Nat} {ds : List D} (h : wtF Try.prog (n + 1) 23 ds) : ∃ x : Int, ds = (eInt .u64) x ∧ inK .u64 x := by
  obtain ⟨m, rfl, o⟩ := wt_int (k := .u64) (by kernel_rfl) h
  exact ⟨m, rfl, o⟩
theorem of_t35 {n : Nat} {ds : List D} (h : wtF Try.prog (n + 1) 35 ds) : ∃ x : Int, ds = (eInt .u16) x ∧ inK .u16 x := by
  obtain ⟨m, rfl, o⟩ := wt_int (k := .u16) (by kernel_rfl) h
  exact ⟨m, rfl, o⟩
theorem law11_TallyAll_sound (H : ∀ (observers : Int) (mask_ : Int) (now : Int) (age : Int) (fresh : Int), inK .u8 observers → inK .u64 mask_ → inK .u16 now → inK .u8 age → inK .u8 fresh → law11_TallyAll observers mask_ now age fresh = some true) : ∀ xs, wtA Try.prog Try.f7.params.toList xs → Sound E 7 xs [] fun d _ => d = .bool true := by
  intro xs h
  have h0 : wtA Try.prog [5, 23, 35, 5, 5] xs := h
  obtain ⟨d0, r0, rfl, w0, h1⟩ := wtA_cons h0
  have v0 := wtP_flat (by kernel_rfl) w0
  obtain ⟨x0, e0, o0⟩ := of_t5 (n := 5) v0
  obtain ⟨rfl, -⟩ := List.cons.inj e0
  obtain ⟨d1, r1, rfl, w1, h2⟩ := wtA_cons h1
  have v1 := wtP_flat (by kernel_rfl) w1
  obtain ⟨x1, e1, o1⟩ := of_t23 (n := 5) v1
  obtain ⟨rfl, -⟩ := List.cons.inj e1
  obtain ⟨d2, r2, rfl, w2, h3⟩ := wtA_cons h2
  have v2 := wtP_flat (by kernel_rfl) w2
  obtain ⟨x2, e2, o2⟩ := of_t35 (n := 5) v2
  obtain ⟨rfl, -⟩ := List.cons.inj e2
  obtain ⟨d3, r3, rfl, w3, h4⟩ := wtA_cons h3
  have v3 := wtP_flat (by kernel_rfl) w3
  obtain ⟨x3, e3, o3⟩ := of_t5 (n := 5) v3
  obtain ⟨rfl, -⟩ := List.cons.inj e3
  obtain ⟨d4, r4, rfl, w4, h5⟩ := wtA_cons h4
  have v4 := wtP_flat (by kernel_rfl) w4
  obtain ⟨x4, e4, o4⟩ := of_t5 (n := 5) v4
  obtain ⟨rfl, -⟩ := List.cons.inj e4
  obtain rfl := wtA_nil h5
  exact (law11_TallyAll_ok (H x0 x1 x2 x3 x4 o0 o1 o2 o3 o4)).mono fun d s h => h.1
end Go.RX.L

set_option linter.unusedSimpArgs false
set_option linter.unusedVariables false
namespace Go.RX.L
open Go Go.RX

def allV (m a : Int) (k : Nat) : List Vote := (List.range k).map fun (i : Nat) => (⟨i, m, a⟩ : Vote)

theorem allV_len (m a : Int) (k : Nat) : (allV m a k).length = k := by simp [allV]
theorem allV_first (m a : Int) : ∀ (k i : Nat), i < k → firstV (allV m a k) i = some ⟨i, m, a⟩
  | 0, i, h => by omega
  | k + 1, i, h => by
    unfold firstV allV
    rw [List.range_succ, List.map_append, List.find?_append]
    by_cases hi : i < k
    · have := allV_first m a k i hi
      unfold firstV allV at this
      rw [this]; rfl
    · obtain rfl : i = k := by omega
      have : List.find? (fun v => v.Observer == (i : Int)) ((List.range i).map fun (j : Nat) => (⟨j, m, a⟩ : Vote)) = none := by
        rw [List.find?_eq_none]
        intro v hv
        simp only [List.mem_map, List.mem_range] at hv
        obtain ⟨j, hj, rfl⟩ := hv
        simp; omega
      rw [this]; simp
theorem putP_new {v : Vote} : ∀ {l : List Vote}, (∀ x ∈ l, x.Observer ≠ v.Observer) → putP l v = l ++ [v]
  | [], _ => rfl
  | x :: r, h => by
    unfold putP
    rw [if_neg (h x (by simp)), putP_new fun y hy => h y (by simp [hy])]
    rfl
theorem allV_put (m a : Int) (k : Nat) : putP (allV m a k) ⟨k, m, a⟩ = allV m a (k + 1) := by
  rw [putP_new]
  · simp [allV, List.range_succ]
  · intro x hx
    simp only [allV, List.mem_map, List.mem_range] at hx
    obtain ⟨j, hj, rfl⟩ := hx
    simp; omega

theorem allV_ok {m a : Int} {k : Nat} (hk : k ≤ 9) (hm : inK .u64 m) (ha : 0 ≤ a ∧ a ≤ 65535) : ∀ v ∈ allV m a k, VOk v := fun v hv => by
  simp only [allV, List.mem_map, List.mem_range] at hv
  obtain ⟨j, hj, rfl⟩ := hv
  exact ⟨by simp only; omega, hm, by simp only; omega⟩

theorem all_loop {m age fresh a : Int} {n : Nat} (hn : 1 ≤ n ∧ n ≤ 9) (hm : inK .u64 m) (h2 : inK .u8 age) (h3 : inK .u8 fresh) (ha : 0 ≤ a ∧ a ≤ 65535) :
    ∀ (j k : Nat), k + j = n → Ev law11_TallyAll_step (.s1 m age fresh true n (allV m a k) a k) true := by
  have h2' := inU8.1 h2
  have h3' := inU8.1 h3
  have hm' := inU64.1 hm
  intro j
  induction j with
  | zero =>
    intro k hk
    obtain rfl : k = n := by omega
    refine .done ?_
    have w1 : IntKind.i64.wrap age = age := wI64 (by omega) (by omega)
    have w2 : IntKind.i64.wrap fresh = fresh := wI64 (by omega) (by omega)
    have w3 : IntKind.i64.wrap (a + age) = a + age := wI64 (by omega) (by omega)
    have t1 : timeB (a + age) = true := by simp [timeB]; omega
    have t2 : timeB fresh = true := by simp [timeB]; omega
    have t3 : timeB a = true := by simp [timeB]; omega
    have hcon : ∀ (b i : Nat), i < k → con (allV m a k) (a + age) fresh b i = if age > fresh then 0 else bitN m b := fun b i hi => by
      unfold con
      rw [allV_first m a k i hi]
      simp only [freshB, t3]
      by_cases hc : age > fresh
      · rw [if_pos hc, if_neg (by simp; omega)]
      · rw [if_neg hc, if_pos (by simp; omega)]
    have hsum : ∀ b, sumI (fun i => con (allV m a k) (a + age) fresh b i) k = k * (if age > fresh then 0 else bitN m b) := fun b => by
      rw [sumI_congr (h := fun _ => if age > fresh then 0 else bitN m b) fun i hi => hcon b i hi, sumI_const]
    have ht : tallyP (allV m a k) k (a + age) fresh = if age > fresh then 0 else m.toNat := by
      refine Nat.eq_of_testBit_eq fun b => ?_
      by_cases hb : b < 64
      · rw [tally_bit _ hn.1 t1 t2 b hb, hsum]
        by_cases hc : age > fresh
        · simp only [if_pos hc, Nat.zero_testBit]; simp
        · simp only [if_neg hc]
          unfold bitN
          cases m.toNat.testBit b
          · simp
          · simp; omega
      · have l1 := tally_lt (allV m a k) k (a + age) fresh
        have hp : (2 : Nat) ^ 64 ≤ 2 ^ b := Nat.pow_le_pow_right (by decide) (by omega)
        rw [Nat.testBit_lt_two_pow (by omega), Nat.testBit_lt_two_pow]
        split <;> omega
    have tk : tally_Tally (allV m a k) k (a + age) fresh = some ((if age > fresh then 0 else m.toNat : Nat) : Int) := by
      rw [tal_ok (by rw [allV_len]; omega) (allV_ok hn.2 hm ha) (by omega), ht]
    simp only [law11_TallyAll_step, law11_TallyAll_1, w1, w2, w3, tk]
    by_cases hc : age > fresh
    · simp [hc]
    · have e : ((m.toNat : Nat) : Int) = m := Int.toNat_of_nonneg hm'.1
      simp [hc, e, allV_len]
  | succ j ih =>
    intro k hk
    refine .next (s' := .s1 m age fresh true n (allV m a (k + 1)) a ((k + 1 : Nat) : Int)) ?_ (ih (k + 1) (by omega))
    have hw : IntKind.i64.wrap ((k : Int) + 1) = k + 1 := wI64 (by omega) (by omega)
    simp [law11_TallyAll_step, law11_TallyAll_1, show (k : Int) < n by omega, put_ok _ _ (show (allV m a k).length ≤ 300000 by rw [allV_len]; omega), allV_put, hw]

theorem tallyAll : ∀ (observers mask_ now age fresh : Int), inK .u8 observers → inK .u64 mask_ → inK .u16 now → inK .u8 age → inK .u8 fresh → law11_TallyAll observers mask_ now age fresh = some true := by
  intro o m now age fresh h0 hm hn h2 h3
  have h0' := inU8.1 h0
  have hn' := inU16.1 hn
  have e1 : Int.tmod o 9 = o % 9 := Int.tmod_eq_emod_of_nonneg h0'.1
  have w1 : IntKind.i64.wrap (Int.tmod o 9) = o % 9 := by rw [e1]; exact wI64 (by omega) (by omega)
  have w2 : IntKind.i64.wrap (1 + o % 9) = ((1 + (o % 9).toNat : Nat) : Int) := by rw [wI64 (by omega) (by omega)]; omega
  have w3 : IntKind.i64.wrap now = now := wI64 (by omega) (by omega)
  refine evf_of (.next (s' := .s1 m age fresh true ((1 + (o % 9).toNat : Nat) : Int) (allV m now 0) now ((0 : Nat) : Int)) ?_ (all_loop (by omega) hm h2 h3 (by omega) (1 + (o % 9).toNat) 0 (by omega)))
  simp only [law11_TallyAll_step, law11_TallyAll_0, head_ok, w1, w2, w3]
  rfl

end Go.RX.L
