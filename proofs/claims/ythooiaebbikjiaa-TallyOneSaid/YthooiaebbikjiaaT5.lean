/-
  Tally: what most say, the walk.
-/
import Derived.Test.YthooiaebbikjiaaT4
set_option linter.unusedSimpArgs false
set_option linter.unusedVariables false
set_option maxRecDepth 100000
namespace Go.RX.Tally
open Go Go.RX Go.Proofs

abbrev Is (x : D) (d : D) (s : Sto) : Prop := d = x ∧ s = []

noncomputable abbrev stF (o u b : Int) (c : Nat → Int) : Qy := .go { td := [It.lpc (codeAt (bodyOf Try.f13) [1, 1, 1, 1, 1, 0, 1, 0, 0]) 1856910058928070412348694530, It.blk 4, It.code (codeAt (bodyOf Try.f13) [1, 1, 1, 1, 1, 1])], fr := [(1, D.int IntKind.i64 o), (13, D.int IntKind.u64 u), (89, D.agg (rows64 c).flatten), (90, D.int IntKind.i64 b)], st := [] }

theorem loopF (o : Int) (c : Nat → Int) (ho : 1 ≤ o ∧ o ≤ 9223372036854775807) (hc : ∀ b, 0 ≤ c b ∧ c b ≤ 9223372036854775807) : ∀ (k b : Nat), b + k = 64 →
    FinQ E ⟨Try.f13, false, 0⟩ (Is (.int .u64 (upTo (fun b => decide (c b > o - c b)) 64))) (stF o (upTo (fun b => decide (c b > o - c b)) b) b c) := by
  intro k
  induction k with
  | zero =>
    intro b hb
    refine adv_ok hm 7 _ ?_
    refine r_split (decide ((b : Int) < 64)) (by kernel_rfl) (fun h0 => ?_) (fun h0 => ?_)
    · simp at h0; omega
    · refine adv_ok hm 7 _ ?_
      refine r_ret (D.int IntKind.u64 (upTo (fun b => decide (c b > o - c b)) b)) ([]) (by kernel_rfl) ⟨?_, rfl⟩
      have : b = 64 := by omega
      rw [this]
  | succ k ih =>
    intro b hb
    have hb64 : b < 64 := by omega
    have hcb := hc b
    refine adv_ok hm 7 _ ?_
    refine r_split (decide ((b : Int) < 64)) (by kernel_rfl) (fun h0 => ?_) (fun h0 => ?_)
    · refine adv_ok hm 7 _ ?_
      refine r_need (true && decide ((b : Int) < 64)) (by kernel_rfl) (by simpa using h0) ?_
      refine r_row (Option.map (fun d ↦ [d]) (rows64 c).flatten[(Int.ofNat b).toNat * 1]?) [D.int .i64 (c b)] (by kernel_rfl) (by rw [rows64_flat]; simp [hb64]) ?_
      refine adv_ok hm 12 _ ?_
      refine r_split (decide (c b > IntKind.i64.wrap (o - c b))) (by kernel_rfl) (fun h3 => ?_) (fun h3 => ?_)
      · refine adv_ok hm 14 _ ?_
        refine r_to (q' := stF o (IntKind.u64.wrap ↑(BitVec.ofInt IntKind.u64.bits (upTo (fun b => decide (c b > o - c b)) b : Int) ||| BitVec.ofInt IntKind.u64.bits (IntKind.u64.wrap (1 * 2 ^ min (b : Int).toNat IntKind.u64.bits))).toNat) (IntKind.i64.wrap (↑b + 1)) c) (by kernel_rfl) ?_
        rw [wrap64 (by omega) (by omega)] at h3
        rw [wrap64 (by omega) (by omega), orE (Nat.lt_of_lt_of_le (upTo_lt _ b) (show 2 ^ b ≤ 2 ^ 64 from Nat.pow_le_pow_right (by decide) (by omega))) hb64]
        have := ih (b + 1) (by omega)
        simp only [upTo, h3, if_true] at this
        exact this
      · refine adv_ok hm 7 _ ?_
        refine r_to (q' := stF o (upTo (fun b => decide (c b > o - c b)) b) (IntKind.i64.wrap (↑b + 1)) c) (by kernel_rfl) ?_
        rw [wrap64 (by omega) (by omega)] at h3
        rw [wrap64 (by omega) (by omega)]
        have := ih (b + 1) (by omega)
        simp only [upTo, h3] at this
        exact this
    · simp at h0; omega

noncomputable abbrev frO (nl : Bool) (l : List Vote) (o n f i : Int) : Fr := [(0, D.sl nl 3 (List.map encV l)), (1, D.int IntKind.i64 o), (2, D.int IntKind.i64 n), (3, D.int IntKind.i64 f), (9, D.ptr 0 0 0), (28, D.sl nl 3 (List.map encV l)), (29, D.int IntKind.i64 ↑(List.map encV l).length), (30, D.int IntKind.i64 i)]
noncomputable abbrev stO (nl : Bool) (l : List Vote) (o n f i : Int) (c : Nat → Int) : Qy := .go { td := [It.lpc (codeAt (bodyOf Try.f13) [1, 1, 1, 0, 1, 0, 0]) 1879048719, It.blk 0, It.code (codeAt (bodyOf Try.f13) [1, 1, 1, 1])], fr := frO nl l o n f i, st := [some { sz := 1, deep := false, rows := rows64 c }] }
noncomputable abbrev stB (nl : Bool) (l : List Vote) (o n f i b : Int) (v : Vote) (c : Nat → Int) : Qy := .go { td := [It.lpc (codeAt (bodyOf Try.f13) [1, 1, 1, 0, 1, 0, 0, 1, 1, 0, 0, 1, 1, 1, 0, 0]) 9444732965741169478159, It.blk 2, It.blk 1, It.code (codeAt (bodyOf Try.f13) [1, 1, 1, 0, 1, 0, 0, 1, 1, 1]), It.lp (codeAt (bodyOf Try.f13) [1, 1, 1, 0, 1, 0, 0]) 1879048719, It.blk 0, It.code (codeAt (bodyOf Try.f13) [1, 1, 1, 1])], fr := [(0, D.sl nl 3 (List.map encV l)), (1, D.int IntKind.i64 o), (2, D.int IntKind.i64 n), (3, D.int IntKind.i64 f), (9, D.ptr 0 0 0), (11, D.ptr 1 0 0), (28, D.sl nl 3 (List.map encV l)), (29, D.int IntKind.i64 ↑(List.map encV l).length), (30, D.int IntKind.i64 i), (73, D.int IntKind.i64 b)], st := [some { sz := 1, deep := false, rows := rows64 c }, some { sz := 3, deep := false, rows := [encV v] }] }

set_option maxHeartbeats 4000000 in
/-- All bits of a vote are counted. -/
theorem loopB {Q : D → Sto → Prop} (nl : Bool) (l : List Vote) (o n f : Int) (i : Nat) (v : Vote) (c : Nat → Int) (hi : i < lim) (hv : 0 ≤ v.up) (hc : ∀ b, 0 ≤ c b ∧ c b ≤ i)
    (next : FinQ E ⟨Try.f13, false, 0⟩ Q (stO nl l o n f (i + 1) (fun j => if j < 64 then c j + bitN v.up j else c j))) : ∀ (k b : Nat), b + k = 64 →
    FinQ E ⟨Try.f13, false, 0⟩ Q (stB nl l o n f i b v (fun j => if j < b then c j + bitN v.up j else c j)) := by
  intro k
  induction k with
  | zero =>
    intro b hb
    have hb' : b = 64 := by omega
    subst hb'
    refine adv_ok hm 7 _ ?_
    refine r_split (decide (((64 : Nat) : Int) < 64)) (by kernel_rfl) (fun h0 => ?_) (fun h0 => ?_)
    · simp at h0
    · refine adv_ok hm 7 _ ?_
      refine r_to (q' := stO nl l o n f (IntKind.i64.wrap (↑i + 1)) (fun j => if j < 64 then c j + bitN v.up j else c j)) (by kernel_rfl) ?_
      rw [wrap64 (by omega) (by unfold lim at hi; omega)]
      exact next
  | succ k ih =>
    intro b hb
    have hb64 : b < 64 := by omega
    have hcb := hc b
    have hbit := bitN_01 v.up b
    have hget : (rows64 (fun j => if j < b then c j + bitN v.up j else c j))[0 + (Int.ofNat b).toNat]? = some [D.int .i64 (c b)] := by
      rw [show 0 + (Int.ofNat b).toNat = b by simp, rows64_get _ hb64]; simp
    refine adv_ok hm 7 _ ?_
    refine r_split (decide ((b : Int) < 64)) (by kernel_rfl) (fun h0 => ?_) (fun h0 => ?_)
    · refine adv_ok hm 9 _ ?_
      refine r_need (true && decide ((b : Int) < 64)) (by kernel_rfl) (by simpa using h0) ?_
      refine r_row ((rows64 (fun j => if j < b then c j + bitN v.up j else c j))[0 + (Int.ofNat b).toNat]?) [D.int .i64 (c b)] (by kernel_rfl) hget ?_
      refine adv_ok hm 2 _ ?_
      refine r_need (true && decide ((b : Int) < 64)) (by kernel_rfl) (by simpa using h0) ?_
      refine r_row ((rows64 (fun j => if j < b then c j + bitN v.up j else c j))[0 + (Int.ofNat b).toNat]?) [D.int .i64 (c b)] (by kernel_rfl) hget ?_
      refine adv_ok hm 6 _ ?_
      refine r_to (q' := .go { td := [It.lpc (codeAt (bodyOf Try.f13) [1, 1, 1, 0, 1, 0, 0, 1, 1, 0, 0, 1, 1, 1, 0, 0]) 9444732965741169478159, It.blk 2, It.blk 1, It.code (codeAt (bodyOf Try.f13) [1, 1, 1, 0, 1, 0, 0, 1, 1, 1]), It.lp (codeAt (bodyOf Try.f13) [1, 1, 1, 0, 1, 0, 0]) 1879048719, It.blk 0, It.code (codeAt (bodyOf Try.f13) [1, 1, 1, 1])], fr := [(0, D.sl nl 3 (List.map encV l)), (1, D.int IntKind.i64 o), (2, D.int IntKind.i64 n), (3, D.int IntKind.i64 f), (9, D.ptr 0 0 0), (11, D.ptr 1 0 0), (28, D.sl nl 3 (List.map encV l)), (29, D.int IntKind.i64 ↑(List.map encV l).length), (30, D.int IntKind.i64 i), (73, D.int IntKind.i64 (IntKind.i64.wrap (↑b + 1)))], st := [some { sz := 1, deep := false, rows := (rows64 (fun j => if j < b then c j + bitN v.up j else c j)).set (0 + (Int.ofNat b).toNat) [D.int .i64 (IntKind.i64.wrap (c b + IntKind.i64.wrap (IntKind.u64.wrap ↑(BitVec.ofInt IntKind.u64.bits (v.up.fdiv (2 ^ min (b : Int).toNat IntKind.u64.bits)) &&& BitVec.ofInt IntKind.u64.bits 1).toNat)))] }, some { sz := 3, deep := false, rows := [encV v] }] }) (by kernel_rfl) ?_
      rw [wrap64 (n := (b : Int) + 1) (by omega) (by omega), bitE hv hb64, wrap64 (n := c b + bitN v.up b) (by omega) (by unfold lim at hi; omega), show 0 + (Int.ofNat b).toNat = b by simp, rows64_set _ hb64]
      have e : (fun j => if j = b then c b + bitN v.up b else if j < b then c j + bitN v.up j else c j) = fun j => if j < b + 1 then c j + bitN v.up j else c j := by
        funext j
        by_cases h1 : j = b
        · subst h1; simp
        · by_cases h2 : j < b
          · rw [if_neg h1, if_pos h2, if_pos (by omega)]
          · rw [if_neg h1, if_neg h2, if_neg (by omega)]
      rw [e]
      exact ih (b + 1) (by omega)
    · simp at h0; omega

end Go.RX.Tally
