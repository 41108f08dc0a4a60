/-
  Tally: the arguments, as votes and numbers.
-/
import Derived.Test.YthooiaebbikjiaaT2
set_option linter.unusedSimpArgs false
set_option linter.unusedVariables false
set_option maxRecDepth 100000
namespace Go.RX.Tally
open Go Go.RX Go.Proofs

/-- A vote's numbers are of their kinds. -/
structure VOk (v : Vote) : Prop where
  who : -9223372036854775808 ≤ v.who ∧ v.who ≤ 9223372036854775807
  up : 0 ≤ v.up ∧ v.up ≤ 18446744073709551615
  at_ : -9223372036854775808 ≤ v.at_ ∧ v.at_ ≤ 9223372036854775807

theorem wt25 (r : List D) : wtF Try.prog 6 25 r = wtL (wtF Try.prog 5) [3, 23, 2] r := by kernel_rfl
theorem wt3 (r : List D) : wtF Try.prog 5 3 r = ∃ m, r = [.int .i64 m] ∧ IntKind.i64.min ≤ m ∧ m ≤ IntKind.i64.max := by kernel_rfl
theorem wt23 (r : List D) : wtF Try.prog 5 23 r = ∃ m, r = [.int .u64 m] ∧ IntKind.u64.min ≤ m ∧ m ≤ IntKind.u64.max := by kernel_rfl
theorem wt2 (r : List D) : wtF Try.prog 5 2 r = ∃ m, r = [.int .i64 m] ∧ IntKind.i64.min ≤ m ∧ m ≤ IntKind.i64.max := by kernel_rfl

theorem i64b {m : Int} (h : IntKind.i64.min ≤ m ∧ m ≤ IntKind.i64.max) : -9223372036854775808 ≤ m ∧ m ≤ 9223372036854775807 := by
  simpa [IntKind.min, IntKind.max, IntKind.signed, IntKind.bits] using h
theorem u64b {m : Int} (h : IntKind.u64.min ≤ m ∧ m ≤ IntKind.u64.max) : 0 ≤ m ∧ m ≤ 18446744073709551615 := by
  simpa [IntKind.min, IntKind.max, IntKind.signed, IntKind.bits] using h
theorem u8b {m : Int} (h : IntKind.u8.min ≤ m ∧ m ≤ IntKind.u8.max) : 0 ≤ m ∧ m ≤ 255 := by
  simpa [IntKind.min, IntKind.max, IntKind.signed, IntKind.bits] using h
theorem u16b {m : Int} (h : IntKind.u16.min ≤ m ∧ m ≤ IntKind.u16.max) : 0 ≤ m ∧ m ≤ 65535 := by
  simpa [IntKind.min, IntKind.max, IntKind.signed, IntKind.bits] using h

theorem vote_of {r : List D} (h : wtF Try.prog 6 25 r) : ∃ v : Vote, r = encV v ∧ VOk v := by
  rw [wt25] at h
  obtain ⟨a, b, rfl, ha, c, d, rfl, hc, e, f, rfl, he, rfl⟩ := h
  rw [wt3] at ha
  rw [wt23] at hc
  rw [wt2] at he
  obtain ⟨x, rfl, hx⟩ := ha
  obtain ⟨y, rfl, hy⟩ := hc
  obtain ⟨z, rfl, hz⟩ := he
  exact ⟨⟨x, y, z⟩, rfl, i64b hx, u64b hy, i64b hz⟩

theorem votes_of : ∀ {rows : List (List D)}, (∀ r ∈ rows, wtF Try.prog 6 25 r) → ∃ l : List Vote, rows = l.map encV ∧ ∀ v ∈ l, VOk v
  | [], _ => ⟨[], rfl, fun v h => by simp at h⟩
  | r :: rows, h => by
    obtain ⟨v, rfl, hv⟩ := vote_of (h r (by simp))
    obtain ⟨l, rfl, hl⟩ := votes_of (rows := rows) fun r hr => h r (by simp [hr])
    exact ⟨v :: l, rfl, fun x hx => (List.mem_cons.1 hx).elim (fun e => e ▸ hv) (hl x)⟩

theorem par22 (d : D) : wtP Try.prog 22 d = ∃ nl rows, d = .sl nl 3 rows ∧ (nl = true → rows = []) ∧ rows.length * 24 ≤ reachBytes ∧ ∀ r ∈ rows, wtF Try.prog 6 25 r := by kernel_rfl

theorem slice_of {d : D} (h : wtP Try.prog 22 d) : ∃ nl l, d = .sl nl 3 (l.map encV) ∧ (nl = true → l = []) ∧ l.length * 24 ≤ 140737488351232 ∧ ∀ v ∈ l, VOk v := by
  rw [par22] at h
  obtain ⟨nl, rows, rfl, h1, h2, h3⟩ := h
  obtain ⟨l, rfl, hl⟩ := votes_of h3
  exact ⟨nl, l, rfl, fun e => by simpa using h1 e, by simpa [reachBytes] using h2, hl⟩

end Go.RX.Tally
