/-
  Tally: votes put in are one for each observer, the last one's.
-/
import Derived.Test.YthooiaebbikjiaaT9
set_option linter.unusedSimpArgs false
set_option linter.unusedVariables false
set_option maxRecDepth 100000
namespace Go.RX.Tally
open Go Go.RX Go.Proofs

/-! ### the plain law -/
theorem idx_spec : ∀ (m : List Vote) (n i : Int), (idxP m n i = -1 ∧ ∀ x ∈ m, x.who ≠ n) ∨ ∃ (j : Nat) (x : Vote), m[j]? = some x ∧ x.who = n ∧ idxP m n i = i + j ∧ ∀ (k : Nat) (y : Vote), k < j → m[k]? = some y → y.who ≠ n
  | [], _, _ => .inl ⟨rfl, fun x h => by simp at h⟩
  | v :: r, n, i => by
    simp only [idxP]
    by_cases h : v.who = n
    · rw [if_pos h]
      exact .inr ⟨0, v, rfl, h, by simp, fun k y hk => by omega⟩
    · rw [if_neg h]
      rcases idx_spec r n (i + 1) with ⟨h1, h2⟩ | ⟨j, x, h1, h2, h3, h4⟩
      · exact .inl ⟨h1, fun x hx => (List.mem_cons.1 hx).elim (fun e => e ▸ h) (h2 x)⟩
      · refine .inr ⟨j + 1, x, by simpa using h1, h2, by rw [h3]; push_cast; omega, fun k y hk hy => ?_⟩
        cases k with
        | zero => simp at hy; subst hy; exact h
        | succ k => exact h4 k y (by omega) (by simpa using hy)

theorem put_spec (m : List Vote) (v : Vote) : (∃ (j : Nat) (x : Vote), m[j]? = some x ∧ x.who = v.who ∧ putP m v = m.set j v) ∨ ((∀ x ∈ m, x.who ≠ v.who) ∧ putP m v = m ++ [v]) := by
  unfold putP
  rcases idx_spec m v.who 0 with ⟨h1, h2⟩ | ⟨j, x, h1, h2, h3, h4⟩
  · rw [h1]; exact .inr ⟨h2, by simp⟩
  · rw [h3]; exact .inl ⟨j, x, h1, h2, by simp⟩

def lastF (l : List Vote) (n : Int) (q : Vote) : Vote := l.foldl (fun q v => if v.who = n then v else q) q

structure Good (l m : List Vote) : Prop where
  dis : ∀ (i k : Nat) (x y : Vote), k < i → m[i]? = some x → m[k]? = some y → y.who ≠ x.who
  last : ∀ x ∈ m, ∀ q, lastF l x.who q = x
  nil : l = [] ↔ m = []

theorem Good.start : Good [] [] := ⟨fun i k x y _ h => by simp at h, fun x h => by simp at h, Iff.rfl⟩

theorem Good.put {l m : List Vote} (h : Good l m) (v : Vote) : Good (l ++ [v]) (putP m v) := by
  have hl : ∀ n q, lastF (l ++ [v]) n q = if v.who = n then v else lastF l n q := fun n q => by simp [lastF, List.foldl_append]
  rcases put_spec m v with ⟨j, x, h1, h2, h3⟩ | ⟨h1, h2⟩
  · rw [h3]
    have hj := (List.getElem?_eq_some_iff.1 h1).1
    have hget : ∀ (i : Nat) (y : Vote), (m.set j v)[i]? = some y → (i = j ∧ y = v) ∨ (i ≠ j ∧ m[i]? = some y) := fun i y hy => by
      by_cases hij : j = i
      · subst hij; rw [List.getElem?_set_self hj] at hy; exact .inl ⟨rfl, (Option.some.inj hy).symm⟩
      · rw [List.getElem?_set_ne hij] at hy; exact .inr ⟨fun e => hij e.symm, hy⟩
    refine ⟨fun i k a b hk ha hb => ?_, fun a ha q => ?_, ⟨fun e => by simp at e, fun e => ?_⟩⟩
    · rcases hget i a ha with ⟨e1, rfl⟩ | ⟨e1, e2⟩ <;> rcases hget k b hb with ⟨f1, rfl⟩ | ⟨f1, f2⟩
      · omega
      · rw [← h2]; subst e1; exact h.dis i k x b hk h1 f2
      · subst f1; rw [← h2]; exact h.dis i k a x hk e2 h1
      · exact h.dis i k a b hk e2 f2
    · obtain ⟨i, hi⟩ := List.mem_iff_getElem?.1 ha
      rw [hl]
      rcases hget i a hi with ⟨e1, rfl⟩ | ⟨e1, e2⟩
      · rw [if_pos rfl]
      · have hne : a.who ≠ v.who := by
          rcases Nat.lt_or_ge i j with hlt | hge
          · rw [← h2]; exact h.dis j i x a hlt h1 e2
          · rw [← h2]; exact fun e => h.dis i j a x (by omega) e2 h1 e.symm
        rw [if_neg fun e => hne e.symm]
        exact h.last a (List.mem_of_getElem? e2) q
    · have := congrArg List.length e
      simp at this
      rw [this] at hj; simp at hj
  · rw [h2]
    refine ⟨fun i k a b hk ha hb => ?_, fun a ha q => ?_, ⟨fun e => by simp at e, fun e => by simp at e⟩⟩
    · have hi := (List.getElem?_eq_some_iff.1 ha).1
      simp at hi
      rw [List.getElem?_append_left (by omega)] at hb
      rcases Nat.lt_or_ge i m.length with hlt | hge
      · rw [List.getElem?_append_left hlt] at ha
        exact h.dis i k a b hk ha hb
      · rw [List.getElem?_append_right hge, show i - m.length = 0 by omega] at ha
        simp at ha
        subst ha
        exact h1 b (List.mem_of_getElem? hb)
    · rw [hl]
      rcases List.mem_append.1 ha with ha | ha
      · rw [if_neg fun e => h1 a ha e.symm]; exact h.last a ha q
      · simp at ha; subst ha; rw [if_pos rfl]

/-! ### the walk -/
theorem callPut0 (v : Vote) : Sound E 11 [.sl true 0 [], .agg (encV v)] [] fun d s => d = .sl false 3 ((putP [] v).map encV) ∧ s = [] := call11n 0 v

abbrev Yes (d : D) (s : Sto) : Prop := d = .bool true ∧ s = []

section
variable (l m : List Vote) (hl : l.length ≤ 200) (hg : Good l m)

noncomputable abbrev tdI : List It := [It.lpc (codeAt (bodyOf Try.f6) [1, 1, 1, 1, 1, 0, 1, 0, 0]) 89, It.blk 2, It.code (codeAt (bodyOf Try.f6) [1, 1, 1, 1, 1, 1])]
noncomputable abbrev stI (i : Int) : Qy := .go { td := tdI, fr := [(0, D.sl false 3 (List.map encV l)), (3, D.bool true), (4, D.sl false 3 (List.map encV m)), (6, D.int IntKind.i64 i)], st := [] }
noncomputable abbrev stK (i k : Int) (q : Vote) : Qy := .go { td := [It.lpc (codeAt (bodyOf Try.f6) [1, 1, 1, 1, 1, 0, 1, 0, 0, 1, 0, 0, 1, 0, 1, 0, 0]) 473, It.blk 4, It.code (codeAt (bodyOf Try.f6) [1, 1, 1, 1, 1, 0, 1, 0, 0, 1, 0, 0, 1, 1]), It.blk 3, It.code (codeAt (bodyOf Try.f6) [1, 1, 1, 1, 1, 0, 1, 0, 0, 1, 1]), It.lp (codeAt (bodyOf Try.f6) [1, 1, 1, 1, 1, 0, 1, 0, 0]) 89, It.blk 2, It.code (codeAt (bodyOf Try.f6) [1, 1, 1, 1, 1, 1])], fr := [(0, D.sl false 3 (List.map encV l)), (3, D.bool true), (4, D.sl false 3 (List.map encV m)), (6, D.int IntKind.i64 i), (7, D.ptr 0 0 0), (8, D.int IntKind.i64 k)], st := [some { sz := 3, deep := false, rows := [encV q] }] }
noncomputable abbrev stJ (i k : Int) : Qy := .go { td := [It.lpc (codeAt (bodyOf Try.f6) [1, 1, 1, 1, 1, 0, 1, 0, 0, 1, 0, 0, 1, 1, 1, 1, 0, 0]) 601, It.blk 6, It.blk 3, It.code (codeAt (bodyOf Try.f6) [1, 1, 1, 1, 1, 0, 1, 0, 0, 1, 1]), It.lp (codeAt (bodyOf Try.f6) [1, 1, 1, 1, 1, 0, 1, 0, 0]) 89, It.blk 2, It.code (codeAt (bodyOf Try.f6) [1, 1, 1, 1, 1, 1])], fr := [(0, D.sl false 3 (List.map encV l)), (3, D.bool true), (4, D.sl false 3 (List.map encV m)), (6, D.int IntKind.i64 i), (9, D.int IntKind.i64 k)], st := [] }

theorem rowGet {l : List Vote} {i : Nat} (h : i < l.length) : (List.map encV l)[(Int.ofNat i).toNat]? = some (encV l[i]) := by simp [h]
theorem inR {l : List Vote} {i : Nat} (h : i < l.length) : (true && decide ((i : Int) < ((List.map encV l).length : Int))) = true := by simp; exact h

end
end Go.RX.Tally
