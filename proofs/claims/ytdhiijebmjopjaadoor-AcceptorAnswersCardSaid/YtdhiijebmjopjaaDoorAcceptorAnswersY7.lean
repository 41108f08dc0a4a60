/-
  Words and walks for AcceptorAnswers. No condition.
-/
import Derived.Test.YtdhiijebmjopjaaDoorAcceptorAnswersY6
set_option linter.unusedSectionVars false
set_option linter.unnecessarySimpa false
set_option linter.unusedSimpArgs false
set_option linter.unusedVariables false
namespace Go.RX.L
open Go Go.RX

def btw (lo hi : Int) (l : List Int) : Bool := l.all fun n => decide (lo ≤ n ∧ n ≤ hi)
theorem btw_cons (lo hi x : Int) (l : List Int) : btw lo hi (x :: l) = (decide (lo ≤ x ∧ x ≤ hi) && btw lo hi l) := rfl
theorem btw_iff {lo hi : Int} {l : List Int} : btw lo hi l = true ↔ ∀ x ∈ l, lo ≤ x ∧ x ≤ hi := by simp [btw]

theorem ix_loop (l : List Int) (lo hi : Int) (hl : l.length < 9223372036854775807) : ∀ (j k : Nat), k + j = l.length → ∃ r : Int, Ev slices_IndexFunc__all_1_step (.s1 l lo hi l.length k) r ∧ decide (r ≥ 0) = !(btw lo hi (l.drop k)) := by
  intro j
  induction j with
  | zero =>
    intro k hk
    refine ⟨-1, .done ?_, ?_⟩
    · simp [slices_IndexFunc__all_1_step, slices_IndexFunc__all_1_1, show ¬ (k : Int) < l.length by omega]
    · rw [List.drop_eq_nil_of_le (by omega)]; rfl
  | succ j ih =>
    intro k hk
    have hlt : k < l.length := by omega
    rw [List.drop_eq_getElem_cons hlt, btw_cons]
    by_cases h : lo ≤ l[k] ∧ l[k] ≤ hi
    · obtain ⟨r, h1, h2⟩ := ih (k + 1) (by omega)
      refine ⟨r, .next (s' := .s1 l lo hi l.length ((k + 1 : Nat) : Int)) ?_ h1, ?_⟩
      · have e1 : decide (l[k] < lo) = false := by simp; omega
        have e2 : decide (l[k] > hi) = false := by simp; omega
        simp only [slices_IndexFunc__all_1_step, slices_IndexFunc__all_1_1, List.length_map, ltB hlt, le0, Bool.and_self, cond_true, Int.toNat_natCast, List.getE hlt, Option.bind_some, plan_all_1, e1, e2, cond_false, wS (show k < 9223372036854775807 by omega)]
      · rw [h2, decide_eq_true h, Bool.true_and]
    · refine ⟨k, .done ?_, ?_⟩
      · have e : plan_all_1 l[k] lo hi = some true := by
          unfold plan_all_1
          by_cases h1 : l[k] < lo
          · rw [decide_eq_true h1]; rfl
          · have h2 : l[k] > hi := by omega
            rw [decide_eq_false h1, decide_eq_true h2]; rfl
        simp only [slices_IndexFunc__all_1_step, slices_IndexFunc__all_1_1, List.length_map, ltB hlt, le0, Bool.and_self, cond_true, Int.toNat_natCast, List.getE hlt, Option.bind_some, e]
      · rw [decide_eq_false h, Bool.false_and]; simp

theorem all_ok (lo hi : Int) {l : List Int} (hl : l.length < 9223372036854775807) : plan_all lo hi l = some (btw lo hi l) := by
  obtain ⟨r, h1, h2⟩ := ix_loop l lo hi hl l.length 0 (by omega)
  have h3 : slices_IndexFunc__all_1 l lo hi = some r := evf_of (.next (s' := .s1 l lo hi l.length 0) (by simp [slices_IndexFunc__all_1_step, slices_IndexFunc__all_1_0]) h1)
  simp only [plan_all, slices_ContainsFunc__all_1, h3, Option.bind_some, h2]
  simp

theorem ix_v2_loop (l : List Int) (lo hi : Int) (hl : l.length < 9223372036854775807) : ∀ (j k : Nat), k + j = l.length → ∃ r : Int, Ev slices_IndexFunc__all_1_v2_step (.s1 l lo hi l.length k) r ∧ decide (r ≥ 0) = !(btw lo hi (l.drop k)) := by
  intro j
  induction j with
  | zero =>
    intro k hk
    refine ⟨-1, .done ?_, ?_⟩
    · simp [slices_IndexFunc__all_1_v2_step, slices_IndexFunc__all_1_v2_1, show ¬ (k : Int) < l.length by omega]
    · rw [List.drop_eq_nil_of_le (by omega)]; rfl
  | succ j ih =>
    intro k hk
    have hlt : k < l.length := by omega
    rw [List.drop_eq_getElem_cons hlt, btw_cons]
    by_cases h : lo ≤ l[k] ∧ l[k] ≤ hi
    · obtain ⟨r, h1, h2⟩ := ih (k + 1) (by omega)
      refine ⟨r, .next (s' := .s1 l lo hi l.length ((k + 1 : Nat) : Int)) ?_ h1, ?_⟩
      · have e1 : decide (l[k] < lo) = false := by simp; omega
        have e2 : decide (l[k] > hi) = false := by simp; omega
        simp only [slices_IndexFunc__all_1_v2_step, slices_IndexFunc__all_1_v2_1, List.length_map, ltB hlt, le0, Bool.and_self, cond_true, Int.toNat_natCast, List.getE hlt, Option.bind_some, plan_all_1_v2, e1, e2, cond_false, wS (show k < 9223372036854775807 by omega)]
      · rw [h2, decide_eq_true h, Bool.true_and]
    · refine ⟨k, .done ?_, ?_⟩
      · have e : plan_all_1_v2 l[k] lo hi = some true := by
          unfold plan_all_1_v2
          by_cases h1 : l[k] < lo
          · rw [decide_eq_true h1]; rfl
          · have h2 : l[k] > hi := by omega
            rw [decide_eq_false h1, decide_eq_true h2]; rfl
        simp only [slices_IndexFunc__all_1_v2_step, slices_IndexFunc__all_1_v2_1, List.length_map, ltB hlt, le0, Bool.and_self, cond_true, Int.toNat_natCast, List.getE hlt, Option.bind_some, e]
      · rw [decide_eq_false h, Bool.false_and]; simp

theorem all_v2_ok (lo hi : Int) {l : List Int} (hl : l.length < 9223372036854775807) : plan_all_v2 lo hi l = some (btw lo hi l) := by
  obtain ⟨r, h1, h2⟩ := ix_v2_loop l lo hi hl l.length 0 (by omega)
  have h3 : slices_IndexFunc__all_1_v2 l lo hi = some r := evf_of (.next (s' := .s1 l lo hi l.length 0) (by simp [slices_IndexFunc__all_1_v2_step, slices_IndexFunc__all_1_v2_0]) h1)
  simp only [plan_all_v2, slices_ContainsFunc__all_1_v2, h3, Option.bind_some, h2]
  simp

theorem eq_loop (a b : List Int) (hl : a.length < 9223372036854775807) (hab : a.length = b.length) : ∀ (j k : Nat), k + j = a.length → Ev slices_Equal_step (.s1 a b a.length k) (decide (a.drop k = b.drop k)) := by
  intro j
  induction j with
  | zero =>
    intro k hk
    refine .done ?_
    rw [List.drop_eq_nil_of_le (by omega), List.drop_eq_nil_of_le (by omega)]
    simp [slices_Equal_step, slices_Equal_1, show ¬ (k : Int) < a.length by omega]
  | succ j ih =>
    intro k hk
    have h1 : k < a.length := by omega
    have h2 : k < b.length := by omega
    rw [List.drop_eq_getElem_cons h1, List.drop_eq_getElem_cons h2]
    by_cases h : a[k] = b[k]
    · refine .next (s' := .s1 a b a.length ((k + 1 : Nat) : Int)) ?_ ?_
      · have e : (a[k] != b[k]) = false := by simp [h]
        simp only [slices_Equal_step, slices_Equal_1, List.length_map, ltB h1, ltB h2, le0, Bool.and_self, cond_true, Int.toNat_natCast, List.getE h1, List.getE h2, Option.bind_some, e, cond_false, wS (show k < 9223372036854775807 by omega)]
      · rw [show (decide (a[k] :: a.drop (k + 1) = b[k] :: b.drop (k + 1))) = decide (a.drop (k + 1) = b.drop (k + 1)) by simp only [h, List.cons.injEq, true_and]]
        exact ih (k + 1) (by omega)
    · refine .done ?_
      have e : (a[k] != b[k]) = true := by simp [h]
      simp only [slices_Equal_step, slices_Equal_1, List.length_map, ltB h1, ltB h2, le0, Bool.and_self, cond_true, Int.toNat_natCast, List.getE h1, List.getE h2, Option.bind_some, e]
      rw [show (decide (a[k] :: a.drop (k + 1) = b[k] :: b.drop (k + 1))) = false by simp only [h, List.cons.injEq, false_and, decide_false]]

theorem equal_ok {a b : List Int} (hl : a.length < 9223372036854775807) : slices_Equal a b = some (decide (a = b)) := by
  by_cases hab : a.length = b.length
  · refine evf_of (.next (s' := .s1 a b a.length 0) (by simp [slices_Equal_step, slices_Equal_0, hab]) ?_)
    simpa using eq_loop a b hl hab a.length 0 (by omega)
  · refine evf_of (.done ?_)
    have e : (((a.length : Nat) : Int) != ((b.length : Nat) : Int)) = true := by simp; omega
    have hne : a ≠ b := fun h => hab (by rw [h])
    simp [slices_Equal_step, slices_Equal_0, e, hne]

theorem eq_v2_loop (a b : List Int) (hl : a.length < 9223372036854775807) (hab : a.length = b.length) : ∀ (j k : Nat), k + j = a.length → Ev slices_Equal_v2_step (.s1 a b a.length k) (decide (a.drop k = b.drop k)) := by
  intro j
  induction j with
  | zero =>
    intro k hk
    refine .done ?_
    rw [List.drop_eq_nil_of_le (by omega), List.drop_eq_nil_of_le (by omega)]
    simp [slices_Equal_v2_step, slices_Equal_v2_1, show ¬ (k : Int) < a.length by omega]
  | succ j ih =>
    intro k hk
    have h1 : k < a.length := by omega
    have h2 : k < b.length := by omega
    rw [List.drop_eq_getElem_cons h1, List.drop_eq_getElem_cons h2]
    by_cases h : a[k] = b[k]
    · refine .next (s' := .s1 a b a.length ((k + 1 : Nat) : Int)) ?_ ?_
      · have e : (a[k] != b[k]) = false := by simp [h]
        simp only [slices_Equal_v2_step, slices_Equal_v2_1, List.length_map, ltB h1, ltB h2, le0, Bool.and_self, cond_true, Int.toNat_natCast, List.getE h1, List.getE h2, Option.bind_some, e, cond_false, wS (show k < 9223372036854775807 by omega)]
      · rw [show (decide (a[k] :: a.drop (k + 1) = b[k] :: b.drop (k + 1))) = decide (a.drop (k + 1) = b.drop (k + 1)) by simp only [h, List.cons.injEq, true_and]]
        exact ih (k + 1) (by omega)
    · refine .done ?_
      have e : (a[k] != b[k]) = true := by simp [h]
      simp only [slices_Equal_v2_step, slices_Equal_v2_1, List.length_map, ltB h1, ltB h2, le0, Bool.and_self, cond_true, Int.toNat_natCast, List.getE h1, List.getE h2, Option.bind_some, e]
      rw [show (decide (a[k] :: a.drop (k + 1) = b[k] :: b.drop (k + 1))) = false by simp only [h, List.cons.injEq, false_and, decide_false]]

theorem equal_v2_ok {a b : List Int} (hl : a.length < 9223372036854775807) : slices_Equal_v2 a b = some (decide (a = b)) := by
  by_cases hab : a.length = b.length
  · refine evf_of (.next (s' := .s1 a b a.length 0) (by simp [slices_Equal_v2_step, slices_Equal_v2_0, hab]) ?_)
    simpa using eq_v2_loop a b hl hab a.length 0 (by omega)
  · refine evf_of (.done ?_)
    have e : (((a.length : Nat) : Int) != ((b.length : Nat) : Int)) = true := by simp; omega
    have hne : a ≠ b := fun h => hab (by rw [h])
    simp [slices_Equal_v2_step, slices_Equal_v2_0, e, hne]

def srtB (l : List Int) (n : Nat) : Bool := (List.range n).all fun i => decide (l.getD i 0 ≤ l.getD (i + 1) 0)
def srt (l : List Int) : Bool := srtB l (l.length - 1)
theorem srtB_succ (l : List Int) (n : Nat) : srtB l (n + 1) = (srtB l n && decide (l.getD n 0 ≤ l.getD (n + 1) 0)) := by
  simp [srtB, List.range_succ, Bool.and_comm]

theorem sorted_loop (l : List Int) (hl : l.length < 9223372036854775807) : ∀ (i : Nat), i < l.length ∨ i = 0 → Ev slices_IsSorted_step (.s1 l i) (srtB l i)
  | 0, _ => .done (by simp [slices_IsSorted_step, slices_IsSorted_1, srtB])
  | i + 1, h => by
    have h1 : i + 1 < l.length := by omega
    have h0 : i < l.length := by omega
    have e0 : decide (((i + 1 : Nat) : Int) > 0) = true := decide_eq_true (by omega)
    have e1 : IntKind.i64.wrap (((i + 1 : Nat) : Int) - 1) = (i : Int) := by rw [wI64 (by omega) (by omega)]; omega
    have less : ∀ x y : Int, cmp_Less x y = some (decide (x < y)) := fun x y => by
      simp only [cmp_Less, cmp_isNaN, Option.bind_some]
      simp
    rw [srtB_succ]
    have g1 : l.getD i 0 = l[i] := by simp [h0]
    have g2 : l.getD (i + 1) 0 = l[i + 1] := by simp [h1]
    rw [g1, g2]
    by_cases hle : l[i] ≤ l[i + 1]
    · rw [decide_eq_true hle, Bool.and_true]
      refine .next (s' := .s1 l i) ?_ (sorted_loop l hl i (.inl h0))
      have e2 : decide (l[i + 1] < l[i]) = false := by simp; omega
      simp only [slices_IsSorted_step, slices_IsSorted_1, List.length_map, e0, e1, ltB h0, ltB h1, le0, Bool.and_self, cond_true, Int.toNat_natCast, List.getE h0, List.getE h1, Option.bind_some, less, e2, cond_false]
    · rw [decide_eq_false hle, Bool.and_false]
      refine .done ?_
      have e2 : decide (l[i + 1] < l[i]) = true := by simp; omega
      simp only [slices_IsSorted_step, slices_IsSorted_1, List.length_map, e0, e1, ltB h0, ltB h1, le0, Bool.and_self, cond_true, Int.toNat_natCast, List.getE h0, List.getE h1, Option.bind_some, less, e2]

theorem sorted_ok {l : List Int} (hl : l.length < 9223372036854775807) : slices_IsSorted l = some (srt l) := by
  by_cases h0 : l.length = 0
  · have : l = [] := List.eq_nil_of_length_eq_zero h0
    subst this
    refine evf_of (.next (s' := .s1 [] (-1)) (by simp [slices_IsSorted_step, slices_IsSorted_0]; rfl) (.done (by simp [slices_IsSorted_step, slices_IsSorted_1, srt, srtB])))
  · refine evf_of (.next (s' := .s1 l ((l.length - 1 : Nat) : Int)) ?_ (sorted_loop l hl (l.length - 1) (.inl (by omega))))
    have : IntKind.i64.wrap ((l.length : Int) - 1) = ((l.length - 1 : Nat) : Int) := by rw [wI64 (by omega) (by omega)]; omega
    simp [slices_IsSorted_step, slices_IsSorted_0, this]

/-! ### right -/
def right0 (p : Plan) : Bool := decide (0 ≤ p.Epoch) && (btw (-1) 15 [p.Target, p.Prev, p.Spill] && btw 0 100 [p.Percent])
def right1 (p : Plan) : Bool := btw 0 1099511627776 [p.Stamp, p.Since, p.Ramped] && (decide (p.Up ≤ 65535) && decide (p.Sup ≤ 65535))
def right2 (p : Plan) : Bool := decide (p.Pen.length ≤ 16) && decide (p.Changes.length ≤ 8)
def right3 (p : Plan) : Bool := btw 0 1000000 p.Pen && (btw 0 1099511627776 p.Changes && srt p.Changes)
def rightP (p : Plan) : Bool := right0 p && (right1 p && (right2 p && right3 p))

structure Rt (p : Plan) : Prop where
  epoch : 0 ≤ p.Epoch
  tps : ∀ x ∈ [p.Target, p.Prev, p.Spill], -1 ≤ x ∧ x ≤ 15
  pc : 0 ≤ p.Percent ∧ p.Percent ≤ 100
  times : ∀ x ∈ [p.Stamp, p.Since, p.Ramped], 0 ≤ x ∧ x ≤ 1099511627776
  up : p.Up ≤ 65535
  sup : p.Sup ≤ 65535
  penl : p.Pen.length ≤ 16
  chl : p.Changes.length ≤ 8
  pen : ∀ x ∈ p.Pen, 0 ≤ x ∧ x ≤ 1000000
  ch : ∀ x ∈ p.Changes, 0 ≤ x ∧ x ≤ 1099511627776
  srt : srt p.Changes = true

theorem rightP_iff {p : Plan} : rightP p = true ↔ Rt p := by
  constructor
  · intro h
    simp only [rightP, right0, right1, right2, right3, Bool.and_eq_true, decide_eq_true_eq, btw_iff] at h
    obtain ⟨⟨a1, a2, a3⟩, ⟨b1, b2, b3⟩, ⟨c1, c2⟩, d1, d2, d3⟩ := h
    exact ⟨a1, a2, a3 _ (by simp), b1, b2, b3, c1, c2, d1, d2, d3⟩
  · rintro ⟨a1, a2, a3, b1, b2, b3, c1, c2, d1, d2, d3⟩
    simp only [rightP, right0, right1, right2, right3, Bool.and_eq_true, decide_eq_true_eq, btw_iff]
    exact ⟨⟨a1, a2, fun x hx => by simp at hx; subst hx; exact a3⟩, ⟨b1, b2, b3⟩, ⟨c1, c2⟩, d1, d2, d3⟩

/-- Short enough. -/
structure Shrt (a : Plan) : Prop where
  pen : a.Pen.length < 9223372036854775807
  ch : a.Changes.length < 9223372036854775807
theorem short {l : List Int} (h : l.length * 8 ≤ reachBytes) : l.length < 9223372036854775807 := by
  have : reachBytes ≤ 9223372036854775807 := by decide
  omega
theorem Plan.Ok.shrt {a : Plan} (h : a.Ok) : Shrt a := by
  obtain ⟨-, -, -, -, -, -, -, -, -, -, h1, h2⟩ := h
  exact ⟨short h1.1, short h2.1⟩
theorem Rt.shrt {p : Plan} (h : Rt p) : Shrt p := ⟨by have := h.penl; omega, by have := h.chl; omega⟩

theorem right_ok {p : Plan} (hs : Shrt p) (hu : 0 ≤ p.Up) (hv : 0 ≤ p.Sup) : plan_Right p = some (rightP p) := by
  have k1 : plan_Right_1 false p = some (right3 p) := by
    simp only [plan_Right_1, cond_false, all_v2_ok 0 1000000 hs.pen, all_ok 0 1099511627776 hs.ch, sorted_ok hs.ch, Option.bind_some, right3]
    cases btw 0 1000000 p.Pen <;> cases btw 0 1099511627776 p.Changes <;> cases srt p.Changes <;> rfl
  have k2 : plan_Right_2 false p = some (right2 p && right3 p) := by
    simp only [plan_Right_2, cond_false, List.length_map, right2]
    by_cases h1 : p.Pen.length ≤ 16
    · have e1 : decide (((p.Pen.length : Nat) : Int) > 16) = false := by simp; omega
      rw [e1, decide_eq_true h1]
      by_cases h2 : p.Changes.length ≤ 8
      · have e2 : decide (((p.Changes.length : Nat) : Int) > 8) = false := by simp; omega
        rw [e2, decide_eq_true h2, cond_false, k1]; rfl
      · have e2 : decide (((p.Changes.length : Nat) : Int) > 8) = true := by simp; omega
        rw [e2, decide_eq_false h2]; rfl
    · have e1 : decide (((p.Pen.length : Nat) : Int) > 16) = true := by simp; omega
      rw [e1, decide_eq_false h1]; rfl
  have k3 : plan_Right_3 false p = some (right1 p && (right2 p && right3 p)) := by
    simp only [plan_Right_3, cond_false, all_ok 0 1099511627776 (l := [p.Stamp, p.Since, p.Ramped]) (by simp), Option.bind_some, right1]
    cases hb : btw 0 1099511627776 [p.Stamp, p.Since, p.Ramped] with
    | false => rfl
    | true =>
      have e : decide (mxI p.Up p.Sup ≥ 65536) = !(decide (p.Up ≤ 65535) && decide (p.Sup ≤ 65535)) := by
        unfold mxI
        by_cases h1 : p.Up ≤ 65535 <;> by_cases h2 : p.Sup ≤ 65535 <;> simp [h1, h2] <;> split <;> omega
      simp only [Bool.not_true, cond_false, e]
      cases (decide (p.Up ≤ 65535) && decide (p.Sup ≤ 65535)) with
      | false => rfl
      | true => simp only [Bool.not_true, k2]; rfl
  simp only [plan_Right, rightP, right0]
  by_cases h0 : p.Epoch < 0
  · rw [decide_eq_true h0, decide_eq_false (by omega : ¬ 0 ≤ p.Epoch)]; rfl
  · rw [decide_eq_false h0, decide_eq_true (by omega : 0 ≤ p.Epoch)]
    simp only [cond_false, all_v2_ok (-1) 15 (l := [p.Target, p.Prev, p.Spill]) (by simp), all_v2_ok 0 100 (l := [p.Percent]) (by simp), Option.bind_some]
    cases btw (-1) 15 [p.Target, p.Prev, p.Spill] with
    | false => rfl
    | true =>
      cases btw 0 100 [p.Percent] with
      | false => rfl
      | true => simp only [Bool.not_true, cond_false, k3]; rfl

theorem in_ok (n lo hi : Int) : ref04_in n lo hi = some (decide (lo ≤ n ∧ n ≤ hi)) := by
  unfold ref04_in
  by_cases h : n ≥ lo
  · by_cases h2 : n ≤ hi
    · rw [decide_eq_true h, decide_eq_true h2, decide_eq_true ⟨h, h2⟩]; rfl
    · rw [decide_eq_true h, decide_eq_false h2, decide_eq_false (p := lo ≤ n ∧ n ≤ hi) (by omega)]; rfl
  · rw [decide_eq_false h, decide_eq_false (p := lo ≤ n ∧ n ≤ hi) (by omega)]; rfl

theorem rpen_loop {p : Plan} (hs : Shrt p) {r : Bool} (h4 : Ev ref04_Right_step (.s4 0 p) r) : ∀ (j k : Nat), k + j = p.Pen.length → Ev ref04_Right_step (.s3 k p) (btw 0 1000000 (p.Pen.drop k) && r) := by
  intro j
  induction j with
  | zero =>
    intro k hk
    rw [List.drop_eq_nil_of_le (by omega)]
    refine .next (s' := .s4 0 p) ?_ h4
    simp only [ref04_Right_step, ref04_Right_3, List.length_map, geB (show p.Pen.length ≤ k by omega), cond_false]
  | succ j ih =>
    intro k hk
    have hlt : k < p.Pen.length := by omega
    have := hs.pen
    rw [List.drop_eq_getElem_cons hlt, btw_cons]
    by_cases h1 : p.Pen[k] < 0
    · rw [decide_eq_false (by omega), Bool.false_and, Bool.false_and]
      refine .done ?_
      simp only [ref04_Right_step, ref04_Right_3, List.length_map, ltB hlt, le0, Bool.and_self, cond_true, Int.toNat_natCast, List.getE hlt, Option.bind_some, decide_eq_true h1]
    · by_cases h2 : p.Pen[k] > 1000000
      · rw [decide_eq_false (by omega), Bool.false_and, Bool.false_and]
        refine .done ?_
        simp only [ref04_Right_step, ref04_Right_3, List.length_map, ltB hlt, le0, Bool.and_self, cond_true, Int.toNat_natCast, List.getE hlt, Option.bind_some, decide_eq_false h1, cond_false, decide_eq_true h2]
      · rw [decide_eq_true (by omega), Bool.true_and]
        refine .next (s' := .s3 ((k + 1 : Nat) : Int) p) ?_ (ih (k + 1) (by omega))
        simp only [ref04_Right_step, ref04_Right_3, List.length_map, ltB hlt, le0, Bool.and_self, cond_true, Int.toNat_natCast, List.getE hlt, Option.bind_some, decide_eq_false h1, cond_false, decide_eq_false h2, wS (show k < 9223372036854775807 by omega)]

def chk (l : List Int) : Nat → Nat → Bool
  | _, 0 => true
  | k, j + 1 => decide (0 ≤ l.getD k 0 ∧ l.getD k 0 ≤ 1099511627776) && ((decide (k = 0) || decide (l.getD (k - 1) 0 ≤ l.getD k 0)) && chk l (k + 1) j)

theorem rch_loop {p : Plan} (hs : Shrt p) : ∀ (j k : Nat), k + j = p.Changes.length → Ev ref04_Right_step (.s4 k p) (chk p.Changes k j) := by
  intro j
  have hl := hs.ch
  induction j with
  | zero =>
    intro k hk
    refine .done ?_
    simp only [ref04_Right_step, ref04_Right_4, List.length_map, geB (show p.Changes.length ≤ k by omega), cond_false, chk]
  | succ j ih =>
    intro k hk
    have hlt : k < p.Changes.length := by omega
    have g : p.Changes.getD k 0 = p.Changes[k] := by simp [hlt]
    simp only [chk, g]
    by_cases h1 : 0 ≤ p.Changes[k] ∧ p.Changes[k] ≤ 1099511627776
    · rw [decide_eq_true h1, Bool.true_and]
      have hin : ref04_in p.Changes[k] 0 1099511627776 = some true := by rw [in_ok, decide_eq_true h1]
      cases k with
      | zero =>
        simp only [decide_true, Bool.true_or, Bool.true_and]
        refine .next (s' := .s4 ((0 + 1 : Nat) : Int) p) ?_ (ih 1 (by omega))
        have := ltB hlt
        simp only [ref04_Right_step, ref04_Right_4, List.length_map, ltB hlt, le0, Bool.and_self, cond_true, Int.toNat_natCast, List.getE hlt, Option.bind_some, hin, Bool.not_true, cond_false, wS (show 0 < 9223372036854775807 by omega)]
        rfl
      | succ k =>
        have hk0 : k < p.Changes.length := by omega
        have e0 : decide (((k + 1 : Nat) : Int) > 0) = true := decide_eq_true (by omega)
        have e1 : IntKind.i64.wrap (((k + 1 : Nat) : Int) - 1) = (k : Int) := by rw [wI64 (by omega) (by omega)]; omega
        have g0 : p.Changes.getD (k + 1 - 1) 0 = p.Changes[k] := by simp [hk0]
        rw [g0, decide_eq_false (by omega : ¬ k + 1 = 0), Bool.false_or]
        by_cases h2 : p.Changes[k] ≤ p.Changes[k + 1]
        · rw [decide_eq_true h2, Bool.true_and]
          refine .next (s' := .s4 ((k + 1 + 1 : Nat) : Int) p) ?_ (ih (k + 2) (by omega))
          have e2 : decide (p.Changes[k] > p.Changes[k + 1]) = false := by simp; omega
          simp only [ref04_Right_step, ref04_Right_4, List.length_map, ltB hlt, ltB hk0, le0, Bool.and_self, cond_true, Int.toNat_natCast, List.getE hlt, List.getE hk0, Option.bind_some, hin, Bool.not_true, cond_false, e0, e1, e2, wS (show k + 1 < 9223372036854775807 by omega)]
        · rw [decide_eq_false h2, Bool.false_and]
          refine .done ?_
          have e2 : decide (p.Changes[k] > p.Changes[k + 1]) = true := by simp; omega
          simp only [ref04_Right_step, ref04_Right_4, List.length_map, ltB hlt, ltB hk0, le0, Bool.and_self, cond_true, Int.toNat_natCast, List.getE hlt, List.getE hk0, Option.bind_some, hin, Bool.not_true, cond_false, e0, e1, e2]
    · rw [decide_eq_false h1, Bool.false_and]
      refine .done ?_
      have hin : ref04_in p.Changes[k] 0 1099511627776 = some false := by rw [in_ok, decide_eq_false h1]
      simp only [ref04_Right_step, ref04_Right_4, List.length_map, ltB hlt, le0, Bool.and_self, cond_true, Int.toNat_natCast, List.getE hlt, Option.bind_some, hin, Bool.not_false]

theorem chk_iff {l : List Int} : ∀ (j k : Nat), k + j = l.length → (chk l k j = true ↔ (∀ x ∈ l.drop k, 0 ≤ x ∧ x ≤ 1099511627776) ∧ ∀ i, k ≤ i → 0 < i → i < l.length → l.getD (i - 1) 0 ≤ l.getD i 0)
  | 0, k, hk => by
    rw [List.drop_eq_nil_of_le (by omega)]
    simp only [chk, true_iff]
    exact ⟨fun x hx => by simp at hx, fun i h1 h2 h3 => by omega⟩
  | j + 1, k, hk => by
    have hlt : k < l.length := by omega
    have ih := chk_iff (l := l) j (k + 1) (by omega)
    have g : l.getD k 0 = l[k] := by simp [hlt]
    simp only [chk, Bool.and_eq_true, Bool.or_eq_true, decide_eq_true_eq, ih]
    rw [List.drop_eq_getElem_cons hlt, g]
    constructor
    · rintro ⟨h1, h2, h3, h4⟩
      refine ⟨fun x hx => ?_, fun i i1 i2 i3 => ?_⟩
      · rcases List.mem_cons.1 hx with rfl | hx
        · exact h1
        · exact h3 x hx
      · rcases Nat.lt_or_ge k i with h | h
        · exact h4 i h i2 i3
        · have : i = k := by omega
          subst this
          rw [g]
          exact h2.resolve_left (by omega)
    · rintro ⟨h1, h2⟩
      refine ⟨h1 _ (List.mem_cons_self ..), ?_, fun x hx => h1 x (List.mem_cons_of_mem _ hx), fun i i1 i2 i3 => h2 i (by omega) i2 i3⟩
      rcases Nat.eq_zero_or_pos k with h | h
      · exact .inl h
      · have := h2 k (Nat.le_refl _) h hlt
        rw [g] at this
        exact .inr this

theorem srt_iff {l : List Int} : srt l = true ↔ ∀ i, 0 < i → i < l.length → l.getD (i - 1) 0 ≤ l.getD i 0 := by
  simp only [srt, srtB, List.all_eq_true, List.mem_range, decide_eq_true_eq]
  constructor
  · intro h i h1 h2
    have := h (i - 1) (by omega)
    rwa [show i - 1 + 1 = i by omega] at this
  · intro h i hi
    have := h (i + 1) (by omega) (by omega)
    simpa using this

theorem chk_all (l : List Int) : chk l 0 l.length = (btw 0 1099511627776 l && srt l) := by
  have h1 := chk_iff (l := l) l.length 0 (by omega)
  rw [Bool.eq_iff_iff, h1, Bool.and_eq_true, btw_iff, srt_iff]
  simp only [List.drop_zero, Nat.zero_le, true_implies]

theorem rright_ok {p : Plan} (hs : Shrt p) : ref04_Right p = some (rightP p) := by
  have h4 := rch_loop hs p.Changes.length 0 (by omega)
  rw [chk_all] at h4
  have h3 := rpen_loop hs h4 p.Pen.length 0 (by omega)
  rw [List.drop_zero] at h3
  have h2 : Ev ref04_Right_step (.s2 (!(right2 p)) p) (right2 p && right3 p) := by
    cases hr : right2 p with
    | false => exact .done rfl
    | true => exact .next (s' := .s3 0 p) rfl h3
  have h2t : Ev ref04_Right_step (.s2 true p) false := .done rfl
  have h1 : Ev ref04_Right_step (.s1 false p) (right1 p && (right2 p && right3 p)) := by
    simp only [right1, btw_cons]
    by_cases c1 : 0 ≤ p.Stamp ∧ p.Stamp ≤ 1099511627776
    · rw [decide_eq_true c1]
      by_cases c2 : 0 ≤ p.Since ∧ p.Since ≤ 1099511627776
      · rw [decide_eq_true c2]
        by_cases c3 : 0 ≤ p.Ramped ∧ p.Ramped ≤ 1099511627776
        · rw [decide_eq_true c3]
          by_cases c4 : p.Up ≤ 65535
          · rw [decide_eq_true c4]
            have d4 : decide (p.Up > 65535) = false := by simp; omega
            by_cases c5 : p.Sup ≤ 65535
            · rw [decide_eq_true c5]
              have d5 : decide (p.Sup > 65535) = false := by simp; omega
              refine .next (s' := .s2 (!(right2 p)) p) ?_ (by simpa [btw] using h2)
              simp only [ref04_Right_step, ref04_Right_1, cond_false, in_ok, decide_eq_true c1, decide_eq_true c2, decide_eq_true c3, Option.bind_some, Bool.not_true, d4, d5, List.length_map, right2]
              by_cases c6 : p.Pen.length ≤ 16
              · have d6 : decide (((p.Pen.length : Nat) : Int) > 16) = false := by simp; omega
                rw [d6, decide_eq_true c6]
                have d7 : decide (((p.Changes.length : Nat) : Int) > 8) = !(decide (p.Changes.length ≤ 8)) := by
                  by_cases c7 : p.Changes.length ≤ 8 <;> simp [c7] <;> omega
                rw [d7]; rfl
              · have d6 : decide (((p.Pen.length : Nat) : Int) > 16) = true := by simp; omega
                rw [d6, decide_eq_false c6]; rfl
            · rw [decide_eq_false c5]
              have d5 : decide (p.Sup > 65535) = true := by simp; omega
              refine .next (s' := .s2 true p) ?_ (by simpa [btw] using h2t)
              simp only [ref04_Right_step, ref04_Right_1, cond_false, in_ok, decide_eq_true c1, decide_eq_true c2, decide_eq_true c3, Option.bind_some, Bool.not_true, d4, d5, cond_true]
          · rw [decide_eq_false c4]
            have d4 : decide (p.Up > 65535) = true := by simp; omega
            refine .next (s' := .s2 true p) ?_ (by simpa [btw] using h2t)
            simp only [ref04_Right_step, ref04_Right_1, cond_false, in_ok, decide_eq_true c1, decide_eq_true c2, decide_eq_true c3, Option.bind_some, Bool.not_true, d4, cond_true]
        · rw [decide_eq_false c3]
          refine .next (s' := .s2 true p) ?_ (by simpa [btw] using h2t)
          simp only [ref04_Right_step, ref04_Right_1, cond_false, in_ok, decide_eq_true c1, decide_eq_true c2, decide_eq_false c3, Option.bind_some, Bool.not_true, Bool.not_false, cond_true]
      · rw [decide_eq_false c2]
        refine .next (s' := .s2 true p) ?_ (by simpa [btw] using h2t)
        simp only [ref04_Right_step, ref04_Right_1, cond_false, in_ok, decide_eq_true c1, decide_eq_false c2, Option.bind_some, Bool.not_true, Bool.not_false, cond_true]
    · rw [decide_eq_false c1]
      refine .next (s' := .s2 true p) ?_ (by simpa [btw] using h2t)
      simp only [ref04_Right_step, ref04_Right_1, cond_false, in_ok, decide_eq_false c1, Option.bind_some, Bool.not_false, cond_true]
  have h1t : Ev ref04_Right_step (.s1 true p) false := .done rfl
  have h0 : ref04_Right_step (.s0 p) = some (.inl (.s1 (!(right0 p)) p)) := by
    simp only [ref04_Right_step, ref04_Right_0, right0, btw_cons]
    by_cases c0 : p.Epoch < 0
    · rw [decide_eq_true c0, decide_eq_false (by omega : ¬ 0 ≤ p.Epoch)]; rfl
    rw [decide_eq_false c0, decide_eq_true (by omega : 0 ≤ p.Epoch)]
    by_cases c1 : p.Target < -1
    · rw [decide_eq_true c1, decide_eq_false (by omega : ¬ (-1 ≤ p.Target ∧ p.Target ≤ 15))]; rfl
    rw [decide_eq_false c1]
    by_cases c2 : p.Target ≥ 16
    · rw [decide_eq_true c2, decide_eq_false (by omega : ¬ (-1 ≤ p.Target ∧ p.Target ≤ 15))]; rfl
    rw [decide_eq_false c2, decide_eq_true (by omega : -1 ≤ p.Target ∧ p.Target ≤ 15)]
    by_cases c3 : p.Prev < -1
    · rw [decide_eq_true c3, decide_eq_false (by omega : ¬ (-1 ≤ p.Prev ∧ p.Prev ≤ 15))]; rfl
    rw [decide_eq_false c3]
    by_cases c4 : p.Prev ≥ 16
    · rw [decide_eq_true c4, decide_eq_false (by omega : ¬ (-1 ≤ p.Prev ∧ p.Prev ≤ 15))]; rfl
    rw [decide_eq_false c4, decide_eq_true (by omega : -1 ≤ p.Prev ∧ p.Prev ≤ 15)]
    by_cases c5 : p.Spill < -1
    · rw [decide_eq_true c5, decide_eq_false (by omega : ¬ (-1 ≤ p.Spill ∧ p.Spill ≤ 15))]; rfl
    rw [decide_eq_false c5]
    by_cases c6 : p.Spill ≥ 16
    · rw [decide_eq_true c6, decide_eq_false (by omega : ¬ (-1 ≤ p.Spill ∧ p.Spill ≤ 15))]; rfl
    rw [decide_eq_false c6, decide_eq_true (by omega : -1 ≤ p.Spill ∧ p.Spill ≤ 15)]
    by_cases c7 : p.Percent < 0
    · rw [decide_eq_true c7, decide_eq_false (by omega : ¬ (0 ≤ p.Percent ∧ p.Percent ≤ 100))]; rfl
    rw [decide_eq_false c7]
    by_cases c8 : p.Percent > 100
    · rw [decide_eq_true c8, decide_eq_false (by omega : ¬ (0 ≤ p.Percent ∧ p.Percent ≤ 100))]; rfl
    rw [decide_eq_false c8, decide_eq_true (by omega : 0 ≤ p.Percent ∧ p.Percent ≤ 100)]; rfl
  refine evf_of (.next h0 ?_)
  unfold rightP
  cases right0 p with
  | false => exact h1t
  | true => exact h1
end Go.RX.L

set_option linter.unusedSimpArgs false
set_option linter.unusedVariables false
namespace Go.RX.L
open Go Go.RX

/-- A plan of words. -/
structure Fine (p : Plan) : Prop where
  e : inK .i64 p.Epoch
  up : 0 ≤ p.Up
  sup : 0 ≤ p.Sup
  s : Shrt p
theorem Plan.Ok.fine {p : Plan} (h : p.Ok) : Fine p := by
  have hs := h.shrt
  obtain ⟨a, -, -, -, -, -, -, -, b, c, -, -⟩ := h
  exact ⟨a, (inU64.1 b).1, (inU64.1 c).1, hs⟩

def nums (p : Plan) : List Int := [p.Epoch, p.Target, p.Prev, p.Spill, p.Percent, p.Stamp, p.Since, p.Ramped, p.Up, p.Sup]
def encP (p : Plan) : List Int := encL (nums p) ++ (encL p.Pen ++ encL p.Changes)

theorem nums_in {p : Plan} (hf : Fine p) (h : Rt p) : I64s (nums p) := by
  have t1 := h.tps p.Target (by simp)
  have t2 := h.tps p.Prev (by simp)
  have t3 := h.tps p.Spill (by simp)
  have u1 := h.times p.Stamp (by simp)
  have u2 := h.times p.Since (by simp)
  have u3 := h.times p.Ramped (by simp)
  have v1 := h.up
  have v2 := h.sup
  have v3 := hf.up
  have v4 := hf.sup
  have pc := h.pc
  intro x hx
  simp only [nums, List.mem_cons, List.not_mem_nil, or_false] at hx
  rcases hx with rfl | rfl | rfl | rfl | rfl | rfl | rfl | rfl | rfl | rfl
  · exact hf.e
  all_goals exact inI64.2 (by omega)
theorem pen_in {p : Plan} (h : Rt p) : I64s p.Pen := fun x hx => inI64.2 (by have := h.pen x hx; omega)
theorem ch_in {p : Plan} (h : Rt p) : I64s p.Changes := fun x hx => inI64.2 (by have := h.ch x hx; omega)

theorem encP_bytes (p : Plan) : Bytes (encP p) := fun c hc => by
  rcases List.mem_append.1 hc with h | h
  · exact encL_bytes _ c h
  · rcases List.mem_append.1 h with h | h <;> exact encL_bytes _ c h
theorem encP_len {p : Plan} (hf : Fine p) (h : Rt p) : (encP p).length ≤ 1950 := by
  have h1 := encL_len (nums_in hf h) (by simp [nums])
  have h2 := encL_len (pen_in h) (by have := h.penl; omega)
  have h3 := encL_len (ch_in h) (by have := h.chl; omega)
  simp only [encP, List.length_append]; omega

/-! ### written -/
def putP (p : Plan) : List Int × Int := if rightP p = true then (encP p, 0) else ([], 41)

theorem put_s2 {l0 l1 l2 : List Int} (h0 : I64s l0) (h1 : I64s l1) (h2 : I64s l2) (k0 : l0.length ≤ 64) (k1 : l1.length ≤ 64) (k2 : l2.length ≤ 64) : Ev plan_Put_step (.s2 0 [] [l0, l1, l2]) (encL l0 ++ (encL l1 ++ encL l2), 0) := by
  have n0 := encL_len h0 k0
  have n1 := encL_len h1 k1
  have n2 := encL_len h2 k2
  refine .next (s' := .s2 1 (encL l0) [l0, l1, l2]) ?_ (.next (s' := .s2 2 (encL l0 ++ encL l1) [l0, l1, l2]) ?_ (.next (s' := .s2 3 (encL l0 ++ encL l1 ++ encL l2) [l0, l1, l2]) ?_ (.done ?_)))
  · have hl : decide (((List.map (eInt .u8) ([] : List Int)).length + (List.map (eInt .u8) (encL l0)).length) * 1 ≤ bytesLim) = true := limOk (by simp; omega)
    simp only [plan_Put_step, plan_Put_2, take_full]
    simp only [show (0 + (0 : Int).toNat) = 0 from rfl, List.getElem?_cons_zero, Option.bind_some, putInts_ok h0 k0, hl]
    rfl
  · have hl : decide (((List.map (eInt .u8) (encL l0)).length + (List.map (eInt .u8) (encL l1)).length) * 1 ≤ bytesLim) = true := limOk (by simp; omega)
    simp only [plan_Put_step, plan_Put_2, take_full]
    simp only [show (0 + (1 : Int).toNat) = 1 from rfl, List.getElem?_cons_succ, List.getElem?_cons_zero, Option.bind_some, putInts_ok h1 k1, hl]
    rfl
  · have hl : decide (((List.map (eInt .u8) (encL l0 ++ encL l1)).length + (List.map (eInt .u8) (encL l2)).length) * 1 ≤ bytesLim) = true := limOk (by simp; omega)
    simp only [plan_Put_step, plan_Put_2, take_full]
    simp only [show (0 + (2 : Int).toNat) = 2 from rfl, List.getElem?_cons_succ, List.getElem?_cons_zero, Option.bind_some, putInts_ok h2 k2, hl]
    rfl
  · rw [List.append_assoc]; rfl

theorem put_s1 {p : Plan} (hf : Fine p) (h : Rt p) : ∀ (j k : Nat), k + j = p.Pen.length → Ev plan_Put_step (.s1 p.Pen p.Pen.length k p (p.Pen.take k)) (encP p, 0) := by
  intro j
  have hpl := h.penl
  induction j with
  | zero =>
    intro k hk
    have hup := h.up
    have hsup := h.sup
    have e1 : IntKind.i64.wrap p.Up = p.Up := wI64 (by have := hf.up; omega) (by omega)
    have e2 : IntKind.i64.wrap p.Sup = p.Sup := wI64 (by have := hf.sup; omega) (by omega)
    rw [List.take_of_length_le (by omega)]
    refine .next (s' := .s2 0 [] [nums p, p.Pen, p.Changes]) ?_ (put_s2 (nums_in hf h) (pen_in h) (ch_in h) (by simp [nums]) (by omega) (by have := h.chl; omega))
    simp only [plan_Put_step, plan_Put_1, geB (show p.Pen.length ≤ k by omega), cond_false, plan_numbers, Option.bind_some, e1, e2, nums]
  | succ j ih =>
    intro k hk
    have hlt : k < p.Pen.length := by omega
    refine .next (s' := .s1 p.Pen p.Pen.length ((k + 1 : Nat) : Int) p (p.Pen.take (k + 1))) ?_ (ih (k + 1) (by omega))
    have hl : decide (((List.map (eInt .i64) (p.Pen.take k)).length + 1) * 8 ≤ bytesLim) = true := limOk (by simp; omega)
    simp only [plan_Put_step, plan_Put_1, ltB hlt, cond_true, List.length_map] at hl ⊢
    simp only [ltB hlt, le0, Bool.and_self, cond_true, Int.toNat_natCast, List.getE hlt, Option.bind_some, hl, wS (show k < 9223372036854775807 by omega), take_snoc hlt]

theorem put_ok {p : Plan} (hf : Fine p) : plan_Put p = some (putP p) := by
  unfold putP
  by_cases hr : rightP p = true
  · rw [if_pos hr]
    refine evf_of (.next (s' := .s1 p.Pen p.Pen.length 0 p []) ?_ (put_s1 hf (rightP_iff.1 hr) p.Pen.length 0 (by omega)))
    simp only [plan_Put_step, plan_Put_0, right_ok hf.s hf.up hf.sup, hr, Option.bind_some, List.length_map]
    rfl
  · rw [if_neg hr]
    refine evf_of (.done ?_)
    simp only [plan_Put_step, plan_Put_0, right_ok hf.s hf.up hf.sup, Option.bind_some]
    rw [Bool.eq_false_iff.2 hr]; rfl

/-! ### read -/
def zeroPl : Plan := ⟨0, 0, 0, 0, 0, 0, 0, 0, 0, 0, [], []⟩
end Go.RX.L

set_option linter.unusedSimpArgs false
set_option linter.unusedVariables false
namespace Go.RX.L
open Go Go.RX

/-! ### alike -/
theorem rsame_loop (a b : List Int) (hl : a.length < 9223372036854775807) (hab : a.length = b.length) : ∀ (j k : Nat), k + j = a.length → Ev ref01_Same_step (.s1 a b k) (decide (a.drop k = b.drop k)) := by
  intro j
  induction j with
  | zero =>
    intro k hk
    refine .done ?_
    rw [List.drop_eq_nil_of_le (by omega), List.drop_eq_nil_of_le (by omega)]
    simp [ref01_Same_step, ref01_Same_1, show ¬ (k : Int) < a.length by omega]
  | succ j ih =>
    intro k hk
    have h1 : k < a.length := by omega
    have h2 : k < b.length := by omega
    rw [List.drop_eq_getElem_cons h1, List.drop_eq_getElem_cons h2]
    by_cases h : a[k] = b[k]
    · refine .next (s' := .s1 a b ((k + 1 : Nat) : Int)) ?_ ?_
      · have e : (a[k] != b[k]) = false := by simp [h]
        simp only [ref01_Same_step, ref01_Same_1, List.length_map, ltB h1, ltB h2, le0, Bool.and_self, cond_true, Int.toNat_natCast, List.getE h1, List.getE h2, Option.bind_some, e, cond_false, wS (show k < 9223372036854775807 by omega)]
      · rw [show (decide (a[k] :: a.drop (k + 1) = b[k] :: b.drop (k + 1))) = decide (a.drop (k + 1) = b.drop (k + 1)) by simp only [h, List.cons.injEq, true_and]]
        exact ih (k + 1) (by omega)
    · refine .done ?_
      have e : (a[k] != b[k]) = true := by simp [h]
      simp only [ref01_Same_step, ref01_Same_1, List.length_map, ltB h1, ltB h2, le0, Bool.and_self, cond_true, Int.toNat_natCast, List.getE h1, List.getE h2, Option.bind_some, e]
      rw [show (decide (a[k] :: a.drop (k + 1) = b[k] :: b.drop (k + 1))) = false by simp only [h, List.cons.injEq, false_and, decide_false]]
theorem rsame1_ok {a b : List Int} (hl : a.length < 9223372036854775807) : ref01_Same a b = some (decide (a = b)) := by
  by_cases hab : a.length = b.length
  · refine evf_of (.next (s' := .s1 a b 0) (by simp [ref01_Same_step, ref01_Same_0, hab]) ?_)
    simpa using rsame_loop a b hl hab a.length 0 (by omega)
  · refine evf_of (.done ?_)
    have e : (((a.length : Nat) : Int) != ((b.length : Nat) : Int)) = true := by simp; omega
    have hne : a ≠ b := fun h => hab (by rw [h])
    simp [ref01_Same_step, ref01_Same_0, e, hne]

theorem rsame4_loop (a b : Plan) (hs : Shrt a) (hab : a.Pen.length = b.Pen.length) : ∀ (j k : Nat), k + j = a.Pen.length → Ev ref04_Same_step (.s2 k a b) (decide (a.Pen.drop k = b.Pen.drop k) && decide (a.Changes = b.Changes)) := by
  intro j
  have hl := hs.pen
  induction j with
  | zero =>
    intro k hk
    refine .done ?_
    rw [List.drop_eq_nil_of_le (by omega), List.drop_eq_nil_of_le (by omega)]
    simp only [ref04_Same_step, ref04_Same_2, List.length_map, geB (show a.Pen.length ≤ k by omega), cond_false, rsame1_ok hs.ch, Option.bind_some]
    simp
  | succ j ih =>
    intro k hk
    have h1 : k < a.Pen.length := by omega
    have h2 : k < b.Pen.length := by omega
    rw [List.drop_eq_getElem_cons h1, List.drop_eq_getElem_cons h2]
    by_cases h : a.Pen[k] = b.Pen[k]
    · refine .next (s' := .s2 ((k + 1 : Nat) : Int) a b) ?_ ?_
      · have e : (a.Pen[k] != b.Pen[k]) = false := by simp [h]
        simp only [ref04_Same_step, ref04_Same_2, List.length_map, ltB h1, ltB h2, le0, Bool.and_self, cond_true, Int.toNat_natCast, List.getE h1, List.getE h2, Option.bind_some, e, cond_false, wS (show k < 9223372036854775807 by omega)]
      · rw [show (decide (a.Pen[k] :: a.Pen.drop (k + 1) = b.Pen[k] :: b.Pen.drop (k + 1))) = decide (a.Pen.drop (k + 1) = b.Pen.drop (k + 1)) by simp only [h, List.cons.injEq, true_and]]
        exact ih (k + 1) (by omega)
    · refine .done ?_
      have e : (a.Pen[k] != b.Pen[k]) = true := by simp [h]
      simp only [ref04_Same_step, ref04_Same_2, List.length_map, ltB h1, ltB h2, le0, Bool.and_self, cond_true, Int.toNat_natCast, List.getE h1, List.getE h2, Option.bind_some, e]
      rw [show (decide (a.Pen[k] :: a.Pen.drop (k + 1) = b.Pen[k] :: b.Pen.drop (k + 1))) = false by simp only [h, List.cons.injEq, false_and, decide_false]]
      rfl

def sameN (a b : Plan) : Bool := decide (a.Epoch = b.Epoch) && (decide (a.Target = b.Target) && (decide (a.Prev = b.Prev) && (decide (a.Spill = b.Spill) && (decide (a.Percent = b.Percent) && (decide (a.Stamp = b.Stamp) && (decide (a.Since = b.Since) && (decide (a.Ramped = b.Ramped) && (decide (a.Up = b.Up) && decide (a.Sup = b.Sup)))))))))
def sameP (a b : Plan) : Bool := sameN a b && (decide (a.Pen = b.Pen) && decide (a.Changes = b.Changes))
theorem sameP_iff {a b : Plan} : sameP a b = true ↔ a = b := by
  cases a; cases b
  simp only [sameP, sameN, Bool.and_eq_true, decide_eq_true_eq, Plan.mk.injEq, and_assoc]

theorem rsame_ok {a b : Plan} (hs : Shrt a) : ref04_Same a b = some (sameP a b) := by
  have bad : Ev ref04_Same_step (.s1 true a b) false := .done rfl
  have hstep : ref04_Same_step (.s0 a b) = some (.inl (.s1 (!(sameN a b) || !(decide (a.Pen.length = b.Pen.length))) a b)) := by
    have hb : ∀ x y : Int, (x != y) = !(decide (x = y)) := fun x y => by by_cases h : x = y <;> simp [h]
    simp only [ref04_Same_step, ref04_Same_0, hb, sameN, List.length_map]
    cases decide (a.Epoch = b.Epoch) <;> cases decide (a.Target = b.Target) <;> cases decide (a.Prev = b.Prev) <;> cases decide (a.Spill = b.Spill) <;> cases decide (a.Percent = b.Percent) <;> cases decide (a.Stamp = b.Stamp) <;> cases decide (a.Since = b.Since) <;> cases decide (a.Ramped = b.Ramped) <;> cases decide (a.Up = b.Up) <;> cases decide (a.Sup = b.Sup) <;> first | rfl | (simp; done) | (simp; omega)
  refine evf_of (.next hstep ?_)
  unfold sameP
  cases hn : sameN a b with
  | false => exact bad
  | true =>
    by_cases hab : a.Pen.length = b.Pen.length
    · rw [decide_eq_true hab]
      refine .next (s' := .s2 0 a b) rfl ?_
      simpa using rsame4_loop a b hs hab a.Pen.length 0 (by omega)
    · have hne : a.Pen ≠ b.Pen := fun h => hab (by rw [h])
      rw [decide_eq_false hab, decide_eq_false hne]
      exact bad

theorem wrapI_inj {x y : Int} (hx : inK .u64 x) (hy : inK .u64 y) : (IntKind.i64.wrap x == IntKind.i64.wrap y) = decide (x = y) := by
  obtain ⟨n, rfl⟩ := Int.eq_ofNat_of_zero_le (inU64.1 hx).1
  obtain ⟨m, rfl⟩ := Int.eq_ofNat_of_zero_le (inU64.1 hy).1
  have h1 := (inU64.1 hx).2
  have h2 := (inU64.1 hy).2
  rw [wrapI64_nat n (by omega), wrapI64_nat m (by omega)]
  rw [Bool.eq_iff_iff]
  simp only [beq_iff_eq, decide_eq_true_eq]
  split <;> split <;> omega

theorem wrapI_inj' {x y : Int} (hx : inK .u64 x) (hy : inK .u64 y) : decide (IntKind.i64.wrap x = IntKind.i64.wrap y) = decide (x = y) := by
  rw [← wrapI_inj hx hy, Bool.eq_iff_iff]; simp

theorem same_ok {a b : Plan} (hs : Shrt a) (h1 : inK .u64 a.Up) (h2 : inK .u64 b.Up) (h3 : inK .u64 a.Sup) (h4 : inK .u64 b.Sup) : plan_Same a b = some (sameP a b) := by
  have hb : ∀ x y : Int, (x == y) = decide (x = y) := fun x y => by by_cases h : x = y <;> simp [h]
  simp only [plan_Same, plan_numbers, Option.bind_some, wrapI_inj' h1 h2, wrapI_inj' h3 h4, hb, Bool.and_true, equal_ok hs.pen, equal_v2_ok hs.ch]
  rw [show (decide (a.Epoch = b.Epoch) && (decide (a.Target = b.Target) && (decide (a.Prev = b.Prev) && (decide (a.Spill = b.Spill) && (decide (a.Percent = b.Percent) && (decide (a.Stamp = b.Stamp) && (decide (a.Since = b.Since) && (decide (a.Ramped = b.Ramped) && (decide (a.Up = b.Up) && decide (a.Sup = b.Sup)))))))))) = sameN a b from rfl]
  unfold sameP
  cases sameN a b with
  | false => rfl
  | true => cases decide (a.Pen = b.Pen) <;> rfl

/-! ### the head -/
theorem bytesOf {b : List Int} (h : b.length * 1 ≤ reachBytes ∧ ∀ y ∈ b, inK .u8 y) : Bytes b ∧ b.length ≤ memB := by
  refine ⟨fun c hc => inU8.1 (h.2 c hc), ?_⟩
  have : reachBytes ≤ memB := by decide
  omega
end Go.RX.L

set_option linter.unusedSimpArgs false
set_option linter.unusedVariables false
set_option maxRecDepth 100000
namespace Go.RX.L
open Go Go.RX

/-! ### may it be? -/
def hdM (m : Msg) : Prop := 1 ≤ m.Kind ∧ m.Kind ≤ 19 ∧ 0 ≤ m.From ∧ m.From ≤ 255 ∧ 0 ≤ m.To ∧ m.To ≤ 255 ∧ m.Up ≤ 65535 ∧ 0 ≤ m.Code ∧ m.Code ≤ 1000
instance (m : Msg) : Decidable (hdM m) := by unfold hdM; infer_instance
def txM (m : Msg) : Prop := (m.ID.length = 0 ∨ m.ID.length = 3) ∧ m.Session.length ≤ 64 ∧ m.Payload.length ≤ 1024
instance (m : Msg) : Decidable (txM m) := by unfold txM; infer_instance
def planB (m : Msg) : Bool := bif m.HasPlan then rightP m.Plan else sameP m.Plan zeroPl
def rightM (m : Msg) : Bool := decide (hdM m) && (decide (txM m) && planB m)

structure Shm (m : Msg) : Prop where
  s : Shrt m.Plan
  up : inK .u64 m.Plan.Up
  sup : inK .u64 m.Plan.Sup

theorem mn3_lt (a b c : Int) : (mnI (mnI a b) c < 0) ↔ a < 0 ∨ b < 0 ∨ c < 0 := by unfold mnI; split <;> split <;> omega
theorem mx_gt (a b n : Int) : (mxI a b > n) ↔ a > n ∨ b > n := by unfold mxI; split <;> omega
theorem zero_u : inK .u64 (0 : Int) := inU64.2 (by omega)

theorem right1_ok {m : Msg} (h : Shm m) : msg_Right_1 false m = some (planB m) := by
  have hu := inU64.1 h.up
  have hv := inU64.1 h.sup
  unfold msg_Right_1 planB
  cases m.HasPlan
  · have := same_ok (a := m.Plan) (b := zeroPl) h.s h.up zero_u h.sup zero_u
    simp only [cond_false]
    show (plan_Same m.Plan zeroPl).bind _ = _
    rw [this]; rfl
  · simp only [cond_false, cond_true, right_ok h.s hu.1 hv.1, Option.bind_some]

theorem right3_ok {m : Msg} (h : Shm m) : msg_Right_3 false m = some (decide (txM m) && planB m) := by
  have h1 := right1_ok h
  have t1 : msg_Right_1 true m = some false := rfl
  have t2 : msg_Right_2 true m = some false := rfl
  have h2 : msg_Right_2 false m = some (decide (m.Session.length ≤ 64 ∧ m.Payload.length ≤ 1024) && planB m) := by
    simp only [msg_Right_2, cond_false, List.length_map]
    by_cases a : m.Session.length ≤ 64
    · rw [show decide (((m.Session.length : Nat) : Int) > 64) = false from decide_eq_false (by omega)]
      by_cases b : m.Payload.length ≤ 1024
      · rw [show decide (((m.Payload.length : Nat) : Int) > 1024) = false from decide_eq_false (by omega), show decide (m.Session.length ≤ 64 ∧ m.Payload.length ≤ 1024) = true from decide_eq_true ⟨a, b⟩, Bool.true_and]; exact h1
      · rw [show decide (((m.Payload.length : Nat) : Int) > 1024) = true from decide_eq_true (by omega), show decide (m.Session.length ≤ 64 ∧ m.Payload.length ≤ 1024) = false from decide_eq_false (fun h => b h.2)]; rfl
    · rw [show decide (((m.Session.length : Nat) : Int) > 64) = true from decide_eq_true (by omega), show decide (m.Session.length ≤ 64 ∧ m.Payload.length ≤ 1024) = false from decide_eq_false (fun h => a h.1)]; rfl
  simp only [msg_Right_3, cond_false, List.length_map]
  by_cases a : m.ID.length = 0
  · rw [show decide (((m.ID.length : Nat) : Int) > 0) = false from decide_eq_false (by omega)]
    rw [show decide (txM m) = decide (m.Session.length ≤ 64 ∧ m.Payload.length ≤ 1024) from decide_eq_decide.2 (by unfold txM; omega)]
    exact h2
  · rw [show decide (((m.ID.length : Nat) : Int) > 0) = true from decide_eq_true (by omega)]
    by_cases b : m.ID.length = 3
    · rw [show (((m.ID.length : Nat) : Int) != 3) = false from by rw [b]; rfl, show decide (txM m) = decide (m.Session.length ≤ 64 ∧ m.Payload.length ≤ 1024) from decide_eq_decide.2 (by unfold txM; omega)]
      exact h2
    · rw [show (((m.ID.length : Nat) : Int) != 3) = true from bne_iff_ne.2 (by omega), show decide (txM m) = false from decide_eq_false (by unfold txM; omega)]
      rfl

theorem mright_ok {m : Msg} (h : Shm m) : msg_Right m = some (rightM m) := by
  have t3 : msg_Right_3 true m = some false := rfl
  by_cases hh : hdM m
  · have h' := hh
    unfold hdM at h'
    rw [rightM, decide_eq_true hh, Bool.true_and, ← right3_ok h]
    simp only [msg_Right]
    rw [show decide (m.Kind < 1) = false from decide_eq_false (by omega), show decide (m.Kind > 19) = false from decide_eq_false (by omega),
      show decide (mnI (mnI m.From m.To) m.Code < 0) = false from decide_eq_false (by rw [mn3_lt]; omega), show decide (mxI m.From m.To > 255) = false from decide_eq_false (by rw [mx_gt]; omega),
      show decide (m.Code > 1000) = false from decide_eq_false (by omega), show decide (m.Up ≥ 65536) = false from decide_eq_false (by omega)]
    rfl
  · rw [rightM, decide_eq_false hh, Bool.false_and]
    unfold hdM at hh
    simp only [msg_Right]
    cases h1 : decide (m.Kind < 1)
    · cases h2 : decide (m.Kind > 19)
      · cases h3 : decide (mnI (mnI m.From m.To) m.Code < 0)
        · cases h4 : decide (mxI m.From m.To > 255)
          · cases h5 : decide (m.Code > 1000)
            · rw [decide_eq_false_iff_not] at h1 h2 h3 h4 h5
              rw [mn3_lt] at h3
              rw [mx_gt] at h4
              rw [show decide (m.Up ≥ 65536) = true from decide_eq_true (by omega)]
              rfl
            · rfl
          · rfl
        · rfl
      · rfl
    · rfl

theorem rright2_ok {m : Msg} (h : Shm m) : ref05_Right_2 false m = some (planB m) := by
  unfold ref05_Right_2 planB
  cases m.HasPlan
  · have := rsame_ok (a := m.Plan) (b := zeroPl) h.s
    simp only [cond_false]
    show (ref04_Same m.Plan zeroPl).bind _ = _
    rw [this]; rfl
  · simp only [cond_false, cond_true, rright_ok h.s, Option.bind_some]
theorem rright1_ok {m : Msg} (h : Shm m) : ref05_Right_1 false m = some (decide (txM m) && planB m) := by
  have h1 := rright2_ok h
  have t2 : ref05_Right_2 true m = some false := rfl
  have h2 : (bif decide (((m.Session.length : Nat) : Int) > 64) then ref05_Right_2 true m else ref05_Right_2 (decide (((m.Payload.length : Nat) : Int) > 1024)) m) = some (decide (m.Session.length ≤ 64 ∧ m.Payload.length ≤ 1024) && planB m) := by
    by_cases a : m.Session.length ≤ 64
    · rw [show decide (((m.Session.length : Nat) : Int) > 64) = false from decide_eq_false (by omega)]
      by_cases b : m.Payload.length ≤ 1024
      · rw [show decide (((m.Payload.length : Nat) : Int) > 1024) = false from decide_eq_false (by omega), show decide (m.Session.length ≤ 64 ∧ m.Payload.length ≤ 1024) = true from decide_eq_true ⟨a, b⟩, Bool.true_and]; exact h1
      · rw [show decide (((m.Payload.length : Nat) : Int) > 1024) = true from decide_eq_true (by omega), show decide (m.Session.length ≤ 64 ∧ m.Payload.length ≤ 1024) = false from decide_eq_false (fun h => b h.2)]; rfl
    · rw [show decide (((m.Session.length : Nat) : Int) > 64) = true from decide_eq_true (by omega), show decide (m.Session.length ≤ 64 ∧ m.Payload.length ≤ 1024) = false from decide_eq_false (fun h => a h.1)]; rfl
  simp only [ref05_Right_1, cond_false, List.length_map, h2]
  by_cases a : m.ID.length = 0
  · rw [show (((m.ID.length : Nat) : Int) != 0) = false from by rw [a]; rfl]
    rw [show decide (txM m) = decide (m.Session.length ≤ 64 ∧ m.Payload.length ≤ 1024) from decide_eq_decide.2 (by unfold txM; omega)]
    rfl
  · rw [show (((m.ID.length : Nat) : Int) != 0) = true from bne_iff_ne.2 (by omega)]
    by_cases b : m.ID.length = 3
    · rw [show (((m.ID.length : Nat) : Int) != 3) = false from by rw [b]; rfl, show decide (txM m) = decide (m.Session.length ≤ 64 ∧ m.Payload.length ≤ 1024) from decide_eq_decide.2 (by unfold txM; omega)]
      rfl
    · rw [show (((m.ID.length : Nat) : Int) != 3) = true from bne_iff_ne.2 (by omega), show decide (txM m) = false from decide_eq_false (by unfold txM; omega)]
      rfl
theorem rmright_ok {m : Msg} (h : Shm m) : ref05_Right m = some (rightM m) := by
  have t3 : ref05_Right_1 true m = some false := rfl
  by_cases hh : hdM m
  · have h' := hh
    unfold hdM at h'
    rw [rightM, decide_eq_true hh, Bool.true_and, ← rright1_ok h]
    simp only [ref05_Right]
    rw [show decide (m.Kind < 1) = false from decide_eq_false (by omega), show decide (m.Kind > 19) = false from decide_eq_false (by omega),
      show decide (m.From < 0) = false from decide_eq_false (by omega), show decide (m.From > 255) = false from decide_eq_false (by omega),
      show decide (m.To < 0) = false from decide_eq_false (by omega), show decide (m.To > 255) = false from decide_eq_false (by omega),
      show decide (m.Up > 65535) = false from decide_eq_false (by omega), show decide (m.Code < 0) = false from decide_eq_false (by omega), show decide (m.Code > 1000) = false from decide_eq_false (by omega)]
    rfl
  · rw [rightM, decide_eq_false hh, Bool.false_and]
    unfold hdM at hh
    simp only [ref05_Right]
    cases h1 : decide (m.Kind < 1)
    case true => rfl
    cases h2 : decide (m.Kind > 19)
    case true => rfl
    cases h3 : decide (m.From < 0)
    case true => rfl
    cases h4 : decide (m.From > 255)
    case true => rfl
    cases h5 : decide (m.To < 0)
    case true => rfl
    cases h6 : decide (m.To > 255)
    case true => rfl
    cases h7 : decide (m.Up > 65535)
    case true => rfl
    cases h8 : decide (m.Code < 0)
    case true => rfl
    rw [decide_eq_false_iff_not] at h1 h2 h3 h4 h5 h6 h7 h8
    rw [show decide (m.Code > 1000) = true from decide_eq_true (by omega)]
    rfl
end Go.RX.L

set_option linter.unusedSimpArgs false
set_option linter.unusedVariables false
set_option maxRecDepth 100000
namespace Go.RX.L
open Go Go.RX

/-! ### bytes -/
/-- A message of words. -/
structure FineM (m : Msg) : Prop where
  sh : Shm m
  pl : Fine m.Plan
  w : I64s [m.Epoch, m.Ballot, m.Accepted, m.Nonce, m.Time]
  up : 0 ≤ m.Up
  id : I64s m.ID
  ses : Bytes m.Session
  pay : Bytes m.Payload
theorem Msg.Ok.fine {m : Msg} (h : m.Ok) : FineM m := by
  obtain ⟨h1, h2, h3, h4, h5, h6, h7, h8, h9, h10, -, hp, hid, hs, hq⟩ := h
  have hp' := hp
  obtain ⟨-, -, -, -, -, -, -, -, u1, u2, -, -⟩ := hp
  refine ⟨⟨hp'.shrt, u1, u2⟩, hp'.fine, ?_, (inU64.1 h9).1, fun x hx => hid.2 x hx, fun x hx => inU8.1 (hs.2 x hx), fun x hx => inU8.1 (hq.2 x hx)⟩
  intro x hx
  simp only [List.mem_cons, List.not_mem_nil, or_false] at hx
  rcases hx with rfl | rfl | rfl | rfl | rfl <;> assumption

def numsM (m : Msg) : List Int := [m.From, m.To, m.Epoch, m.Ballot, m.Accepted, m.Nonce, m.Time, m.Up, m.Code, bif m.HasPlan then 1 else 0]
def encQ (m : Msg) : List Int := bif m.HasPlan then encT (encP m.Plan) else []
def encB (m : Msg) : List Int := encL (numsM m) ++ (encQ m ++ (encL m.ID ++ (encT m.Session ++ encT m.Payload)))

theorem right_and {m : Msg} (h : rightM m = true) : hdM m ∧ txM m ∧ planB m = true := by
  simpa only [rightM, Bool.and_eq_true, decide_eq_true_eq] using h
theorem right_plan {m : Msg} (h : rightM m = true) (hp : m.HasPlan = true) : Rt m.Plan := by
  have := (right_and h).2.2
  rw [planB, hp] at this
  exact rightP_iff.1 this
theorem numsM_in {m : Msg} (hf : FineM m) (h : rightM m = true) : I64s (numsM m) := by
  obtain ⟨h1, h2, h3⟩ := right_and h
  unfold hdM at h1
  have hu := hf.up
  have e1 := inI64.2 (show -9223372036854775808 ≤ m.From ∧ m.From ≤ 9223372036854775807 by omega)
  have e2 := inI64.2 (show -9223372036854775808 ≤ m.To ∧ m.To ≤ 9223372036854775807 by omega)
  have e3 := inI64.2 (show -9223372036854775808 ≤ m.Up ∧ m.Up ≤ 9223372036854775807 by omega)
  have e4 := inI64.2 (show -9223372036854775808 ≤ m.Code ∧ m.Code ≤ 9223372036854775807 by omega)
  have e5 : inK .i64 (bif m.HasPlan then 1 else 0) := by cases m.HasPlan <;> exact inI64.2 (by decide)
  have hw := hf.w
  intro x hx
  simp only [numsM, List.mem_cons, List.not_mem_nil, or_false] at hx
  rcases hx with rfl | rfl | rfl | rfl | rfl | rfl | rfl | rfl | rfl | rfl
  · exact e1
  · exact e2
  · exact hw _ (by simp)
  · exact hw _ (by simp)
  · exact hw _ (by simp)
  · exact hw _ (by simp)
  · exact hw _ (by simp)
  · exact e3
  · exact e4
  · exact e5

theorem encQ_bytes (m : Msg) : Bytes (encQ m) := by
  unfold encQ
  cases m.HasPlan
  · intro c hc; cases hc
  · exact encT_bytes (encP_bytes _)
theorem encB_bytes {m : Msg} (hf : FineM m) : Bytes (encB m) := fun c hc => by
  simp only [encB, List.mem_append] at hc
  rcases hc with hc | hc | hc | hc | hc
  · exact encL_bytes _ c hc
  · exact encQ_bytes m c hc
  · exact encL_bytes _ c hc
  · exact encT_bytes hf.ses c hc
  · exact encT_bytes hf.pay c hc
theorem encQ_len {m : Msg} (hf : FineM m) (h : rightM m = true) : (encQ m).length ≤ 1960 := by
  unfold encQ
  cases hp : m.HasPlan
  · simp
  · have h1 := encP_len hf.pl (right_plan h hp)
    have := encT_len (s := encP m.Plan) (by omega)
    simp only [cond_true]; omega
theorem id_len {m : Msg} (h : rightM m = true) : m.ID.length ≤ 3 ∧ m.Session.length ≤ 64 ∧ m.Payload.length ≤ 1024 := by
  have := (right_and h).2.1
  unfold txM at this
  omega
theorem encB_len {m : Msg} (hf : FineM m) (h : rightM m = true) : (encB m).length ≤ 4400 := by
  have a := encL_len (numsM_in hf h) (by simp [numsM])
  have b := encQ_len hf h
  have hi := id_len h
  have c := encL_len hf.id (by omega)
  have d := encT_len (s := m.Session) (by omega)
  have e := encT_len (s := m.Payload) (by omega)
  simp only [encB, List.length_append]
  omega

def bodyM (m : Msg) : Int × List Int × Int := if rightM m = true then (m.Kind, encB m, 0) else (0, [], 51)
theorem putT_s {s : List Int} (h : s.length ≤ 4096) : putT s = (0, encT s) := if_pos h

theorem body_s1 {m : Msg} (hs : m.Session.length ≤ 64) (hq : m.Payload.length ≤ 1024) (hk : 0 ≤ m.Kind ∧ m.Kind ≤ 255) {b : List Int} (hb : b.length ≤ 8000) :
    Ev msg_Body_step (.s1 0 m b [m.Session, m.Payload]) (m.Kind, b ++ (encT m.Session ++ encT m.Payload), 0) := by
  have n1 := encT_len (s := m.Session) (by omega)
  have n2 := encT_len (s := m.Payload) (by omega)
  have k1 := putText_ok (s := m.Session) (by simp only [memB]; omega)
  have k2 := putText_ok (s := m.Payload) (by simp only [memB]; omega)
  rw [putT_s (by omega)] at k1 k2
  refine .next (s' := .s1 1 m (b ++ encT m.Session) [m.Session, m.Payload]) ?_ (.next (s' := .s1 2 m (b ++ encT m.Session ++ encT m.Payload) [m.Session, m.Payload]) ?_ (.done ?_))
  · have hl : decide (((List.map (eInt .u8) b).length + (List.map (eInt .u8) (encT m.Session)).length) * 1 ≤ bytesLim) = true := limOk (by simp only [List.length_map]; omega)
    simp only [msg_Body_step, msg_Body_1, take_full]
    simp only [show (0 + (0 : Int).toNat) = 0 from rfl, List.getElem?_cons_zero, Option.bind_some, k1, hl]
    rfl
  · have hl : decide (((List.map (eInt .u8) (b ++ encT m.Session)).length + (List.map (eInt .u8) (encT m.Payload)).length) * 1 ≤ bytesLim) = true := limOk (by simp only [List.length_map, List.length_append]; omega)
    simp only [msg_Body_step, msg_Body_1, take_full]
    simp only [show (0 + (1 : Int).toNat) = 1 from rfl, List.getElem?_cons_succ, List.getElem?_cons_zero, Option.bind_some, k2, hl]
    rfl
  · rw [← List.append_assoc]
    simp only [msg_Body_step, msg_Body_1, wU8 hk.1 hk.2]
    rfl

theorem body_s2 {m : Msg} (hf : FineM m) (h : rightM m = true) {b : List Int} (hb : b.length ≤ 7000) :
    Ev msg_Body_step (.s2 m b) (m.Kind, b ++ (encL m.ID ++ (encT m.Session ++ encT m.Payload)), 0) := by
  have hi := id_len h
  have hh := (right_and h).1
  unfold hdM at hh
  have c := encL_len hf.id (by omega)
  have hl : decide (((List.map (eInt .u8) b).length + (List.map (eInt .u8) (encL m.ID)).length) * 1 ≤ bytesLim) = true := limOk (by simp only [List.length_map]; omega)
  refine .next (s' := .s1 0 m (b ++ encL m.ID) [m.Session, m.Payload]) ?_ ?_
  · simp only [msg_Body_step, msg_Body_2, take_full, putInts_ok hf.id (by omega), Option.bind_some, hl, cond_true]
  · have := body_s1 (m := m) (b := b ++ encL m.ID) hi.2.1 hi.2.2 (by omega) (by simp only [List.length_append]; omega)
    rw [List.append_assoc] at this
    exact this

theorem body_ok {m : Msg} (hf : FineM m) : msg_Body m = some (bodyM m) := by
  unfold bodyM
  by_cases h : rightM m = true
  · rw [if_pos h]
    have hi := numsM_in hf h
    have hu := hf.up
    have hh := (right_and h).1
    unfold hdM at hh
    have hw : IntKind.i64.wrap m.Up = m.Up := wI64 (by omega) (by omega)
    have nl := encL_len hi (by simp [numsM])
    refine evf_of (.next (s' := .s3 m (numsM m)) ?_ ?_)
    · simp only [msg_Body_step, msg_Body_0, mright_ok hf.sh, h, Option.bind_some, Bool.not_true, cond_false, hw, numsM]
      cases m.HasPlan <;> rfl
    · refine .next (s' := .s2 m (encL (numsM m) ++ encQ m)) ?_ ?_
      · simp only [msg_Body_step, msg_Body_3, putInts_ok hi (by simp [numsM]), Option.bind_some, take_full]
        unfold encQ
        cases hp : m.HasPlan
        · simp only [cond_false, List.append_nil]
        · have rp := right_plan h hp
          have pl := encP_len hf.pl rp
          have tl := encT_len (s := encP m.Plan) (by omega)
          have e1 : plan_Put m.Plan = some (encP m.Plan, 0) := by rw [put_ok hf.pl, putP, if_pos (rightP_iff.2 rp)]
          have e2 : wire_PutText (encP m.Plan) = some (0, encT (encP m.Plan)) := by rw [putText_ok (by simp only [memB]; omega), putT_s (by omega)]
          have hl : decide (((List.map (eInt .u8) (encL (numsM m))).length + (List.map (eInt .u8) (encT (encP m.Plan))).length) * 1 ≤ bytesLim) = true := limOk (by simp only [List.length_map]; omega)
          simp only [cond_true, e1, e2, Option.bind_some, hl]
      · have q := encQ_len hf h
        have := body_s2 hf h (b := encL (numsM m) ++ encQ m) (by simp only [List.length_append]; omega)
        rw [List.append_assoc] at this
        exact this
  · rw [if_neg h]
    refine evf_of (.done ?_)
    simp only [msg_Body_step, msg_Body_0, mright_ok hf.sh, Bool.eq_false_iff.2 h, Option.bind_some, Bool.not_false, cond_true]

end Go.RX.L

set_option linter.unusedSimpArgs false
set_option linter.unusedVariables false
set_option maxRecDepth 100000
namespace Go.RX.L
open Go Go.RX

def wideM (l : List Int) : Prop := l.length = 10 ∧ 0 ≤ l.getD 0 0 ∧ l.getD 0 0 ≤ 255 ∧ 0 ≤ l.getD 1 0 ∧ l.getD 1 0 ≤ 255 ∧ 0 ≤ l.getD 7 0 ∧ l.getD 7 0 ≤ 65535 ∧ 0 ≤ l.getD 8 0 ∧ l.getD 8 0 ≤ 65535 ∧ 0 ≤ l.getD 9 0 ∧ l.getD 9 0 ≤ 1
instance (l : List Int) : Decidable (wideM l) := by unfold wideM; infer_instance
end Go.RX.L

set_option linter.unusedSimpArgs false
set_option linter.unusedVariables false
set_option maxRecDepth 100000
namespace Go.RX.L
open Go Go.RX

/-! ### the document's reader -/
end Go.RX.L

set_option linter.unusedSimpArgs false
set_option linter.unusedVariables false
set_option maxRecDepth 100000
namespace Go.RX.L
open Go Go.RX

/-! ### frames -/
/-! ### what is written is read -/
/-! ### alike? -/
end Go.RX.L

set_option linter.unusedSimpArgs false
set_option linter.unusedVariables false
set_option maxRecDepth 100000
namespace Go.RX.L
open Go Go.RX

theorem kind_in {m : Msg} (h : rightM m = true) : 0 ≤ m.Kind ∧ m.Kind ≤ 255 := by
  have hh := (right_and h).1
  unfold hdM at hh
  omega
/-! ### the head -/
theorem frame_bytes {m : Msg} (hf : FineM m) (h : rightM m = true) : Bytes (encF m.Kind (encB m)) := by
  have hl := encB_len hf h
  exact encF_bytes (kind_in h) (encB_bytes hf) (by omega)
end Go.RX.L

set_option linter.unusedSimpArgs false
set_option linter.unusedVariables false
set_option maxRecDepth 100000
set_option maxHeartbeats 4000000
namespace Go.RX.L
open Go Go.RX Go.Proofs
attribute [local irreducible] FinQ
noncomputable def Journal_Append_1_e (b1 : List Int) (fuse : Int) (down : Bool) (b3 : List Int) (y : List Int) : D × Sto := (.tup [], [some ⟨1, true, [[.ptr 2 0 0]]⟩, some ⟨1, false, [[.sl false 1 (List.map (eInt .u8) b1)]]⟩, some ⟨4, true, [[.msl 3 0 ((List.map (eInt .u8) b3).length) ((List.map (eInt .u8) b3).length) false, .msl 5 0 ((List.map (eInt .u8) y).length) ((List.map (eInt .u8) y).length) false, .int .i64 fuse, .bool down]]⟩, some ⟨1, false, (List.map (eInt .u8) b3)⟩, none, some ⟨1, false, (List.map (eInt .u8) y)⟩])
noncomputable def Journal_Append_1 (b1 : List Int) (fuse : Int) (down : Bool) (b3 : List Int) (b4 : List Int) : Option (List Int) := (bif (decide (((List.map (eInt .u8) b4).length + (List.map (eInt .u8) b1).length) * 1 ≤ bytesLim)) then (some (b4 ++ b1)) else none)
theorem Journal_Append_1_ok {b1 : List Int} {fuse : Int} {down : Bool} {b3 : List Int} {b4 : List Int} {r : List Int} (h : Journal_Append_1 b1 fuse down b3 b4 = some r) : Sound E 84 [.ptr 0 0 0, .ptr 1 0 0] [some ⟨1, true, [[.ptr 2 0 0]]⟩, some ⟨1, false, [[.sl false 1 (List.map (eInt .u8) b1)]]⟩, some ⟨4, true, [[.msl 3 0 ((List.map (eInt .u8) b3).length) ((List.map (eInt .u8) b3).length) false, .msl 4 0 ((List.map (eInt .u8) b4).length) ((List.map (eInt .u8) b4).length) false, .int .i64 fuse, .bool down]]⟩, some ⟨1, false, (List.map (eInt .u8) b3)⟩, some ⟨1, false, (List.map (eInt .u8) b4)⟩] (Rs (Journal_Append_1_e b1 fuse down b3) r) := so (fn := Tryd.f84) (k := true) (m := 5) h <| by
 intro r h; unfold Journal_Append_1 at h
 refine zn 5 h fun h => ?_
 refine za 0 (eInt .u8) b4 b1 ?_
 exact zu 3 h
end Go.RX.L

set_option linter.unusedSimpArgs false
set_option linter.unusedVariables false
set_option maxRecDepth 100000
set_option maxHeartbeats 4000000
namespace Go.RX.L
open Go Go.RX Go.Proofs
attribute [local irreducible] FinQ
noncomputable def Journal_effect__Append_1_c := codeAt (bodyOf Tryd.f52)
noncomputable def Journal_effect__Append_1_e (b2 : List Int) (b3 : List Int) (y : Int × Int × Bool × (List Int)) : D × Sto := (.int .i64 y.1, [some ⟨4, true, [[.msl 5 0 ((List.map (eInt .u8) b3).length) ((List.map (eInt .u8) b3).length) false, .msl 6 0 ((List.map (eInt .u8) y.2.2.2).length) ((List.map (eInt .u8) y.2.2.2).length) false, .int .i64 y.2.1, .bool y.2.2.1]]⟩, some ⟨1, true, [[.ptr 0 0 0]]⟩, some ⟨1, false, [[.sl false 1 (List.map (eInt .u8) b2)]]⟩, none, none, some ⟨1, false, (List.map (eInt .u8) b3)⟩, some ⟨1, false, (List.map (eInt .u8) y.2.2.2)⟩])
abbrev Journal_effect__Append_1_W (fuse : Int) (down : Bool) (b2 : List Int) (b3 : List Int) (b4 : List Int) := AOk E (Cx.of Tryd.f52 true 5) (Journal_effect__Append_1_e b2 b3)
noncomputable def Journal_effect__Append_1_1M (fuse : Int) (down : Bool) (b2 : List Int) (b3 : List Int) (b4 : List Int) (fuse2 : Int) (down2 : Bool) : M := ⟨[.code (Journal_effect__Append_1_c [1, 1])], [(0, .ptr 0 0 0), (1, .fn 84 [] [.ptr 1 0 0, .ptr 2 0 0])], [some ⟨4, true, [[.msl 3 0 ((List.map (eInt .u8) b3).length) ((List.map (eInt .u8) b3).length) false, .msl 4 0 ((List.map (eInt .u8) b4).length) ((List.map (eInt .u8) b4).length) false, .int .i64 fuse2, .bool down2]]⟩, some ⟨1, true, [[.ptr 0 0 0]]⟩, some ⟨1, false, [[.sl false 1 (List.map (eInt .u8) b2)]]⟩, some ⟨1, false, (List.map (eInt .u8) b3)⟩, some ⟨1, false, (List.map (eInt .u8) b4)⟩]⟩
noncomputable def Journal_effect__Append_1_1 (fuse : Int) (down : Bool) (b2 : List Int) (b3 : List Int) (b4 : List Int) (fuse2 : Int) (down2 : Bool) : Option (Int × Int × Bool × (List Int)) := (bif down2 then (some (61, fuse2, down2, b4)) else (bif (decide ((fuse2 : Int) > 0)) then ((Journal_Append_1 b2 (IntKind.i64.wrap (fuse2 - 1)) down2 b3 b4).bind fun y3 => (some (0, (IntKind.i64.wrap (fuse2 - 1)), down2, y3))) else ((Journal_Append_1 b2 fuse2 down2 b3 b4).bind fun y4 => (some (0, fuse2, down2, y4)))))
theorem Journal_effect__Append_1_1_ok {fuse down b2 b3 b4 fuse2 down2} : Journal_effect__Append_1_W fuse down b2 b3 b4 (Journal_effect__Append_1_1M fuse down b2 b3 b4 fuse2 down2) (Journal_effect__Append_1_1 fuse down b2 b3 b4 fuse2 down2) := by
 intro r h; unfold Journal_effect__Append_1_1 at h
 refine zs 10 h (fun h => ?_) fun h => ?_
 ·
  refine zf 4 [.mv 3, .mv 4] ?_
  exact zu 1 h
 refine zs 12 h (fun h => ?_) fun h => ?_
 ·
  refine zc 17 [] h (fun _ => Journal_Append_1_ok) fun y3 h => ?_
  refine zf 5 [.mv 3] ?_
  exact zu 1 h
 refine zc 5 [] h (fun _ => Journal_Append_1_ok) fun y4 h => ?_
 refine zf 5 [.mv 3] ?_
 exact zu 1 h
noncomputable def Journal_effect__Append_1_2M (fuse : Int) (down : Bool) (b2 : List Int) (b3 : List Int) (b4 : List Int) (t16 : Bool) : M := ⟨[.code (Journal_effect__Append_1_c [1, 0, 1]), .code (Journal_effect__Append_1_c [1, 1])], [(0, .ptr 0 0 0), (1, .fn 84 [] [.ptr 1 0 0, .ptr 2 0 0]), (16, .bool t16)], [some ⟨4, true, [[.msl 3 0 ((List.map (eInt .u8) b3).length) ((List.map (eInt .u8) b3).length) false, .msl 4 0 ((List.map (eInt .u8) b4).length) ((List.map (eInt .u8) b4).length) false, .int .i64 fuse, .bool down]]⟩, some ⟨1, true, [[.ptr 0 0 0]]⟩, some ⟨1, false, [[.sl false 1 (List.map (eInt .u8) b2)]]⟩, some ⟨1, false, (List.map (eInt .u8) b3)⟩, some ⟨1, false, (List.map (eInt .u8) b4)⟩]⟩
noncomputable def Journal_effect__Append_1_2 (fuse : Int) (down : Bool) (b2 : List Int) (b3 : List Int) (b4 : List Int) (t16 : Bool) : Option (Int × Int × Bool × (List Int)) := (bif t16 then (Journal_effect__Append_1_1 fuse down b2 b3 b4 (-1) true) else (Journal_effect__Append_1_1 fuse down b2 b3 b4 fuse down))
theorem Journal_effect__Append_1_2_ok {fuse down b2 b3 b4 t16} : Journal_effect__Append_1_W fuse down b2 b3 b4 (Journal_effect__Append_1_2M fuse down b2 b3 b4 t16) (Journal_effect__Append_1_2 fuse down b2 b3 b4 t16) := by
 intro r h; unfold Journal_effect__Append_1_2 at h
 refine zs 1 h (fun h => ?_) fun h => ?_
 ·
  exact zg 14 (Journal_effect__Append_1_1_ok h)
 exact zg 1 (Journal_effect__Append_1_1_ok h)
noncomputable def Journal_effect__Append_1 (fuse : Int) (down : Bool) (b2 : List Int) (b3 : List Int) (b4 : List Int) : Option (Int × Int × Bool × (List Int)) := (bif (!down) then (Journal_effect__Append_1_2 fuse down b2 b3 b4 ((fuse : Int) == 0)) else (Journal_effect__Append_1_2 fuse down b2 b3 b4 false))
theorem Journal_effect__Append_1_ok {fuse : Int} {down : Bool} {b2 : List Int} {b3 : List Int} {b4 : List Int} {r : Int × Int × Bool × (List Int)} (h : Journal_effect__Append_1 fuse down b2 b3 b4 = some r) : Sound E 52 [.ptr 0 0 0, .fn 84 [] [.ptr 1 0 0, .ptr 2 0 0]] [some ⟨4, true, [[.msl 3 0 ((List.map (eInt .u8) b3).length) ((List.map (eInt .u8) b3).length) false, .msl 4 0 ((List.map (eInt .u8) b4).length) ((List.map (eInt .u8) b4).length) false, .int .i64 fuse, .bool down]]⟩, some ⟨1, true, [[.ptr 0 0 0]]⟩, some ⟨1, false, [[.sl false 1 (List.map (eInt .u8) b2)]]⟩, some ⟨1, false, (List.map (eInt .u8) b3)⟩, some ⟨1, false, (List.map (eInt .u8) b4)⟩] (Rs (Journal_effect__Append_1_e b2 b3) r) := so (fn := Tryd.f52) (k := true) (m := 5) h <| by
 intro r h; unfold Journal_effect__Append_1 at h
 refine zs 15 h (fun h => ?_) fun h => ?_
 ·
  exact zg 12 (Journal_effect__Append_1_2_ok h)
 exact zg 11 (Journal_effect__Append_1_2_ok h)
end Go.RX.L

set_option linter.unusedSimpArgs false
set_option linter.unusedVariables false
set_option maxRecDepth 100000
set_option maxHeartbeats 4000000
namespace Go.RX.L
open Go Go.RX Go.Proofs
attribute [local irreducible] FinQ
noncomputable def Journal_Append_e (b1 : List Int) (y : Int × Int × Bool × (List Int)) : D × Sto := (.int .i64 y.1, [some ⟨4, true, [[.msl 3 0 ((List.map (eInt .u8) b1).length) ((List.map (eInt .u8) b1).length) false, .msl 4 0 ((List.map (eInt .u8) y.2.2.2).length) ((List.map (eInt .u8) y.2.2.2).length) false, .int .i64 y.2.1, .bool y.2.2.1]]⟩, none, none, some ⟨1, false, (List.map (eInt .u8) b1)⟩, some ⟨1, false, (List.map (eInt .u8) y.2.2.2)⟩])
noncomputable def Journal_Append (kind : Int) (body : List Int) (fuse : Int) (down : Bool) (b1 : List Int) (b2 : List Int) : Option (Int × Int × Bool × (List Int)) := ((frame_Put kind body).bind fun y1 => (bif ((y1.2 : Int) != 0) then (some (y1.2, fuse, down, b2)) else ((Journal_effect__Append_1 fuse down y1.1 b1 b2).bind fun y3 => (some (y3.1, y3.2.1, y3.2.2.1, y3.2.2.2)))))
theorem Journal_Append_ok {kind : Int} {body : List Int} {fuse : Int} {down : Bool} {b1 : List Int} {b2 : List Int} {r : Int × Int × Bool × (List Int)} (h : Journal_Append kind body fuse down b1 b2 = some r) : Sound E 69 [.ptr 0 0 0, .int .u8 kind, .sl false 1 (List.map (eInt .u8) body)] [some ⟨4, true, [[.msl 1 0 ((List.map (eInt .u8) b1).length) ((List.map (eInt .u8) b1).length) false, .msl 2 0 ((List.map (eInt .u8) b2).length) ((List.map (eInt .u8) b2).length) false, .int .i64 fuse, .bool down]]⟩, some ⟨1, false, (List.map (eInt .u8) b1)⟩, some ⟨1, false, (List.map (eInt .u8) b2)⟩] (Rs (Journal_Append_e b1) r) := so (fn := Tryd.f69) (k := true) (m := 3) h <| by
 intro r h; unfold Journal_Append at h
 refine zc 10 [] h (fun _ => frame_Put_ok) fun y1 h => ?_
 refine zs 16 h (fun h => ?_) fun h => ?_
 ·
  refine zf 5 [.mv 1, .mv 2] ?_
  exact zu 1 h
 refine zc 7 [] h (fun _ => Journal_effect__Append_1_ok) fun y3 h => ?_
 exact zu 3 h
end Go.RX.L

set_option linter.unusedSimpArgs false
set_option linter.unusedVariables false
set_option maxRecDepth 100000
set_option maxHeartbeats 4000000
namespace Go.RX.L
open Go Go.RX Go.Proofs
attribute [local irreducible] FinQ
noncomputable def Journal_Sync_1_e (fuse : Int) (down : Bool) (b3 : List Int) (y : (List Int) × (List Int)) : D × Sto := (.tup [], [some ⟨1, true, [[.ptr 1 0 0]]⟩, some ⟨4, true, [[.msl 4 0 ((List.map (eInt .u8) y.1).length) ((List.map (eInt .u8) y.1).length) false, .msl 5 0 ((List.map (eInt .u8) y.2).length) ((List.map (eInt .u8) y.2).length) false, .int .i64 fuse, .bool down]]⟩, none, some ⟨1, false, (List.map (eInt .u8) b3)⟩, some ⟨1, false, (List.map (eInt .u8) y.1)⟩, some ⟨1, false, (List.map (eInt .u8) y.2)⟩])
noncomputable def Journal_Sync_1 (fuse : Int) (down : Bool) (b2 : List Int) (b3 : List Int) : Option ((List Int) × (List Int)) := (bif (decide (((List.map (eInt .u8) b2).length + (List.take ((List.map (eInt .u8) b3).length) (List.drop 0 (List.map (eInt .u8) b3))).length) * 1 ≤ bytesLim)) then (some ((b2 ++ b3), [])) else none)
theorem Journal_Sync_1_ok {fuse : Int} {down : Bool} {b2 : List Int} {b3 : List Int} {r : (List Int) × (List Int)} (h : Journal_Sync_1 fuse down b2 b3 = some r) : Sound E 85 [.ptr 0 0 0] [some ⟨1, true, [[.ptr 1 0 0]]⟩, some ⟨4, true, [[.msl 2 0 ((List.map (eInt .u8) b2).length) ((List.map (eInt .u8) b2).length) false, .msl 3 0 ((List.map (eInt .u8) b3).length) ((List.map (eInt .u8) b3).length) false, .int .i64 fuse, .bool down]]⟩, some ⟨1, false, (List.map (eInt .u8) b2)⟩, some ⟨1, false, (List.map (eInt .u8) b3)⟩] (Rs (Journal_Sync_1_e fuse down b3) r) := so (fn := Tryd.f85) (k := true) (m := 4) h <| by
 intro r h; unfold Journal_Sync_1 at h
 refine zm 7 (b := (Nat.beq ((List.take ((List.map (eInt .u8) b3).length) (List.drop 0 (List.map (eInt .u8) b3))).length) ((List.map (eInt .u8) b3).length))) (by simp) ?_
 refine zn 0 h fun h => ?_
 refine zm 0 (b := (Nat.ble (0 + (List.map (eInt .u8) b2).length) ((List.map (eInt .u8) b2).length))) (ble_full _) ?_
 refine zw 0 (a := (List.take ((List.map (eInt .u8) b2).length) (List.drop 0 (List.map (eInt .u8) b2)) ++ (List.take ((List.map (eInt .u8) b3).length) (List.drop 0 (List.map (eInt .u8) b3))))) (b := (List.map (eInt .u8) (b2 ++ b3))) (by simp only [take_full, take_full', List.map_append, List.map_take, List.map_drop]) ?_
 refine zf 4 [.matc 1 0 1 1] ?_
 exact zu 1 h
end Go.RX.L

set_option linter.unusedSimpArgs false
set_option linter.unusedVariables false
set_option maxRecDepth 100000
set_option maxHeartbeats 4000000
namespace Go.RX.L
open Go Go.RX Go.Proofs
attribute [local irreducible] FinQ
noncomputable def Journal_effect__Sync_1_c := codeAt (bodyOf Tryd.f52)
noncomputable def Journal_effect__Sync_1_e (y : Int × Int × Bool × (List Int) × (List Int)) : D × Sto := (.int .i64 y.1, [some ⟨4, true, [[.msl 4 0 ((List.map (eInt .u8) y.2.2.2.1).length) ((List.map (eInt .u8) y.2.2.2.1).length) false, .msl 5 0 ((List.map (eInt .u8) y.2.2.2.2).length) ((List.map (eInt .u8) y.2.2.2.2).length) false, .int .i64 y.2.1, .bool y.2.2.1]]⟩, some ⟨1, true, [[.ptr 0 0 0]]⟩, none, none, some ⟨1, false, (List.map (eInt .u8) y.2.2.2.1)⟩, some ⟨1, false, (List.map (eInt .u8) y.2.2.2.2)⟩])
abbrev Journal_effect__Sync_1_W (fuse : Int) (down : Bool) (b2 : List Int) (b3 : List Int) := AOk E (Cx.of Tryd.f52 true 4) Journal_effect__Sync_1_e
noncomputable def Journal_effect__Sync_1_1M (fuse : Int) (down : Bool) (b2 : List Int) (b3 : List Int) (fuse2 : Int) (down2 : Bool) : M := ⟨[.code (Journal_effect__Sync_1_c [1, 1])], [(0, .ptr 0 0 0), (1, .fn 85 [] [.ptr 1 0 0])], [some ⟨4, true, [[.msl 2 0 ((List.map (eInt .u8) b2).length) ((List.map (eInt .u8) b2).length) false, .msl 3 0 ((List.map (eInt .u8) b3).length) ((List.map (eInt .u8) b3).length) false, .int .i64 fuse2, .bool down2]]⟩, some ⟨1, true, [[.ptr 0 0 0]]⟩, some ⟨1, false, (List.map (eInt .u8) b2)⟩, some ⟨1, false, (List.map (eInt .u8) b3)⟩]⟩
noncomputable def Journal_effect__Sync_1_1 (fuse : Int) (down : Bool) (b2 : List Int) (b3 : List Int) (fuse2 : Int) (down2 : Bool) : Option (Int × Int × Bool × (List Int) × (List Int)) := (bif down2 then (some (61, fuse2, down2, b2, b3)) else (bif (decide ((fuse2 : Int) > 0)) then ((Journal_Sync_1 (IntKind.i64.wrap (fuse2 - 1)) down2 b2 b3).bind fun y3 => (some (0, (IntKind.i64.wrap (fuse2 - 1)), down2, y3.1, y3.2))) else ((Journal_Sync_1 fuse2 down2 b2 b3).bind fun y4 => (some (0, fuse2, down2, y4.1, y4.2)))))
theorem Journal_effect__Sync_1_1_ok {fuse down b2 b3 fuse2 down2} : Journal_effect__Sync_1_W fuse down b2 b3 (Journal_effect__Sync_1_1M fuse down b2 b3 fuse2 down2) (Journal_effect__Sync_1_1 fuse down b2 b3 fuse2 down2) := by
 intro r h; unfold Journal_effect__Sync_1_1 at h
 refine zs 10 h (fun h => ?_) fun h => ?_
 ·
  refine zf 4 [.mv 2, .mv 3] ?_
  exact zu 1 h
 refine zs 12 h (fun h => ?_) fun h => ?_
 ·
  refine zc 17 [] h (fun _ => Journal_Sync_1_ok) fun y3 h => ?_
  refine zf 5 [.mv 3] ?_
  exact zu 1 h
 refine zc 5 [] h (fun _ => Journal_Sync_1_ok) fun y4 h => ?_
 refine zf 5 [.mv 3] ?_
 exact zu 1 h
noncomputable def Journal_effect__Sync_1_2M (fuse : Int) (down : Bool) (b2 : List Int) (b3 : List Int) (t16 : Bool) : M := ⟨[.code (Journal_effect__Sync_1_c [1, 0, 1]), .code (Journal_effect__Sync_1_c [1, 1])], [(0, .ptr 0 0 0), (1, .fn 85 [] [.ptr 1 0 0]), (16, .bool t16)], [some ⟨4, true, [[.msl 2 0 ((List.map (eInt .u8) b2).length) ((List.map (eInt .u8) b2).length) false, .msl 3 0 ((List.map (eInt .u8) b3).length) ((List.map (eInt .u8) b3).length) false, .int .i64 fuse, .bool down]]⟩, some ⟨1, true, [[.ptr 0 0 0]]⟩, some ⟨1, false, (List.map (eInt .u8) b2)⟩, some ⟨1, false, (List.map (eInt .u8) b3)⟩]⟩
noncomputable def Journal_effect__Sync_1_2 (fuse : Int) (down : Bool) (b2 : List Int) (b3 : List Int) (t16 : Bool) : Option (Int × Int × Bool × (List Int) × (List Int)) := (bif t16 then (Journal_effect__Sync_1_1 fuse down b2 b3 (-1) true) else (Journal_effect__Sync_1_1 fuse down b2 b3 fuse down))
theorem Journal_effect__Sync_1_2_ok {fuse down b2 b3 t16} : Journal_effect__Sync_1_W fuse down b2 b3 (Journal_effect__Sync_1_2M fuse down b2 b3 t16) (Journal_effect__Sync_1_2 fuse down b2 b3 t16) := by
 intro r h; unfold Journal_effect__Sync_1_2 at h
 refine zs 1 h (fun h => ?_) fun h => ?_
 ·
  exact zg 14 (Journal_effect__Sync_1_1_ok h)
 exact zg 1 (Journal_effect__Sync_1_1_ok h)
noncomputable def Journal_effect__Sync_1 (fuse : Int) (down : Bool) (b2 : List Int) (b3 : List Int) : Option (Int × Int × Bool × (List Int) × (List Int)) := (bif (!down) then (Journal_effect__Sync_1_2 fuse down b2 b3 ((fuse : Int) == 0)) else (Journal_effect__Sync_1_2 fuse down b2 b3 false))
theorem Journal_effect__Sync_1_ok {fuse : Int} {down : Bool} {b2 : List Int} {b3 : List Int} {r : Int × Int × Bool × (List Int) × (List Int)} (h : Journal_effect__Sync_1 fuse down b2 b3 = some r) : Sound E 52 [.ptr 0 0 0, .fn 85 [] [.ptr 1 0 0]] [some ⟨4, true, [[.msl 2 0 ((List.map (eInt .u8) b2).length) ((List.map (eInt .u8) b2).length) false, .msl 3 0 ((List.map (eInt .u8) b3).length) ((List.map (eInt .u8) b3).length) false, .int .i64 fuse, .bool down]]⟩, some ⟨1, true, [[.ptr 0 0 0]]⟩, some ⟨1, false, (List.map (eInt .u8) b2)⟩, some ⟨1, false, (List.map (eInt .u8) b3)⟩] (Rs Journal_effect__Sync_1_e r) := so (fn := Tryd.f52) (k := true) (m := 4) h <| by
 intro r h; unfold Journal_effect__Sync_1 at h
 refine zs 15 h (fun h => ?_) fun h => ?_
 ·
  exact zg 12 (Journal_effect__Sync_1_2_ok h)
 exact zg 11 (Journal_effect__Sync_1_2_ok h)
end Go.RX.L

set_option linter.unusedSimpArgs false
set_option linter.unusedVariables false
set_option maxRecDepth 100000
set_option maxHeartbeats 4000000
namespace Go.RX.L
open Go Go.RX Go.Proofs
attribute [local irreducible] FinQ
noncomputable def Journal_Sync_e (y : Int × Int × Bool × (List Int) × (List Int)) : D × Sto := (.int .i64 y.1, [some ⟨4, true, [[.msl 3 0 ((List.map (eInt .u8) y.2.2.2.1).length) ((List.map (eInt .u8) y.2.2.2.1).length) false, .msl 4 0 ((List.map (eInt .u8) y.2.2.2.2).length) ((List.map (eInt .u8) y.2.2.2.2).length) false, .int .i64 y.2.1, .bool y.2.2.1]]⟩, none, none, some ⟨1, false, (List.map (eInt .u8) y.2.2.2.1)⟩, some ⟨1, false, (List.map (eInt .u8) y.2.2.2.2)⟩])
noncomputable def Journal_Sync (fuse : Int) (down : Bool) (b1 : List Int) (b2 : List Int) : Option (Int × Int × Bool × (List Int) × (List Int)) := ((Journal_effect__Sync_1 fuse down b1 b2).bind fun y1 => (some (y1.1, y1.2.1, y1.2.2.1, y1.2.2.2.1, y1.2.2.2.2)))
theorem Journal_Sync_ok {fuse : Int} {down : Bool} {b1 : List Int} {b2 : List Int} {r : Int × Int × Bool × (List Int) × (List Int)} (h : Journal_Sync fuse down b1 b2 = some r) : Sound E 70 [.ptr 0 0 0] [some ⟨4, true, [[.msl 1 0 ((List.map (eInt .u8) b1).length) ((List.map (eInt .u8) b1).length) false, .msl 2 0 ((List.map (eInt .u8) b2).length) ((List.map (eInt .u8) b2).length) false, .int .i64 fuse, .bool down]]⟩, some ⟨1, false, (List.map (eInt .u8) b1)⟩, some ⟨1, false, (List.map (eInt .u8) b2)⟩] (Rs Journal_Sync_e r) := so (fn := Tryd.f70) (k := true) (m := 3) h <| by
 intro r h; unfold Journal_Sync at h
 refine zc 11 [] h (fun _ => Journal_effect__Sync_1_ok) fun y1 h => ?_
 exact zu 3 h
end Go.RX.L

set_option linter.unusedSimpArgs false
set_option linter.unusedVariables false
set_option maxRecDepth 100000
set_option maxHeartbeats 4000000
namespace Go.RX.L
open Go Go.RX Go.Proofs
attribute [local irreducible] FinQ
end Go.RX.L

set_option linter.unusedSimpArgs false
set_option linter.unusedVariables false
set_option maxRecDepth 100000
set_option maxHeartbeats 4000000
namespace Go.RX.L
open Go Go.RX Go.Proofs
attribute [local irreducible] FinQ
end Go.RX.L

set_option linter.unusedSimpArgs false
set_option linter.unusedVariables false
set_option maxRecDepth 100000
set_option maxHeartbeats 4000000
namespace Go.RX.L
open Go Go.RX Go.Proofs
attribute [local irreducible] FinQ
noncomputable def Journal_Down_e (y : Bool) : D × Sto := (.bool y, [])
noncomputable def Journal_Down (j : Journal) : Option Bool := (some j.down)
theorem Journal_Down_ok {j : Journal} {r : Bool} (h : Journal_Down j = some r) : Sound E 21 [.iptr 4 [[.sl false 1 (List.map (eInt .u8) j.synced), .sl false 1 (List.map (eInt .u8) j.tail), .int .i64 j.fuse, .bool j.down]] 0 0] [] (Rs Journal_Down_e r) := so (fn := Tryd.f21) (k := false) (m := 0) h <| by
 intro r h; unfold Journal_Down at h
 exact zu 14 h
end Go.RX.L

set_option linter.unusedSimpArgs false
set_option linter.unusedVariables false
set_option maxRecDepth 100000
namespace Go.RX.L
open Go Go.RX

def eff (fuse : Int) (down : Bool) : Option Int := if down = true ∨ fuse = 0 then none else some (if 0 < fuse then fuse - 1 else fuse)
def fd (fuse : Int) (down : Bool) : Int := bif down then fuse else -1
def okFuse (f : Int) : Prop := -1 ≤ f ∧ f ≤ 9223372036854775807
theorem eff_up {f g : Int} {d : Bool} (h : eff f d = some g) : d = false ∧ f ≠ 0 ∧ g = if 0 < f then f - 1 else f := by
  unfold eff at h
  split at h
  · cases h
  · rename_i hn
    simp only [not_or, Bool.not_eq_true] at hn
    exact ⟨hn.1, hn.2, (Option.some.inj h).symm⟩
theorem eff_fuse {f g : Int} {d : Bool} (hf : okFuse f) (h : eff f d = some g) : okFuse g := by
  obtain ⟨-, h1, rfl⟩ := eff_up h
  unfold okFuse at *
  split <;> omega
theorem fd_fuse {f : Int} {d : Bool} (hf : okFuse f) : okFuse (fd f d) := by
  cases d <;> simp [fd, okFuse] at * <;> omega
theorem lim7 {n : Nat} (h : n ≤ 20000000) : decide (n * 1 ≤ bytesLim) = true := limOk (by omega)

theorem jappend {k : Int} {body : List Int} (hk : 0 ≤ k ∧ k ≤ 255) (hb : Bytes body) (hl : body.length ≤ 8192) {fuse : Int} (hf : okFuse fuse) {down : Bool} {s t : List Int} (ht : t.length ≤ 10000000) :
    Journal_Append k body fuse down s t = some (match eff fuse down with | some f => (0, f, false, t ++ encF k body) | none => (61, fd fuse down, true, t)) := by
  have hp : frame_Put k body = some (encF k body, 0) := by rw [framePut_ok hk hb (by simp only [memB]; omega), putF, if_pos hl]
  have hlen := encF_len k body
  have app : ∀ f d, Journal_Append_1 (encF k body) f d s t = some (t ++ encF k body) := fun f d => by
    simp only [Journal_Append_1, List.length_map, lim7 (show t.length + (encF k body).length ≤ 20000000 by omega), cond_true]
  unfold okFuse at hf
  simp only [Journal_Append, hp, Option.bind_some, bne_self_eq_false, cond_false, Journal_effect__Append_1]
  cases down with
  | true => simp only [Bool.not_true, cond_false, Journal_effect__Append_1_2, Journal_effect__Append_1_1, cond_true, Option.bind_some, eff, fd, true_or, if_true]
  | false =>
    simp only [Bool.not_false, cond_true]
    by_cases h0 : fuse = 0
    · subst h0
      simp only [beq_self_eq_true, Journal_effect__Append_1_2, cond_true, Journal_effect__Append_1_1, Option.bind_some, eff, fd, or_true, if_true, cond_false]
    · have e0 : ((fuse : Int) == 0) = false := by simpa using h0
      simp only [e0, Journal_effect__Append_1_2, cond_false, Journal_effect__Append_1_1, app, Option.bind_some, eff, fd, h0, Bool.false_eq_true, or_self, if_false]
      by_cases hp : 0 < fuse
      · have : decide (fuse > 0) = true := decide_eq_true hp
        rw [wI64 (n := fuse - 1) (by omega) (by omega)]
        simp only [this, cond_true, Option.bind_some, if_pos hp]
      · have : decide (fuse > 0) = false := decide_eq_false (by omega)
        simp only [this, cond_false, Option.bind_some, if_neg hp]

theorem jsync {fuse : Int} (hf : okFuse fuse) {down : Bool} {s t : List Int} (ht : s.length + t.length ≤ 20000000) :
    Journal_Sync fuse down s t = some (match eff fuse down with | some f => (0, f, false, s ++ t, []) | none => (61, fd fuse down, true, s, t)) := by
  have app : ∀ f d, Journal_Sync_1 f d s t = some (s ++ t, []) := fun f d => by
    have e : (List.take t.length (List.drop 0 (List.map (eInt .u8) t))).length = t.length := by simp
    simp only [Journal_Sync_1, List.length_map]
    rw [e, lim7 ht]; rfl
  unfold okFuse at hf
  simp only [Journal_Sync, Journal_effect__Sync_1]
  cases down with
  | true => simp only [Bool.not_true, cond_false, Journal_effect__Sync_1_2, Journal_effect__Sync_1_1, cond_true, Option.bind_some, eff, fd, true_or, if_true]
  | false =>
    simp only [Bool.not_false, cond_true]
    by_cases h0 : fuse = 0
    · subst h0
      simp only [beq_self_eq_true, Journal_effect__Sync_1_2, cond_true, Journal_effect__Sync_1_1, Option.bind_some, eff, fd, or_true, if_true, cond_false]
    · have e0 : ((fuse : Int) == 0) = false := by simpa using h0
      simp only [e0, Journal_effect__Sync_1_2, cond_false, Journal_effect__Sync_1_1, app, Option.bind_some, eff, fd, h0, Bool.false_eq_true, or_self, if_false]
      by_cases hp : 0 < fuse
      · have : decide (fuse > 0) = true := decide_eq_true hp
        rw [wI64 (n := fuse - 1) (by omega) (by omega)]
        simp only [this, cond_true, Option.bind_some, if_pos hp]
      · have : decide (fuse > 0) = false := decide_eq_false (by omega)
        simp only [this, cond_false, Option.bind_some, if_neg hp]

/-! ### records -/
def okRec (m : Msg) : Prop := FineM m ∧ rightM m = true
def rec1 (m : Msg) : Fr1 := (m.Kind, encB m)
theorem okRec.fr {m : Msg} (h : okRec m) : okFr (rec1 m) := by
  refine ⟨kind_in h.2, fun c hc => ?_, by have := encB_len h.1 h.2; simp only [rec1]; omega⟩
  have := frame_bytes h.1 h.2
  have hc' : c ∈ encB m := hc
  exact this c (by simp only [encF, inner]; simp [hc'])
def log (rs : List Msg) : List Int := frs (rs.map rec1)
theorem log_app (a b : List Msg) : log (a ++ b) = log a ++ log b := by simp [log, frs_app]
theorem log_one (m : Msg) : log [m] = encF m.Kind (encB m) := by simp [log, frs, rec1]
/-- A disk: its records; what is cut; what is not synced. -/
structure Disk (rs : List Msg) (J : List Int) (s : List Int) : Prop where
  ok : ∀ m ∈ rs, okRec m
  eq : s = log rs ++ J
  cut : ∃ e, pF J = .inl e
  jb : Bytes J
theorem Disk.nil : Disk [] [] [] := ⟨fun m h => by simp at h, rfl, ⟨_, rfl⟩, fun c hc => by simp at hc⟩

end Go.RX.L

set_option linter.unusedSimpArgs false
set_option linter.unusedVariables false
set_option maxRecDepth 100000
set_option maxHeartbeats 4000000
namespace Go.RX.L
open Go Go.RX Go.Proofs
attribute [local irreducible] FinQ
noncomputable def Acceptor_reply_e (kept : keptT) (c : Config) (node : Int) (fuse : Int) (down : Bool) (b2 : List Int) (b3 : List Int) (y : Msg) : D × Sto := (.agg [.int .i64 y.Kind, .int .i64 y.From, .int .i64 y.To, .int .i64 y.Epoch, .int .i64 y.Ballot, .int .i64 y.Accepted, .int .i64 y.Nonce, .int .i64 y.Time, .int .u64 y.Up, .int .i64 y.Code, .bool y.HasPlan, .int .i64 y.Plan.Epoch, .int .i64 y.Plan.Target, .int .i64 y.Plan.Prev, .int .i64 y.Plan.Spill, .int .i64 y.Plan.Percent, .int .i64 y.Plan.Stamp, .int .i64 y.Plan.Since, .int .i64 y.Plan.Ramped, .int .u64 y.Plan.Up, .int .u64 y.Plan.Sup, .sl false 1 (List.map (eInt .i64) y.Plan.Pen), .sl false 1 (List.map (eInt .i64) y.Plan.Changes), .sl false 1 (List.map (eInt .i64) y.ID), .sl false 1 (List.map (eInt .u8) y.Session), .sl false 1 (List.map (eInt .u8) y.Payload)], [some ⟨67, true, [[.int .i64 kept.epoch, .int .i64 kept.known.Epoch, .int .i64 kept.known.Target, .int .i64 kept.known.Prev, .int .i64 kept.known.Spill, .int .i64 kept.known.Percent, .int .i64 kept.known.Stamp, .int .i64 kept.known.Since, .int .i64 kept.known.Ramped, .int .u64 kept.known.Up, .int .u64 kept.known.Sup, .sl false 1 (List.map (eInt .i64) kept.known.Pen), .sl false 1 (List.map (eInt .i64) kept.known.Changes), .int .i64 kept.promised, .int .i64 kept.accepted, .int .i64 kept.plan.Epoch, .int .i64 kept.plan.Target, .int .i64 kept.plan.Prev, .int .i64 kept.plan.Spill, .int .i64 kept.plan.Percent, .int .i64 kept.plan.Stamp, .int .i64 kept.plan.Since, .int .i64 kept.plan.Ramped, .int .u64 kept.plan.Up, .int .u64 kept.plan.Sup, .sl false 1 (List.map (eInt .i64) kept.plan.Pen), .sl false 1 (List.map (eInt .i64) kept.plan.Changes), .int .i64 kept.writes.low, .int .i64 kept.writes.high, .int .i64 kept.writes.at_, .int .i64 kept.wish, .int .i64 kept.wishAt, .bool kept.lead.is_, .int .i64 kept.lead.who, .int .i64 kept.lead.at_, .int .i64 c.F_, .int .i64 c.Deciders, .int .i64 c.Targets, .int .i64 c.Routers, .int .i64 c.Observers, .sl false 1 (List.map (eInt .i64) c.Tiers), .int .i64 c.Every, .int .i64 c.Wait, .int .i64 c.Rise, .int .i64 c.Fall, .int .i64 c.Fresh, .int .i64 c.L_, .int .i64 c.M_, .int .i64 c.Dwell, .int .i64 c.D_, .int .i64 c.W_, .int .i64 c.B_, .int .i64 c.Hit, .int .i64 c.Suppress, .int .i64 c.Reuse, .int .i64 c.Half, .int .i64 c.First, .int .i64 c.Step, .int .i64 c.StepTime, .int .i64 c.S_, .int .i64 c.Cap, .int .i64 c.Span, .int .i64 c.Room, .int .i64 c.Tries, .int .i64 c.Retry, .int .i64 node, .ptr 1 0 0]]⟩, some ⟨4, true, [[.msl 2 0 ((List.map (eInt .u8) b2).length) ((List.map (eInt .u8) b2).length) false, .msl 3 0 ((List.map (eInt .u8) b3).length) ((List.map (eInt .u8) b3).length) false, .int .i64 fuse, .bool down]]⟩, some ⟨1, false, (List.map (eInt .u8) b2)⟩, some ⟨1, false, (List.map (eInt .u8) b3)⟩])
noncomputable def Acceptor_reply (m : Msg) (kind : Int) (kept : keptT) (c : Config) (node : Int) (fuse : Int) (down : Bool) (b2 : List Int) (b3 : List Int) : Option Msg := (some (⟨kind, node, m.From, m.Epoch, 0, 0, 0, 0, 0, 0, false, (⟨0, 0, 0, 0, 0, 0, 0, 0, 0, 0, [], []⟩ : Plan), [], [], []⟩ : Msg))
theorem Acceptor_reply_ok {m : Msg} {kind : Int} {kept : keptT} {c : Config} {node : Int} {fuse : Int} {down : Bool} {b2 : List Int} {b3 : List Int} {r : Msg} (h : Acceptor_reply m kind kept c node fuse down b2 b3 = some r) : Sound E 46 [.ptr 0 0 0, .agg [.int .i64 m.Kind, .int .i64 m.From, .int .i64 m.To, .int .i64 m.Epoch, .int .i64 m.Ballot, .int .i64 m.Accepted, .int .i64 m.Nonce, .int .i64 m.Time, .int .u64 m.Up, .int .i64 m.Code, .bool m.HasPlan, .int .i64 m.Plan.Epoch, .int .i64 m.Plan.Target, .int .i64 m.Plan.Prev, .int .i64 m.Plan.Spill, .int .i64 m.Plan.Percent, .int .i64 m.Plan.Stamp, .int .i64 m.Plan.Since, .int .i64 m.Plan.Ramped, .int .u64 m.Plan.Up, .int .u64 m.Plan.Sup, .sl false 1 (List.map (eInt .i64) m.Plan.Pen), .sl false 1 (List.map (eInt .i64) m.Plan.Changes), .sl false 1 (List.map (eInt .i64) m.ID), .sl false 1 (List.map (eInt .u8) m.Session), .sl false 1 (List.map (eInt .u8) m.Payload)], .int .i64 kind] [some ⟨67, true, [[.int .i64 kept.epoch, .int .i64 kept.known.Epoch, .int .i64 kept.known.Target, .int .i64 kept.known.Prev, .int .i64 kept.known.Spill, .int .i64 kept.known.Percent, .int .i64 kept.known.Stamp, .int .i64 kept.known.Since, .int .i64 kept.known.Ramped, .int .u64 kept.known.Up, .int .u64 kept.known.Sup, .sl false 1 (List.map (eInt .i64) kept.known.Pen), .sl false 1 (List.map (eInt .i64) kept.known.Changes), .int .i64 kept.promised, .int .i64 kept.accepted, .int .i64 kept.plan.Epoch, .int .i64 kept.plan.Target, .int .i64 kept.plan.Prev, .int .i64 kept.plan.Spill, .int .i64 kept.plan.Percent, .int .i64 kept.plan.Stamp, .int .i64 kept.plan.Since, .int .i64 kept.plan.Ramped, .int .u64 kept.plan.Up, .int .u64 kept.plan.Sup, .sl false 1 (List.map (eInt .i64) kept.plan.Pen), .sl false 1 (List.map (eInt .i64) kept.plan.Changes), .int .i64 kept.writes.low, .int .i64 kept.writes.high, .int .i64 kept.writes.at_, .int .i64 kept.wish, .int .i64 kept.wishAt, .bool kept.lead.is_, .int .i64 kept.lead.who, .int .i64 kept.lead.at_, .int .i64 c.F_, .int .i64 c.Deciders, .int .i64 c.Targets, .int .i64 c.Routers, .int .i64 c.Observers, .sl false 1 (List.map (eInt .i64) c.Tiers), .int .i64 c.Every, .int .i64 c.Wait, .int .i64 c.Rise, .int .i64 c.Fall, .int .i64 c.Fresh, .int .i64 c.L_, .int .i64 c.M_, .int .i64 c.Dwell, .int .i64 c.D_, .int .i64 c.W_, .int .i64 c.B_, .int .i64 c.Hit, .int .i64 c.Suppress, .int .i64 c.Reuse, .int .i64 c.Half, .int .i64 c.First, .int .i64 c.Step, .int .i64 c.StepTime, .int .i64 c.S_, .int .i64 c.Cap, .int .i64 c.Span, .int .i64 c.Room, .int .i64 c.Tries, .int .i64 c.Retry, .int .i64 node, .ptr 1 0 0]]⟩, some ⟨4, true, [[.msl 2 0 ((List.map (eInt .u8) b2).length) ((List.map (eInt .u8) b2).length) false, .msl 3 0 ((List.map (eInt .u8) b3).length) ((List.map (eInt .u8) b3).length) false, .int .i64 fuse, .bool down]]⟩, some ⟨1, false, (List.map (eInt .u8) b2)⟩, some ⟨1, false, (List.map (eInt .u8) b3)⟩] (Rs (Acceptor_reply_e kept c node fuse down b2 b3) r) := so (fn := Tryd.f46) (k := false) (m := 4) h <| by
 intro r h; unfold Acceptor_reply at h
 refine zf 12 [.blk 5 [some 1, some 1, some 1, some 1, some 1]] ?_
 exact zu 2 h
end Go.RX.L

set_option linter.unusedSimpArgs false
set_option linter.unusedVariables false
set_option maxRecDepth 100000
set_option maxHeartbeats 4000000
namespace Go.RX.L
open Go Go.RX Go.Proofs
attribute [local irreducible] FinQ
noncomputable def Acceptor_decided_e (kept : keptT) (c : Config) (node : Int) (fuse : Int) (down : Bool) (b2 : List Int) (b3 : List Int) (y : List Msg) : D × Sto := (.sl false 26 (List.map Msg.enc y), [some ⟨67, true, [[.int .i64 kept.epoch, .int .i64 kept.known.Epoch, .int .i64 kept.known.Target, .int .i64 kept.known.Prev, .int .i64 kept.known.Spill, .int .i64 kept.known.Percent, .int .i64 kept.known.Stamp, .int .i64 kept.known.Since, .int .i64 kept.known.Ramped, .int .u64 kept.known.Up, .int .u64 kept.known.Sup, .sl false 1 (List.map (eInt .i64) kept.known.Pen), .sl false 1 (List.map (eInt .i64) kept.known.Changes), .int .i64 kept.promised, .int .i64 kept.accepted, .int .i64 kept.plan.Epoch, .int .i64 kept.plan.Target, .int .i64 kept.plan.Prev, .int .i64 kept.plan.Spill, .int .i64 kept.plan.Percent, .int .i64 kept.plan.Stamp, .int .i64 kept.plan.Since, .int .i64 kept.plan.Ramped, .int .u64 kept.plan.Up, .int .u64 kept.plan.Sup, .sl false 1 (List.map (eInt .i64) kept.plan.Pen), .sl false 1 (List.map (eInt .i64) kept.plan.Changes), .int .i64 kept.writes.low, .int .i64 kept.writes.high, .int .i64 kept.writes.at_, .int .i64 kept.wish, .int .i64 kept.wishAt, .bool kept.lead.is_, .int .i64 kept.lead.who, .int .i64 kept.lead.at_, .int .i64 c.F_, .int .i64 c.Deciders, .int .i64 c.Targets, .int .i64 c.Routers, .int .i64 c.Observers, .sl false 1 (List.map (eInt .i64) c.Tiers), .int .i64 c.Every, .int .i64 c.Wait, .int .i64 c.Rise, .int .i64 c.Fall, .int .i64 c.Fresh, .int .i64 c.L_, .int .i64 c.M_, .int .i64 c.Dwell, .int .i64 c.D_, .int .i64 c.W_, .int .i64 c.B_, .int .i64 c.Hit, .int .i64 c.Suppress, .int .i64 c.Reuse, .int .i64 c.Half, .int .i64 c.First, .int .i64 c.Step, .int .i64 c.StepTime, .int .i64 c.S_, .int .i64 c.Cap, .int .i64 c.Span, .int .i64 c.Room, .int .i64 c.Tries, .int .i64 c.Retry, .int .i64 node, .ptr 1 0 0]]⟩, some ⟨4, true, [[.msl 2 0 ((List.map (eInt .u8) b2).length) ((List.map (eInt .u8) b2).length) false, .msl 3 0 ((List.map (eInt .u8) b3).length) ((List.map (eInt .u8) b3).length) false, .int .i64 fuse, .bool down]]⟩, some ⟨1, false, (List.map (eInt .u8) b2)⟩, some ⟨1, false, (List.map (eInt .u8) b3)⟩])
noncomputable def Acceptor_decided (m : Msg) (kept : keptT) (c : Config) (node : Int) (fuse : Int) (down : Bool) (b2 : List Int) (b3 : List Int) : Option (List Msg) := ((Acceptor_reply m 9 kept c node fuse down b2 b3).bind fun y1 => (some ([(⟨y1.Kind, y1.From, y1.To, kept.known.Epoch, y1.Ballot, y1.Accepted, y1.Nonce, y1.Time, y1.Up, y1.Code, true, kept.known, y1.ID, y1.Session, y1.Payload⟩ : Msg)])))
theorem Acceptor_decided_ok {m : Msg} {kept : keptT} {c : Config} {node : Int} {fuse : Int} {down : Bool} {b2 : List Int} {b3 : List Int} {r : List Msg} (h : Acceptor_decided m kept c node fuse down b2 b3 = some r) : Sound E 42 [.ptr 0 0 0, .agg [.int .i64 m.Kind, .int .i64 m.From, .int .i64 m.To, .int .i64 m.Epoch, .int .i64 m.Ballot, .int .i64 m.Accepted, .int .i64 m.Nonce, .int .i64 m.Time, .int .u64 m.Up, .int .i64 m.Code, .bool m.HasPlan, .int .i64 m.Plan.Epoch, .int .i64 m.Plan.Target, .int .i64 m.Plan.Prev, .int .i64 m.Plan.Spill, .int .i64 m.Plan.Percent, .int .i64 m.Plan.Stamp, .int .i64 m.Plan.Since, .int .i64 m.Plan.Ramped, .int .u64 m.Plan.Up, .int .u64 m.Plan.Sup, .sl false 1 (List.map (eInt .i64) m.Plan.Pen), .sl false 1 (List.map (eInt .i64) m.Plan.Changes), .sl false 1 (List.map (eInt .i64) m.ID), .sl false 1 (List.map (eInt .u8) m.Session), .sl false 1 (List.map (eInt .u8) m.Payload)]] [some ⟨67, true, [[.int .i64 kept.epoch, .int .i64 kept.known.Epoch, .int .i64 kept.known.Target, .int .i64 kept.known.Prev, .int .i64 kept.known.Spill, .int .i64 kept.known.Percent, .int .i64 kept.known.Stamp, .int .i64 kept.known.Since, .int .i64 kept.known.Ramped, .int .u64 kept.known.Up, .int .u64 kept.known.Sup, .sl false 1 (List.map (eInt .i64) kept.known.Pen), .sl false 1 (List.map (eInt .i64) kept.known.Changes), .int .i64 kept.promised, .int .i64 kept.accepted, .int .i64 kept.plan.Epoch, .int .i64 kept.plan.Target, .int .i64 kept.plan.Prev, .int .i64 kept.plan.Spill, .int .i64 kept.plan.Percent, .int .i64 kept.plan.Stamp, .int .i64 kept.plan.Since, .int .i64 kept.plan.Ramped, .int .u64 kept.plan.Up, .int .u64 kept.plan.Sup, .sl false 1 (List.map (eInt .i64) kept.plan.Pen), .sl false 1 (List.map (eInt .i64) kept.plan.Changes), .int .i64 kept.writes.low, .int .i64 kept.writes.high, .int .i64 kept.writes.at_, .int .i64 kept.wish, .int .i64 kept.wishAt, .bool kept.lead.is_, .int .i64 kept.lead.who, .int .i64 kept.lead.at_, .int .i64 c.F_, .int .i64 c.Deciders, .int .i64 c.Targets, .int .i64 c.Routers, .int .i64 c.Observers, .sl false 1 (List.map (eInt .i64) c.Tiers), .int .i64 c.Every, .int .i64 c.Wait, .int .i64 c.Rise, .int .i64 c.Fall, .int .i64 c.Fresh, .int .i64 c.L_, .int .i64 c.M_, .int .i64 c.Dwell, .int .i64 c.D_, .int .i64 c.W_, .int .i64 c.B_, .int .i64 c.Hit, .int .i64 c.Suppress, .int .i64 c.Reuse, .int .i64 c.Half, .int .i64 c.First, .int .i64 c.Step, .int .i64 c.StepTime, .int .i64 c.S_, .int .i64 c.Cap, .int .i64 c.Span, .int .i64 c.Room, .int .i64 c.Tries, .int .i64 c.Retry, .int .i64 node, .ptr 1 0 0]]⟩, some ⟨4, true, [[.msl 2 0 ((List.map (eInt .u8) b2).length) ((List.map (eInt .u8) b2).length) false, .msl 3 0 ((List.map (eInt .u8) b3).length) ((List.map (eInt .u8) b3).length) false, .int .i64 fuse, .bool down]]⟩, some ⟨1, false, (List.map (eInt .u8) b2)⟩, some ⟨1, false, (List.map (eInt .u8) b3)⟩] (Rs (Acceptor_decided_e kept c node fuse down b2 b3) r) := so (fn := Tryd.f42) (k := false) (m := 4) h <| by
 intro r h; unfold Acceptor_decided at h
 refine zc 11 [] h (fun _ => Acceptor_reply_ok) fun y1 h => ?_
 exact zu 24 h
end Go.RX.L

set_option linter.unusedSimpArgs false
set_option linter.unusedVariables false
set_option maxRecDepth 100000
set_option maxHeartbeats 4000000
namespace Go.RX.L
open Go Go.RX Go.Proofs
attribute [local irreducible] FinQ
noncomputable def Acceptor_nack_e (kept : keptT) (c : Config) (node : Int) (fuse : Int) (down : Bool) (b2 : List Int) (b3 : List Int) (y : List Msg) : D × Sto := (.sl false 26 (List.map Msg.enc y), [some ⟨67, true, [[.int .i64 kept.epoch, .int .i64 kept.known.Epoch, .int .i64 kept.known.Target, .int .i64 kept.known.Prev, .int .i64 kept.known.Spill, .int .i64 kept.known.Percent, .int .i64 kept.known.Stamp, .int .i64 kept.known.Since, .int .i64 kept.known.Ramped, .int .u64 kept.known.Up, .int .u64 kept.known.Sup, .sl false 1 (List.map (eInt .i64) kept.known.Pen), .sl false 1 (List.map (eInt .i64) kept.known.Changes), .int .i64 kept.promised, .int .i64 kept.accepted, .int .i64 kept.plan.Epoch, .int .i64 kept.plan.Target, .int .i64 kept.plan.Prev, .int .i64 kept.plan.Spill, .int .i64 kept.plan.Percent, .int .i64 kept.plan.Stamp, .int .i64 kept.plan.Since, .int .i64 kept.plan.Ramped, .int .u64 kept.plan.Up, .int .u64 kept.plan.Sup, .sl false 1 (List.map (eInt .i64) kept.plan.Pen), .sl false 1 (List.map (eInt .i64) kept.plan.Changes), .int .i64 kept.writes.low, .int .i64 kept.writes.high, .int .i64 kept.writes.at_, .int .i64 kept.wish, .int .i64 kept.wishAt, .bool kept.lead.is_, .int .i64 kept.lead.who, .int .i64 kept.lead.at_, .int .i64 c.F_, .int .i64 c.Deciders, .int .i64 c.Targets, .int .i64 c.Routers, .int .i64 c.Observers, .sl false 1 (List.map (eInt .i64) c.Tiers), .int .i64 c.Every, .int .i64 c.Wait, .int .i64 c.Rise, .int .i64 c.Fall, .int .i64 c.Fresh, .int .i64 c.L_, .int .i64 c.M_, .int .i64 c.Dwell, .int .i64 c.D_, .int .i64 c.W_, .int .i64 c.B_, .int .i64 c.Hit, .int .i64 c.Suppress, .int .i64 c.Reuse, .int .i64 c.Half, .int .i64 c.First, .int .i64 c.Step, .int .i64 c.StepTime, .int .i64 c.S_, .int .i64 c.Cap, .int .i64 c.Span, .int .i64 c.Room, .int .i64 c.Tries, .int .i64 c.Retry, .int .i64 node, .ptr 1 0 0]]⟩, some ⟨4, true, [[.msl 2 0 ((List.map (eInt .u8) b2).length) ((List.map (eInt .u8) b2).length) false, .msl 3 0 ((List.map (eInt .u8) b3).length) ((List.map (eInt .u8) b3).length) false, .int .i64 fuse, .bool down]]⟩, some ⟨1, false, (List.map (eInt .u8) b2)⟩, some ⟨1, false, (List.map (eInt .u8) b3)⟩])
noncomputable def Acceptor_nack (m : Msg) (kept : keptT) (c : Config) (node : Int) (fuse : Int) (down : Bool) (b2 : List Int) (b3 : List Int) : Option (List Msg) := ((Acceptor_reply m 6 kept c node fuse down b2 b3).bind fun y1 => (some ([(⟨y1.Kind, y1.From, y1.To, y1.Epoch, kept.promised, y1.Accepted, y1.Nonce, y1.Time, y1.Up, y1.Code, y1.HasPlan, y1.Plan, y1.ID, y1.Session, y1.Payload⟩ : Msg)])))
theorem Acceptor_nack_ok {m : Msg} {kept : keptT} {c : Config} {node : Int} {fuse : Int} {down : Bool} {b2 : List Int} {b3 : List Int} {r : List Msg} (h : Acceptor_nack m kept c node fuse down b2 b3 = some r) : Sound E 44 [.ptr 0 0 0, .agg [.int .i64 m.Kind, .int .i64 m.From, .int .i64 m.To, .int .i64 m.Epoch, .int .i64 m.Ballot, .int .i64 m.Accepted, .int .i64 m.Nonce, .int .i64 m.Time, .int .u64 m.Up, .int .i64 m.Code, .bool m.HasPlan, .int .i64 m.Plan.Epoch, .int .i64 m.Plan.Target, .int .i64 m.Plan.Prev, .int .i64 m.Plan.Spill, .int .i64 m.Plan.Percent, .int .i64 m.Plan.Stamp, .int .i64 m.Plan.Since, .int .i64 m.Plan.Ramped, .int .u64 m.Plan.Up, .int .u64 m.Plan.Sup, .sl false 1 (List.map (eInt .i64) m.Plan.Pen), .sl false 1 (List.map (eInt .i64) m.Plan.Changes), .sl false 1 (List.map (eInt .i64) m.ID), .sl false 1 (List.map (eInt .u8) m.Session), .sl false 1 (List.map (eInt .u8) m.Payload)]] [some ⟨67, true, [[.int .i64 kept.epoch, .int .i64 kept.known.Epoch, .int .i64 kept.known.Target, .int .i64 kept.known.Prev, .int .i64 kept.known.Spill, .int .i64 kept.known.Percent, .int .i64 kept.known.Stamp, .int .i64 kept.known.Since, .int .i64 kept.known.Ramped, .int .u64 kept.known.Up, .int .u64 kept.known.Sup, .sl false 1 (List.map (eInt .i64) kept.known.Pen), .sl false 1 (List.map (eInt .i64) kept.known.Changes), .int .i64 kept.promised, .int .i64 kept.accepted, .int .i64 kept.plan.Epoch, .int .i64 kept.plan.Target, .int .i64 kept.plan.Prev, .int .i64 kept.plan.Spill, .int .i64 kept.plan.Percent, .int .i64 kept.plan.Stamp, .int .i64 kept.plan.Since, .int .i64 kept.plan.Ramped, .int .u64 kept.plan.Up, .int .u64 kept.plan.Sup, .sl false 1 (List.map (eInt .i64) kept.plan.Pen), .sl false 1 (List.map (eInt .i64) kept.plan.Changes), .int .i64 kept.writes.low, .int .i64 kept.writes.high, .int .i64 kept.writes.at_, .int .i64 kept.wish, .int .i64 kept.wishAt, .bool kept.lead.is_, .int .i64 kept.lead.who, .int .i64 kept.lead.at_, .int .i64 c.F_, .int .i64 c.Deciders, .int .i64 c.Targets, .int .i64 c.Routers, .int .i64 c.Observers, .sl false 1 (List.map (eInt .i64) c.Tiers), .int .i64 c.Every, .int .i64 c.Wait, .int .i64 c.Rise, .int .i64 c.Fall, .int .i64 c.Fresh, .int .i64 c.L_, .int .i64 c.M_, .int .i64 c.Dwell, .int .i64 c.D_, .int .i64 c.W_, .int .i64 c.B_, .int .i64 c.Hit, .int .i64 c.Suppress, .int .i64 c.Reuse, .int .i64 c.Half, .int .i64 c.First, .int .i64 c.Step, .int .i64 c.StepTime, .int .i64 c.S_, .int .i64 c.Cap, .int .i64 c.Span, .int .i64 c.Room, .int .i64 c.Tries, .int .i64 c.Retry, .int .i64 node, .ptr 1 0 0]]⟩, some ⟨4, true, [[.msl 2 0 ((List.map (eInt .u8) b2).length) ((List.map (eInt .u8) b2).length) false, .msl 3 0 ((List.map (eInt .u8) b3).length) ((List.map (eInt .u8) b3).length) false, .int .i64 fuse, .bool down]]⟩, some ⟨1, false, (List.map (eInt .u8) b2)⟩, some ⟨1, false, (List.map (eInt .u8) b3)⟩] (Rs (Acceptor_nack_e kept c node fuse down b2 b3) r) := so (fn := Tryd.f44) (k := false) (m := 4) h <| by
 intro r h; unfold Acceptor_nack at h
 refine zc 11 [] h (fun _ => Acceptor_reply_ok) fun y1 h => ?_
 exact zu 27 h
end Go.RX.L

set_option linter.unusedSimpArgs false
set_option linter.unusedVariables false
set_option maxRecDepth 100000
set_option maxHeartbeats 4000000
namespace Go.RX.L
open Go Go.RX Go.Proofs
attribute [local irreducible] FinQ
noncomputable def acceptor_span_from_e (y : spanT) : D × Sto := (.agg [.int .i64 y.low, .int .i64 y.high, .int .i64 y.at_], [])
noncomputable def acceptor_span_from (s_ : spanT) (epoch : Int) : Option spanT := (bif (decide ((s_.high : Int) < epoch)) then (some (⟨0, 0, s_.at_⟩ : spanT)) else (some (⟨(mxI s_.low epoch), s_.high, s_.at_⟩ : spanT)))
theorem acceptor_span_from_ok {s_ : spanT} {epoch : Int} {r : spanT} (h : acceptor_span_from s_ epoch = some r) : Sound E 56 [.agg [.int .i64 s_.low, .int .i64 s_.high, .int .i64 s_.at_], .int .i64 epoch] [] (Rs acceptor_span_from_e r) := so (fn := Tryd.f56) (k := false) (m := 0) h <| by
 intro r h; unfold acceptor_span_from at h
 refine zs 15 h (fun h => ?_) fun h => ?_
 ·
  exact zu 12 h
 exact zu 21 h
end Go.RX.L

set_option linter.unusedSimpArgs false
set_option linter.unusedVariables false
set_option maxRecDepth 100000
set_option maxHeartbeats 4000000
namespace Go.RX.L
open Go Go.RX Go.Proofs
attribute [local irreducible] FinQ
noncomputable def acceptor_span_with_e (y : spanT) : D × Sto := (.agg [.int .i64 y.low, .int .i64 y.high, .int .i64 y.at_], [])
noncomputable def acceptor_span_with (s_ : spanT) (epoch : Int) : Option spanT := (bif ((s_.low : Int) == 0) then (some (⟨epoch, epoch, s_.at_⟩ : spanT)) else (some (⟨(mnI s_.low epoch), (mxI s_.high epoch), s_.at_⟩ : spanT)))
theorem acceptor_span_with_ok {s_ : spanT} {epoch : Int} {r : spanT} (h : acceptor_span_with s_ epoch = some r) : Sound E 57 [.agg [.int .i64 s_.low, .int .i64 s_.high, .int .i64 s_.at_], .int .i64 epoch] [] (Rs acceptor_span_with_e r) := so (fn := Tryd.f57) (k := false) (m := 0) h <| by
 intro r h; unfold acceptor_span_with at h
 refine zs 14 h (fun h => ?_) fun h => ?_
 ·
  exact zu 14 h
 exact zu 23 h
end Go.RX.L

set_option linter.unusedSimpArgs false
set_option linter.unusedVariables false
set_option maxRecDepth 100000
set_option maxHeartbeats 4000000
namespace Go.RX.L
open Go Go.RX Go.Proofs
attribute [local irreducible] FinQ
noncomputable def Acceptor_take_c := codeAt (bodyOf Tryd.f35)
noncomputable def Acceptor_take_e (c : Config) (node : Int) (fuse : Int) (down : Bool) (b2 : List Int) (b3 : List Int) (y : keptT) : D × Sto := (.tup [], [some ⟨67, true, [[.int .i64 y.epoch, .int .i64 y.known.Epoch, .int .i64 y.known.Target, .int .i64 y.known.Prev, .int .i64 y.known.Spill, .int .i64 y.known.Percent, .int .i64 y.known.Stamp, .int .i64 y.known.Since, .int .i64 y.known.Ramped, .int .u64 y.known.Up, .int .u64 y.known.Sup, .sl false 1 (List.map (eInt .i64) y.known.Pen), .sl false 1 (List.map (eInt .i64) y.known.Changes), .int .i64 y.promised, .int .i64 y.accepted, .int .i64 y.plan.Epoch, .int .i64 y.plan.Target, .int .i64 y.plan.Prev, .int .i64 y.plan.Spill, .int .i64 y.plan.Percent, .int .i64 y.plan.Stamp, .int .i64 y.plan.Since, .int .i64 y.plan.Ramped, .int .u64 y.plan.Up, .int .u64 y.plan.Sup, .sl false 1 (List.map (eInt .i64) y.plan.Pen), .sl false 1 (List.map (eInt .i64) y.plan.Changes), .int .i64 y.writes.low, .int .i64 y.writes.high, .int .i64 y.writes.at_, .int .i64 y.wish, .int .i64 y.wishAt, .bool y.lead.is_, .int .i64 y.lead.who, .int .i64 y.lead.at_, .int .i64 c.F_, .int .i64 c.Deciders, .int .i64 c.Targets, .int .i64 c.Routers, .int .i64 c.Observers, .sl false 1 (List.map (eInt .i64) c.Tiers), .int .i64 c.Every, .int .i64 c.Wait, .int .i64 c.Rise, .int .i64 c.Fall, .int .i64 c.Fresh, .int .i64 c.L_, .int .i64 c.M_, .int .i64 c.Dwell, .int .i64 c.D_, .int .i64 c.W_, .int .i64 c.B_, .int .i64 c.Hit, .int .i64 c.Suppress, .int .i64 c.Reuse, .int .i64 c.Half, .int .i64 c.First, .int .i64 c.Step, .int .i64 c.StepTime, .int .i64 c.S_, .int .i64 c.Cap, .int .i64 c.Span, .int .i64 c.Room, .int .i64 c.Tries, .int .i64 c.Retry, .int .i64 node, .ptr 1 0 0]]⟩, some ⟨4, true, [[.msl 2 0 ((List.map (eInt .u8) b2).length) ((List.map (eInt .u8) b2).length) false, .msl 3 0 ((List.map (eInt .u8) b3).length) ((List.map (eInt .u8) b3).length) false, .int .i64 fuse, .bool down]]⟩, some ⟨1, false, (List.map (eInt .u8) b2)⟩, some ⟨1, false, (List.map (eInt .u8) b3)⟩])
abbrev Acceptor_take_W (m : Msg) (c : Config) (node : Int) (fuse : Int) (down : Bool) (b2 : List Int) (b3 : List Int) := AOk E (Cx.of Tryd.f35 false 4) (Acceptor_take_e c node fuse down b2 b3)
noncomputable def Acceptor_take_1M (m : Msg) (c : Config) (node : Int) (fuse : Int) (down : Bool) (b2 : List Int) (b3 : List Int) (kept2 : keptT) : M := ⟨[.code (Acceptor_take_c [1, 1, 0, 1, 0, 1]), .blk 0], [(0, .ptr 0 0 0), (3, .ptr 4 0 0)], [some ⟨67, true, [[.int .i64 kept2.epoch, .int .i64 kept2.known.Epoch, .int .i64 kept2.known.Target, .int .i64 kept2.known.Prev, .int .i64 kept2.known.Spill, .int .i64 kept2.known.Percent, .int .i64 kept2.known.Stamp, .int .i64 kept2.known.Since, .int .i64 kept2.known.Ramped, .int .u64 kept2.known.Up, .int .u64 kept2.known.Sup, .sl false 1 (List.map (eInt .i64) kept2.known.Pen), .sl false 1 (List.map (eInt .i64) kept2.known.Changes), .int .i64 kept2.promised, .int .i64 kept2.accepted, .int .i64 kept2.plan.Epoch, .int .i64 kept2.plan.Target, .int .i64 kept2.plan.Prev, .int .i64 kept2.plan.Spill, .int .i64 kept2.plan.Percent, .int .i64 kept2.plan.Stamp, .int .i64 kept2.plan.Since, .int .i64 kept2.plan.Ramped, .int .u64 kept2.plan.Up, .int .u64 kept2.plan.Sup, .sl false 1 (List.map (eInt .i64) kept2.plan.Pen), .sl false 1 (List.map (eInt .i64) kept2.plan.Changes), .int .i64 kept2.writes.low, .int .i64 kept2.writes.high, .int .i64 kept2.writes.at_, .int .i64 kept2.wish, .int .i64 kept2.wishAt, .bool kept2.lead.is_, .int .i64 kept2.lead.who, .int .i64 kept2.lead.at_, .int .i64 c.F_, .int .i64 c.Deciders, .int .i64 c.Targets, .int .i64 c.Routers, .int .i64 c.Observers, .sl false 1 (List.map (eInt .i64) c.Tiers), .int .i64 c.Every, .int .i64 c.Wait, .int .i64 c.Rise, .int .i64 c.Fall, .int .i64 c.Fresh, .int .i64 c.L_, .int .i64 c.M_, .int .i64 c.Dwell, .int .i64 c.D_, .int .i64 c.W_, .int .i64 c.B_, .int .i64 c.Hit, .int .i64 c.Suppress, .int .i64 c.Reuse, .int .i64 c.Half, .int .i64 c.First, .int .i64 c.Step, .int .i64 c.StepTime, .int .i64 c.S_, .int .i64 c.Cap, .int .i64 c.Span, .int .i64 c.Room, .int .i64 c.Tries, .int .i64 c.Retry, .int .i64 node, .ptr 1 0 0]]⟩, some ⟨4, true, [[.msl 2 0 ((List.map (eInt .u8) b2).length) ((List.map (eInt .u8) b2).length) false, .msl 3 0 ((List.map (eInt .u8) b3).length) ((List.map (eInt .u8) b3).length) false, .int .i64 fuse, .bool down]]⟩, some ⟨1, false, (List.map (eInt .u8) b2)⟩, some ⟨1, false, (List.map (eInt .u8) b3)⟩, some ⟨26, false, [[.int .i64 m.Kind, .int .i64 m.From, .int .i64 m.To, .int .i64 m.Epoch, .int .i64 m.Ballot, .int .i64 m.Accepted, .int .i64 m.Nonce, .int .i64 m.Time, .int .u64 m.Up, .int .i64 m.Code, .bool m.HasPlan, .int .i64 m.Plan.Epoch, .int .i64 m.Plan.Target, .int .i64 m.Plan.Prev, .int .i64 m.Plan.Spill, .int .i64 m.Plan.Percent, .int .i64 m.Plan.Stamp, .int .i64 m.Plan.Since, .int .i64 m.Plan.Ramped, .int .u64 m.Plan.Up, .int .u64 m.Plan.Sup, .sl false 1 (List.map (eInt .i64) m.Plan.Pen), .sl false 1 (List.map (eInt .i64) m.Plan.Changes), .sl false 1 (List.map (eInt .i64) m.ID), .sl false 1 (List.map (eInt .u8) m.Session), .sl false 1 (List.map (eInt .u8) m.Payload)]]⟩]⟩
noncomputable def Acceptor_take_1 (m : Msg) (c : Config) (node : Int) (fuse : Int) (down : Bool) (b2 : List Int) (b3 : List Int) (kept2 : keptT) : Option keptT := (some (⟨m.Epoch, m.Plan, m.Ballot, kept2.accepted, kept2.plan, kept2.writes, kept2.wish, kept2.wishAt, kept2.lead⟩ : keptT))
theorem Acceptor_take_1_ok {m c node fuse down b2 b3 kept2} : Acceptor_take_W m c node fuse down b2 b3 (Acceptor_take_1M m c node fuse down b2 b3 kept2) (Acceptor_take_1 m c node fuse down b2 b3 kept2) := by
 intro r h; unfold Acceptor_take_1 at h
 exact zu 12 h
noncomputable def Acceptor_take (m : Msg) (kept : keptT) (c : Config) (node : Int) (fuse : Int) (down : Bool) (b2 : List Int) (b3 : List Int) : Option keptT := (bif ((m.Kind : Int) == 5) then (bif ((m.Epoch : Int) != kept.epoch) then ((acceptor_span_from kept.writes m.Epoch).bind fun y3 => (Acceptor_take_1 m c node fuse down b2 b3 (⟨kept.epoch, kept.known, kept.promised, 0, (⟨0, 0, 0, 0, 0, 0, 0, 0, 0, 0, [], []⟩ : Plan), y3, kept.wish, kept.wishAt, kept.lead⟩ : keptT))) else (Acceptor_take_1 m c node fuse down b2 b3 kept)) else (bif ((m.Kind : Int) == 8) then (some (⟨kept.epoch, kept.known, m.Ballot, m.Ballot, m.Plan, kept.writes, kept.wish, kept.wishAt, kept.lead⟩ : keptT)) else (bif ((m.Kind : Int) == 11) then (bif ((m.Code : Int) == 2) then (some (⟨kept.epoch, kept.known, kept.promised, kept.accepted, kept.plan, kept.writes, kept.wish, kept.wishAt, (⟨true, (-1), kept.lead.at_⟩ : leaderT)⟩ : keptT)) else ((acceptor_span_with kept.writes m.Epoch).bind fun y7 => (some (⟨kept.epoch, kept.known, kept.promised, kept.accepted, kept.plan, y7, kept.wish, kept.wishAt, kept.lead⟩ : keptT)))) else (some kept))))
theorem Acceptor_take_ok {m : Msg} {kept : keptT} {c : Config} {node : Int} {fuse : Int} {down : Bool} {b2 : List Int} {b3 : List Int} {r : keptT} (h : Acceptor_take m kept c node fuse down b2 b3 = some r) : Sound E 35 [.ptr 0 0 0, .agg [.int .i64 m.Kind, .int .i64 m.From, .int .i64 m.To, .int .i64 m.Epoch, .int .i64 m.Ballot, .int .i64 m.Accepted, .int .i64 m.Nonce, .int .i64 m.Time, .int .u64 m.Up, .int .i64 m.Code, .bool m.HasPlan, .int .i64 m.Plan.Epoch, .int .i64 m.Plan.Target, .int .i64 m.Plan.Prev, .int .i64 m.Plan.Spill, .int .i64 m.Plan.Percent, .int .i64 m.Plan.Stamp, .int .i64 m.Plan.Since, .int .i64 m.Plan.Ramped, .int .u64 m.Plan.Up, .int .u64 m.Plan.Sup, .sl false 1 (List.map (eInt .i64) m.Plan.Pen), .sl false 1 (List.map (eInt .i64) m.Plan.Changes), .sl false 1 (List.map (eInt .i64) m.ID), .sl false 1 (List.map (eInt .u8) m.Session), .sl false 1 (List.map (eInt .u8) m.Payload)]] [some ⟨67, true, [[.int .i64 kept.epoch, .int .i64 kept.known.Epoch, .int .i64 kept.known.Target, .int .i64 kept.known.Prev, .int .i64 kept.known.Spill, .int .i64 kept.known.Percent, .int .i64 kept.known.Stamp, .int .i64 kept.known.Since, .int .i64 kept.known.Ramped, .int .u64 kept.known.Up, .int .u64 kept.known.Sup, .sl false 1 (List.map (eInt .i64) kept.known.Pen), .sl false 1 (List.map (eInt .i64) kept.known.Changes), .int .i64 kept.promised, .int .i64 kept.accepted, .int .i64 kept.plan.Epoch, .int .i64 kept.plan.Target, .int .i64 kept.plan.Prev, .int .i64 kept.plan.Spill, .int .i64 kept.plan.Percent, .int .i64 kept.plan.Stamp, .int .i64 kept.plan.Since, .int .i64 kept.plan.Ramped, .int .u64 kept.plan.Up, .int .u64 kept.plan.Sup, .sl false 1 (List.map (eInt .i64) kept.plan.Pen), .sl false 1 (List.map (eInt .i64) kept.plan.Changes), .int .i64 kept.writes.low, .int .i64 kept.writes.high, .int .i64 kept.writes.at_, .int .i64 kept.wish, .int .i64 kept.wishAt, .bool kept.lead.is_, .int .i64 kept.lead.who, .int .i64 kept.lead.at_, .int .i64 c.F_, .int .i64 c.Deciders, .int .i64 c.Targets, .int .i64 c.Routers, .int .i64 c.Observers, .sl false 1 (List.map (eInt .i64) c.Tiers), .int .i64 c.Every, .int .i64 c.Wait, .int .i64 c.Rise, .int .i64 c.Fall, .int .i64 c.Fresh, .int .i64 c.L_, .int .i64 c.M_, .int .i64 c.Dwell, .int .i64 c.D_, .int .i64 c.W_, .int .i64 c.B_, .int .i64 c.Hit, .int .i64 c.Suppress, .int .i64 c.Reuse, .int .i64 c.Half, .int .i64 c.First, .int .i64 c.Step, .int .i64 c.StepTime, .int .i64 c.S_, .int .i64 c.Cap, .int .i64 c.Span, .int .i64 c.Room, .int .i64 c.Tries, .int .i64 c.Retry, .int .i64 node, .ptr 1 0 0]]⟩, some ⟨4, true, [[.msl 2 0 ((List.map (eInt .u8) b2).length) ((List.map (eInt .u8) b2).length) false, .msl 3 0 ((List.map (eInt .u8) b3).length) ((List.map (eInt .u8) b3).length) false, .int .i64 fuse, .bool down]]⟩, some ⟨1, false, (List.map (eInt .u8) b2)⟩, some ⟨1, false, (List.map (eInt .u8) b3)⟩] (Rs (Acceptor_take_e c node fuse down b2 b3) r) := so (fn := Tryd.f35) (k := false) (m := 4) h <| by
 intro r h; unfold Acceptor_take at h
 refine zs 17 h (fun h => ?_) fun h => ?_
 ·
  refine zs 6 h (fun h => ?_) fun h => ?_
  ·
   refine zd 3 [] h (fun _ => acceptor_span_from_ok) fun y3 h => ?_
   exact zg 6 (Acceptor_take_1_ok h) [.blk 0 [some 1, some 1]]
  exact zg 1 (Acceptor_take_1_ok h)
 refine zs 6 h (fun h => ?_) fun h => ?_
 ·
  exact zu 12 h
 refine zs 6 h (fun h => ?_) fun h => ?_
 ·
  refine zs 8 h (fun h => ?_) fun h => ?_
  ·
   exact zu 19 h
  refine zd 3 [] h (fun _ => acceptor_span_with_ok) fun y7 h => ?_
  exact zu 4 h
 exact zu 3 h
end Go.RX.L

set_option linter.unusedSimpArgs false
set_option linter.unusedVariables false
set_option maxRecDepth 100000
set_option maxHeartbeats 4000000
namespace Go.RX.L
open Go Go.RX Go.Proofs
attribute [local irreducible] FinQ
noncomputable def Acceptor_remember__take_c := codeAt (bodyOf Tryd.f45)
noncomputable def Acceptor_remember__take_e (c : Config) (node : Int) (y : Bool × keptT × Int × Bool × (List Int) × (List Int)) : D × Sto := (.bool y.1, [some ⟨67, true, [[.int .i64 y.2.1.epoch, .int .i64 y.2.1.known.Epoch, .int .i64 y.2.1.known.Target, .int .i64 y.2.1.known.Prev, .int .i64 y.2.1.known.Spill, .int .i64 y.2.1.known.Percent, .int .i64 y.2.1.known.Stamp, .int .i64 y.2.1.known.Since, .int .i64 y.2.1.known.Ramped, .int .u64 y.2.1.known.Up, .int .u64 y.2.1.known.Sup, .sl false 1 (List.map (eInt .i64) y.2.1.known.Pen), .sl false 1 (List.map (eInt .i64) y.2.1.known.Changes), .int .i64 y.2.1.promised, .int .i64 y.2.1.accepted, .int .i64 y.2.1.plan.Epoch, .int .i64 y.2.1.plan.Target, .int .i64 y.2.1.plan.Prev, .int .i64 y.2.1.plan.Spill, .int .i64 y.2.1.plan.Percent, .int .i64 y.2.1.plan.Stamp, .int .i64 y.2.1.plan.Since, .int .i64 y.2.1.plan.Ramped, .int .u64 y.2.1.plan.Up, .int .u64 y.2.1.plan.Sup, .sl false 1 (List.map (eInt .i64) y.2.1.plan.Pen), .sl false 1 (List.map (eInt .i64) y.2.1.plan.Changes), .int .i64 y.2.1.writes.low, .int .i64 y.2.1.writes.high, .int .i64 y.2.1.writes.at_, .int .i64 y.2.1.wish, .int .i64 y.2.1.wishAt, .bool y.2.1.lead.is_, .int .i64 y.2.1.lead.who, .int .i64 y.2.1.lead.at_, .int .i64 c.F_, .int .i64 c.Deciders, .int .i64 c.Targets, .int .i64 c.Routers, .int .i64 c.Observers, .sl false 1 (List.map (eInt .i64) c.Tiers), .int .i64 c.Every, .int .i64 c.Wait, .int .i64 c.Rise, .int .i64 c.Fall, .int .i64 c.Fresh, .int .i64 c.L_, .int .i64 c.M_, .int .i64 c.Dwell, .int .i64 c.D_, .int .i64 c.W_, .int .i64 c.B_, .int .i64 c.Hit, .int .i64 c.Suppress, .int .i64 c.Reuse, .int .i64 c.Half, .int .i64 c.First, .int .i64 c.Step, .int .i64 c.StepTime, .int .i64 c.S_, .int .i64 c.Cap, .int .i64 c.Span, .int .i64 c.Room, .int .i64 c.Tries, .int .i64 c.Retry, .int .i64 node, .ptr 1 0 0]]⟩, some ⟨4, true, [[.msl 4 0 ((List.map (eInt .u8) y.2.2.2.2.1).length) ((List.map (eInt .u8) y.2.2.2.2.1).length) false, .msl 5 0 ((List.map (eInt .u8) y.2.2.2.2.2).length) ((List.map (eInt .u8) y.2.2.2.2.2).length) false, .int .i64 y.2.2.1, .bool y.2.2.2.1]]⟩, none, none, some ⟨1, false, (List.map (eInt .u8) y.2.2.2.2.1)⟩, some ⟨1, false, (List.map (eInt .u8) y.2.2.2.2.2)⟩])
abbrev Acceptor_remember__take_W (m : Msg) (kept : keptT) (c : Config) (node : Int) := AOk E (Cx.of Tryd.f45 true 4) (Acceptor_remember__take_e c node)
noncomputable def Acceptor_remember__take_1M (m : Msg) (kept : keptT) (c : Config) (node : Int) (t35 : Bool) (fuse2 : Int) (down2 : Bool) (b5 : List Int) (b6 : List Int) : M := ⟨[.code (Acceptor_remember__take_c [1, 1, 0, 1]), .code (Acceptor_remember__take_c [1, 1, 1])], [(2, .fn 35 [.ptr 0 0 0] []), (4, .ptr 4 0 0), (35, .bool t35)], [some ⟨67, true, [[.int .i64 kept.epoch, .int .i64 kept.known.Epoch, .int .i64 kept.known.Target, .int .i64 kept.known.Prev, .int .i64 kept.known.Spill, .int .i64 kept.known.Percent, .int .i64 kept.known.Stamp, .int .i64 kept.known.Since, .int .i64 kept.known.Ramped, .int .u64 kept.known.Up, .int .u64 kept.known.Sup, .sl false 1 (List.map (eInt .i64) kept.known.Pen), .sl false 1 (List.map (eInt .i64) kept.known.Changes), .int .i64 kept.promised, .int .i64 kept.accepted, .int .i64 kept.plan.Epoch, .int .i64 kept.plan.Target, .int .i64 kept.plan.Prev, .int .i64 kept.plan.Spill, .int .i64 kept.plan.Percent, .int .i64 kept.plan.Stamp, .int .i64 kept.plan.Since, .int .i64 kept.plan.Ramped, .int .u64 kept.plan.Up, .int .u64 kept.plan.Sup, .sl false 1 (List.map (eInt .i64) kept.plan.Pen), .sl false 1 (List.map (eInt .i64) kept.plan.Changes), .int .i64 kept.writes.low, .int .i64 kept.writes.high, .int .i64 kept.writes.at_, .int .i64 kept.wish, .int .i64 kept.wishAt, .bool kept.lead.is_, .int .i64 kept.lead.who, .int .i64 kept.lead.at_, .int .i64 c.F_, .int .i64 c.Deciders, .int .i64 c.Targets, .int .i64 c.Routers, .int .i64 c.Observers, .sl false 1 (List.map (eInt .i64) c.Tiers), .int .i64 c.Every, .int .i64 c.Wait, .int .i64 c.Rise, .int .i64 c.Fall, .int .i64 c.Fresh, .int .i64 c.L_, .int .i64 c.M_, .int .i64 c.Dwell, .int .i64 c.D_, .int .i64 c.W_, .int .i64 c.B_, .int .i64 c.Hit, .int .i64 c.Suppress, .int .i64 c.Reuse, .int .i64 c.Half, .int .i64 c.First, .int .i64 c.Step, .int .i64 c.StepTime, .int .i64 c.S_, .int .i64 c.Cap, .int .i64 c.Span, .int .i64 c.Room, .int .i64 c.Tries, .int .i64 c.Retry, .int .i64 node, .ptr 1 0 0]]⟩, some ⟨4, true, [[.msl 5 0 ((List.map (eInt .u8) b5).length) ((List.map (eInt .u8) b5).length) false, .msl 6 0 ((List.map (eInt .u8) b6).length) ((List.map (eInt .u8) b6).length) false, .int .i64 fuse2, .bool down2]]⟩, none, none, some ⟨26, false, [[.int .i64 m.Kind, .int .i64 m.From, .int .i64 m.To, .int .i64 m.Epoch, .int .i64 m.Ballot, .int .i64 m.Accepted, .int .i64 m.Nonce, .int .i64 m.Time, .int .u64 m.Up, .int .i64 m.Code, .bool m.HasPlan, .int .i64 m.Plan.Epoch, .int .i64 m.Plan.Target, .int .i64 m.Plan.Prev, .int .i64 m.Plan.Spill, .int .i64 m.Plan.Percent, .int .i64 m.Plan.Stamp, .int .i64 m.Plan.Since, .int .i64 m.Plan.Ramped, .int .u64 m.Plan.Up, .int .u64 m.Plan.Sup, .sl false 1 (List.map (eInt .i64) m.Plan.Pen), .sl false 1 (List.map (eInt .i64) m.Plan.Changes), .sl false 1 (List.map (eInt .i64) m.ID), .sl false 1 (List.map (eInt .u8) m.Session), .sl false 1 (List.map (eInt .u8) m.Payload)]]⟩, some ⟨1, false, (List.map (eInt .u8) b5)⟩, some ⟨1, false, (List.map (eInt .u8) b6)⟩]⟩
noncomputable def Acceptor_remember__take_1 (m : Msg) (kept : keptT) (c : Config) (node : Int) (t35 : Bool) (fuse2 : Int) (down2 : Bool) (b5 : List Int) (b6 : List Int) : Option (Bool × keptT × Int × Bool × (List Int) × (List Int)) := (bif t35 then (some (false, kept, fuse2, down2, b5, b6)) else ((Acceptor_take m kept c node fuse2 down2 b5 b6).bind fun y2 => (some (true, y2, fuse2, down2, b5, b6))))
theorem Acceptor_remember__take_1_ok {m kept c node t35 fuse2 down2 b5 b6} : Acceptor_remember__take_W m kept c node (Acceptor_remember__take_1M m kept c node t35 fuse2 down2 b5 b6) (Acceptor_remember__take_1 m kept c node t35 fuse2 down2 b5 b6) := by
 intro r h; unfold Acceptor_remember__take_1 at h
 refine zs 1 h (fun h => ?_) fun h => ?_
 ·
  exact zu 5 h
 refine zc 7 [] h (fun _ => Acceptor_take_ok) fun y2 h => ?_
 exact zu 6 h
noncomputable def Acceptor_remember__take (m : Msg) (kept : keptT) (c : Config) (node : Int) (fuse : Int) (down : Bool) (b2 : List Int) (b3 : List Int) : Option (Bool × keptT × Int × Bool × (List Int) × (List Int)) := ((msg_Body m).bind fun y1 => (bif ((y1.2.2 : Int) != 0) then (Acceptor_remember__take_1 m kept c node true fuse down b2 b3) else ((Journal_Append y1.1 y1.2.1 fuse down b2 b3).bind fun y3 => (bif ((y3.1 : Int) != 0) then (Acceptor_remember__take_1 m kept c node true y3.2.1 y3.2.2.1 b2 y3.2.2.2) else ((Journal_Sync y3.2.1 y3.2.2.1 b2 y3.2.2.2).bind fun y5 => (Acceptor_remember__take_1 m kept c node ((y5.1 : Int) != 0) y5.2.1 y5.2.2.1 y5.2.2.2.1 y5.2.2.2.2))))))
theorem Acceptor_remember__take_ok {m : Msg} {kept : keptT} {c : Config} {node : Int} {fuse : Int} {down : Bool} {b2 : List Int} {b3 : List Int} {r : Bool × keptT × Int × Bool × (List Int) × (List Int)} (h : Acceptor_remember__take m kept c node fuse down b2 b3 = some r) : Sound E 45 [.ptr 0 0 0, .agg [.int .i64 m.Kind, .int .i64 m.From, .int .i64 m.To, .int .i64 m.Epoch, .int .i64 m.Ballot, .int .i64 m.Accepted, .int .i64 m.Nonce, .int .i64 m.Time, .int .u64 m.Up, .int .i64 m.Code, .bool m.HasPlan, .int .i64 m.Plan.Epoch, .int .i64 m.Plan.Target, .int .i64 m.Plan.Prev, .int .i64 m.Plan.Spill, .int .i64 m.Plan.Percent, .int .i64 m.Plan.Stamp, .int .i64 m.Plan.Since, .int .i64 m.Plan.Ramped, .int .u64 m.Plan.Up, .int .u64 m.Plan.Sup, .sl false 1 (List.map (eInt .i64) m.Plan.Pen), .sl false 1 (List.map (eInt .i64) m.Plan.Changes), .sl false 1 (List.map (eInt .i64) m.ID), .sl false 1 (List.map (eInt .u8) m.Session), .sl false 1 (List.map (eInt .u8) m.Payload)], .fn 35 [.ptr 0 0 0] []] [some ⟨67, true, [[.int .i64 kept.epoch, .int .i64 kept.known.Epoch, .int .i64 kept.known.Target, .int .i64 kept.known.Prev, .int .i64 kept.known.Spill, .int .i64 kept.known.Percent, .int .i64 kept.known.Stamp, .int .i64 kept.known.Since, .int .i64 kept.known.Ramped, .int .u64 kept.known.Up, .int .u64 kept.known.Sup, .sl false 1 (List.map (eInt .i64) kept.known.Pen), .sl false 1 (List.map (eInt .i64) kept.known.Changes), .int .i64 kept.promised, .int .i64 kept.accepted, .int .i64 kept.plan.Epoch, .int .i64 kept.plan.Target, .int .i64 kept.plan.Prev, .int .i64 kept.plan.Spill, .int .i64 kept.plan.Percent, .int .i64 kept.plan.Stamp, .int .i64 kept.plan.Since, .int .i64 kept.plan.Ramped, .int .u64 kept.plan.Up, .int .u64 kept.plan.Sup, .sl false 1 (List.map (eInt .i64) kept.plan.Pen), .sl false 1 (List.map (eInt .i64) kept.plan.Changes), .int .i64 kept.writes.low, .int .i64 kept.writes.high, .int .i64 kept.writes.at_, .int .i64 kept.wish, .int .i64 kept.wishAt, .bool kept.lead.is_, .int .i64 kept.lead.who, .int .i64 kept.lead.at_, .int .i64 c.F_, .int .i64 c.Deciders, .int .i64 c.Targets, .int .i64 c.Routers, .int .i64 c.Observers, .sl false 1 (List.map (eInt .i64) c.Tiers), .int .i64 c.Every, .int .i64 c.Wait, .int .i64 c.Rise, .int .i64 c.Fall, .int .i64 c.Fresh, .int .i64 c.L_, .int .i64 c.M_, .int .i64 c.Dwell, .int .i64 c.D_, .int .i64 c.W_, .int .i64 c.B_, .int .i64 c.Hit, .int .i64 c.Suppress, .int .i64 c.Reuse, .int .i64 c.Half, .int .i64 c.First, .int .i64 c.Step, .int .i64 c.StepTime, .int .i64 c.S_, .int .i64 c.Cap, .int .i64 c.Span, .int .i64 c.Room, .int .i64 c.Tries, .int .i64 c.Retry, .int .i64 node, .ptr 1 0 0]]⟩, some ⟨4, true, [[.msl 2 0 ((List.map (eInt .u8) b2).length) ((List.map (eInt .u8) b2).length) false, .msl 3 0 ((List.map (eInt .u8) b3).length) ((List.map (eInt .u8) b3).length) false, .int .i64 fuse, .bool down]]⟩, some ⟨1, false, (List.map (eInt .u8) b2)⟩, some ⟨1, false, (List.map (eInt .u8) b3)⟩] (Rs (Acceptor_remember__take_e c node) r) := so (fn := Tryd.f45) (k := true) (m := 4) h <| by
 intro r h; unfold Acceptor_remember__take at h
 refine zc 10 [] h (fun _ => msg_Body_ok) fun y1 h => ?_
 refine zs 15 h (fun h => ?_) fun h => ?_
 ·
  exact zg 32 (Acceptor_remember__take_1_ok h) [.mv 2, .mv 3]
 refine zc 13 [] h (fun _ => Journal_Append_ok) fun y3 h => ?_
 refine zs 6 h (fun h => ?_) fun h => ?_
 ·
  exact zg 13 (Acceptor_remember__take_1_ok h)
 refine zc 9 [] h (fun _ => Journal_Sync_ok) fun y5 h => ?_
 exact zg 5 (Acceptor_remember__take_1_ok h)
end Go.RX.L

set_option linter.unusedSimpArgs false
set_option linter.unusedVariables false
set_option maxRecDepth 100000
set_option maxHeartbeats 4000000
namespace Go.RX.L
open Go Go.RX Go.Proofs
attribute [local irreducible] FinQ
noncomputable def Acceptor_accept_c := codeAt (bodyOf Tryd.f29)
noncomputable def Acceptor_accept_e (c : Config) (node : Int) (y : (List Msg) × keptT × Int × Bool × (List Int) × (List Int)) : D × Sto := (.sl false 26 (List.map Msg.enc y.1), [some ⟨67, true, [[.int .i64 y.2.1.epoch, .int .i64 y.2.1.known.Epoch, .int .i64 y.2.1.known.Target, .int .i64 y.2.1.known.Prev, .int .i64 y.2.1.known.Spill, .int .i64 y.2.1.known.Percent, .int .i64 y.2.1.known.Stamp, .int .i64 y.2.1.known.Since, .int .i64 y.2.1.known.Ramped, .int .u64 y.2.1.known.Up, .int .u64 y.2.1.known.Sup, .sl false 1 (List.map (eInt .i64) y.2.1.known.Pen), .sl false 1 (List.map (eInt .i64) y.2.1.known.Changes), .int .i64 y.2.1.promised, .int .i64 y.2.1.accepted, .int .i64 y.2.1.plan.Epoch, .int .i64 y.2.1.plan.Target, .int .i64 y.2.1.plan.Prev, .int .i64 y.2.1.plan.Spill, .int .i64 y.2.1.plan.Percent, .int .i64 y.2.1.plan.Stamp, .int .i64 y.2.1.plan.Since, .int .i64 y.2.1.plan.Ramped, .int .u64 y.2.1.plan.Up, .int .u64 y.2.1.plan.Sup, .sl false 1 (List.map (eInt .i64) y.2.1.plan.Pen), .sl false 1 (List.map (eInt .i64) y.2.1.plan.Changes), .int .i64 y.2.1.writes.low, .int .i64 y.2.1.writes.high, .int .i64 y.2.1.writes.at_, .int .i64 y.2.1.wish, .int .i64 y.2.1.wishAt, .bool y.2.1.lead.is_, .int .i64 y.2.1.lead.who, .int .i64 y.2.1.lead.at_, .int .i64 c.F_, .int .i64 c.Deciders, .int .i64 c.Targets, .int .i64 c.Routers, .int .i64 c.Observers, .sl false 1 (List.map (eInt .i64) c.Tiers), .int .i64 c.Every, .int .i64 c.Wait, .int .i64 c.Rise, .int .i64 c.Fall, .int .i64 c.Fresh, .int .i64 c.L_, .int .i64 c.M_, .int .i64 c.Dwell, .int .i64 c.D_, .int .i64 c.W_, .int .i64 c.B_, .int .i64 c.Hit, .int .i64 c.Suppress, .int .i64 c.Reuse, .int .i64 c.Half, .int .i64 c.First, .int .i64 c.Step, .int .i64 c.StepTime, .int .i64 c.S_, .int .i64 c.Cap, .int .i64 c.Span, .int .i64 c.Room, .int .i64 c.Tries, .int .i64 c.Retry, .int .i64 node, .ptr 1 0 0]]⟩, some ⟨4, true, [[.msl 4 0 ((List.map (eInt .u8) y.2.2.2.2.1).length) ((List.map (eInt .u8) y.2.2.2.2.1).length) false, .msl 5 0 ((List.map (eInt .u8) y.2.2.2.2.2).length) ((List.map (eInt .u8) y.2.2.2.2.2).length) false, .int .i64 y.2.2.1, .bool y.2.2.2.1]]⟩, none, none, some ⟨1, false, (List.map (eInt .u8) y.2.2.2.2.1)⟩, some ⟨1, false, (List.map (eInt .u8) y.2.2.2.2.2)⟩])
abbrev Acceptor_accept_W (m : Msg) (now : Int) (kept : keptT) (c : Config) (node : Int) (fuse : Int) (down : Bool) (b2 : List Int) (b3 : List Int) := AOk E (Cx.of Tryd.f29 true 4) (Acceptor_accept_e c node)
noncomputable def Acceptor_accept_1M (m : Msg) (now : Int) (kept : keptT) (c : Config) (node : Int) (fuse : Int) (down : Bool) (b2 : List Int) (b3 : List Int) (t56 : Bool) : M := ⟨[.code (Acceptor_accept_c [1, 0, 0, 1, 1, 1, 1, 1, 1, 1]), .blk 0, .code (Acceptor_accept_c [1, 1])], [(0, .ptr 0 0 0), (4, .ptr 4 0 0), (56, .bool t56)], [some ⟨67, true, [[.int .i64 kept.epoch, .int .i64 kept.known.Epoch, .int .i64 kept.known.Target, .int .i64 kept.known.Prev, .int .i64 kept.known.Spill, .int .i64 kept.known.Percent, .int .i64 kept.known.Stamp, .int .i64 kept.known.Since, .int .i64 kept.known.Ramped, .int .u64 kept.known.Up, .int .u64 kept.known.Sup, .sl false 1 (List.map (eInt .i64) kept.known.Pen), .sl false 1 (List.map (eInt .i64) kept.known.Changes), .int .i64 kept.promised, .int .i64 kept.accepted, .int .i64 kept.plan.Epoch, .int .i64 kept.plan.Target, .int .i64 kept.plan.Prev, .int .i64 kept.plan.Spill, .int .i64 kept.plan.Percent, .int .i64 kept.plan.Stamp, .int .i64 kept.plan.Since, .int .i64 kept.plan.Ramped, .int .u64 kept.plan.Up, .int .u64 kept.plan.Sup, .sl false 1 (List.map (eInt .i64) kept.plan.Pen), .sl false 1 (List.map (eInt .i64) kept.plan.Changes), .int .i64 kept.writes.low, .int .i64 kept.writes.high, .int .i64 kept.writes.at_, .int .i64 kept.wish, .int .i64 kept.wishAt, .bool kept.lead.is_, .int .i64 kept.lead.who, .int .i64 kept.lead.at_, .int .i64 c.F_, .int .i64 c.Deciders, .int .i64 c.Targets, .int .i64 c.Routers, .int .i64 c.Observers, .sl false 1 (List.map (eInt .i64) c.Tiers), .int .i64 c.Every, .int .i64 c.Wait, .int .i64 c.Rise, .int .i64 c.Fall, .int .i64 c.Fresh, .int .i64 c.L_, .int .i64 c.M_, .int .i64 c.Dwell, .int .i64 c.D_, .int .i64 c.W_, .int .i64 c.B_, .int .i64 c.Hit, .int .i64 c.Suppress, .int .i64 c.Reuse, .int .i64 c.Half, .int .i64 c.First, .int .i64 c.Step, .int .i64 c.StepTime, .int .i64 c.S_, .int .i64 c.Cap, .int .i64 c.Span, .int .i64 c.Room, .int .i64 c.Tries, .int .i64 c.Retry, .int .i64 node, .ptr 1 0 0]]⟩, some ⟨4, true, [[.msl 2 0 ((List.map (eInt .u8) b2).length) ((List.map (eInt .u8) b2).length) false, .msl 3 0 ((List.map (eInt .u8) b3).length) ((List.map (eInt .u8) b3).length) false, .int .i64 fuse, .bool down]]⟩, some ⟨1, false, (List.map (eInt .u8) b2)⟩, some ⟨1, false, (List.map (eInt .u8) b3)⟩, some ⟨26, false, [[.int .i64 m.Kind, .int .i64 m.From, .int .i64 m.To, .int .i64 m.Epoch, .int .i64 m.Ballot, .int .i64 m.Accepted, .int .i64 m.Nonce, .int .i64 m.Time, .int .u64 m.Up, .int .i64 m.Code, .bool m.HasPlan, .int .i64 m.Plan.Epoch, .int .i64 m.Plan.Target, .int .i64 m.Plan.Prev, .int .i64 m.Plan.Spill, .int .i64 m.Plan.Percent, .int .i64 m.Plan.Stamp, .int .i64 m.Plan.Since, .int .i64 m.Plan.Ramped, .int .u64 m.Plan.Up, .int .u64 m.Plan.Sup, .sl false 1 (List.map (eInt .i64) m.Plan.Pen), .sl false 1 (List.map (eInt .i64) m.Plan.Changes), .sl false 1 (List.map (eInt .i64) m.ID), .sl false 1 (List.map (eInt .u8) m.Session), .sl false 1 (List.map (eInt .u8) m.Payload)]]⟩]⟩
noncomputable def Acceptor_accept_1 (m : Msg) (now : Int) (kept : keptT) (c : Config) (node : Int) (fuse : Int) (down : Bool) (b2 : List Int) (b3 : List Int) (t56 : Bool) : Option ((List Msg) × keptT × Int × Bool × (List Int) × (List Int)) := (bif t56 then (some ([], kept, fuse, down, b2, b3)) else ((Acceptor_remember__take (⟨8, 0, 0, m.Epoch, m.Ballot, 0, 0, 0, 0, 0, true, m.Plan, [], [], []⟩ : Msg) kept c node fuse down b2 b3).bind fun y2 => (bif (!y2.1) then (some ([], y2.2.1, y2.2.2.1, y2.2.2.2.1, y2.2.2.2.2.1, y2.2.2.2.2.2)) else ((Acceptor_reply m 8 y2.2.1 c node y2.2.2.1 y2.2.2.2.1 y2.2.2.2.2.1 y2.2.2.2.2.2).bind fun y4 => (some ([(⟨y4.Kind, y4.From, y4.To, y4.Epoch, m.Ballot, y4.Accepted, y4.Nonce, y4.Time, y4.Up, y4.Code, y4.HasPlan, y4.Plan, y4.ID, y4.Session, y4.Payload⟩ : Msg)], y2.2.1, y2.2.2.1, y2.2.2.2.1, y2.2.2.2.2.1, y2.2.2.2.2.2))))))
theorem Acceptor_accept_1_ok {m now kept c node fuse down b2 b3 t56} : Acceptor_accept_W m now kept c node fuse down b2 b3 (Acceptor_accept_1M m now kept c node fuse down b2 b3 t56) (Acceptor_accept_1 m now kept c node fuse down b2 b3 t56) := by
 intro r h; unfold Acceptor_accept_1 at h
 refine zs 1 h (fun h => ?_) fun h => ?_
 ·
  refine zf 4 [.mv 2, .mv 3] ?_
  exact zu 1 h [.slot 0 [some 26]]
 refine zc 19 [some 1, some 1, some 1] h (fun _ => Acceptor_remember__take_ok) fun y2 h => ?_
 refine zs 3 h (fun h => ?_) fun h => ?_
 ·
  exact zu 5 h [.slot 0 [some 26]]
 refine zc 7 [] h (fun _ => Acceptor_reply_ok) fun y4 h => ?_
 refine adv_ok hm 22 _ ?_
 refine r_fzT 6 (n1 := 1) (n2 := 1) (raw := ([[.int .i64 y4.Kind, .int .i64 y4.From, .int .i64 y4.To, .int .i64 y4.Epoch, .int .i64 m.Ballot, .int .i64 y4.Accepted, .int .i64 y4.Nonce, .int .i64 y4.Time, .int .u64 y4.Up, .int .i64 y4.Code, .bool y4.HasPlan, .int .i64 y4.Plan.Epoch, .int .i64 y4.Plan.Target, .int .i64 y4.Plan.Prev, .int .i64 y4.Plan.Spill, .int .i64 y4.Plan.Percent, .int .i64 y4.Plan.Stamp, .int .i64 y4.Plan.Since, .int .i64 y4.Plan.Ramped, .int .u64 y4.Plan.Up, .int .u64 y4.Plan.Sup, .sl false 1 (List.map (eInt .i64) y4.Plan.Pen), .sl false 1 (List.map (eInt .i64) y4.Plan.Changes), .sl false 1 (List.map (eInt .i64) y4.ID), .sl false 1 (List.map (eInt .u8) y4.Session), .sl false 1 (List.map (eInt .u8) y4.Payload)]])) (rs := ([[.int .i64 y4.Kind, .int .i64 y4.From, .int .i64 y4.To, .int .i64 y4.Epoch, .int .i64 m.Ballot, .int .i64 y4.Accepted, .int .i64 y4.Nonce, .int .i64 y4.Time, .int .u64 y4.Up, .int .i64 y4.Code, .bool y4.HasPlan, .int .i64 y4.Plan.Epoch, .int .i64 y4.Plan.Target, .int .i64 y4.Plan.Prev, .int .i64 y4.Plan.Spill, .int .i64 y4.Plan.Percent, .int .i64 y4.Plan.Stamp, .int .i64 y4.Plan.Since, .int .i64 y4.Plan.Ramped, .int .u64 y4.Plan.Up, .int .u64 y4.Plan.Sup, .sl false 1 (List.map (eInt .i64) y4.Plan.Pen), .sl false 1 (List.map (eInt .i64) y4.Plan.Changes), .sl false 1 (List.map (eInt .i64) y4.ID), .sl false 1 (List.map (eInt .u8) y4.Session), .sl false 1 (List.map (eInt .u8) y4.Payload)]])) (by kernel_rfl) rfl rfl ?_
 exact zu 1 h
noncomputable def Acceptor_accept_2M (m : Msg) (now : Int) (kept : keptT) (c : Config) (node : Int) (fuse : Int) (down : Bool) (b2 : List Int) (b3 : List Int) (t8 : Bool) : M := ⟨[.code (Acceptor_accept_c [1, 0, 0, 1]), .blk 0, .code (Acceptor_accept_c [1, 1])], [(0, .ptr 0 0 0), (2, .int .i64 now), (4, .ptr 4 0 0), (8, .bool t8)], [some ⟨67, true, [[.int .i64 kept.epoch, .int .i64 kept.known.Epoch, .int .i64 kept.known.Target, .int .i64 kept.known.Prev, .int .i64 kept.known.Spill, .int .i64 kept.known.Percent, .int .i64 kept.known.Stamp, .int .i64 kept.known.Since, .int .i64 kept.known.Ramped, .int .u64 kept.known.Up, .int .u64 kept.known.Sup, .sl false 1 (List.map (eInt .i64) kept.known.Pen), .sl false 1 (List.map (eInt .i64) kept.known.Changes), .int .i64 kept.promised, .int .i64 kept.accepted, .int .i64 kept.plan.Epoch, .int .i64 kept.plan.Target, .int .i64 kept.plan.Prev, .int .i64 kept.plan.Spill, .int .i64 kept.plan.Percent, .int .i64 kept.plan.Stamp, .int .i64 kept.plan.Since, .int .i64 kept.plan.Ramped, .int .u64 kept.plan.Up, .int .u64 kept.plan.Sup, .sl false 1 (List.map (eInt .i64) kept.plan.Pen), .sl false 1 (List.map (eInt .i64) kept.plan.Changes), .int .i64 kept.writes.low, .int .i64 kept.writes.high, .int .i64 kept.writes.at_, .int .i64 kept.wish, .int .i64 kept.wishAt, .bool kept.lead.is_, .int .i64 kept.lead.who, .int .i64 kept.lead.at_, .int .i64 c.F_, .int .i64 c.Deciders, .int .i64 c.Targets, .int .i64 c.Routers, .int .i64 c.Observers, .sl false 1 (List.map (eInt .i64) c.Tiers), .int .i64 c.Every, .int .i64 c.Wait, .int .i64 c.Rise, .int .i64 c.Fall, .int .i64 c.Fresh, .int .i64 c.L_, .int .i64 c.M_, .int .i64 c.Dwell, .int .i64 c.D_, .int .i64 c.W_, .int .i64 c.B_, .int .i64 c.Hit, .int .i64 c.Suppress, .int .i64 c.Reuse, .int .i64 c.Half, .int .i64 c.First, .int .i64 c.Step, .int .i64 c.StepTime, .int .i64 c.S_, .int .i64 c.Cap, .int .i64 c.Span, .int .i64 c.Room, .int .i64 c.Tries, .int .i64 c.Retry, .int .i64 node, .ptr 1 0 0]]⟩, some ⟨4, true, [[.msl 2 0 ((List.map (eInt .u8) b2).length) ((List.map (eInt .u8) b2).length) false, .msl 3 0 ((List.map (eInt .u8) b3).length) ((List.map (eInt .u8) b3).length) false, .int .i64 fuse, .bool down]]⟩, some ⟨1, false, (List.map (eInt .u8) b2)⟩, some ⟨1, false, (List.map (eInt .u8) b3)⟩, some ⟨26, false, [[.int .i64 m.Kind, .int .i64 m.From, .int .i64 m.To, .int .i64 m.Epoch, .int .i64 m.Ballot, .int .i64 m.Accepted, .int .i64 m.Nonce, .int .i64 m.Time, .int .u64 m.Up, .int .i64 m.Code, .bool m.HasPlan, .int .i64 m.Plan.Epoch, .int .i64 m.Plan.Target, .int .i64 m.Plan.Prev, .int .i64 m.Plan.Spill, .int .i64 m.Plan.Percent, .int .i64 m.Plan.Stamp, .int .i64 m.Plan.Since, .int .i64 m.Plan.Ramped, .int .u64 m.Plan.Up, .int .u64 m.Plan.Sup, .sl false 1 (List.map (eInt .i64) m.Plan.Pen), .sl false 1 (List.map (eInt .i64) m.Plan.Changes), .sl false 1 (List.map (eInt .i64) m.ID), .sl false 1 (List.map (eInt .u8) m.Session), .sl false 1 (List.map (eInt .u8) m.Payload)]]⟩]⟩
noncomputable def Acceptor_accept_2 (m : Msg) (now : Int) (kept : keptT) (c : Config) (node : Int) (fuse : Int) (down : Bool) (b2 : List Int) (b3 : List Int) (t8 : Bool) : Option ((List Msg) × keptT × Int × Bool × (List Int) × (List Int)) := (bif t8 then (some ([], kept, fuse, down, b2, b3)) else (bif (decide ((m.Epoch : Int) < kept.epoch)) then ((Acceptor_decided m kept c node fuse down b2 b3).bind fun y3 => (some (y3, kept, fuse, down, b2, b3))) else (bif (decide ((m.Ballot : Int) < kept.promised)) then ((Acceptor_nack m kept c node fuse down b2 b3).bind fun y5 => (some (y5, kept, fuse, down, b2, b3))) else (bif (decide ((m.Ballot : Int) > kept.promised)) then (Acceptor_accept_1 m now kept c node fuse down b2 b3 (decide ((m.Ballot : Int) > kept.promised))) else (Acceptor_accept_1 m now kept c node fuse down b2 b3 (decide (((IntKind.i64.wrap (m.Plan.Stamp - now)) : Int) > c.S_)))))))
theorem Acceptor_accept_2_ok {m now kept c node fuse down b2 b3 t8} : Acceptor_accept_W m now kept c node fuse down b2 b3 (Acceptor_accept_2M m now kept c node fuse down b2 b3 t8) (Acceptor_accept_2 m now kept c node fuse down b2 b3 t8) := by
 intro r h; unfold Acceptor_accept_2 at h
 refine zs 1 h (fun h => ?_) fun h => ?_
 ·
  refine zf 4 [.mv 2, .mv 3] ?_
  exact zu 1 h [.slot 0 [some 26]]
 refine zs 5 h (fun h => ?_) fun h => ?_
 ·
  refine zc 6 [] h (fun _ => Acceptor_decided_ok) fun y3 h => ?_
  refine zf 2 [.mv 2, .mv 3] ?_
  exact zu 1 h
 refine zs 5 h (fun h => ?_) fun h => ?_
 ·
  refine zc 6 [] h (fun _ => Acceptor_nack_ok) fun y5 h => ?_
  refine zf 2 [.mv 2, .mv 3] ?_
  exact zu 1 h
 refine zs 6 h (fun h => ?_) fun h => ?_
 ·
  exact zg 1 (Acceptor_accept_1_ok h)
 exact zg 3 (Acceptor_accept_1_ok h)
noncomputable def Acceptor_accept (m : Msg) (now : Int) (kept : keptT) (c : Config) (node : Int) (fuse : Int) (down : Bool) (b2 : List Int) (b3 : List Int) : Option ((List Msg) × keptT × Int × Bool × (List Int) × (List Int)) := (bif (decide (((mnI m.Epoch m.Ballot) : Int) < 1)) then (Acceptor_accept_2 m now kept c node fuse down b2 b3 (decide (((mnI m.Epoch m.Ballot) : Int) < 1))) else (bif (!m.HasPlan) then (Acceptor_accept_2 m now kept c node fuse down b2 b3 (!m.HasPlan)) else (bif ((m.Plan.Epoch : Int) != m.Epoch) then (Acceptor_accept_2 m now kept c node fuse down b2 b3 ((m.Plan.Epoch : Int) != m.Epoch)) else (Acceptor_accept_2 m now kept c node fuse down b2 b3 (decide ((m.Epoch : Int) > kept.epoch))))))
theorem Acceptor_accept_ok {m : Msg} {now : Int} {kept : keptT} {c : Config} {node : Int} {fuse : Int} {down : Bool} {b2 : List Int} {b3 : List Int} {r : (List Msg) × keptT × Int × Bool × (List Int) × (List Int)} (h : Acceptor_accept m now kept c node fuse down b2 b3 = some r) : Sound E 29 [.ptr 0 0 0, .agg [.int .i64 m.Kind, .int .i64 m.From, .int .i64 m.To, .int .i64 m.Epoch, .int .i64 m.Ballot, .int .i64 m.Accepted, .int .i64 m.Nonce, .int .i64 m.Time, .int .u64 m.Up, .int .i64 m.Code, .bool m.HasPlan, .int .i64 m.Plan.Epoch, .int .i64 m.Plan.Target, .int .i64 m.Plan.Prev, .int .i64 m.Plan.Spill, .int .i64 m.Plan.Percent, .int .i64 m.Plan.Stamp, .int .i64 m.Plan.Since, .int .i64 m.Plan.Ramped, .int .u64 m.Plan.Up, .int .u64 m.Plan.Sup, .sl false 1 (List.map (eInt .i64) m.Plan.Pen), .sl false 1 (List.map (eInt .i64) m.Plan.Changes), .sl false 1 (List.map (eInt .i64) m.ID), .sl false 1 (List.map (eInt .u8) m.Session), .sl false 1 (List.map (eInt .u8) m.Payload)], .int .i64 now] [some ⟨67, true, [[.int .i64 kept.epoch, .int .i64 kept.known.Epoch, .int .i64 kept.known.Target, .int .i64 kept.known.Prev, .int .i64 kept.known.Spill, .int .i64 kept.known.Percent, .int .i64 kept.known.Stamp, .int .i64 kept.known.Since, .int .i64 kept.known.Ramped, .int .u64 kept.known.Up, .int .u64 kept.known.Sup, .sl false 1 (List.map (eInt .i64) kept.known.Pen), .sl false 1 (List.map (eInt .i64) kept.known.Changes), .int .i64 kept.promised, .int .i64 kept.accepted, .int .i64 kept.plan.Epoch, .int .i64 kept.plan.Target, .int .i64 kept.plan.Prev, .int .i64 kept.plan.Spill, .int .i64 kept.plan.Percent, .int .i64 kept.plan.Stamp, .int .i64 kept.plan.Since, .int .i64 kept.plan.Ramped, .int .u64 kept.plan.Up, .int .u64 kept.plan.Sup, .sl false 1 (List.map (eInt .i64) kept.plan.Pen), .sl false 1 (List.map (eInt .i64) kept.plan.Changes), .int .i64 kept.writes.low, .int .i64 kept.writes.high, .int .i64 kept.writes.at_, .int .i64 kept.wish, .int .i64 kept.wishAt, .bool kept.lead.is_, .int .i64 kept.lead.who, .int .i64 kept.lead.at_, .int .i64 c.F_, .int .i64 c.Deciders, .int .i64 c.Targets, .int .i64 c.Routers, .int .i64 c.Observers, .sl false 1 (List.map (eInt .i64) c.Tiers), .int .i64 c.Every, .int .i64 c.Wait, .int .i64 c.Rise, .int .i64 c.Fall, .int .i64 c.Fresh, .int .i64 c.L_, .int .i64 c.M_, .int .i64 c.Dwell, .int .i64 c.D_, .int .i64 c.W_, .int .i64 c.B_, .int .i64 c.Hit, .int .i64 c.Suppress, .int .i64 c.Reuse, .int .i64 c.Half, .int .i64 c.First, .int .i64 c.Step, .int .i64 c.StepTime, .int .i64 c.S_, .int .i64 c.Cap, .int .i64 c.Span, .int .i64 c.Room, .int .i64 c.Tries, .int .i64 c.Retry, .int .i64 node, .ptr 1 0 0]]⟩, some ⟨4, true, [[.msl 2 0 ((List.map (eInt .u8) b2).length) ((List.map (eInt .u8) b2).length) false, .msl 3 0 ((List.map (eInt .u8) b3).length) ((List.map (eInt .u8) b3).length) false, .int .i64 fuse, .bool down]]⟩, some ⟨1, false, (List.map (eInt .u8) b2)⟩, some ⟨1, false, (List.map (eInt .u8) b3)⟩] (Rs (Acceptor_accept_e c node) r) := so (fn := Tryd.f29) (k := true) (m := 4) h <| by
 intro r h; unfold Acceptor_accept at h
 refine zs 21 h (fun h => ?_) fun h => ?_
 ·
  exact zg 1 (Acceptor_accept_2_ok h)
 refine zs 9 h (fun h => ?_) fun h => ?_
 ·
  exact zg 1 (Acceptor_accept_2_ok h)
 refine zs 13 h (fun h => ?_) fun h => ?_
 ·
  exact zg 1 (Acceptor_accept_2_ok h)
 exact zg 3 (Acceptor_accept_2_ok h)
end Go.RX.L

set_option linter.unusedSimpArgs false
set_option linter.unusedVariables false
set_option maxRecDepth 100000
set_option maxHeartbeats 4000000
namespace Go.RX.L
open Go Go.RX Go.Proofs
attribute [local irreducible] FinQ
noncomputable def Acceptor_early_e (kept : keptT) (c : Config) (node : Int) (fuse : Int) (down : Bool) (b2 : List Int) (b3 : List Int) (y : Bool) : D × Sto := (.bool y, [some ⟨67, true, [[.int .i64 kept.epoch, .int .i64 kept.known.Epoch, .int .i64 kept.known.Target, .int .i64 kept.known.Prev, .int .i64 kept.known.Spill, .int .i64 kept.known.Percent, .int .i64 kept.known.Stamp, .int .i64 kept.known.Since, .int .i64 kept.known.Ramped, .int .u64 kept.known.Up, .int .u64 kept.known.Sup, .sl false 1 (List.map (eInt .i64) kept.known.Pen), .sl false 1 (List.map (eInt .i64) kept.known.Changes), .int .i64 kept.promised, .int .i64 kept.accepted, .int .i64 kept.plan.Epoch, .int .i64 kept.plan.Target, .int .i64 kept.plan.Prev, .int .i64 kept.plan.Spill, .int .i64 kept.plan.Percent, .int .i64 kept.plan.Stamp, .int .i64 kept.plan.Since, .int .i64 kept.plan.Ramped, .int .u64 kept.plan.Up, .int .u64 kept.plan.Sup, .sl false 1 (List.map (eInt .i64) kept.plan.Pen), .sl false 1 (List.map (eInt .i64) kept.plan.Changes), .int .i64 kept.writes.low, .int .i64 kept.writes.high, .int .i64 kept.writes.at_, .int .i64 kept.wish, .int .i64 kept.wishAt, .bool kept.lead.is_, .int .i64 kept.lead.who, .int .i64 kept.lead.at_, .int .i64 c.F_, .int .i64 c.Deciders, .int .i64 c.Targets, .int .i64 c.Routers, .int .i64 c.Observers, .sl false 1 (List.map (eInt .i64) c.Tiers), .int .i64 c.Every, .int .i64 c.Wait, .int .i64 c.Rise, .int .i64 c.Fall, .int .i64 c.Fresh, .int .i64 c.L_, .int .i64 c.M_, .int .i64 c.Dwell, .int .i64 c.D_, .int .i64 c.W_, .int .i64 c.B_, .int .i64 c.Hit, .int .i64 c.Suppress, .int .i64 c.Reuse, .int .i64 c.Half, .int .i64 c.First, .int .i64 c.Step, .int .i64 c.StepTime, .int .i64 c.S_, .int .i64 c.Cap, .int .i64 c.Span, .int .i64 c.Room, .int .i64 c.Tries, .int .i64 c.Retry, .int .i64 node, .ptr 1 0 0]]⟩, some ⟨4, true, [[.msl 2 0 ((List.map (eInt .u8) b2).length) ((List.map (eInt .u8) b2).length) false, .msl 3 0 ((List.map (eInt .u8) b3).length) ((List.map (eInt .u8) b3).length) false, .int .i64 fuse, .bool down]]⟩, some ⟨1, false, (List.map (eInt .u8) b2)⟩, some ⟨1, false, (List.map (eInt .u8) b3)⟩])
noncomputable def Acceptor_early (at_ : Int) (now : Int) (kept : keptT) (c : Config) (node : Int) (fuse : Int) (down : Bool) (b2 : List Int) (b3 : List Int) : Option Bool := (some (decide (((IntKind.i64.wrap (now - at_)) : Int) < (IntKind.i64.wrap (c.L_ + c.M_)))))
theorem Acceptor_early_ok {at_ : Int} {now : Int} {kept : keptT} {c : Config} {node : Int} {fuse : Int} {down : Bool} {b2 : List Int} {b3 : List Int} {r : Bool} (h : Acceptor_early at_ now kept c node fuse down b2 b3 = some r) : Sound E 43 [.ptr 0 0 0, .int .i64 at_, .int .i64 now] [some ⟨67, true, [[.int .i64 kept.epoch, .int .i64 kept.known.Epoch, .int .i64 kept.known.Target, .int .i64 kept.known.Prev, .int .i64 kept.known.Spill, .int .i64 kept.known.Percent, .int .i64 kept.known.Stamp, .int .i64 kept.known.Since, .int .i64 kept.known.Ramped, .int .u64 kept.known.Up, .int .u64 kept.known.Sup, .sl false 1 (List.map (eInt .i64) kept.known.Pen), .sl false 1 (List.map (eInt .i64) kept.known.Changes), .int .i64 kept.promised, .int .i64 kept.accepted, .int .i64 kept.plan.Epoch, .int .i64 kept.plan.Target, .int .i64 kept.plan.Prev, .int .i64 kept.plan.Spill, .int .i64 kept.plan.Percent, .int .i64 kept.plan.Stamp, .int .i64 kept.plan.Since, .int .i64 kept.plan.Ramped, .int .u64 kept.plan.Up, .int .u64 kept.plan.Sup, .sl false 1 (List.map (eInt .i64) kept.plan.Pen), .sl false 1 (List.map (eInt .i64) kept.plan.Changes), .int .i64 kept.writes.low, .int .i64 kept.writes.high, .int .i64 kept.writes.at_, .int .i64 kept.wish, .int .i64 kept.wishAt, .bool kept.lead.is_, .int .i64 kept.lead.who, .int .i64 kept.lead.at_, .int .i64 c.F_, .int .i64 c.Deciders, .int .i64 c.Targets, .int .i64 c.Routers, .int .i64 c.Observers, .sl false 1 (List.map (eInt .i64) c.Tiers), .int .i64 c.Every, .int .i64 c.Wait, .int .i64 c.Rise, .int .i64 c.Fall, .int .i64 c.Fresh, .int .i64 c.L_, .int .i64 c.M_, .int .i64 c.Dwell, .int .i64 c.D_, .int .i64 c.W_, .int .i64 c.B_, .int .i64 c.Hit, .int .i64 c.Suppress, .int .i64 c.Reuse, .int .i64 c.Half, .int .i64 c.First, .int .i64 c.Step, .int .i64 c.StepTime, .int .i64 c.S_, .int .i64 c.Cap, .int .i64 c.Span, .int .i64 c.Room, .int .i64 c.Tries, .int .i64 c.Retry, .int .i64 node, .ptr 1 0 0]]⟩, some ⟨4, true, [[.msl 2 0 ((List.map (eInt .u8) b2).length) ((List.map (eInt .u8) b2).length) false, .msl 3 0 ((List.map (eInt .u8) b3).length) ((List.map (eInt .u8) b3).length) false, .int .i64 fuse, .bool down]]⟩, some ⟨1, false, (List.map (eInt .u8) b2)⟩, some ⟨1, false, (List.map (eInt .u8) b3)⟩] (Rs (Acceptor_early_e kept c node fuse down b2 b3) r) := so (fn := Tryd.f43) (k := false) (m := 4) h <| by
 intro r h; unfold Acceptor_early at h
 exact zu 9 h
end Go.RX.L

set_option linter.unusedSimpArgs false
set_option linter.unusedVariables false
set_option maxRecDepth 100000
set_option maxHeartbeats 4000000
namespace Go.RX.L
open Go Go.RX Go.Proofs
attribute [local irreducible] FinQ
noncomputable def acceptor_span_has_e (y : Bool) : D × Sto := (.bool y, [])
noncomputable def acceptor_span_has (s_ : spanT) (epoch : Int) : Option Bool := (bif ((s_.low : Int) != 0) then (bif (decide ((s_.low : Int) ≤ epoch)) then (some (decide ((epoch : Int) ≤ s_.high))) else (some false)) else (some false))
theorem acceptor_span_has_ok {s_ : spanT} {epoch : Int} {r : Bool} (h : acceptor_span_has s_ epoch = some r) : Sound E 47 [.agg [.int .i64 s_.low, .int .i64 s_.high, .int .i64 s_.at_], .int .i64 epoch] [] (Rs acceptor_span_has_e r) := so (fn := Tryd.f47) (k := false) (m := 0) h <| by
 intro r h; unfold acceptor_span_has at h
 refine zs 13 h (fun h => ?_) fun h => ?_
 ·
  refine zs 11 h (fun h => ?_) fun h => ?_
  ·
   exact zu 12 h
  exact zu 11 h
 exact zu 22 h
end Go.RX.L
