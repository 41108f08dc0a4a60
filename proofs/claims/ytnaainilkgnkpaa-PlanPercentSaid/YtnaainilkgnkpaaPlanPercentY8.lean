/-
  Words and walks for PlanPercent. No condition.
-/
import Derived.Test.YtnaainilkgnkpaaPlanPercentY7
set_option linter.unusedSimpArgs false
set_option linter.unusedVariables false
namespace Go.RX.L
open Go Go.RX

/-- A plan of words. -/
structure Fine (p : Plan) : Prop where
  e : inK .i64 p.Epoch
  up : 0 ≤ p.Up
  sup : 0 ≤ p.Sup
  s : Shrt p
theorem Plan.Ok.fine {p : Plan} (h : p.Ok) : Fine p := by
  have hs := h.shrt
  obtain ⟨a, -, -, -, -, -, -, -, b, c, -, -⟩ := h
  exact ⟨a, (inU64.1 b).1, (inU64.1 c).1, hs⟩

def nums (p : Plan) : List Int := [p.Epoch, p.Target, p.Prev, p.Spill, p.Percent, p.Stamp, p.Since, p.Ramped, p.Up, p.Sup]
def encP (p : Plan) : List Int := encL (nums p) ++ (encL p.Pen ++ encL p.Changes)

theorem nums_in {p : Plan} (hf : Fine p) (h : Rt p) : I64s (nums p) := by
  have t1 := h.tps p.Target (by simp)
  have t2 := h.tps p.Prev (by simp)
  have t3 := h.tps p.Spill (by simp)
  have u1 := h.times p.Stamp (by simp)
  have u2 := h.times p.Since (by simp)
  have u3 := h.times p.Ramped (by simp)
  have v1 := h.up
  have v2 := h.sup
  have v3 := hf.up
  have v4 := hf.sup
  have pc := h.pc
  intro x hx
  simp only [nums, List.mem_cons, List.not_mem_nil, or_false] at hx
  rcases hx with rfl | rfl | rfl | rfl | rfl | rfl | rfl | rfl | rfl | rfl
  · exact hf.e
  all_goals exact inI64.2 (by omega)
theorem pen_in {p : Plan} (h : Rt p) : I64s p.Pen := fun x hx => inI64.2 (by have := h.pen x hx; omega)
theorem ch_in {p : Plan} (h : Rt p) : I64s p.Changes := fun x hx => inI64.2 (by have := h.ch x hx; omega)

theorem encP_bytes (p : Plan) : Bytes (encP p) := fun c hc => by
  rcases List.mem_append.1 hc with h | h
  · exact encL_bytes _ c h
  · rcases List.mem_append.1 h with h | h <;> exact encL_bytes _ c h
theorem encP_len {p : Plan} (hf : Fine p) (h : Rt p) : (encP p).length ≤ 1950 := by
  have h1 := encL_len (nums_in hf h) (by simp [nums])
  have h2 := encL_len (pen_in h) (by have := h.penl; omega)
  have h3 := encL_len (ch_in h) (by have := h.chl; omega)
  simp only [encP, List.length_append]; omega

/-! ### written -/
def putP (p : Plan) : List Int × Int := if rightP p = true then (encP p, 0) else ([], 41)

theorem put_s2 {l0 l1 l2 : List Int} (h0 : I64s l0) (h1 : I64s l1) (h2 : I64s l2) (k0 : l0.length ≤ 64) (k1 : l1.length ≤ 64) (k2 : l2.length ≤ 64) : Ev plan_Put_step (.s2 0 [] [l0, l1, l2]) (encL l0 ++ (encL l1 ++ encL l2), 0) := by
  have n0 := encL_len h0 k0
  have n1 := encL_len h1 k1
  have n2 := encL_len h2 k2
  refine .next (s' := .s2 1 (encL l0) [l0, l1, l2]) ?_ (.next (s' := .s2 2 (encL l0 ++ encL l1) [l0, l1, l2]) ?_ (.next (s' := .s2 3 (encL l0 ++ encL l1 ++ encL l2) [l0, l1, l2]) ?_ (.done ?_)))
  · have hl : decide (((List.map (eInt .u8) ([] : List Int)).length + (List.map (eInt .u8) (encL l0)).length) * 1 ≤ bytesLim) = true := limOk (by simp; omega)
    simp only [plan_Put_step, plan_Put_2]
    simp only [show (0 + (0 : Int).toNat) = 0 from rfl, List.getElem?_cons_zero, Option.bind_some, putInts_ok h0 k0, hl]
    rfl
  · have hl : decide (((List.map (eInt .u8) (encL l0)).length + (List.map (eInt .u8) (encL l1)).length) * 1 ≤ bytesLim) = true := limOk (by simp; omega)
    simp only [plan_Put_step, plan_Put_2]
    simp only [show (0 + (1 : Int).toNat) = 1 from rfl, List.getElem?_cons_succ, List.getElem?_cons_zero, Option.bind_some, putInts_ok h1 k1, hl]
    rfl
  · have hl : decide (((List.map (eInt .u8) (encL l0 ++ encL l1)).length + (List.map (eInt .u8) (encL l2)).length) * 1 ≤ bytesLim) = true := limOk (by simp; omega)
    simp only [plan_Put_step, plan_Put_2]
    simp only [show (0 + (2 : Int).toNat) = 2 from rfl, List.getElem?_cons_succ, List.getElem?_cons_zero, Option.bind_some, putInts_ok h2 k2, hl]
    rfl
  · rw [List.append_assoc]; rfl

theorem put_s1 {p : Plan} (hf : Fine p) (h : Rt p) : ∀ (j k : Nat), k + j = p.Pen.length → Ev plan_Put_step (.s1 p.Pen p.Pen.length k p (p.Pen.take k)) (encP p, 0) := by
  intro j
  have hpl := h.penl
  induction j with
  | zero =>
    intro k hk
    have hup := h.up
    have hsup := h.sup
    have e1 : IntKind.i64.wrap p.Up = p.Up := wI64 (by have := hf.up; omega) (by omega)
    have e2 : IntKind.i64.wrap p.Sup = p.Sup := wI64 (by have := hf.sup; omega) (by omega)
    rw [List.take_of_length_le (by omega)]
    refine .next (s' := .s2 0 [] [nums p, p.Pen, p.Changes]) ?_ (put_s2 (nums_in hf h) (pen_in h) (ch_in h) (by simp [nums]) (by omega) (by have := h.chl; omega))
    simp only [plan_Put_step, plan_Put_1, geB (show p.Pen.length ≤ k by omega), cond_false, plan_numbers, Option.bind_some, e1, e2, nums]
  | succ j ih =>
    intro k hk
    have hlt : k < p.Pen.length := by omega
    refine .next (s' := .s1 p.Pen p.Pen.length ((k + 1 : Nat) : Int) p (p.Pen.take (k + 1))) ?_ (ih (k + 1) (by omega))
    have hl : decide (((List.map (eInt .i64) (p.Pen.take k)).length + 1) * 8 ≤ bytesLim) = true := limOk (by simp; omega)
    simp only [plan_Put_step, plan_Put_1, ltB hlt, cond_true, List.length_map] at hl ⊢
    simp only [ltB hlt, le0, Bool.and_self, cond_true, Int.toNat_natCast, List.getE hlt, Option.bind_some, hl, wS (show k < 9223372036854775807 by omega), take_snoc hlt]

theorem put_ok {p : Plan} (hf : Fine p) : plan_Put p = some (putP p) := by
  unfold putP
  by_cases hr : rightP p = true
  · rw [if_pos hr]
    refine evf_of (.next (s' := .s1 p.Pen p.Pen.length 0 p []) ?_ (put_s1 hf (rightP_iff.1 hr) p.Pen.length 0 (by omega)))
    simp only [plan_Put_step, plan_Put_0, right_ok hf.s hf.up hf.sup, hr, Option.bind_some, List.length_map]
    rfl
  · rw [if_neg hr]
    refine evf_of (.done ?_)
    simp only [plan_Put_step, plan_Put_0, right_ok hf.s hf.up hf.sup, Option.bind_some]
    rw [Bool.eq_false_iff.2 hr]; rfl

theorem rput_s1 {p : Plan} (hf : Fine p) (h : Rt p) : ∀ (j k : Nat), k + j = p.Pen.length → Ev ref04_Put_step (.s1 k p (p.Pen.take k)) (encP p, 0) := by
  intro j
  have hpl := h.penl
  induction j with
  | zero =>
    intro k hk
    have hup := h.up
    have hsup := h.sup
    have e1 : IntKind.i64.wrap p.Up = p.Up := wI64 (by have := hf.up; omega) (by omega)
    have e2 : IntKind.i64.wrap p.Sup = p.Sup := wI64 (by have := hf.sup; omega) (by omega)
    rw [List.take_of_length_le (by omega)]
    have h1 := nums_in hf h
    have n0 := encL_len h1 (by simp [nums])
    have n1 := encL_len (pen_in h) (by omega)
    have n2 := encL_len (ch_in h) (by have := h.chl; omega)
    have r0 := rputInts_ok h1 (by simp [nums])
    have r1 := rputInts_ok (pen_in h) (by omega)
    have r2 := rputInts_ok (ch_in h) (by have := h.chl; omega)
    refine .done ?_
    simp only [ref04_Put_step, ref04_Put_1, List.length_map, geB (show p.Pen.length ≤ k by omega), cond_false, e1, e2]
    rw [show [p.Epoch, p.Target, p.Prev, p.Spill, p.Percent, p.Stamp, p.Since, p.Ramped, p.Up, p.Sup] = nums p from rfl, r0, r1, r2]
    have hl1 : decide (((encL (nums p)).length + (List.take (encL p.Pen).length (List.drop 0 (List.map (eInt .u8) (encL p.Pen)))).length) * 1 ≤ bytesLim) = true := limOk (by simp; omega)
    have hl2 : decide (((encL (nums p) ++ encL p.Pen).length + (List.take (encL p.Changes).length (List.drop 0 (List.map (eInt .u8) (encL p.Changes)))).length) * 1 ≤ bytesLim) = true := limOk (by simp; omega)
    simp only [Option.bind_some, hl1, hl2, cond_true, encP, List.append_assoc]
  | succ j ih =>
    intro k hk
    have hlt : k < p.Pen.length := by omega
    refine .next (s' := .s1 ((k + 1 : Nat) : Int) p (p.Pen.take (k + 1))) ?_ (ih (k + 1) (by omega))
    have hl : decide (((List.map (eInt .i64) (p.Pen.take k)).length + 1) * 8 ≤ bytesLim) = true := limOk (by simp; omega)
    simp only [ref04_Put_step, ref04_Put_1, List.length_map] at hl ⊢
    simp only [ltB hlt, le0, Bool.and_self, cond_true, Int.toNat_natCast, List.getE hlt, Option.bind_some, hl, wS (show k < 9223372036854775807 by omega), take_snoc hlt]

theorem rput_ok {p : Plan} (hf : Fine p) : ref04_Put p = some (putP p) := by
  unfold putP
  by_cases hr : rightP p = true
  · rw [if_pos hr]
    refine evf_of (.next (s' := .s1 0 p []) ?_ (rput_s1 hf (rightP_iff.1 hr) p.Pen.length 0 (by omega)))
    simp only [ref04_Put_step, ref04_Put_0, rright_ok hf.s, hr, Option.bind_some]
    rfl
  · rw [if_neg hr]
    refine evf_of (.done ?_)
    simp only [ref04_Put_step, ref04_Put_0, rright_ok hf.s, Option.bind_some]
    rw [Bool.eq_false_iff.2 hr]; rfl

/-! ### read -/
def zeroPl : Plan := ⟨0, 0, 0, 0, 0, 0, 0, 0, 0, 0, [], []⟩
/-- Three lists, and nothing behind them. -/
def parse3 (b : List Int) : Option (List Int × List Int × List Int) := match pL b with
  | .inl _ => none
  | .inr (l, k1) => (match pL (b.drop k1) with
    | .inl _ => none
    | .inr (pen, k2) => (match pL (b.drop (k1 + k2)) with
      | .inl _ => none
      | .inr (ch, k3) => if k1 + k2 + k3 = b.length then some (l, pen, ch) else none))
def planOf (l pen ch : List Int) : Plan := ⟨l.getD 0 0, l.getD 1 0, l.getD 2 0, l.getD 3 0, l.getD 4 0, l.getD 5 0, l.getD 6 0, l.getD 7 0, l.getD 8 0, l.getD 9 0, pen, ch⟩
/-- Do these lists make a plan? -/
def okOf (l pen ch : List Int) : Bool := decide (l.length = 10) && (decide (0 ≤ l.getD 8 0) && (decide (0 ≤ l.getD 9 0) && rightP (planOf l pen ch)))
def getP (b : List Int) : Plan × Int := match parse3 b with
  | none => (zeroPl, 41)
  | some (l, pen, ch) => if okOf l pen ch = true then (planOf l pen ch, 0) else (zeroPl, 41)

theorem parse3_enc {p : Plan} (hf : Fine p) (h : Rt p) : parse3 (encP p) = some (nums p, p.Pen, p.Changes) := by
  have h1 := pL_enc (nums_in hf h) (by simp [nums]) (encL p.Pen ++ encL p.Changes)
  have h2 := pL_enc (pen_in h) (by have := h.penl; omega) (encL p.Changes)
  have h3 := pL_enc (ch_in h) (by have := h.chl; omega) []
  rw [List.append_nil] at h3
  unfold parse3 encP
  rw [h1]
  simp only [List.drop_left]
  rw [h2]
  have e : (encL (nums p) ++ (encL p.Pen ++ encL p.Changes)).drop ((encL (nums p)).length + (encL p.Pen).length) = encL p.Changes := by
    rw [← List.drop_drop, List.drop_left, List.drop_left]
  simp only [e]
  rw [h3]
  simp [Nat.add_assoc]

theorem planOf_nums (p : Plan) : planOf (nums p) p.Pen p.Changes = p := rfl
theorem getP_enc {p : Plan} (hf : Fine p) (h : rightP p = true) : getP (encP p) = (p, 0) := by
  unfold getP
  rw [parse3_enc hf (rightP_iff.1 h)]
  have hk : okOf (nums p) p.Pen p.Changes = true := by
    simp only [okOf, planOf_nums, h, Bool.and_true, Bool.and_eq_true, decide_eq_true_eq]
    exact ⟨rfl, hf.up, hf.sup⟩
  simp only [hk, if_true, planOf_nums]

theorem parse3_dec {b l pen ch : List Int} (hb : Bytes b) (h : parse3 b = some (l, pen, ch)) : encL l ++ (encL pen ++ encL ch) = b ∧ I64s l ∧ I64s pen ∧ I64s ch ∧ l.length ≤ 64 ∧ pen.length ≤ 64 ∧ ch.length ≤ 64 := by
  unfold parse3 at h
  split at h
  · cases h
  · rename_i l' k1 h1
    split at h
    · cases h
    · rename_i pen' k2 h2
      split at h
      · cases h
      · rename_i ch' k3 h3
        split at h
        · rename_i hk
          simp only [Option.some.injEq, Prod.mk.injEq] at h
          obtain ⟨rfl, rfl, rfl⟩ := h
          obtain ⟨a1, a2, a3, a4, a5⟩ := pL_dec hb h1
          obtain ⟨b1, b2, b3, b4, b5⟩ := pL_dec (fun c hc => hb c (List.mem_of_mem_drop hc)) h2
          obtain ⟨c1, c2, c3, c4, c5⟩ := pL_dec (fun c hc => hb c (List.mem_of_mem_drop hc)) h3
          refine ⟨?_, a5, b5, c5, a4, b4, c4⟩
          rw [← a1, ← b1, ← c1]
          have e1 : List.take k3 (List.drop (k1 + k2) b) = List.drop (k1 + k2) b := List.take_of_length_le (by rw [List.length_drop]; omega)
          rw [e1, ← List.drop_drop, List.take_append_drop, List.take_append_drop]
        · cases h

theorem nums_planOf {l : List Int} (h : l.length = 10) (pen ch : List Int) : nums (planOf l pen ch) = l := by
  match l, h with
  | [_, _, _, _, _, _, _, _, _, _], _ => rfl

theorem getP_dec {b : List Int} (hb : Bytes b) {p : Plan} (h : getP b = (p, 0)) : rightP p = true ∧ Fine p ∧ encP p = b := by
  unfold getP at h
  split at h
  · cases h
  · rename_i l pen ch hp
    split at h
    · rename_i hk
      simp only [Prod.mk.injEq, and_true] at h
      subst h
      obtain ⟨h1, h2, h3, h4, h5, h6, h7⟩ := parse3_dec hb hp
      simp only [okOf, Bool.and_eq_true, decide_eq_true_eq] at hk
      obtain ⟨k1, k2, k3, k4⟩ := hk
      have hlen0 : 0 < l.length := by omega
      refine ⟨k4, ⟨?_, k2, k3, ⟨by show pen.length < _; omega, by show ch.length < _; omega⟩⟩, ?_⟩
      · show inK .i64 (l.getD 0 0)
        have : l.getD 0 0 = l[0] := by simp [hlen0]
        rw [this]; exact h2 _ (List.getElem_mem hlen0)
      · unfold encP
        rw [nums_planOf k1]
        exact h1
    · cases h

theorem getP_snd (b : List Int) : (getP b).2 = 0 ∨ getP b = (zeroPl, 41) := by
  unfold getP
  split
  · exact .inr rfl
  · split
    · exact .inl rfl
    · exact .inr rfl

theorem get_done {s : plan_Get_S} {r : Plan × Int} (h : plan_Get_step s = some (.inr r)) : Ev plan_Get_step s r := .done h
theorem rL_le {b : List Int} (hb : Bytes b) {at_ : Nat} {xs : List Int} {k : Nat} (h : pL (b.drop at_) = .inr (xs, k)) : k ≤ b.length - at_ := by
  have := (pL_dec (fun c hc => hb c (List.mem_of_mem_drop hc)) h).2.1
  rwa [List.length_drop] at this
theorem pL_err {l : List Int} {e : Int} (h : pL l = .inl e) : (e != 0) = true := by
  unfold pL at h
  split at h
  · rename_i e' he
    obtain rfl := Sum.inl.inj h
    exact err_ne he
  · split at h
    · obtain rfl := Sum.inl.inj h; rfl
    · split at h
      · rename_i n k hn hno e' hN
        obtain rfl := Sum.inl.inj h
        have key : ∀ (n : Nat) (l : List Int) (e : Int), pN n l = .inl e → (e != 0) = true := by
          intro n
          induction n with
          | zero => intro l e h; simp [pN] at h
          | succ n ih =>
            intro l e h
            simp only [pN] at h
            split at h
            · rename_i e' he
              obtain rfl := Sum.inl.inj h
              exact err_ne he
            · split at h
              · rename_i e' he
                obtain rfl := Sum.inl.inj h
                exact ih _ _ he
              · cases h
        exact key _ _ _ hN
      · cases h

theorem get_s3 {pen ch : List Int} {a0 a1 a2 a3 a4 a5 a6 a7 a8 a9 : Int} {z : Plan} (h8 : 0 ≤ a8) (h9 : 0 ≤ a9) (hp : pen.length ≤ 64) (hc : ch.length ≤ 64) : ∀ (j k : Nat), k + j = pen.length →
    Ev plan_Get_step (.s3 pen pen.length k z a0 a1 a2 a3 a4 a5 a6 a7 a8 a9 ch (pen.take k)) (if rightP ⟨a0, a1, a2, a3, a4, a5, a6, a7, a8, a9, pen, ch⟩ = true then (⟨a0, a1, a2, a3, a4, a5, a6, a7, a8, a9, pen, ch⟩, 0) else (zeroPl, 41)) := by
  intro j
  induction j with
  | zero =>
    intro k hk
    rw [List.take_of_length_le (by omega)]
    refine .done ?_
    have hr := right_ok (p := ⟨a0, a1, a2, a3, a4, a5, a6, a7, a8, a9, pen, ch⟩) ⟨by show pen.length < _; omega, by show ch.length < _; omega⟩ h8 h9
    simp only [plan_Get_step, plan_Get_3, geB (show pen.length ≤ k by omega), cond_false, hr, Option.bind_some]
    cases rightP ⟨a0, a1, a2, a3, a4, a5, a6, a7, a8, a9, pen, ch⟩ <;> rfl
  | succ j ih =>
    intro k hk
    have hlt : k < pen.length := by omega
    refine .next (s' := .s3 pen pen.length ((k + 1 : Nat) : Int) z a0 a1 a2 a3 a4 a5 a6 a7 a8 a9 ch (pen.take (k + 1))) ?_ (ih (k + 1) (by omega))
    have hl : decide (((List.map (eInt .i64) (pen.take k)).length + 1) * 8 ≤ bytesLim) = true := limOk (by simp; omega)
    simp only [plan_Get_step, plan_Get_3, List.length_map] at hl ⊢
    simp only [ltB hlt, le0, Bool.and_self, cond_true, Int.toNat_natCast, List.getE hlt, Option.bind_some, hl, wS (show k < 9223372036854775807 by omega), take_snoc hlt]

/-- Three lists, read; is the place behind them the end? -/
theorem get_s1 {b l pen ch : List Int} {at_ : Nat} {z : Plan} (hl64 : l.length ≤ 64) (hp : pen.length ≤ 64) (hc : ch.length ≤ 64) :
    Ev plan_Get_step (.s1 b at_ 3 z [l, pen, ch]) (if at_ = b.length ∧ okOf l pen ch = true then (planOf l pen ch, 0) else (zeroPl, 41)) := by
  have bad : Ev plan_Get_step (.s2 l true z [l, pen, ch]) (zeroPl, 41) := .done rfl
  by_cases hat : at_ = b.length
  · have e1 : ((at_ : Int) != ((b.length : Nat) : Int)) = false := by simp [hat]
    by_cases h10 : l.length = 10
    · match l, h10 with
      | [a0, a1, a2, a3, a4, a5, a6, a7, a8, a9], _ =>
        have c1 := all_ok (-1) 1048576 (l := [a1, a2, a3, a4]) (by simp)
        have c2 := all_ok 0 1048576 (l := [a8, a9]) (by simp)
        have c3 := all_ok 0 1000000 (l := pen) (by omega)
        have key : plan_Get_step (.s1 b at_ 3 z [[a0, a1, a2, a3, a4, a5, a6, a7, a8, a9], pen, ch]) = some (.inl (.s2 [a0, a1, a2, a3, a4, a5, a6, a7, a8, a9] (!(btw (-1) 1048576 [a1, a2, a3, a4] && (btw 0 1048576 [a8, a9] && btw 0 1000000 pen))) z [[a0, a1, a2, a3, a4, a5, a6, a7, a8, a9], pen, ch])) := by
          simp only [plan_Get_step, plan_Get_1, List.length_map, e1]
          simp only [List.getElem?_cons_zero, List.getElem?_cons_succ, Option.bind_some, show decide ((3 : Int) < 3) = false from rfl, cond_false, List.length_cons, List.length_nil]
          simp only [show ((((0 + 1 + 1 + 1 + 1 + 1 + 1 + 1 + 1 + 1 + 1 : Nat) : Int)) != 10) = false from rfl, cond_false]
          simp only [show decide ((1 : Int) < ((0 + 1 + 1 + 1 + 1 + 1 + 1 + 1 + 1 + 1 + 1 : Nat) : Int)) = true from rfl, show decide ((2 : Int) < ((0 + 1 + 1 + 1 + 1 + 1 + 1 + 1 + 1 + 1 + 1 : Nat) : Int)) = true from rfl, show decide ((3 : Int) < ((0 + 1 + 1 + 1 + 1 + 1 + 1 + 1 + 1 + 1 + 1 : Nat) : Int)) = true from rfl, show decide ((4 : Int) < ((0 + 1 + 1 + 1 + 1 + 1 + 1 + 1 + 1 + 1 + 1 : Nat) : Int)) = true from rfl, show decide ((8 : Int) ≤ ((0 + 1 + 1 + 1 + 1 + 1 + 1 + 1 + 1 + 1 + 1 : Nat) : Int)) = true from rfl, cond_true, c1, Option.bind_some]
          rw [show List.drop 8 (List.take (0 + 1 + 1 + 1 + 1 + 1 + 1 + 1 + 1 + 1 + 1) [a0, a1, a2, a3, a4, a5, a6, a7, a8, a9]) = [a8, a9] from rfl, c2, c3]
          cases btw (-1) 1048576 [a1, a2, a3, a4] with
          | false => rfl
          | true =>
            cases btw 0 1048576 [a8, a9] with
            | false => rfl
            | true => rfl
        refine .next key ?_
        by_cases hok : (btw (-1) 1048576 [a1, a2, a3, a4] && (btw 0 1048576 [a8, a9] && btw 0 1000000 pen)) = true
        · rw [hok]
          simp only [Bool.and_eq_true, btw_iff] at hok
          obtain ⟨k1, k2, k3⟩ := hok
          have b8' := k2 a8 (by simp)
          have b9' := k2 a9 (by simp)
          have w8 : IntKind.u64.wrap a8 = a8 := wU64 (by omega) (by omega)
          have w9 : IntKind.u64.wrap a9 = a9 := wU64 (by omega) (by omega)
          have h3 := get_s3 (pen := pen) (ch := ch) (a0 := a0) (a1 := a1) (a2 := a2) (a3 := a3) (a4 := a4) (a5 := a5) (a6 := a6) (a7 := a7) (z := z) b8'.1 b9'.1 hp hc pen.length 0 (by omega)
          have hres : (if at_ = b.length ∧ okOf [a0, a1, a2, a3, a4, a5, a6, a7, a8, a9] pen ch = true then (planOf [a0, a1, a2, a3, a4, a5, a6, a7, a8, a9] pen ch, (0 : Int)) else (zeroPl, 41)) = (if rightP ⟨a0, a1, a2, a3, a4, a5, a6, a7, a8, a9, pen, ch⟩ = true then (⟨a0, a1, a2, a3, a4, a5, a6, a7, a8, a9, pen, ch⟩, 0) else (zeroPl, 41)) := by
            have : okOf [a0, a1, a2, a3, a4, a5, a6, a7, a8, a9] pen ch = rightP ⟨a0, a1, a2, a3, a4, a5, a6, a7, a8, a9, pen, ch⟩ := by
              simp [okOf, planOf, b8'.1, b9'.1]
            rw [this]
            simp only [hat, true_and]
            rfl
          rw [hres]
          refine .next (s' := .s3 pen pen.length 0 z a0 a1 a2 a3 a4 a5 a6 a7 a8 a9 ch []) ?_ h3
          simp only [plan_Get_step, plan_Get_2, Bool.not_true, cond_false, List.length_map]
          simp only [List.getElem?_cons_zero, List.getElem?_cons_succ, Option.bind_some, List.length_cons, List.length_nil, w8, w9]
          rfl
        · have hf : okOf [a0, a1, a2, a3, a4, a5, a6, a7, a8, a9] pen ch = false := by
            rw [Bool.eq_false_iff]
            intro hk
            simp only [okOf, Bool.and_eq_true, decide_eq_true_eq] at hk
            obtain ⟨-, q1, q2, q3⟩ := hk
            have r := rightP_iff.1 q3
            refine hok ?_
            simp only [Bool.and_eq_true, btw_iff]
            have t1 : -1 ≤ a1 ∧ a1 ≤ 15 := r.tps a1 (by simp [planOf])
            have t2 : -1 ≤ a2 ∧ a2 ≤ 15 := r.tps a2 (by simp [planOf])
            have t3 : -1 ≤ a3 ∧ a3 ≤ 15 := r.tps a3 (by simp [planOf])
            have t4 : 0 ≤ a4 ∧ a4 ≤ 100 := r.pc
            have t5 : a8 ≤ 65535 := r.up
            have t6 : a9 ≤ 65535 := r.sup
            have q1 : 0 ≤ a8 := q1
            have q2 : 0 ≤ a9 := q2
            refine ⟨fun x hx => ?_, fun x hx => ?_, r.pen⟩
            · simp only [List.mem_cons, List.not_mem_nil, or_false] at hx
              rcases hx with rfl | rfl | rfl | rfl <;> omega
            · simp only [List.mem_cons, List.not_mem_nil, or_false] at hx
              rcases hx with rfl | rfl <;> omega
          rw [if_neg (by rw [hf]; simp), Bool.eq_false_iff.2 hok]
          exact .done rfl
    · have hf : okOf l pen ch = false := by simp [okOf, h10]
      rw [if_neg (by rw [hf]; simp)]
      have e2 : (((l.length : Nat) : Int) != 10) = true := by simp; omega
      refine .next (s' := .s2 l true z [l, pen, ch]) ?_ bad
      simp only [plan_Get_step, plan_Get_1, List.length_map, e1, cond_false]
      simp only [List.getElem?_cons_zero, Option.bind_some, show decide ((3 : Int) < 3) = false from rfl, cond_false, e2, cond_true]
  · rw [if_neg (by simp [hat])]
    have e1 : ((at_ : Int) != ((b.length : Nat) : Int)) = true := by simp; omega
    refine .next (s' := .s2 l true z [l, pen, ch]) ?_ bad
    simp only [plan_Get_step, plan_Get_1, List.length_map, e1]
    simp only [List.getElem?_cons_zero, Option.bind_some, show decide ((3 : Int) < 3) = false from rfl, cond_false, cond_true]

theorem get_ok {b : List Int} (hb : Bytes b) (hm : b.length ≤ memB) : plan_Get b = some (getP b) := by
  refine evf_of (.next (s' := .s1 b 0 0 zeroPl [[], [], []]) rfl ?_)
  have i1 : wire_Ints b 0 = some (rL 0 (pL b)) := by
    have := ints_ok hb hm (at_ := 0) (by omega)
    rwa [List.drop_zero] at this
  cases h1 : pL b with
  | inl e =>
    rw [h1] at i1
    have : getP b = (zeroPl, 41) := by simp [getP, parse3, h1]
    rw [this]
    refine .done ?_
    have he := pL_err h1
    simp only [plan_Get_step, plan_Get_1, i1, rL, Option.bind_some, he]
    rfl
  | inr x =>
    obtain ⟨l, k1⟩ := x
    rw [h1] at i1
    have g1 := rL_le hb (at_ := 0) (by rw [List.drop_zero]; exact h1)
    obtain ⟨-, -, -, l64, -⟩ := pL_dec hb h1
    refine .next (s' := .s1 b k1 1 zeroPl [l, [], []]) ?_ ?_
    · simp only [plan_Get_step, plan_Get_1, i1, rL, Option.bind_some, Nat.zero_add]
      rfl
    have i2 := ints_ok hb hm (at_ := k1) (by omega)
    cases h2 : pL (b.drop k1) with
    | inl e =>
      rw [h2] at i2
      have : getP b = (zeroPl, 41) := by simp [getP, parse3, h1, h2]
      rw [this]
      refine .done ?_
      have he := pL_err h2
      simp only [plan_Get_step, plan_Get_1, i2, rL, Option.bind_some, he]
      rfl
    | inr x =>
      obtain ⟨pen, k2⟩ := x
      rw [h2] at i2
      have g2 := rL_le hb h2
      obtain ⟨-, -, -, p64, -⟩ := pL_dec (fun c hc => hb c (List.mem_of_mem_drop hc)) h2
      refine .next (s' := .s1 b ((k1 + k2 : Nat) : Int) 2 zeroPl [l, pen, []]) ?_ ?_
      · simp only [plan_Get_step, plan_Get_1, i2, rL, Option.bind_some]
        rfl
      have i3 := ints_ok hb hm (at_ := k1 + k2) (by omega)
      cases h3 : pL (b.drop (k1 + k2)) with
      | inl e =>
        rw [h3] at i3
        have : getP b = (zeroPl, 41) := by simp [getP, parse3, h1, h2, h3]
        rw [this]
        refine .done ?_
        have he := pL_err h3
        simp only [plan_Get_step, plan_Get_1, i3, rL, Option.bind_some, he]
        rfl
      | inr x =>
        obtain ⟨ch, k3⟩ := x
        rw [h3] at i3
        obtain ⟨-, -, -, c64, -⟩ := pL_dec (fun c hc => hb c (List.mem_of_mem_drop hc)) h3
        have hres : getP b = (if k1 + k2 + k3 = b.length ∧ okOf l pen ch = true then (planOf l pen ch, 0) else (zeroPl, 41)) := by
          simp only [getP, parse3, h1, h2, h3]
          by_cases hk : k1 + k2 + k3 = b.length
          · simp [hk]
          · simp [hk]
        rw [hres]
        refine .next (s' := .s1 b ((k1 + k2 + k3 : Nat) : Int) 3 zeroPl [l, pen, ch]) ?_ (get_s1 l64 p64 c64)
        simp only [plan_Get_step, plan_Get_1, i3, rL, Option.bind_some]
        rfl
end Go.RX.L

set_option linter.unusedSimpArgs false
set_option linter.unusedVariables false
set_option maxRecDepth 100000
set_option maxHeartbeats 4000000
namespace Go.RX.L
open Go Go.RX Go.Proofs
attribute [local irreducible] FinQ
def plan_Names_Q (y : Bool) (d : D) (s : Sto) : Prop := d = D.bool y ∧ s = []
noncomputable def plan_Names (p_ : Plan) (target : Int) : Option Bool := (bif (decide ((target : Int) ≥ 0)) then (bif ((target : Int) == p_.Target) then (some true) else (bif ((target : Int) == p_.Prev) then (bif (decide ((p_.Percent : Int) < 100)) then (some true) else (some ((target : Int) == p_.Spill))) else (some ((target : Int) == p_.Spill)))) else (some false))
theorem plan_Names_ok {p_ : Plan} {target : Int} {r : Bool} (h : plan_Names p_ target = some r) : Sound E 18 [D.agg [D.int .i64 p_.Epoch, D.int .i64 p_.Target, D.int .i64 p_.Prev, D.int .i64 p_.Spill, D.int .i64 p_.Percent, D.int .i64 p_.Stamp, D.int .i64 p_.Since, D.int .i64 p_.Ramped, D.int .u64 p_.Up, D.int .u64 p_.Sup, D.sl false 1 (List.map (eInt .i64) p_.Pen), D.sl false 1 (List.map (eInt .i64) p_.Changes)], D.int .i64 target] [] (plan_Names_Q r) := by
  refine sound_ofW (m := ⟨[.code (bodyOf Try.f18)], [(0, D.agg [D.int .i64 p_.Epoch, D.int .i64 p_.Target, D.int .i64 p_.Prev, D.int .i64 p_.Spill, D.int .i64 p_.Percent, D.int .i64 p_.Stamp, D.int .i64 p_.Since, D.int .i64 p_.Ramped, D.int .u64 p_.Up, D.int .u64 p_.Sup, D.sl false 1 (List.map (eInt .i64) p_.Pen), D.sl false 1 (List.map (eInt .i64) p_.Changes)]), (1, D.int .i64 target)], []⟩) (fn := Try.f18) (by kernel_rfl) (by kernel_rfl) ?_
  show FinQ E (Cx.of Try.f18 false 0) (QW (plan_Names_Q r)) _
  unfold plan_Names at h
  refine adv_ok hm 11 _ ?_
  refine p_split h (by kernel_rfl) (fun h1 h => ?_) (fun h1 h => ?_)
  · -- true
    refine adv_ok hm 10 _ ?_
    refine p_split h (by kernel_rfl) (fun h2 h => ?_) (fun h2 h => ?_)
    · -- true
      refine adv_ok hm 34 _ ?_
      obtain rfl := Option.some.inj h
      exact r_retF [] (d := D.bool true) (s := []) (by kernel_rfl) Cx.fin_of ⟨rfl, rfl⟩
    · -- false
      refine adv_ok hm 10 _ ?_
      refine p_split h (by kernel_rfl) (fun h3 h => ?_) (fun h3 h => ?_)
      · -- true
        refine adv_ok hm 14 _ ?_
        refine p_split h (by kernel_rfl) (fun h4 h => ?_) (fun h4 h => ?_)
        · -- true
          refine adv_ok hm 14 _ ?_
          obtain rfl := Option.some.inj h
          exact r_retF [] (d := D.bool true) (s := []) (by kernel_rfl) Cx.fin_of ⟨rfl, rfl⟩
        · -- false
          refine adv_ok hm 15 _ ?_
          obtain rfl := Option.some.inj h
          exact r_retF [] (d := D.bool ((target : Int) == p_.Spill)) (s := []) (by kernel_rfl) Cx.fin_of ⟨rfl, rfl⟩
      · -- false
        refine adv_ok hm 29 _ ?_
        obtain rfl := Option.some.inj h
        exact r_retF [] (d := D.bool ((target : Int) == p_.Spill)) (s := []) (by kernel_rfl) Cx.fin_of ⟨rfl, rfl⟩
  · -- false
    refine adv_ok hm 32 _ ?_
    obtain rfl := Option.some.inj h
    exact r_retF [] (d := D.bool false) (s := []) (by kernel_rfl) Cx.fin_of ⟨rfl, rfl⟩
end Go.RX.L

set_option linter.unusedSimpArgs false
set_option linter.unusedVariables false
set_option maxRecDepth 100000
set_option maxHeartbeats 4000000
namespace Go.RX.L
open Go Go.RX Go.Proofs
attribute [local irreducible] FinQ
def law04_head_Q (y : Bool) (d : D) (s : Sto) : Prop := d = D.bool y ∧ s = []
noncomputable def law04_head  : Option Bool := ((plan_Put (⟨0, 1, 0, 2, 100, 0, 0, 0, 0, 0, [], []⟩ : Plan)).bind fun y1 => ((plan_Get y1.1).bind fun y2 => ((plan_Get ([])).bind fun y3 => (bif ((y1.2 : Int) == 0) then (bif ((y2.2 : Int) == 0) then (bif ((y3.2 : Int) == 41) then (bif ((y2.1.Target : Int) == 1) then ((plan_Names (⟨0, 1, 0, 2, 100, 0, 0, 0, 0, 0, [], []⟩ : Plan) 1).bind fun y8 => (bif y8 then ((plan_Names (⟨0, 1, 0, 2, 100, 0, 0, 0, 0, 0, [], []⟩ : Plan) 0).bind fun y10 => (bif (!y10) then ((plan_Same (⟨0, 1, 0, 2, 100, 0, 0, 0, 0, 0, [], []⟩ : Plan) y2.1).bind fun y12 => (some y12)) else (some false))) else (some false))) else (some false)) else (some false)) else (some false)) else (some false)))))
theorem law04_head_ok  {r : Bool} (h : law04_head = some r) : Sound E 10 [] [] (law04_head_Q r) := by
  refine sound_ofW (m := ⟨[.code (bodyOf Try.f10)], [], []⟩) (fn := Try.f10) (by kernel_rfl) (by kernel_rfl) ?_
  show FinQ E (Cx.of Try.f10 false 0) (QW (law04_head_Q r)) _
  unfold law04_head at h
  refine adv_ok hm 17 _ ?_
  have ok1 := fun (y : (List Int) × Int) (hy : plan_Put (⟨0, 1, 0, 2, 100, 0, 0, 0, 0, 0, [], []⟩ : Plan) = some y) => plan_Put_ok hy
  refine p_callE [some 1, some 1] (args1 := [D.agg [D.int .i64 0, D.int .i64 1, D.int .i64 0, D.int .i64 2, D.int .i64 100, D.int .i64 0, D.int .i64 0, D.int .i64 0, D.int .u64 0, D.int .u64 0, D.sl false 1 [], D.sl false 1 []]]) (args := [D.agg [D.int .i64 0, D.int .i64 1, D.int .i64 0, D.int .i64 2, D.int .i64 100, D.int .i64 0, D.int .i64 0, D.int .i64 0, D.int .u64 0, D.int .u64 0, D.sl false 1 [], D.sl false 1 []]]) (fun y1 => D.tup [D.sl false 1 (List.map (eInt .u8) y1.1), D.int .i64 y1.2]) (fun y1 => []) h (by kernel_rfl) ⟨rfl, rfl⟩ ok1 (fun y1 h1 h => ?_)
  refine adv_ok hm 10 _ ?_
  have ok2 := fun (y : Plan × Int) (hy : plan_Get y1.1 = some y) => plan_Get_ok hy
  refine p_callE [] (args1 := [D.sl false 1 (List.map (eInt .u8) y1.1)]) (args := [D.sl false 1 (List.map (eInt .u8) y1.1)]) (fun y2 => D.tup [D.agg [D.int .i64 y2.1.Epoch, D.int .i64 y2.1.Target, D.int .i64 y2.1.Prev, D.int .i64 y2.1.Spill, D.int .i64 y2.1.Percent, D.int .i64 y2.1.Stamp, D.int .i64 y2.1.Since, D.int .i64 y2.1.Ramped, D.int .u64 y2.1.Up, D.int .u64 y2.1.Sup, D.sl false 1 (List.map (eInt .i64) y2.1.Pen), D.sl false 1 (List.map (eInt .i64) y2.1.Changes)], D.int .i64 y2.2]) (fun y2 => []) h (by kernel_rfl) ⟨rfl, rfl⟩ ok2 (fun y2 h2 h => ?_)
  refine adv_ok hm 12 _ ?_
  have ok3 := fun (y : Plan × Int) (hy : plan_Get ([]) = some y) => plan_Get_ok hy
  refine p_callE [some 1] (args1 := [D.sl false 1 []]) (args := [D.sl false 1 []]) (fun y3 => D.tup [D.agg [D.int .i64 y3.1.Epoch, D.int .i64 y3.1.Target, D.int .i64 y3.1.Prev, D.int .i64 y3.1.Spill, D.int .i64 y3.1.Percent, D.int .i64 y3.1.Stamp, D.int .i64 y3.1.Since, D.int .i64 y3.1.Ramped, D.int .u64 y3.1.Up, D.int .u64 y3.1.Sup, D.sl false 1 (List.map (eInt .i64) y3.1.Pen), D.sl false 1 (List.map (eInt .i64) y3.1.Changes)], D.int .i64 y3.2]) (fun y3 => []) h (by kernel_rfl) ⟨rfl, rfl⟩ ok3 (fun y3 h3 h => ?_)
  refine adv_ok hm 15 _ ?_
  refine p_split h (by kernel_rfl) (fun h4 h => ?_) (fun h4 h => ?_)
  · -- true
    refine adv_ok hm 6 _ ?_
    refine p_split h (by kernel_rfl) (fun h5 h => ?_) (fun h5 h => ?_)
    · -- true
      refine adv_ok hm 6 _ ?_
      refine p_split h (by kernel_rfl) (fun h6 h => ?_) (fun h6 h => ?_)
      · -- true
        refine adv_ok hm 9 _ ?_
        refine p_split h (by kernel_rfl) (fun h7 h => ?_) (fun h7 h => ?_)
        · -- true
          refine adv_ok hm 3 _ ?_
          have ok8 := fun (y : Bool) (hy : plan_Names (⟨0, 1, 0, 2, 100, 0, 0, 0, 0, 0, [], []⟩ : Plan) 1 = some y) => plan_Names_ok hy
          refine p_callE [some 1, some 1] (args1 := [D.agg [D.int .i64 0, D.int .i64 1, D.int .i64 0, D.int .i64 2, D.int .i64 100, D.int .i64 0, D.int .i64 0, D.int .i64 0, D.int .u64 0, D.int .u64 0, D.sl false 1 [], D.sl false 1 []], D.int .i64 1]) (args := [D.agg [D.int .i64 0, D.int .i64 1, D.int .i64 0, D.int .i64 2, D.int .i64 100, D.int .i64 0, D.int .i64 0, D.int .i64 0, D.int .u64 0, D.int .u64 0, D.sl false 1 [], D.sl false 1 []], D.int .i64 1]) (fun y8 => D.bool y8) (fun y8 => []) h (by kernel_rfl) ⟨rfl, rfl⟩ ok8 (fun y8 h8 h => ?_)
          refine adv_ok hm 4 _ ?_
          refine p_split h (by kernel_rfl) (fun h9 h => ?_) (fun h9 h => ?_)
          · -- true
            refine adv_ok hm 3 _ ?_
            have ok10 := fun (y : Bool) (hy : plan_Names (⟨0, 1, 0, 2, 100, 0, 0, 0, 0, 0, [], []⟩ : Plan) 0 = some y) => plan_Names_ok hy
            refine p_callE [some 1, some 1] (args1 := [D.agg [D.int .i64 0, D.int .i64 1, D.int .i64 0, D.int .i64 2, D.int .i64 100, D.int .i64 0, D.int .i64 0, D.int .i64 0, D.int .u64 0, D.int .u64 0, D.sl false 1 [], D.sl false 1 []], D.int .i64 0]) (args := [D.agg [D.int .i64 0, D.int .i64 1, D.int .i64 0, D.int .i64 2, D.int .i64 100, D.int .i64 0, D.int .i64 0, D.int .i64 0, D.int .u64 0, D.int .u64 0, D.sl false 1 [], D.sl false 1 []], D.int .i64 0]) (fun y10 => D.bool y10) (fun y10 => []) h (by kernel_rfl) ⟨rfl, rfl⟩ ok10 (fun y10 h10 h => ?_)
            refine adv_ok hm 6 _ ?_
            refine p_split h (by kernel_rfl) (fun h11 h => ?_) (fun h11 h => ?_)
            · -- true
              refine adv_ok hm 6 _ ?_
              have ok12 := fun (y : Bool) (hy : plan_Same (⟨0, 1, 0, 2, 100, 0, 0, 0, 0, 0, [], []⟩ : Plan) y2.1 = some y) => plan_Same_ok hy
              refine p_callE [some 1, some 1] (args1 := [D.agg [D.int .i64 0, D.int .i64 1, D.int .i64 0, D.int .i64 2, D.int .i64 100, D.int .i64 0, D.int .i64 0, D.int .i64 0, D.int .u64 0, D.int .u64 0, D.sl false 1 [], D.sl false 1 []], D.agg [D.int .i64 y2.1.Epoch, D.int .i64 y2.1.Target, D.int .i64 y2.1.Prev, D.int .i64 y2.1.Spill, D.int .i64 y2.1.Percent, D.int .i64 y2.1.Stamp, D.int .i64 y2.1.Since, D.int .i64 y2.1.Ramped, D.int .u64 y2.1.Up, D.int .u64 y2.1.Sup, D.sl false 1 (List.map (eInt .i64) y2.1.Pen), D.sl false 1 (List.map (eInt .i64) y2.1.Changes)]]) (args := [D.agg [D.int .i64 0, D.int .i64 1, D.int .i64 0, D.int .i64 2, D.int .i64 100, D.int .i64 0, D.int .i64 0, D.int .i64 0, D.int .u64 0, D.int .u64 0, D.sl false 1 [], D.sl false 1 []], D.agg [D.int .i64 y2.1.Epoch, D.int .i64 y2.1.Target, D.int .i64 y2.1.Prev, D.int .i64 y2.1.Spill, D.int .i64 y2.1.Percent, D.int .i64 y2.1.Stamp, D.int .i64 y2.1.Since, D.int .i64 y2.1.Ramped, D.int .u64 y2.1.Up, D.int .u64 y2.1.Sup, D.sl false 1 (List.map (eInt .i64) y2.1.Pen), D.sl false 1 (List.map (eInt .i64) y2.1.Changes)]]) (fun y12 => D.bool y12) (fun y12 => []) h (by kernel_rfl) ⟨rfl, rfl⟩ ok12 (fun y12 h12 h => ?_)
              refine adv_ok hm 5 _ ?_
              obtain rfl := Option.some.inj h
              exact r_retF [] (d := D.bool y12) (s := []) (by kernel_rfl) Cx.fin_of ⟨rfl, rfl⟩
            · -- false
              refine adv_ok hm 9 _ ?_
              obtain rfl := Option.some.inj h
              exact r_retF [] (d := D.bool false) (s := []) (by kernel_rfl) Cx.fin_of ⟨rfl, rfl⟩
          · -- false
            refine adv_ok hm 18 _ ?_
            obtain rfl := Option.some.inj h
            exact r_retF [] (d := D.bool false) (s := []) (by kernel_rfl) Cx.fin_of ⟨rfl, rfl⟩
        · -- false
          refine adv_ok hm 25 _ ?_
          obtain rfl := Option.some.inj h
          exact r_retF [] (d := D.bool false) (s := []) (by kernel_rfl) Cx.fin_of ⟨rfl, rfl⟩
      · -- false
        refine adv_ok hm 34 _ ?_
        obtain rfl := Option.some.inj h
        exact r_retF [] (d := D.bool false) (s := []) (by kernel_rfl) Cx.fin_of ⟨rfl, rfl⟩
    · -- false
      refine adv_ok hm 41 _ ?_
      obtain rfl := Option.some.inj h
      exact r_retF [] (d := D.bool false) (s := []) (by kernel_rfl) Cx.fin_of ⟨rfl, rfl⟩
  · -- false
    refine adv_ok hm 48 _ ?_
    obtain rfl := Option.some.inj h
    exact r_retF [] (d := D.bool false) (s := []) (by kernel_rfl) Cx.fin_of ⟨rfl, rfl⟩
end Go.RX.L

set_option linter.unusedSimpArgs false
set_option linter.unusedVariables false
namespace Go.RX.L
open Go Go.RX

def smallP (n : Int) : Int := if -1 ≤ n ∧ n ≤ 1000000 then n else -2
theorem small_ok (n : Int) : ref04_small n = some (smallP n) := by
  simp only [ref04_small, in_ok, Option.bind_some, smallP]
  by_cases h : -1 ≤ n ∧ n ≤ 1000000
  · rw [decide_eq_true h, if_pos h]; rfl
  · rw [decide_eq_false h, if_neg h]; rfl

theorem small_map {l : List Int} : btw 0 1000000 (l.map smallP) = btw 0 1000000 l := by
  induction l with
  | nil => rfl
  | cons x l ih =>
    rw [List.map_cons, btw_cons, btw_cons, ih]
    congr 1
    unfold smallP
    split <;> simp <;> omega
theorem small_id {l : List Int} (h : btw 0 1000000 l = true) : l.map smallP = l := by
  rw [btw_iff] at h
  conv => rhs; rw [← List.map_id l]
  refine List.map_congr_left fun x hx => ?_
  have := h x hx
  simp [smallP]; omega

/-- With numbers that are too far made none, it is right just if it was. -/
theorem right_small {a0 a1 a2 a3 a4 a5 a6 a7 a8 a9 : Int} {pen ch : List Int} : rightP ⟨a0, smallP a1, smallP a2, smallP a3, smallP a4, a5, a6, a7, a8, a9, pen.map smallP, ch⟩ = rightP ⟨a0, a1, a2, a3, a4, a5, a6, a7, a8, a9, pen, ch⟩ := by
  have h1 : ∀ x : Int, decide (-1 ≤ smallP x ∧ smallP x ≤ 15) = decide (-1 ≤ x ∧ x ≤ 15) := fun x => by
    unfold smallP; split <;> simp <;> omega
  have h2 : ∀ x : Int, decide (0 ≤ smallP x ∧ smallP x ≤ 100) = decide (0 ≤ x ∧ x ≤ 100) := fun x => by
    unfold smallP; split <;> simp <;> omega
  simp only [rightP, right0, right1, right2, right3, btw_cons, h1, h2, small_map, List.length_map]
theorem small_eq {a0 a1 a2 a3 a4 a5 a6 a7 a8 a9 : Int} {pen ch : List Int} (h : rightP ⟨a0, a1, a2, a3, a4, a5, a6, a7, a8, a9, pen, ch⟩ = true) : (⟨a0, smallP a1, smallP a2, smallP a3, smallP a4, a5, a6, a7, a8, a9, pen.map smallP, ch⟩ : Plan) = ⟨a0, a1, a2, a3, a4, a5, a6, a7, a8, a9, pen, ch⟩ := by
  have r := rightP_iff.1 h
  have t1 : -1 ≤ a1 ∧ a1 ≤ 15 := r.tps a1 (by simp)
  have t2 : -1 ≤ a2 ∧ a2 ≤ 15 := r.tps a2 (by simp)
  have t3 : -1 ≤ a3 ∧ a3 ≤ 15 := r.tps a3 (by simp)
  have t4 : 0 ≤ a4 ∧ a4 ≤ 100 := r.pc
  have e : ∀ x : Int, -1 ≤ x ∧ x ≤ 100 → smallP x = x := fun x hx => by simp [smallP]; omega
  rw [e a1 (by omega), e a2 (by omega), e a3 (by omega), e a4 (by omega), small_id (btw_iff.2 r.pen)]

theorem rget_s3 {pen ch : List Int} {a0 a1 a2 a3 a4 a5 a6 a7 a8 a9 : Int} {z : Plan} (hp : pen.length ≤ 64) (hc : ch.length ≤ 64) : ∀ (j k : Nat), k + j = pen.length →
    Ev ref04_Get_step (.s3 pen k z a0 (smallP a1) (smallP a2) (smallP a3) (smallP a4) a5 a6 a7 a8 a9 ch ((pen.take k).map smallP)) (if rightP ⟨a0, a1, a2, a3, a4, a5, a6, a7, a8, a9, pen, ch⟩ = true then (⟨a0, a1, a2, a3, a4, a5, a6, a7, a8, a9, pen, ch⟩, 0) else (zeroPl, 41)) := by
  intro j
  induction j with
  | zero =>
    intro k hk
    rw [List.take_of_length_le (by omega)]
    refine .done ?_
    have hr := rright_ok (p := ⟨a0, smallP a1, smallP a2, smallP a3, smallP a4, a5, a6, a7, a8, a9, pen.map smallP, ch⟩) ⟨by show (pen.map smallP).length < _; rw [List.length_map]; omega, by show ch.length < _; omega⟩
    rw [right_small] at hr
    simp only [ref04_Get_step, ref04_Get_3, List.length_map, geB (show pen.length ≤ k by omega), cond_false, hr, Option.bind_some]
    cases hq : rightP ⟨a0, a1, a2, a3, a4, a5, a6, a7, a8, a9, pen, ch⟩ with
    | false => rfl
    | true => rw [small_eq hq]; rfl
  | succ j ih =>
    intro k hk
    have hlt : k < pen.length := by omega
    refine .next (s' := .s3 pen ((k + 1 : Nat) : Int) z a0 (smallP a1) (smallP a2) (smallP a3) (smallP a4) a5 a6 a7 a8 a9 ch ((pen.take (k + 1)).map smallP)) ?_ (ih (k + 1) (by omega))
    have hl : decide (((List.map (eInt .i64) ((pen.take k).map smallP)).length + 1) * 8 ≤ bytesLim) = true := limOk (by simp; omega)
    simp only [ref04_Get_step, ref04_Get_3, List.length_map] at hl ⊢
    simp only [ltB hlt, le0, Bool.and_self, cond_true, Int.toNat_natCast, List.getE hlt, Option.bind_some, small_ok, hl, wS (show k < 9223372036854775807 by omega), take_snoc hlt, List.map_append, List.map_cons, List.map_nil]

theorem rget_s2 {l pen ch : List Int} {z : Plan} (h10 : l.length = 10) (hi : I64s l) (h8 : 0 ≤ l.getD 8 0) (h9 : 0 ≤ l.getD 9 0) (hp : pen.length ≤ 64) (hc : ch.length ≤ 64) :
    Ev ref04_Get_step (.s2 l pen ch false z) (if okOf l pen ch = true then (planOf l pen ch, 0) else (zeroPl, 41)) := by
  match l, h10, h8, h9, hi with
  | [a0, a1, a2, a3, a4, a5, a6, a7, a8, a9], _, h8, h9, hi =>
    have h8 : 0 ≤ a8 := h8
    have h9 : 0 ≤ a9 := h9
    have i8' := inI64.1 (hi a8 (by simp))
    have i9' := inI64.1 (hi a9 (by simp))
    have w8 : IntKind.u64.wrap a8 = a8 := wU64 (by omega) (by omega)
    have w9 : IntKind.u64.wrap a9 = a9 := wU64 (by omega) (by omega)
    have hok : okOf [a0, a1, a2, a3, a4, a5, a6, a7, a8, a9] pen ch = rightP ⟨a0, a1, a2, a3, a4, a5, a6, a7, a8, a9, pen, ch⟩ := by simp [okOf, planOf, h8, h9]
    rw [hok]
    refine .next (s' := .s3 pen 0 z a0 (smallP a1) (smallP a2) (smallP a3) (smallP a4) a5 a6 a7 a8 a9 ch []) ?_ (rget_s3 hp hc pen.length 0 (by omega))
    simp only [ref04_Get_step, ref04_Get_2, cond_false, List.length_map, List.getElem?_cons_zero, List.getElem?_cons_succ, Option.bind_some, small_ok, List.length_cons, List.length_nil, w8, w9]
    rfl

theorem rget_ok {b : List Int} (hb : Bytes b) (hm : b.length ≤ memB) : ref04_Get b = some (getP b) := by
  have i1 : ref01_Ints b 0 = some (rL 0 (pL b)) := by
    have := rints_ok hb hm (at_ := 0) (by omega)
    rwa [List.drop_zero] at this
  have bad1 : ∀ {l : List Int} {a : Int}, Ev ref04_Get_step (.s1 b l a true zeroPl) (zeroPl, 41) := .done rfl
  have bad2 : ∀ {l pen ch : List Int}, Ev ref04_Get_step (.s2 l pen ch true zeroPl) (zeroPl, 41) := .done rfl
  cases h1 : pL b with
  | inl e =>
    rw [h1] at i1
    have : getP b = (zeroPl, 41) := by simp [getP, parse3, h1]
    rw [this]
    refine evf_of (.next (s' := .s1 b [] 0 true zeroPl) ?_ bad1)
    have he := pL_err h1
    simp only [ref04_Get_step, ref04_Get_0, i1, rL, Option.bind_some, he]
    rfl
  | inr x =>
    obtain ⟨l, k1⟩ := x
    rw [h1] at i1
    have g1 := rL_le hb (at_ := 0) (by rw [List.drop_zero]; exact h1)
    obtain ⟨-, -, -, l64, li⟩ := pL_dec hb h1
    refine evf_of (.next (s' := .s1 b l k1 (((l.length : Nat) : Int) != 10) zeroPl) ?_ ?_)
    · simp only [ref04_Get_step, ref04_Get_0, i1, rL, Option.bind_some, Nat.zero_add, List.length_map]
      rfl
    have i2 := rints_ok hb hm (at_ := k1) (by omega)
    by_cases h10 : l.length = 10
    rotate_left
    · have e : (((l.length : Nat) : Int) != 10) = true := by simp; omega
      rw [e]
      have hg : getP b = (zeroPl, 41) := by
        simp only [getP, parse3, h1]
        split
        · rfl
        · rename_i l' pen' ch' hx
          split at hx
          · cases hx
          · split at hx
            · cases hx
            · split at hx
              · simp only [Option.some.injEq, Prod.mk.injEq] at hx
                obtain ⟨rfl, -, -⟩ := hx
                simp [okOf, h10]
              · cases hx
      rw [hg]
      exact bad1
    have e : (((l.length : Nat) : Int) != 10) = false := by simp [h10]
    rw [e]
    cases h2 : pL (b.drop k1) with
    | inl e =>
      rw [h2] at i2
      have : getP b = (zeroPl, 41) := by simp [getP, parse3, h1, h2]
      rw [this]
      refine .done ?_
      have he := pL_err h2
      simp only [ref04_Get_step, ref04_Get_1, cond_false, i2, rL, Option.bind_some, he]
      rfl
    | inr x =>
      obtain ⟨pen, k2⟩ := x
      rw [h2] at i2
      have g2 := rL_le hb h2
      obtain ⟨-, -, -, p64, -⟩ := pL_dec (fun c hc => hb c (List.mem_of_mem_drop hc)) h2
      have i3 := rints_ok hb hm (at_ := k1 + k2) (by omega)
      cases h3 : pL (b.drop (k1 + k2)) with
      | inl e =>
        rw [h3] at i3
        have : getP b = (zeroPl, 41) := by simp [getP, parse3, h1, h2, h3]
        rw [this]
        refine .next (s' := .s2 l pen [] true zeroPl) ?_ bad2
        have he := pL_err h3
        simp only [ref04_Get_step, ref04_Get_1, cond_false, i2, i3, rL, Option.bind_some, he, bne_self_eq_false, cond_true]
      | inr x =>
        obtain ⟨ch, k3⟩ := x
        rw [h3] at i3
        obtain ⟨-, -, -, c64, -⟩ := pL_dec (fun c hc => hb c (List.mem_of_mem_drop hc)) h3
        have hres : getP b = (if k1 + k2 + k3 = b.length ∧ okOf l pen ch = true then (planOf l pen ch, 0) else (zeroPl, 41)) := by
          simp only [getP, parse3, h1, h2, h3]
          by_cases hk : k1 + k2 + k3 = b.length
          · simp [hk]
          · simp [hk]
        rw [hres]
        by_cases hk : k1 + k2 + k3 = b.length
        rotate_left
        · rw [if_neg (by simp [hk])]
          refine .next (s' := .s2 l pen ch true zeroPl) ?_ bad2
          have ek : ((((k1 + k2 + k3 : Nat) : Int)) != ((b.length : Nat) : Int)) = true := by simp; omega
          simp only [ref04_Get_step, ref04_Get_1, cond_false, i2, i3, rL, Option.bind_some, bne_self_eq_false, List.length_map, ek, cond_true]
        have ek : ((((k1 + k2 + k3 : Nat) : Int)) != ((b.length : Nat) : Int)) = false := by simp [← hk]
        have L8 : l[8]? = some (l.getD 8 0) := by simp [h10]
        have L9 : l[9]? = some (l.getD 9 0) := by simp [h10]
        have q8 : decide ((8 : Int) < ((l.length : Nat) : Int)) = true := by simp [h10]
        have q9 : decide ((9 : Int) < ((l.length : Nat) : Int)) = true := by simp [h10]
        have step : ref04_Get_step (.s1 b l k1 false zeroPl) = some (.inl (.s2 l pen ch (bif decide (l.getD 8 0 < 0) then true else decide (l.getD 9 0 < 0)) zeroPl)) := by
          simp only [ref04_Get_step, ref04_Get_1, cond_false, i2, i3, rL, Option.bind_some, bne_self_eq_false, List.length_map, ek, q8, q9, cond_true, L8, L9]
          cases decide (l.getD 8 0 < 0) <;> rfl
        refine .next step ?_
        by_cases n8 : l.getD 8 0 < 0
        · rw [decide_eq_true n8, cond_true, if_neg (fun hh => by simp only [okOf, Bool.and_eq_true, decide_eq_true_eq] at hh; omega)]
          exact bad2
        by_cases n9 : l.getD 9 0 < 0
        · rw [decide_eq_false n8, decide_eq_true n9, cond_false, if_neg (fun hh => by simp only [okOf, Bool.and_eq_true, decide_eq_true_eq] at hh; omega)]
          exact bad2
        rw [decide_eq_false n8, decide_eq_false n9, cond_false]
        have := rget_s2 (z := zeroPl) h10 li (by omega) (by omega) p64 c64
        simp only [hk, true_and]
        exact this

/-! ### alike -/
theorem rsame_loop (a b : List Int) (hl : a.length < 9223372036854775807) (hab : a.length = b.length) : ∀ (j k : Nat), k + j = a.length → Ev ref01_Same_step (.s1 a b k) (decide (a.drop k = b.drop k)) := by
  intro j
  induction j with
  | zero =>
    intro k hk
    refine .done ?_
    rw [List.drop_eq_nil_of_le (by omega), List.drop_eq_nil_of_le (by omega)]
    simp [ref01_Same_step, ref01_Same_1, show ¬ (k : Int) < a.length by omega]
  | succ j ih =>
    intro k hk
    have h1 : k < a.length := by omega
    have h2 : k < b.length := by omega
    rw [List.drop_eq_getElem_cons h1, List.drop_eq_getElem_cons h2]
    by_cases h : a[k] = b[k]
    · refine .next (s' := .s1 a b ((k + 1 : Nat) : Int)) ?_ ?_
      · have e : (a[k] != b[k]) = false := by simp [h]
        simp only [ref01_Same_step, ref01_Same_1, List.length_map, ltB h1, ltB h2, le0, Bool.and_self, cond_true, Int.toNat_natCast, List.getE h1, List.getE h2, Option.bind_some, e, cond_false, wS (show k < 9223372036854775807 by omega)]
      · rw [show (decide (a[k] :: a.drop (k + 1) = b[k] :: b.drop (k + 1))) = decide (a.drop (k + 1) = b.drop (k + 1)) by simp only [h, List.cons.injEq, true_and]]
        exact ih (k + 1) (by omega)
    · refine .done ?_
      have e : (a[k] != b[k]) = true := by simp [h]
      simp only [ref01_Same_step, ref01_Same_1, List.length_map, ltB h1, ltB h2, le0, Bool.and_self, cond_true, Int.toNat_natCast, List.getE h1, List.getE h2, Option.bind_some, e]
      rw [show (decide (a[k] :: a.drop (k + 1) = b[k] :: b.drop (k + 1))) = false by simp only [h, List.cons.injEq, false_and, decide_false]]
theorem rsame1_ok {a b : List Int} (hl : a.length < 9223372036854775807) : ref01_Same a b = some (decide (a = b)) := by
  by_cases hab : a.length = b.length
  · refine evf_of (.next (s' := .s1 a b 0) (by simp [ref01_Same_step, ref01_Same_0, hab]) ?_)
    simpa using rsame_loop a b hl hab a.length 0 (by omega)
  · refine evf_of (.done ?_)
    have e : (((a.length : Nat) : Int) != ((b.length : Nat) : Int)) = true := by simp; omega
    have hne : a ≠ b := fun h => hab (by rw [h])
    simp [ref01_Same_step, ref01_Same_0, e, hne]

theorem rsame4_loop (a b : Plan) (hs : Shrt a) (hab : a.Pen.length = b.Pen.length) : ∀ (j k : Nat), k + j = a.Pen.length → Ev ref04_Same_step (.s2 k a b) (decide (a.Pen.drop k = b.Pen.drop k) && decide (a.Changes = b.Changes)) := by
  intro j
  have hl := hs.pen
  induction j with
  | zero =>
    intro k hk
    refine .done ?_
    rw [List.drop_eq_nil_of_le (by omega), List.drop_eq_nil_of_le (by omega)]
    simp only [ref04_Same_step, ref04_Same_2, List.length_map, geB (show a.Pen.length ≤ k by omega), cond_false, rsame1_ok hs.ch, Option.bind_some]
    simp
  | succ j ih =>
    intro k hk
    have h1 : k < a.Pen.length := by omega
    have h2 : k < b.Pen.length := by omega
    rw [List.drop_eq_getElem_cons h1, List.drop_eq_getElem_cons h2]
    by_cases h : a.Pen[k] = b.Pen[k]
    · refine .next (s' := .s2 ((k + 1 : Nat) : Int) a b) ?_ ?_
      · have e : (a.Pen[k] != b.Pen[k]) = false := by simp [h]
        simp only [ref04_Same_step, ref04_Same_2, List.length_map, ltB h1, ltB h2, le0, Bool.and_self, cond_true, Int.toNat_natCast, List.getE h1, List.getE h2, Option.bind_some, e, cond_false, wS (show k < 9223372036854775807 by omega)]
      · rw [show (decide (a.Pen[k] :: a.Pen.drop (k + 1) = b.Pen[k] :: b.Pen.drop (k + 1))) = decide (a.Pen.drop (k + 1) = b.Pen.drop (k + 1)) by simp only [h, List.cons.injEq, true_and]]
        exact ih (k + 1) (by omega)
    · refine .done ?_
      have e : (a.Pen[k] != b.Pen[k]) = true := by simp [h]
      simp only [ref04_Same_step, ref04_Same_2, List.length_map, ltB h1, ltB h2, le0, Bool.and_self, cond_true, Int.toNat_natCast, List.getE h1, List.getE h2, Option.bind_some, e]
      rw [show (decide (a.Pen[k] :: a.Pen.drop (k + 1) = b.Pen[k] :: b.Pen.drop (k + 1))) = false by simp only [h, List.cons.injEq, false_and, decide_false]]
      rfl

def sameN (a b : Plan) : Bool := decide (a.Epoch = b.Epoch) && (decide (a.Target = b.Target) && (decide (a.Prev = b.Prev) && (decide (a.Spill = b.Spill) && (decide (a.Percent = b.Percent) && (decide (a.Stamp = b.Stamp) && (decide (a.Since = b.Since) && (decide (a.Ramped = b.Ramped) && (decide (a.Up = b.Up) && decide (a.Sup = b.Sup)))))))))
/-- Are two alike? -/
def sameP (a b : Plan) : Bool := sameN a b && (decide (a.Pen = b.Pen) && decide (a.Changes = b.Changes))
theorem sameP_iff {a b : Plan} : sameP a b = true ↔ a = b := by
  cases a; cases b
  simp only [sameP, sameN, Bool.and_eq_true, decide_eq_true_eq, Plan.mk.injEq, and_assoc]

theorem rsame_ok {a b : Plan} (hs : Shrt a) : ref04_Same a b = some (sameP a b) := by
  have bad : Ev ref04_Same_step (.s1 true a b) false := .done rfl
  have hstep : ref04_Same_step (.s0 a b) = some (.inl (.s1 (!(sameN a b) || !(decide (a.Pen.length = b.Pen.length))) a b)) := by
    have hb : ∀ x y : Int, (x != y) = !(decide (x = y)) := fun x y => by by_cases h : x = y <;> simp [h]
    simp only [ref04_Same_step, ref04_Same_0, hb, sameN, List.length_map]
    cases decide (a.Epoch = b.Epoch) <;> cases decide (a.Target = b.Target) <;> cases decide (a.Prev = b.Prev) <;> cases decide (a.Spill = b.Spill) <;> cases decide (a.Percent = b.Percent) <;> cases decide (a.Stamp = b.Stamp) <;> cases decide (a.Since = b.Since) <;> cases decide (a.Ramped = b.Ramped) <;> cases decide (a.Up = b.Up) <;> cases decide (a.Sup = b.Sup) <;> first | rfl | (simp; done) | (simp; omega)
  refine evf_of (.next hstep ?_)
  unfold sameP
  cases hn : sameN a b with
  | false => exact bad
  | true =>
    by_cases hab : a.Pen.length = b.Pen.length
    · rw [decide_eq_true hab]
      refine .next (s' := .s2 0 a b) rfl ?_
      simpa using rsame4_loop a b hs hab a.Pen.length 0 (by omega)
    · have hne : a.Pen ≠ b.Pen := fun h => hab (by rw [h])
      rw [decide_eq_false hab, decide_eq_false hne]
      exact bad

theorem wrapI_inj {x y : Int} (hx : inK .u64 x) (hy : inK .u64 y) : (IntKind.i64.wrap x == IntKind.i64.wrap y) = decide (x = y) := by
  obtain ⟨n, rfl⟩ := Int.eq_ofNat_of_zero_le (inU64.1 hx).1
  obtain ⟨m, rfl⟩ := Int.eq_ofNat_of_zero_le (inU64.1 hy).1
  have h1 := (inU64.1 hx).2
  have h2 := (inU64.1 hy).2
  rw [wrapI64_nat n (by omega), wrapI64_nat m (by omega)]
  rw [Bool.eq_iff_iff]
  simp only [beq_iff_eq, decide_eq_true_eq]
  split <;> split <;> omega

theorem wrapI_inj' {x y : Int} (hx : inK .u64 x) (hy : inK .u64 y) : decide (IntKind.i64.wrap x = IntKind.i64.wrap y) = decide (x = y) := by
  rw [← wrapI_inj hx hy, Bool.eq_iff_iff]; simp

theorem same_ok {a b : Plan} (hs : Shrt a) (h1 : inK .u64 a.Up) (h2 : inK .u64 b.Up) (h3 : inK .u64 a.Sup) (h4 : inK .u64 b.Sup) : plan_Same a b = some (sameP a b) := by
  have hb : ∀ x y : Int, (x == y) = decide (x = y) := fun x y => by by_cases h : x = y <;> simp [h]
  simp only [plan_Same, plan_numbers, Option.bind_some, wrapI_inj' h1 h2, wrapI_inj' h3 h4, hb, Bool.and_true, equal_ok hs.pen, equal_v2_ok hs.ch]
  rw [show (decide (a.Epoch = b.Epoch) && (decide (a.Target = b.Target) && (decide (a.Prev = b.Prev) && (decide (a.Spill = b.Spill) && (decide (a.Percent = b.Percent) && (decide (a.Stamp = b.Stamp) && (decide (a.Since = b.Since) && (decide (a.Ramped = b.Ramped) && (decide (a.Up = b.Up) && decide (a.Sup = b.Sup)))))))))) = sameN a b from rfl]
  unfold sameP
  cases sameN a b with
  | false => rfl
  | true => cases decide (a.Pen = b.Pen) <;> rfl

/-! ### the head -/
def namesP (p : Plan) (t : Int) : Bool := decide (0 ≤ t) && (decide (t = p.Target) || ((decide (t = p.Prev) && decide (p.Percent < 100)) || decide (t = p.Spill)))
theorem names_ok (p : Plan) (t : Int) : plan_Names p t = some (namesP p t) := by
  have hb : ∀ x y : Int, (x == y) = decide (x = y) := fun x y => by by_cases h : x = y <;> simp [h]
  simp only [plan_Names, namesP, hb, ge_iff_le]
  cases decide (0 ≤ t) <;> cases decide (t = p.Target) <;> cases decide (t = p.Prev) <;> cases decide (p.Percent < 100) <;> rfl

def headPl : Plan := ⟨0, 1, 0, 2, 100, 0, 0, 0, 0, 0, [], []⟩
theorem headPl_fine : Fine headPl := ⟨inI64.2 (by simp [headPl]), by simp [headPl], by simp [headPl], ⟨by simp [headPl], by simp [headPl]⟩⟩
theorem headPl_right : rightP headPl = true := by decide
theorem head_ok : law04_head = some true := by
  have p1 := put_ok headPl_fine
  have hl := encP_len headPl_fine (rightP_iff.1 headPl_right)
  have p2 : putP headPl = (encP headPl, 0) := by simp [putP, headPl_right]
  have g1 := get_ok (encP_bytes headPl) (by simp only [memB]; omega)
  rw [getP_enc headPl_fine headPl_right] at g1
  have g2 := get_ok (b := []) (fun c hc => by simp at hc) (by simp [memB])
  have g3 : getP [] = (zeroPl, 41) := rfl
  have s := same_ok (a := headPl) (b := headPl) headPl_fine.s (inU64.2 (by simp [headPl])) (inU64.2 (by simp [headPl])) (inU64.2 (by simp [headPl])) (inU64.2 (by simp [headPl]))
  have s2 : sameP headPl headPl = true := sameP_iff.2 rfl
  have e : (⟨0, 1, 0, 2, 100, 0, 0, 0, 0, 0, [], []⟩ : Plan) = headPl := rfl
  simp only [law04_head, e, p1, p2, g1, g2, g3, Option.bind_some, names_ok, s, s2]
  rfl

theorem b8_inj {a b : List Int} (ha : Bytes a) (hb : Bytes b) : (List.map b8 a == List.map b8 b) = decide (a = b) := by
  rw [Bool.eq_iff_iff, beq_iff_eq, decide_eq_true_eq]
  refine ⟨fun h => ?_, fun h => by rw [h]⟩
  have hlen : a.length = b.length := by simpa using congrArg List.length h
  refine List.ext_getElem hlen fun i h1 h2 => ?_
  have := congrArg (fun l => l[i]?) h
  simp only [List.getElem?_map, List.getElem?_eq_getElem h1, List.getElem?_eq_getElem h2, Option.map_some, Option.some.injEq] at this
  have q1 := ha _ (List.getElem_mem h1)
  have q2 := hb _ (List.getElem_mem h2)
  have := congrArg UInt8.toNat this
  simp only [b8, UInt8.toNat_ofNat'] at this
  omega
theorem bytesOf {b : List Int} (h : b.length * 1 ≤ reachBytes ∧ ∀ y ∈ b, inK .u8 y) : Bytes b ∧ b.length ≤ memB := by
  refine ⟨fun c hc => inU8.1 (h.2 c hc), ?_⟩
  have : reachBytes ≤ memB := by decide
  omega
end Go.RX.L

set_option linter.unusedSimpArgs false
set_option linter.unusedVariables false
set_option maxRecDepth 100000
set_option maxHeartbeats 4000000
namespace Go.RX.L
open Go Go.RX Go.Proofs
attribute [local irreducible] FinQ
def law04_PlanPercent_Q (y : Bool) (d : D) (s : Sto) : Prop := d = D.bool y ∧ s = []
noncomputable def law04_PlanPercent_1M (up : Bool) (want : Bool) (p_ : Plan) : M := { td := [It.code (codeAt (bodyOf Try.f9) [1, 1, 1, 1])], fr := [(9, D.bool up), (10, D.ptr 0 0 0), (11, D.bool want)], st := [some { sz := 12, deep := false, rows := [[D.int .i64 p_.Epoch, D.int .i64 p_.Target, D.int .i64 p_.Prev, D.int .i64 p_.Spill, D.int .i64 p_.Percent, D.int .i64 p_.Stamp, D.int .i64 p_.Since, D.int .i64 p_.Ramped, D.int .u64 p_.Up, D.int .u64 p_.Sup, D.sl false 1 (List.map (eInt .i64) p_.Pen), D.sl false 1 (List.map (eInt .i64) p_.Changes)]] }] }
noncomputable def law04_PlanPercent_1 (up : Bool) (want : Bool) (p_ : Plan) : Option Bool := (bif up then ((plan_Names p_ p_.Prev).bind fun y2 => (bif (y2 == want) then ((plan_Names p_ p_.Target).bind fun y4 => (bif y4 then (bif (decide ((p_.Spill : Int) < 0)) then (some true) else ((plan_Names p_ p_.Spill).bind fun y7 => (some y7))) else (some false))) else (some false))) else (some false))
theorem law04_PlanPercent_1_ok {up : Bool} {want : Bool} {p_ : Plan} {r : Bool} (h : law04_PlanPercent_1 up want p_ = some r) : FinQ E (Cx.of Try.f9 false 0) (QW (law04_PlanPercent_Q r)) (.go (law04_PlanPercent_1M up want p_)) := by
  unfold law04_PlanPercent_1 at h
  refine adv_ok hm 5 _ ?_
  refine p_split h (by kernel_rfl) (fun h1 h => ?_) (fun h1 h => ?_)
  · -- true
    refine adv_ok hm 8 _ ?_
    have ok2 := fun (y : Bool) (hy : plan_Names p_ p_.Prev = some y) => plan_Names_ok hy
    refine p_callE [] (args1 := [D.agg [D.int .i64 p_.Epoch, D.int .i64 p_.Target, D.int .i64 p_.Prev, D.int .i64 p_.Spill, D.int .i64 p_.Percent, D.int .i64 p_.Stamp, D.int .i64 p_.Since, D.int .i64 p_.Ramped, D.int .u64 p_.Up, D.int .u64 p_.Sup, D.sl false 1 (List.map (eInt .i64) p_.Pen), D.sl false 1 (List.map (eInt .i64) p_.Changes)], D.int .i64 p_.Prev]) (args := [D.agg [D.int .i64 p_.Epoch, D.int .i64 p_.Target, D.int .i64 p_.Prev, D.int .i64 p_.Spill, D.int .i64 p_.Percent, D.int .i64 p_.Stamp, D.int .i64 p_.Since, D.int .i64 p_.Ramped, D.int .u64 p_.Up, D.int .u64 p_.Sup, D.sl false 1 (List.map (eInt .i64) p_.Pen), D.sl false 1 (List.map (eInt .i64) p_.Changes)], D.int .i64 p_.Prev]) (fun y2 => D.bool y2) (fun y2 => []) h (by kernel_rfl) ⟨rfl, rfl⟩ ok2 (fun y2 h2 h => ?_)
    refine adv_ok hm 8 _ ?_
    refine p_split h (by kernel_rfl) (fun h3 h => ?_) (fun h3 h => ?_)
    · -- true
      refine adv_ok hm 8 _ ?_
      have ok4 := fun (y : Bool) (hy : plan_Names p_ p_.Target = some y) => plan_Names_ok hy
      refine p_callE [] (args1 := [D.agg [D.int .i64 p_.Epoch, D.int .i64 p_.Target, D.int .i64 p_.Prev, D.int .i64 p_.Spill, D.int .i64 p_.Percent, D.int .i64 p_.Stamp, D.int .i64 p_.Since, D.int .i64 p_.Ramped, D.int .u64 p_.Up, D.int .u64 p_.Sup, D.sl false 1 (List.map (eInt .i64) p_.Pen), D.sl false 1 (List.map (eInt .i64) p_.Changes)], D.int .i64 p_.Target]) (args := [D.agg [D.int .i64 p_.Epoch, D.int .i64 p_.Target, D.int .i64 p_.Prev, D.int .i64 p_.Spill, D.int .i64 p_.Percent, D.int .i64 p_.Stamp, D.int .i64 p_.Since, D.int .i64 p_.Ramped, D.int .u64 p_.Up, D.int .u64 p_.Sup, D.sl false 1 (List.map (eInt .i64) p_.Pen), D.sl false 1 (List.map (eInt .i64) p_.Changes)], D.int .i64 p_.Target]) (fun y4 => D.bool y4) (fun y4 => []) h (by kernel_rfl) ⟨rfl, rfl⟩ ok4 (fun y4 h4 h => ?_)
      refine adv_ok hm 4 _ ?_
      refine p_split h (by kernel_rfl) (fun h5 h => ?_) (fun h5 h => ?_)
      · -- true
        refine adv_ok hm 8 _ ?_
        refine p_split h (by kernel_rfl) (fun h6 h => ?_) (fun h6 h => ?_)
        · -- true
          refine adv_ok hm 14 _ ?_
          obtain rfl := Option.some.inj h
          exact r_retF [] (d := D.bool true) (s := []) (by kernel_rfl) Cx.fin_of ⟨rfl, rfl⟩
        · -- false
          refine adv_ok hm 8 _ ?_
          have ok7 := fun (y : Bool) (hy : plan_Names p_ p_.Spill = some y) => plan_Names_ok hy
          refine p_callE [] (args1 := [D.agg [D.int .i64 p_.Epoch, D.int .i64 p_.Target, D.int .i64 p_.Prev, D.int .i64 p_.Spill, D.int .i64 p_.Percent, D.int .i64 p_.Stamp, D.int .i64 p_.Since, D.int .i64 p_.Ramped, D.int .u64 p_.Up, D.int .u64 p_.Sup, D.sl false 1 (List.map (eInt .i64) p_.Pen), D.sl false 1 (List.map (eInt .i64) p_.Changes)], D.int .i64 p_.Spill]) (args := [D.agg [D.int .i64 p_.Epoch, D.int .i64 p_.Target, D.int .i64 p_.Prev, D.int .i64 p_.Spill, D.int .i64 p_.Percent, D.int .i64 p_.Stamp, D.int .i64 p_.Since, D.int .i64 p_.Ramped, D.int .u64 p_.Up, D.int .u64 p_.Sup, D.sl false 1 (List.map (eInt .i64) p_.Pen), D.sl false 1 (List.map (eInt .i64) p_.Changes)], D.int .i64 p_.Spill]) (fun y7 => D.bool y7) (fun y7 => []) h (by kernel_rfl) ⟨rfl, rfl⟩ ok7 (fun y7 h7 h => ?_)
          refine adv_ok hm 8 _ ?_
          obtain rfl := Option.some.inj h
          exact r_retF [] (d := D.bool y7) (s := []) (by kernel_rfl) Cx.fin_of ⟨rfl, rfl⟩
      · -- false
        refine adv_ok hm 17 _ ?_
        obtain rfl := Option.some.inj h
        exact r_retF [] (d := D.bool false) (s := []) (by kernel_rfl) Cx.fin_of ⟨rfl, rfl⟩
    · -- false
      refine adv_ok hm 28 _ ?_
      obtain rfl := Option.some.inj h
      exact r_retF [] (d := D.bool false) (s := []) (by kernel_rfl) Cx.fin_of ⟨rfl, rfl⟩
  · -- false
    refine adv_ok hm 43 _ ?_
    obtain rfl := Option.some.inj h
    exact r_retF [] (d := D.bool false) (s := []) (by kernel_rfl) Cx.fin_of ⟨rfl, rfl⟩
noncomputable def law04_PlanPercent (target : Int) (prev : Int) (spill : Int) (percent : Int) : Option Bool := ((law04_head ).bind fun y1 => (bif (((IntKind.i64.wrap ((Int.tmod prev 16))) : Int) == (IntKind.i64.wrap ((Int.tmod target 16)))) then (law04_PlanPercent_1 y1 true (⟨0, (IntKind.i64.wrap ((Int.tmod target 16))), (IntKind.i64.wrap ((Int.tmod prev 16))), (IntKind.i64.wrap ((IntKind.i64.wrap ((Int.tmod spill 17))) - 1)), (IntKind.i64.wrap ((Int.tmod percent 101))), 0, 0, 0, 0, 0, [], []⟩ : Plan)) else (bif (((IntKind.i64.wrap ((Int.tmod prev 16))) : Int) == (IntKind.i64.wrap ((IntKind.i64.wrap ((Int.tmod spill 17))) - 1))) then (law04_PlanPercent_1 y1 true (⟨0, (IntKind.i64.wrap ((Int.tmod target 16))), (IntKind.i64.wrap ((Int.tmod prev 16))), (IntKind.i64.wrap ((IntKind.i64.wrap ((Int.tmod spill 17))) - 1)), (IntKind.i64.wrap ((Int.tmod percent 101))), 0, 0, 0, 0, 0, [], []⟩ : Plan)) else (law04_PlanPercent_1 y1 (decide (((IntKind.i64.wrap ((Int.tmod percent 101))) : Int) < 100)) (⟨0, (IntKind.i64.wrap ((Int.tmod target 16))), (IntKind.i64.wrap ((Int.tmod prev 16))), (IntKind.i64.wrap ((IntKind.i64.wrap ((Int.tmod spill 17))) - 1)), (IntKind.i64.wrap ((Int.tmod percent 101))), 0, 0, 0, 0, 0, [], []⟩ : Plan)))))
theorem law04_PlanPercent_ok {target : Int} {prev : Int} {spill : Int} {percent : Int} {r : Bool} (h : law04_PlanPercent target prev spill percent = some r) : Sound E 9 [D.int .u8 target, D.int .u8 prev, D.int .u8 spill, D.int .u8 percent] [] (law04_PlanPercent_Q r) := by
  refine sound_ofW (m := ⟨[.code (bodyOf Try.f9)], [(0, D.int .u8 target), (1, D.int .u8 prev), (2, D.int .u8 spill), (3, D.int .u8 percent)], []⟩) (fn := Try.f9) (by kernel_rfl) (by kernel_rfl) ?_
  show FinQ E (Cx.of Try.f9 false 0) (QW (law04_PlanPercent_Q r)) _
  unfold law04_PlanPercent at h
  refine adv_ok hm 7 _ ?_
  have ok1 := fun (y : Bool) (hy : law04_head  = some y) => law04_head_ok hy
  refine p_callE [] (args1 := []) (args := []) (fun y1 => D.bool y1) (fun y1 => []) h (by kernel_rfl) ⟨rfl, rfl⟩ ok1 (fun y1 h1 h => ?_)
  refine adv_ok hm 38 _ ?_
  refine p_split h (by kernel_rfl) (fun h2 h => ?_) (fun h2 h => ?_)
  · -- true
    refine adv_ok hm 21 _ ?_
    exact r_cut 3584 [.blk 0 [some 1, some 1]] (m' := (law04_PlanPercent_1M y1 true (⟨0, (IntKind.i64.wrap ((Int.tmod target 16))), (IntKind.i64.wrap ((Int.tmod prev 16))), (IntKind.i64.wrap ((IntKind.i64.wrap ((Int.tmod spill 17))) - 1)), (IntKind.i64.wrap ((Int.tmod percent 101))), 0, 0, 0, 0, 0, [], []⟩ : Plan))) (by kernel_rfl) (law04_PlanPercent_1_ok h)
  · -- false
    refine adv_ok hm 14 _ ?_
    refine p_split h (by kernel_rfl) (fun h3 h => ?_) (fun h3 h => ?_)
    · -- true
      refine adv_ok hm 8 _ ?_
      exact r_cut 3584 [.blk 0 [some 1, some 1]] (m' := (law04_PlanPercent_1M y1 true (⟨0, (IntKind.i64.wrap ((Int.tmod target 16))), (IntKind.i64.wrap ((Int.tmod prev 16))), (IntKind.i64.wrap ((IntKind.i64.wrap ((Int.tmod spill 17))) - 1)), (IntKind.i64.wrap ((Int.tmod percent 101))), 0, 0, 0, 0, 0, [], []⟩ : Plan))) (by kernel_rfl) (law04_PlanPercent_1_ok h)
    · -- false
      refine adv_ok hm 9 _ ?_
      exact r_cut 3584 [.blk 0 [some 1, some 1]] (m' := (law04_PlanPercent_1M y1 (decide (((IntKind.i64.wrap ((Int.tmod percent 101))) : Int) < 100)) (⟨0, (IntKind.i64.wrap ((Int.tmod target 16))), (IntKind.i64.wrap ((Int.tmod prev 16))), (IntKind.i64.wrap ((IntKind.i64.wrap ((Int.tmod spill 17))) - 1)), (IntKind.i64.wrap ((Int.tmod percent 101))), 0, 0, 0, 0, 0, [], []⟩ : Plan))) (by kernel_rfl) (law04_PlanPercent_1_ok h)
end Go.RX.L

set_option linter.unusedSimpArgs false
set_option linter.unusedVariables false
set_option maxRecDepth 100000
namespace Go.RX.L
open Go Go.RX Go.Proofs
theorem law04_PlanPercent_of_t5 {n : Nat} {ds : List D} (h : wtF Try.prog (n + 1) 5 ds) : ∃ x : Int, ds = (eInt .u8) x ∧ inK .u8 x := by
  obtain ⟨m, rfl, o⟩ := wt_int (k := .u8) (by kernel_rfl) h
  exact ⟨m, rfl, o⟩
theorem law04_PlanPercent_sound (H : ∀ (target : Int) (prev : Int) (spill : Int) (percent : Int), inK .u8 target → inK .u8 prev → inK .u8 spill → inK .u8 percent → law04_PlanPercent target prev spill percent = some true) : ∀ xs, wtA Try.prog Try.f9.params.toList xs → Sound E 9 xs [] fun d _ => d = .bool true := by
  intro xs h
  have h0 : wtA Try.prog [5, 5, 5, 5] xs := h
  obtain ⟨d0, r0, rfl, w0, h1⟩ := wtA_cons h0
  have v0 := wtP_flat (by kernel_rfl) w0
  obtain ⟨x0, e0, o0⟩ := law04_PlanPercent_of_t5 (n := 5) v0
  obtain ⟨rfl, -⟩ := List.cons.inj e0
  obtain ⟨d1, r1, rfl, w1, h2⟩ := wtA_cons h1
  have v1 := wtP_flat (by kernel_rfl) w1
  obtain ⟨x1, e1, o1⟩ := law04_PlanPercent_of_t5 (n := 5) v1
  obtain ⟨rfl, -⟩ := List.cons.inj e1
  obtain ⟨d2, r2, rfl, w2, h3⟩ := wtA_cons h2
  have v2 := wtP_flat (by kernel_rfl) w2
  obtain ⟨x2, e2, o2⟩ := law04_PlanPercent_of_t5 (n := 5) v2
  obtain ⟨rfl, -⟩ := List.cons.inj e2
  obtain ⟨d3, r3, rfl, w3, h4⟩ := wtA_cons h3
  have v3 := wtP_flat (by kernel_rfl) w3
  obtain ⟨x3, e3, o3⟩ := law04_PlanPercent_of_t5 (n := 5) v3
  obtain ⟨rfl, -⟩ := List.cons.inj e3
  obtain rfl := wtA_nil h4
  exact (law04_PlanPercent_ok (H x0 x1 x2 x3 o0 o1 o2 o3)).mono fun d s h => h.1
end Go.RX.L

set_option linter.unusedSimpArgs false
set_option linter.unusedVariables false
namespace Go.RX.L
open Go Go.RX

theorem perc1 {p : Plan} {w : Bool} (ht : 0 ≤ p.Target) (hp : 0 ≤ p.Prev) (hw : w = (decide (p.Prev = p.Target) || (decide (p.Prev = p.Spill) || decide (p.Percent < 100)))) : law04_PlanPercent_1 true w p = some true := by
  have n1 : namesP p p.Prev = w := by
    rw [hw]
    simp only [namesP, decide_eq_true hp, Bool.true_and, decide_true]
    cases decide (p.Prev = p.Target) <;> cases decide (p.Percent < 100) <;> cases decide (p.Prev = p.Spill) <;> rfl
  have n2 : namesP p p.Target = true := by simp [namesP, ht]
  simp only [law04_PlanPercent_1, cond_true, names_ok, Option.bind_some, n1, n2, beq_self_eq_true]
  by_cases h : p.Spill < 0
  · rw [decide_eq_true h]; rfl
  · have n3 : namesP p p.Spill = true := by simp [namesP]; omega
    rw [decide_eq_false h, n3]; rfl

theorem planPercent : ∀ (target : Int) (prev : Int) (spill : Int) (percent : Int), inK .u8 target → inK .u8 prev → inK .u8 spill → inK .u8 percent → law04_PlanPercent target prev spill percent = some true := by
  intro t p s c ht hp hs hc
  obtain ⟨t1, t2⟩ := inU8.1 ht
  obtain ⟨p1, p2⟩ := inU8.1 hp
  obtain ⟨s1, s2⟩ := inU8.1 hs
  obtain ⟨c1, c2⟩ := inU8.1 hc
  have md : ∀ (x m : Int), 0 ≤ x → 0 < m → m ≤ 200 → 0 ≤ IntKind.i64.wrap (Int.tmod x m) := fun x m hx hm hm2 => by
    have h1 := Int.tmod_nonneg m hx
    have h2 := Int.tmod_lt_of_pos x hm
    rw [wI64 (by omega) (by omega)]; exact h1
  have q1 := md t 16 t1 (by omega) (by omega)
  have q2 := md p 16 p1 (by omega) (by omega)
  generalize hT : IntKind.i64.wrap (Int.tmod t 16) = T at q1
  generalize hP : IntKind.i64.wrap (Int.tmod p 16) = P at q2
  generalize hS : IntKind.i64.wrap (IntKind.i64.wrap (Int.tmod s 17) - 1) = S
  generalize hC : IntKind.i64.wrap (Int.tmod c 101) = C
  simp only [law04_PlanPercent, head_ok, Option.bind_some, hT, hP, hS, hC]
  by_cases h1 : P = T
  · rw [show (P == T) = true by simp [h1], cond_true]
    exact perc1 q1 q2 (by simp [h1])
  · rw [show (P == T) = false by simp [h1], cond_false]
    by_cases h2 : P = S
    · rw [show (P == S) = true by simp [h2], cond_true]
      exact perc1 q1 q2 (by simp [h2])
    · rw [show (P == S) = false by simp [h2], cond_false]
      exact perc1 q1 q2 (by simp [h1, h2])
end Go.RX.L
