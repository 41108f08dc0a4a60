/-
  RX, soundness: regions whose order is open, third part: what the text's order gives.
-/
import Derived.Test.YthooiaebbikjiaaRxDraw2
set_option linter.unusedSimpArgs false
set_option linter.unusedVariables false
namespace Go.RX
open Go

def FrOk (dst : Nat → Option Nat) (dv : Nat → D) (fr : Fr) (S : Nat → Prop) (g : Fr) : Prop :=
  ∀ t, (∃ j, S j ∧ dst j = some t ∧ (∀ k, S k → dst k = some t → k ≤ j) ∧ fget g t = dv j) ∨ ((∀ k, S k → dst k ≠ some t) ∧ fget g t = fget fr t)

def StOk (kd : Nat → Nat) (sv : Nat → Sto) (σ0 : Sto) (S : Nat → Prop) (σ : Sto) : Prop :=
  (∃ j, S j ∧ 2 ≤ kd j ∧ (∀ k, S k → 2 ≤ kd k → k ≤ j) ∧ σ = sv j) ∨ ((∀ k, S k → ¬ 2 ≤ kd k) ∧ σ = σ0)

section
variable {dst : Nat → Option Nat} {dv dv' : Nat → D} {fr : Fr} {S S' : Nat → Prop} {g g' : Fr} {kd : Nat → Nat} {sv sv' : Nat → Sto} {σ0 σ σ' : Sto}

theorem FrOk.same (h : FrOk dst dv fr S g) (h' : FrOk dst dv fr S' g') {t : Nat} (e : ∀ k, dst k = some t → (S k ↔ S' k)) : fget g t = fget g' t := by
  rcases h t with ⟨j, h1, h2, h3, h4⟩ | ⟨h1, h2⟩ <;> rcases h' t with ⟨j', k1, k2, k3, k4⟩ | ⟨k1, k2⟩
  · have a := k3 j ((e j h2).1 h1) h2
    have b := h3 j' ((e j' k2).2 k1) k2
    have : j = j' := by omega
    rw [h4, k4, this]
  · exact absurd h2 (k1 j ((e j h2).1 h1))
  · exact absurd k2 (h1 j' ((e j' k2).2 k1))
  · rw [h2, k2]

theorem FrOk.ext (h : FrOk dst dv fr S g) (e : ∀ t, fget g' t = fget g t) : FrOk dst dv fr S g' := fun t => by
  rcases h t with ⟨j, h1, h2, h3, h4⟩ | ⟨h1, h2⟩
  · exact .inl ⟨j, h1, h2, h3, by rw [e, h4]⟩
  · exact .inr ⟨h1, by rw [e, h2]⟩

theorem FrOk.congr (h : FrOk dst dv fr S g) (e : ∀ j, S j → dv' j = dv j) : FrOk dst dv' fr S g := fun t => by
  rcases h t with ⟨j, h1, h2, h3, h4⟩ | ⟨h1, h2⟩
  · exact .inl ⟨j, h1, h2, h3, by rw [e j h1, h4]⟩
  · exact .inr ⟨h1, h2⟩

theorem FrOk.iff (h : FrOk dst dv fr S g) (e : ∀ j, S j ↔ S' j) : FrOk dst dv fr S' g := by
  rw [show S' = S from funext fun j => propext (e j).symm]; exact h

theorem fget_put (g : Fr) (o : Option Nat) (d : D) (t : Nat) : fget (put g o d) t = if o = some t then d else fget g t := by
  cases o with
  | none => simp [put]
  | some s =>
    simp only [put, fset, fget, Bool.cond_eq_ite, Option.some.injEq]
    by_cases h : s = t
    · subst h; rw [if_pos (Nat.beq_refl s), if_pos rfl]
    · rw [if_neg (fun e => h (Nat.eq_of_beq_eq_true e)), if_neg h]

theorem FrOk.put (h : FrOk dst dv fr S g) {i : Nat} {d : D} (hd : dv i = d) (hlast : ∀ k t, S k → dst i = some t → dst k = some t → k ≤ i) : FrOk dst dv fr (fun k => S k ∨ k = i) (put g (dst i) d) := fun t => by
  rw [fget_put]
  by_cases hi : dst i = some t
  · rw [if_pos hi]
    exact .inl ⟨i, .inr rfl, hi, fun k hk hkt => hk.elim (fun hk => hlast k t hk hi hkt) (fun e => by omega), hd.symm⟩
  · rw [if_neg hi]
    rcases h t with ⟨j, h1, h2, h3, h4⟩ | ⟨h1, h2⟩
    · exact .inl ⟨j, .inl h1, h2, fun k hk hkt => hk.elim (fun hk => h3 k hk hkt) (fun e => by subst e; exact absurd hkt hi), h4⟩
    · exact .inr ⟨fun k hk => hk.elim (h1 k) (fun e => by subst e; exact hi), h2⟩

theorem StOk.same (h : StOk kd sv σ0 S σ) (h' : StOk kd sv σ0 S' σ') (e : ∀ k, 2 ≤ kd k → (S k ↔ S' k)) : σ = σ' := by
  rcases h with ⟨j, h1, h2, h3, h4⟩ | ⟨h1, h2⟩ <;> rcases h' with ⟨j', k1, k2, k3, k4⟩ | ⟨k1, k2⟩
  · have a := k3 j ((e j h2).1 h1) h2
    have b := h3 j' ((e j' k2).2 k1) k2
    have : j = j' := by omega
    rw [h4, k4, this]
  · exact absurd h2 (k1 j ((e j h2).1 h1))
  · exact absurd k2 (h1 j' ((e j' k2).2 k1))
  · rw [h2, k2]

theorem StOk.congr (h : StOk kd sv σ0 S σ) (e : ∀ j, S j → sv' j = sv j) : StOk kd sv' σ0 S σ := by
  rcases h with ⟨j, h1, h2, h3, h4⟩ | ⟨h1, h2⟩
  · exact .inl ⟨j, h1, h2, h3, by rw [e j h1, h4]⟩
  · exact .inr ⟨h1, h2⟩

theorem StOk.iff (h : StOk kd sv σ0 S σ) (e : ∀ j, 2 ≤ kd j → (S j ↔ S' j)) : StOk kd sv σ0 S' σ := by
  rcases h with ⟨j, h1, h2, h3, h4⟩ | ⟨h1, h2⟩
  · exact .inl ⟨j, (e j h2).1 h1, h2, fun k hk hc => h3 k ((e k hc).2 hk) hc, h4⟩
  · exact .inr ⟨fun k hk hc => h1 k ((e k hc).2 hk) hc, h2⟩

/-- The list of what turned the blocks. -/
inductive HistOk (kd : Nat → Nat) (sv : Nat → Sto) : Nat → List (Nat × Sto) → Prop
  | nil : HistOk kd sv 0 []
  | skip {i : Nat} {h : List (Nat × Sto)} : HistOk kd sv i h → ¬ 2 ≤ kd i → HistOk kd sv (i + 1) h
  | cons {i : Nat} {h : List (Nat × Sto)} : HistOk kd sv i h → 2 ≤ kd i → HistOk kd sv (i + 1) ((i, sv i) :: h)

theorem HistOk.congr {i : Nat} {h : List (Nat × Sto)} (hh : HistOk kd sv i h) (e : ∀ j, j < i → sv' j = sv j) : HistOk kd sv' i h := by
  induction hh with
  | nil => exact .nil
  | skip _ hk ih => exact .skip (ih fun j hj => e j (by omega)) hk
  | @cons i h _ hk ih => rw [← e i (by omega)]; exact .cons (ih fun j hj => e j (by omega)) hk

theorem lt_succ_cases {j i : Nat} (h : j < i + 1) : j < i ∨ j = i := by omega

theorem HistOk.get {i : Nat} {h : List (Nat × Sto)} (hh : HistOk kd sv i h) (mask : Nat) : StOk kd sv σ0 (fun j => j < i ∧ mask.testBit j = true) (histGet mask σ0 h) := by
  induction hh with
  | nil => exact .inr ⟨fun k hk => absurd hk.1 (Nat.not_lt_zero _), rfl⟩
  | @skip i h _ hk ih =>
    refine ih.iff fun j hc => ⟨fun x => ⟨Nat.lt_succ_of_lt x.1, x.2⟩, fun x => ⟨?_, x.2⟩⟩
    rcases lt_succ_cases x.1 with h | h
    · exact h
    · subst h; exact absurd hc hk
  | @cons i h _ hk ih =>
    simp only [histGet]
    cases hb : mask.testBit i with
    | true => exact .inl ⟨i, ⟨Nat.lt_succ_self i, hb⟩, hk, fun k h1 _ => Nat.le_of_lt_succ h1.1, rfl⟩
    | false =>
      refine ih.iff fun j hc => ⟨fun x => ⟨Nat.lt_succ_of_lt x.1, x.2⟩, fun x => ⟨?_, x.2⟩⟩
      rcases lt_succ_cases x.1 with h | h
      · exact h
      · subst h; rw [hb] at x; cases x.2

theorem HistOk.last {i : Nat} {h : List (Nat × Sto)} (hh : HistOk kd sv i h) : StOk kd sv σ0 (fun j => j < i) (lastSt σ0 h) := by
  induction hh with
  | nil => exact .inr ⟨fun k hk => absurd hk (Nat.not_lt_zero _), rfl⟩
  | @skip i h _ hk ih => exact ih.iff fun j hc => ⟨fun x => Nat.lt_succ_of_lt x, fun x => (lt_succ_cases x).elim id fun e => by subst e; exact absurd hc hk⟩
  | @cons i h _ hk ih => exact .inl ⟨i, Nat.lt_succ_self i, hk, fun k h1 _ => Nat.le_of_lt_succ h1, rfl⟩
end

section
variable {E : Env} {C : Cx} {Q : D → Sto → Prop} {w w' : World} {Im Im' : Nat → Prop} {φ φ' : Phi} {σ σ' : Sto}

def slotOf (all : List Oper) (j : Nat) : Option Nat := match all[j]? with | some g => g.dst | none => none

/-- What an operation came to. -/
inductive OpF (E : Env) (all : List Oper) (o : Oper) (g : Fr) (τ : Sto) : D → Sto → Prop
  | run {d : D} {s : Sto} : (o.guard = none ∨ ∃ j want sl b, o.guard = some (j, want) ∧ slotOf all j = some sl ∧ fget g sl = .bool b ∧ (b == want) = true) → Leaf E τ (aop E.P (evalD g) o τ) d s → OpF E all o g τ d s
  | off {j sl : Nat} {want b : Bool} : o.guard = some (j, want) → slotOf all j = some sl → fget g sl = .bool b → (b == want) = false → OpF E all o g τ (.tup []) τ
  | gone {j sl : Nat} {want : Bool} {vs : List D} : o.guard = some (j, want) → slotOf all j = some sl → fget g sl = .tup vs → OpF E all o g τ (.tup []) τ

theorem fset_same {g : Fr} {s : Nat} {d : D} (h : fget g s = d) (t : Nat) : fget (fset g s d) t = fget g t := by
  have := fget_put g (some s) d t
  simp only [put] at this
  rw [this]
  split
  · rename_i e; cases e; exact h.symm
  · rfl

theorem evalD_ext {g g' : Fr} (h : ∀ t, fget g t = fget g' t) : evalD g = evalD g' := funext fun x => by
  cases x <;> simp only [evalD]
  exact h _

theorem step_fact {n : Nat} {all : List Oper} {o : Oper} {g : Fr} {τ : Sto} {k : Fr → Sto → Qy} (hq : FinQ E C Q (stepOp E true n all o g τ k)) :
    dstOk n o.dst = true ∧ ∃ d s g', OpF E all o g τ d s ∧ (∀ t, fget g' t = fget g t) ∧ FinQ E C Q (k (put g' o.dst d) s) := by
  unfold stepOp at hq
  cases hd : dstOk n o.dst with
  | false => simp only [hd, cond_false] at hq; exact hq.elim
  | true =>
    simp only [hd, cond_true] at hq
    refine ⟨rfl, ?_⟩
    cases hg : o.guard with
    | none =>
      simp only [hg] at hq
      obtain ⟨d, s, h1, h2⟩ := conv_leaf _ hq
      exact ⟨d, s, g, .run (.inl hg) h1, fun _ => rfl, h2⟩
    | some gw =>
      obtain ⟨j, want⟩ := gw
      simp only [hg] at hq
      split at hq
      · exact hq.elim
      · rename_i sl hs
        split at hq
        · rename_i b hb
          have hq' : FinQ E C Q (bif b == want then conv E true (fun d st => k (put (fset g sl (.bool b)) o.dst d) st) τ (aop E.P (evalD (fset g sl (.bool b))) o τ) else k (put (fset g sl (.bool b)) o.dst (.tup [])) τ) := hq
          have he := fset_same hb
          cases hbw : (b == want) with
          | true =>
            rw [hbw] at hq'
            obtain ⟨d, s, h1, h2⟩ := conv_leaf _ hq'
            rw [evalD_ext he] at h1
            exact ⟨d, s, _, .run (.inr ⟨j, want, sl, b, hg, hs, hb, hbw⟩) h1, he, h2⟩
          | false =>
            rw [hbw] at hq'
            exact ⟨_, τ, _, .off hg hs hb hbw, he, hq'⟩
        · rename_i vs hb
          exact ⟨_, τ, g, .gone hg hs hb, fun _ => rfl, hq⟩
        · exact hq.elim

def tDst (tabs : List OpTab) (j : Nat) : Option Nat := match tabs[j]? with | some t => t.dst | none => none
def tKd (tabs : List OpTab) (j : Nat) : Nat := match tabs[j]? with | some t => t.kind | none => 0
def tLk (tabs : List OpTab) (j : Nat) : List Nat := match tabs[j]? with | some t => t.looks | none => []
def tBf (tabs : List OpTab) (j k : Nat) : Bool := match tabs[j]? with | some t => t.before.testBit k | none => false

structure Fact (E : Env) (n : Nat) (all : List Oper) (tabs : List OpTab) (fr : Fr) (σ0 : Sto) (dv : Nat → D) (sv : Nat → Sto) (j : Nat) (o : Oper) : Prop where
  dst : dstOk n o.dst = true
  fact : ∃ g τ, FrOk (tDst tabs) dv fr (fun x => x < j) g ∧ StOk (tKd tabs) sv σ0 (fun x => x < j ∧ tBf tabs j x = true) τ ∧ OpF E all o g τ (dv j) (sv j)

theorem region_facts {n : Nat} {all : List Oper} {tabs : List OpTab} (hdst : ∀ (i : Nat) (o : Oper) (t : OpTab), all[i]? = some o → tabs[i]? = some t → t.dst = o.dst) {fr : Fr} {σ0 : Sto} {k : Fr → Sto → Qy} :
    ∀ (l : List Oper) (ts : List OpTab) (i : Nat) (g : Fr) (hist : List (Nat × Sto)) (dv : Nat → D) (sv : Nat → Sto), (∀ x, l[x]? = all[i + x]?) → (∀ x, ts[x]? = tabs[i + x]?) →
    HistOk (tKd tabs) sv i hist → FrOk (tDst tabs) dv fr (fun x => x < i) g → FinQ E C Q (regionL E n all σ0 k i l ts g hist) →
    ∃ dv' sv', (∀ j, j < i → dv' j = dv j ∧ sv' j = sv j) ∧ (∀ j o, i ≤ j → all[j]? = some o → Fact E n all tabs fr σ0 dv' sv' j o) ∧
      ∃ g' σ', FrOk (tDst tabs) dv' fr (fun x => x < i + l.length) g' ∧ StOk (tKd tabs) sv' σ0 (fun x => x < i + l.length) σ' ∧ FinQ E C Q (k g' σ')
  | [], [], i, g, hist, dv, sv, hl, ht, hh, hf, hq => by
    simp only [regionL] at hq
    refine ⟨dv, sv, fun _ _ => ⟨rfl, rfl⟩, fun j o hj ho => ?_, g, _, by simpa using hf, by simpa using hh.last, hq⟩
    have := hl (j - i)
    rw [show i + (j - i) = j by omega, ho] at this
    simp at this
  | [], t :: ts, i, g, hist, dv, sv, hl, ht, hh, hf, hq => by simp only [regionL] at hq; exact hq.elim
  | o :: l, [], i, g, hist, dv, sv, hl, ht, hh, hf, hq => by simp only [regionL] at hq; exact hq.elim
  | o :: l, t :: ts, i, g, hist, dv, sv, hl, ht, hh, hf, hq => by
    simp only [regionL] at hq
    have ho : all[i]? = some o := by have := hl 0; simpa using this.symm
    have hti : tabs[i]? = some t := by have := ht 0; simpa using this.symm
    obtain ⟨h1, d, s, g', h2, h3, h4⟩ := step_fact hq
    have hd : tDst tabs i = o.dst := by simp only [tDst, hti]; exact hdst i o t ho hti
    have hk : tKd tabs i = t.kind := by simp only [tKd, hti]
    let dv1 : Nat → D := fun j => if j = i then d else dv j
    let sv1 : Nat → Sto := fun j => if j = i then s else sv j
    have e1 : ∀ j, j < i → dv1 j = dv j := fun j hj => by simp only [dv1]; rw [if_neg (by omega)]
    have e2 : ∀ j, j < i → sv1 j = sv j := fun j hj => by simp only [sv1]; rw [if_neg (by omega)]
    have e3 : dv1 i = d := by simp only [dv1]; rw [if_pos trivial]
    have e4 : sv1 i = s := by simp only [sv1]; rw [if_pos trivial]
    have hf1 : FrOk (tDst tabs) dv1 fr (fun x => x < i + 1) (put g' o.dst d) := by
      have := ((hf.congr e1).ext h3).put (i := i) e3 (fun k t hk _ _ => by omega)
      rw [hd] at this
      exact this.iff fun j => by omega
    have hh1 : HistOk (tKd tabs) sv1 (i + 1) (bif Nat.ble 2 t.kind then (i, s) :: hist else hist) := by
      cases hb : Nat.ble 2 t.kind with
      | true =>
        rw [← e4]
        exact .cons (hh.congr e2) (by rw [hk]; exact Nat.le_of_ble_eq_true hb)
      | false =>
        refine .skip (hh.congr e2) (fun h => ?_)
        rw [hk] at h
        rw [Nat.ble_eq_true_of_le h] at hb; cases hb
    obtain ⟨dv', sv', a1, a2, g2, s2, a3, a4, a5⟩ := region_facts hdst l ts (i + 1) _ _ dv1 sv1 (fun x => by have := hl (x + 1); simpa [Nat.add_assoc, Nat.add_comm 1] using this) (fun x => by have := ht (x + 1); simpa [Nat.add_assoc, Nat.add_comm 1] using this) hh1 hf1 h4
    refine ⟨dv', sv', fun j hj => ⟨by rw [(a1 j (by omega)).1, e1 j hj], by rw [(a1 j (by omega)).2, e2 j hj]⟩, fun j o' hj ho' => ?_, g2, s2, a3.iff fun j => by simp; omega, a4.iff fun j _ => by simp; omega, a5⟩
    rcases Nat.lt_or_ge i j with hlt | hge
    · exact a2 j o' hlt ho'
    · have : j = i := by omega
      subst this
      rw [ho] at ho'
      obtain rfl := Option.some.inj ho'
      refine ⟨h1, g, histGet t.before σ0 hist, hf.congr (fun x hx => by rw [(a1 x (by omega)).1, e1 x hx]), ?_, ?_⟩
      · have := (hh.get (σ0 := σ0) t.before).congr (sv' := sv') (fun x hx => by rw [(a1 x (by omega)).2, e2 x hx.1])
        refine this.iff fun x _ => ?_
        simp only [tBf, hti]
      · rw [(a1 j (by omega)).1, (a1 j (by omega)).2, e3, e4]
        exact h2

end
end Go.RX
