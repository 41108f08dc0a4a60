/-
  Words and walks for MsgLimits. No condition.
-/
import Derived.Test.YtgjhdekafiodhaaDoorMsgLimitsY4
set_option linter.unusedSimpArgs false
set_option linter.unusedVariables false
namespace Go.RX
open Go

def rfPs : Code → Array Nat
  | .rangeFunc _ ps _ _ => ps
  | _ => #[]
def rfA : Code → Code
  | .rangeFunc _ _ a _ => a
  | _ => .skip
def rfB : Code → Code
  | .rangeFunc _ _ _ b => b
  | _ => .skip

theorem Cx.fin_of {fn : Func} {k : Bool} {m : Nat} : (Cx.of fn k m).fin := fun h => by cases h
theorem Cx.fin_round {C : Cx} {m : Nat} : (C.round m).fin := fun h => by cases h

section
variable {E : Env} {C : Cx} {Q : D → Sto → Prop}

/-- A loop's rounds: c the statement, t what is behind it. -/
def RngQ (E : Env) (C : Cx) (Q : D → Sto → Prop) (m : Nat) (c : Code) (t : List It) (fr : Fr) (Y : List (List D)) (σ : Sto) : Prop :=
  Rng (fun y s q' => FinQ E (C.round m) (QW q') (rndQ E.gl C.fn.ntmps (rfPs c) (rfA c) (rfB c) fr y s)) (fun n s => FinQ E C Q (aftQ t fr n s)) Y σ

def RngE (E : Env) (C : Cx) (Q : D → Sto → Prop) (m : Nat) (c : Code) (t : List It) (fr : Fr) (Y : List (List D)) (d : D) (s : Sto) : Prop :=
  (d = .int .i64 0 ∧ RngQ E C Q m c t fr Y s) ∨ ∃ n : Nat, n ≠ 0 ∧ d = .int .i64 (n : Int) ∧ FinQ E C Q (aftQ t fr n s)

variable {m : Nat} {c : Code} {t : List It} {fr : Fr} {Y : List (List D)} {σ : Sto}

theorem rng_nil (h : FinQ E C Q (.go ⟨t, fr, σ⟩)) : RngQ E C Q m c t fr [] σ := h
theorem rng_cons {y : List D} (h : FinQ E (C.round m) (QW (RngE E C Q m c t fr Y)) (rndQ E.gl C.fn.ntmps (rfPs c) (rfA c) (rfB c) fr y σ)) : RngQ E C Q m c t fr (y :: Y) σ := h

theorem p_rng {α T : Type} {q : Qy} {o : Option (List T)} {F : List T → Option α} {r : α} {g : FuncId} {caps1 caps : List D} {sub1 sub : Sto} (en : T → List D) (h : o.bind F = some r) (hq : q.rngA = some (m, g, caps1, sub1, σ)) (he : caps1 = caps ∧ sub1 = sub)
    (hr : q.rngR = rndQ E.gl C.fn.ntmps (rfPs c) (rfA c) (rfB c) fr) (hk' : q.rngK = aftQ t fr) (hs : ∀ y, o = some y → SoundSeq E g caps sub (y.map en)) (hk : ∀ y, o = some y → F y = some r → RngQ E C Q m c t fr (y.map en) σ) : FinQ E C Q q := by
  obtain ⟨rfl, rfl⟩ := he
  cases o with
  | none => cases h
  | some y =>
    refine r_rng hq (hs y rfl) ?_
    have := hk y rfl h
    unfold RngQ at this
    rw [hr, hk']
    exact this

theorem p_rend0 {q : Qy} (ns : List Fx) {s1 s : Sto} (h : q.retF ns = some (.int .i64 0, s1)) (he : s1 = s) (hk : RngQ E C Q m c t fr Y s) : FinQ E (C.round m) (QW (RngE E C Q m c t fr Y)) q := by
  subst he
  exact r_retF ns h Cx.fin_round (.inl ⟨rfl, hk⟩)
theorem p_rendN {q : Qy} (ns : List Fx) (n : Nat) {s : Sto} (h : q.retF ns = some (.int .i64 ((n + 1 : Nat) : Int), s)) (hk : FinQ E C Q (aftQ t fr (n + 1) s)) : FinQ E (C.round m) (QW (RngE E C Q m c t fr Y)) q :=
  r_retF ns h Cx.fin_round (.inr ⟨n + 1, by omega, rfl, hk⟩)
end

/-- Behind a step: what is said of the next state; or it is what was to be answered. -/
def AfterP {S R : Type} (Pd : S → R → Prop) (r : R) : S ⊕ R → Prop
  | .inl s => Pd s r
  | .inr r' => r' = r

theorem ev_runP {S R : Type} {Pd : S → R → Prop} {step : S → Option (S ⊕ R)} (hs : ∀ (s : S) (x : S ⊕ R) (r : R), step s = some x → AfterP Pd r x → Pd s r) : ∀ {s : S} {r : R}, Ev step s r → Pd s r := fun h => by
  induction h with
  | done h => exact hs _ _ _ h rfl
  | next h _ ih => exact hs _ _ _ h ih

/-! ### iterators -/
inductive EvL {S T : Type} (step : S → Option (List T × Option S)) : S → List T → Prop
  | done {s : S} {l : List T} : step s = some (l, none) → EvL step s l
  | next {s s' : S} {l r : List T} : step s = some (l, some s') → EvL step s' r → EvL step s (l ++ r)

theorem EvL.det {S T : Type} {step : S → Option (List T × Option S)} {s : S} {r r' : List T} (h : EvL step s r) (h' : EvL step s r') : r = r' := by
  induction h generalizing r' with
  | done h =>
    cases h' with
    | done h2 => rw [h] at h2; simpa using h2
    | next h2 _ => rw [h] at h2; simp at h2
  | next h _ ih =>
    cases h' with
    | done h2 => rw [h] at h2; simp at h2
    | next h2 h3 =>
      rw [h] at h2
      simp only [Option.some.injEq, Prod.mk.injEq] at h2
      obtain ⟨rfl, rfl⟩ := h2
      rw [ih h3]

open Classical in
/-- What an iterator tells. -/
noncomputable def evl {S T : Type} (step : S → Option (List T × Option S)) (s : S) : Option (List T) := if h : ∃ r, EvL step s r then some (Classical.choose h) else none

theorem evl_ev {S T : Type} {step : S → Option (List T × Option S)} {s : S} {r : List T} (h : evl step s = some r) : EvL step s r := by
  unfold evl at h
  split at h
  · rename_i hh
    obtain rfl := Option.some.inj h
    exact Classical.choose_spec hh
  · cases h

theorem evl_of {S T : Type} {step : S → Option (List T × Option S)} {s : S} {r : List T} (h : EvL step s r) : evl step s = some r := by
  unfold evl
  have hh : ∃ r, EvL step s r := ⟨r, h⟩
  rw [dif_pos hh, (Classical.choose_spec hh).det h]

/-- Behind an iterator's step. -/
def AfterL {S T : Type} (E : Env) (C : Option (List (List D)) → Cx) (en : T → List D) (stM : S → M) : List T × Option S → List (List D) → Prop
  | (l, none), Y => Y = l.map en
  | (l, some s), Y => ∃ Y', Y = l.map en ++ Y' ∧ FinQ E (C (some Y')) (fun _ _ => True) (.go (stM s))

section
variable {S T : Type} {E : Env} {fn : Func} {m l : Nat} {J : Option (List (List D)) → World → (Nat → Prop) → (Nat → Prop) → Prop} {en : T → List D} {stM : S → M} {Y : List (List D)}

theorem evl_run {step : S → Option (List T × Option S)} (hs : ∀ (s : S) (x : List T × Option S) (Y : List (List D)), step s = some x → AfterL E (Cx.seq fn m l J) en stM x Y → FinQ E (Cx.seq fn m l J (some Y)) (fun _ _ => True) (.go (stM s))) :
    ∀ {s : S} {r : List T}, EvL step s r → FinQ E (Cx.seq fn m l J (some (r.map en))) (fun _ _ => True) (.go (stM s)) := fun h => by
  induction h with
  | done h => exact hs _ _ _ h rfl
  | next h _ ih => exact hs _ _ _ h ⟨_, by rw [List.map_append], ih⟩

theorem afterL_jump {s : S} (h : AfterL E (Cx.seq fn m l J) en stM ([], some s) Y) : FinQ E (Cx.seq fn m l J (some Y)) (fun _ _ => True) (.go (stM s)) := by
  obtain ⟨Y', rfl, h⟩ := h
  exact h

theorem p_retY {q : Qy} {d : D} {s : Sto} (h : q.retR = some (d, s)) (ha : AfterL (S := S) E (Cx.seq fn m l J) en stM ([], none) Y) : FinQ E (Cx.seq fn m l J (some Y)) (fun _ _ => True) q :=
  r_ret d s h (fun _ => .inl (congrArg some ha)) trivial
theorem p_retN {q : Qy} {d : D} {s : Sto} (h : q.retR = some (d, s)) : FinQ E (Cx.seq fn m l J none) (fun _ _ => True) q :=
  r_ret d s h (fun _ => .inr rfl) trivial

theorem p_yld {q : Qy} {A : Option (List T × Option S)} {x : T} {p : List T × Option S} (h : A.map (fun p => (x :: p.1, p.2)) = some p) (ha : AfterL E (Cx.seq fn m l J) en stM p Y) (hq : q.yldA = some (l, en x))
    (hf : FinQ E (Cx.seq fn m l J none) (fun _ _ => True) (q.yldK false)) (hk : ∀ (p' : List T × Option S) (Y' : List (List D)), A = some p' → AfterL E (Cx.seq fn m l J) en stM p' Y' → FinQ E (Cx.seq fn m l J (some Y')) (fun _ _ => True) (q.yldK true)) :
    FinQ E (Cx.seq fn m l J (some Y)) (fun _ _ => True) q := by
  cases A with
  | none => cases h
  | some p' =>
    obtain rfl := Option.some.inj h
    obtain ⟨l', o⟩ := p'
    cases o with
    | none =>
      have hY : Y = en x :: l'.map en := ha
      subst hY
      exact r_yld hq rfl rfl rfl rfl (hk _ _ rfl rfl) hf
    | some s =>
      obtain ⟨Y', hY, h'⟩ := ha
      have hY' : Y = en x :: (l'.map en ++ Y') := hY
      subst hY'
      exact r_yld hq rfl rfl rfl rfl (hk _ _ rfl ⟨Y', rfl, h'⟩) hf
end
end Go.RX
