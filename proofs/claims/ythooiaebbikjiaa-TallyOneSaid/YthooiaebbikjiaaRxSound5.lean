/-
  RX, soundness, fifth part: an operation, a state; functions.
-/
import Derived.Test.YthooiaebbikjiaaRxSound4
set_option linter.unusedSimpArgs false
set_option linter.unusedVariables false
namespace Go.RX
open Go
section
variable {E : Env} {C : Cx} {Q : D → Sto → Prop} {w w' : World} {Im Im' : Nat → Prop} {φ φ' : Phi} {σ σ' : Sto}

theorem conv_ok (hi : Inv w Im φ σ) {o : Oper} {a : Act} {k : D → Sto → Qy} {next : Act → World → Prop} {R : Exit → Act → World → Prop}
    (hk : ∀ v d σ' w' Im' φ', Nx w Im φ σ w' Im' φ' σ' → Rel w' Im' φ' d v → FinQ E C Q (k d σ') → next (a.put o.dst v) w') :
    ∀ (r : ARes), SatA E.P w Im φ σ (execOp a.eval o) r → FinQ E C Q (conv E false k σ r) → o.wp E.P a w next R
  | .ok d σ', ⟨v, w', φ', h1, h2⟩, h => by
    have := hk v d σ' w' Im φ' (h2.nx h2.le.length) h2.rel h
    unfold Oper.wp
    rcases h1 with h1 | ⟨h1, rfl⟩
    · rw [h1]; exact this
    · rw [h1]; exact this
  | .need b q, hs, h => conv_ok hi hk q (hs h.1) h.2
  | .split b q, hs, h => conv_ok hi hk (q b) hs h
  | .row r q, hs, h => let ⟨x, hx, h'⟩ := h; conv_ok hi hk (q x) (hs x hx) h'
  | .str r q, hs, h => let ⟨x, hx, h'⟩ := h; conv_ok hi hk (q x) (hs x hx) h'
  | .call f args, ⟨vs, h1, h2, h3⟩, h => by
    unfold Oper.wp
    rw [h1]
    refine (callQ_ok hi (vs := vs) ⟨by simpa using h2, fun i d v a b => h3 i d v a (by simpa using b)⟩ h).mono ?_
    rintro e w' ⟨v, d, σ', φ', Im', rfl, n, hr, hq⟩
    exact hk v d σ' w' Im' φ' n hr hq
  | .bad, _, h => h.elim

theorem SRel.step {fr : Fr} {a : Act} (h : SRel C w Im φ fr σ a) (n : Nx w Im φ σ w' Im' φ' σ') {dst : Option Nat} (hd : dstOk C.fn.ntmps dst = true) {d : D} {v : Value} (hr : Rel w' Im' φ' d v) {fr' : Fr}
    (hfr : ∀ t, Rel w Im φ (fget fr' t) (a.tmps.getD t undef)) : SRel C w' Im' φ' (put fr' dst d) σ' (a.put dst v) :=
  ⟨put_rel (fun t => n.tr.rel h.inv n.le (hfr t)) h.sz hd hr, n.inv, by rw [put_df]; exact h.df, by rw [put_size]; exact h.sz, Nat.le_trans h.m n.len⟩

theorem fset_bool {fr : Fr} {a : Nat → Value} (h : ∀ t, Rel w Im φ (fget fr t) (a t)) {s : Nat} {b : Bool} (hb : fget fr s = .bool b) (t : Nat) : Rel w Im φ (fget (fset fr s (.bool b)) t) (a t) := by
  simp only [fset, fget, Bool.cond_eq_ite]
  split
  · rename_i he
    have := Nat.eq_of_beq_eq_true he
    subst this
    have := h s
    rw [hb] at this
    exact this
  · exact h t

theorem guard_slot {all : List Oper} {j s : Nat} (hs : (match all[j]? with | some g => g.dst | none => none) = some s) : ((all.toArray[j]?).bind (·.dst)) = some s := by
  rw [← hs]; simp only [List.getElem?_toArray]; cases all[j]? <;> rfl

theorem guard_bool {all : List Oper} {a : Act} {j s : Nat} {b : Bool} (hs : (match all[j]? with | some g => g.dst | none => none) = some s) (hv : a.tmps.getD s undef = .bool b) : yielded all.toArray a.tmps j = some b := by
  have hlt : s < a.tmps.size := by
    rcases Nat.lt_or_ge s a.tmps.size with hlt | hge
    · exact hlt
    · exfalso
      have : a.tmps.getD s undef = undef := by simp [Array.getD, Nat.not_lt.2 hge]
      rw [this] at hv; cases hv
  have h1 : a.tmps[s]? = some (.bool b) := by rw [← hv]; simp [hlt]
  unfold yielded
  rw [guard_slot hs]
  simp only [Option.bind_some, h1]

theorem guard_tup {all : List Oper} {a : Act} {j s : Nat} {us : Array Value} (hs : (match all[j]? with | some g => g.dst | none => none) = some s) (hv : a.tmps.getD s undef = .tuple us) : yielded all.toArray a.tmps j = none := by
  unfold yielded
  rw [guard_slot hs]
  simp only [Option.bind_some]
  by_cases hlt : s < a.tmps.size
  · have h1 : a.tmps[s]? = some (.tuple us) := by rw [← hv]; simp [hlt]
    rw [h1]
  · have h1 : a.tmps[s]? = none := by simp; omega
    rw [h1]

/-- One operation of a region in the text's order. -/
theorem stepOp_ok {fr : Fr} {a : Act} (h : SRel C w Im φ fr σ a) {all : List Oper} {o : Oper} {rest : List Oper} {R : Exit → Act → World → Prop} {k : Fr → Sto → Qy}
    (hk : ∀ fr' σ' w' Im' φ' a', Nx w Im φ σ w' Im' φ' σ' → SRel C w' Im' φ' fr' σ' a' → FinQ E C Q (k fr' σ') → wpList E.P all.toArray R rest a' w')
    (hq : FinQ E C Q (stepOp E false C.fn.ntmps all o fr σ k)) : wpList E.P all.toArray R (o :: rest) a w := by
  unfold stepOp at hq
  cases hd : dstOk C.fn.ntmps o.dst with
  | false => simp only [hd, cond_false] at hq; exact hq.elim
  | true =>
    simp only [hd, cond_true] at hq
    have hnx : Nx w Im φ σ w Im φ σ := ⟨PhiLe.refl _, Nat.le_refl _, Tr.refl _ _ _ _ _, h.inv⟩
    have run : ∀ fr', (∀ t, Rel w Im φ (fget fr' t) (a.tmps.getD t undef)) → FinQ E C Q (conv E false (fun d s => k (put fr' o.dst d) s) σ (aop E.P (evalD fr') o σ)) → o.wp E.P a w (wpList E.P all.toArray R rest) R := fun fr' hfr' hq' =>
      conv_ok h.inv (fun v d σ' w' Im' φ' n hr hq => hk _ σ' w' Im' φ' _ n (h.step n hd hr hfr') hq) _ (aop_sat h.inv (fun x => evalD_rel hfr' x) o) hq'
    have skip : ∀ fr', (∀ t, Rel w Im φ (fget fr' t) (a.tmps.getD t undef)) → FinQ E C Q (k (put fr' o.dst (.tup [])) σ) → wpList E.P all.toArray R rest (a.put o.dst undef) w := fun fr' hfr' hq' =>
      hk _ σ w Im φ _ hnx (h.step hnx hd (.tup [] #[] rfl (fun i d v a => by simp at a)) hfr') hq'
    simp only [wpList]
    cases hg : o.guard with
    | none =>
      simp only [hg] at hq
      rw [if_pos (by simp [Region.wanted, hg])]
      exact .inl (run fr h.fr hq)
    | some gw =>
      obtain ⟨j, want⟩ := gw
      simp only [hg] at hq
      split at hq
      · exact hq.elim
      · rename_i s hs
        have hrs := h.fr s
        split at hq
        · rename_i b hb
          rw [hb] at hrs
          have hv := hrs.bool_inv
          have hy := guard_bool (j := j) hs hv
          have hq' : FinQ E C Q (bif b == want then conv E false (fun d st => k (put (fset fr s (.bool b)) o.dst d) st) σ (aop E.P (evalD (fset fr s (.bool b))) o σ) else k (put (fset fr s (.bool b)) o.dst (.tup [])) σ) := hq
          have hfr' := fset_bool h.fr hb
          have hwant : Region.wanted o (yielded all.toArray a.tmps) = (b == want) := by
            simp only [Region.wanted, hg, hy]
            cases b <;> cases want <;> rfl
          rw [hwant]
          cases hbw : (b == want) with
          | true =>
            rw [hbw] at hq'
            rw [if_pos rfl]
            exact .inl (run _ hfr' hq')
          | false =>
            rw [hbw] at hq'
            rw [if_neg (by simp)]
            exact skip _ hfr' hq'
        · rename_i vs hb
          rw [hb] at hrs
          obtain ⟨us, hv, _⟩ := hrs.tup_inv
          have hy := guard_tup (j := j) hs hv
          have hwant : Region.wanted o (yielded all.toArray a.tmps) = false := by
            simp only [Region.wanted, hg, hy]
            cases want <;> rfl
          rw [hwant, if_neg (by simp)]
          exact skip fr h.fr hq
        · exact hq.elim

theorem loop_of_in {P : Program} {c : Code} {R : Exit → Act → World → Prop} {a : Act} (h : LoopIn P c R a w) : (Code.loop c).wp P R a w := fun b k cs =>
  let ⟨e, a', w', q, r⟩ := h b k cs
  ⟨e, a', w', q, .of_steps (.one step_loop) r⟩

theorem loopIn_round {P : Program} {c : Code} {R : Exit → Act → World → Prop} {a : Act} (h : c.wp P (Exit.then (LoopIn P c R) R) a w) : LoopIn P c R a w := by
  intro b k cs
  obtain ⟨e, a₁, w₁, hq, harr⟩ := h b (.inLoop c :: k) cs
  cases e with
  | normal =>
    obtain ⟨e₂, a₂, w₂, hq₂, harr₂⟩ := hq b k cs
    exact ⟨e₂, a₂, w₂, hq₂, .of_steps (Steps.trans harr (.one step_inLoop)) harr₂⟩
  | exit id => exact ⟨_, a₁, w₁, hq, .pass (x := .inLoop c) rfl (fun _ _ => .inl (by simp)) harr⟩
  | goto l => exact ⟨_, a₁, w₁, hq, .pass (x := .inLoop c) rfl (fun _ _ => .inl (by simp)) harr⟩
  | ret => exact ⟨_, a₁, w₁, hq, .pass (x := .inLoop c) rfl (fun _ _ => .inl (by simp)) harr⟩
  | panic ch => exact ⟨_, a₁, w₁, hq, .pass (x := .inLoop c) rfl (fun _ _ => .inl (by simp)) harr⟩
  | outgrown => exact ⟨_, a₁, w₁, hq, .pass (x := .inLoop c) rfl (fun _ _ => .inl (by simp)) harr⟩

theorem sem_ret {P : Program} {R : Exit → Act → World → Prop} : ∀ (t : List It) (a : Act) (w : World), R .ret a w → sem P R t .ret a w
  | [], _, _, h => h
  | .blk _ :: t, a, w, h => sem_ret t a w h
  | .code _ :: t, a, w, h => sem_ret t a w h
  | .lp _ _ :: t, a, w, h => sem_ret t a w h
  | .lpc _ _ :: t, a, w, h => sem_ret t a w h
  | .ops _ _ :: t, a, w, h => sem_ret t a w h

theorem sem_exit {P : Program} {R : Exit → Act → World → Prop} {id : Nat} : ∀ (t t' : List It) (a : Act) (w : World), popTo id t = some t' → sem P R t' .normal a w → sem P R t (.exit id) a w
  | [], _, _, _, h, _ => by simp [popTo] at h
  | .blk j :: t, t', a, w, h, hs => by
    simp only [popTo, Bool.cond_eq_ite] at h
    split at h
    · rename_i hj
      obtain rfl := Option.some.inj h
      have hj' := Nat.eq_of_beq_eq_true hj
      simp only [sem, Exit.inBlock]
      rw [if_pos hj'.symm]
      exact hs
    · rename_i hj
      simp only [sem, Exit.inBlock]
      rw [if_neg (fun e => hj (by rw [e]; exact Nat.beq_refl j))]
      exact sem_exit t t' a w h hs
  | .code _ :: t, t', a, w, h, hs => sem_exit t t' a w h hs
  | .lp _ _ :: t, t', a, w, h, hs => sem_exit t t' a w h hs
  | .lpc _ _ :: t, t', a, w, h, hs => sem_exit t t' a w h hs
  | .ops _ _ :: t, t', a, w, h, hs => sem_exit t t' a w h hs

end
end Go.RX
