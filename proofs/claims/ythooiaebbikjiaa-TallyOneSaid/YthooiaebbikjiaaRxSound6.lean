/-
  RX, soundness, sixth part: a state ('look_ok'), functions.
-/
import Derived.Test.YthooiaebbikjiaaRxSound5
set_option linter.unusedSimpArgs false
set_option linter.unusedVariables false
namespace Go.RX
open Go
section
variable {E : Env} {C : Cx} {Q : D → Sto → Prop} {w w' : World} {Im Im' : Nat → Prop} {φ φ' : Phi} {σ σ' : Sto}

theorem convP_ok {s : Sem Value} {k : D → Sto → Qy} (hk : ∀ d σ1 σ2, k d σ1 = k d σ2) : ∀ (r : ARes), SatP E.P w Im φ s r → FinQ E C Q (conv E true k σ r) → ∃ v d, s.run E.P w = .ok v w ∧ Rel w Im φ d v ∧ FinQ E C Q (k d σ)
  | .ok d σ', ⟨v, h1, h2⟩, h => ⟨v, d, h1, h2, by rw [hk d σ σ']; exact h⟩
  | .need b q, hs, h => convP_ok hk q (hs h.1) h.2
  | .split b q, hs, h => convP_ok hk (q b) hs h
  | .row r q, hs, h => let ⟨x, hx, h'⟩ := h; convP_ok hk (q x) (hs x hx) h'
  | .str r q, hs, h => let ⟨x, hx, h'⟩ := h; convP_ok hk (q x) (hs x hx) h'
  | .call f args, hs, h => hs.elim
  | .bad, _, h => h.elim

def resV (tmps : Array Value) : ResultVar → Sem Value
  | .tmp t => pure (tmps.getD t undef)
  | .cell c t => do loadVar t (← asAddr (tmps.getD c undef))

theorem results_eq (fn : Func) (tmps : Array Value) : results fn tmps = (do let vs ← fn.results.mapM (resV tmps); pure (if h : vs.size = 1 then vs[0] else .tuple vs)) := by
  unfold results
  have : (fun (x : ResultVar) => match x with | .tmp t => (pure (tmps.getD t undef) : Sem Value) | .cell a t => do loadVar t (← asAddr (tmps.getD a undef))) = resV tmps := by
    funext x; cases x <;> rfl
  rw [← this]
  rfl

theorem res_ok (hi : Inv w Im φ σ) {fr : Fr} {a : Act} (hfr : ∀ t, Rel w Im φ (fget fr t) (a.tmps.getD t undef)) : ∀ (rs : List ResultVar) (acc : List D) (k : List D → Qy), FinQ E C Q (resQ E rs acc fr σ k) →
    ∃ (ds : List D) (vs : List Value), (rs.mapM (resV a.tmps)).run E.P w = .ok vs w ∧ ArgsRel w Im φ ds vs ∧ FinQ E C Q (k (acc ++ ds))
  | [], acc, k, h => ⟨[], [], by simp, ⟨rfl, fun i d v a => by simp at a⟩, by rw [List.append_nil]; exact h⟩
  | .tmp t :: rs, acc, k, h => by
    obtain ⟨ds, vs, h1, h2, h3⟩ := res_ok hi hfr rs (acc ++ [fget fr t]) k h
    refine ⟨fget fr t :: ds, a.tmps.getD t undef :: vs, by simp only [List.mapM_cons, Sem.run_bind, resV, Sem.run_pure, Result.andThen_ok, h1], ⟨by simp [h2.1], fun i d v e1 e2 => ?_⟩, by simpa using h3⟩
    cases i with
    | zero => simp only [List.getElem?_cons_zero, Option.some.injEq] at e1 e2; subst e1; subst e2; exact hfr t
    | succ i => exact h2.2 i d v (by simpa using e1) (by simpa using e2)
  | .cell c t :: rs, acc, k, h => by
    simp only [resQ] at h
    obtain ⟨v, d, g1, g2, g3⟩ := convP_ok (fun d σ1 σ2 => rfl) _ (load_satP (P := E.P) hi (hfr c) (t := t)) h
    obtain ⟨ds, vs, h1, h2, h3⟩ := res_ok hi hfr rs (acc ++ [d]) k g3
    have hl : (resV a.tmps (.cell c t)).run E.P w = .ok v w := by
      show ((asAddr (a.tmps.getD c undef)) >>= fun x => loadVar t x).run E.P w = _
      unfold Instr.loadAt at g1
      simp only [Sem.run_bind] at g1 ⊢
      cases hc : a.tmps.getD c undef with
      | pointer p =>
        cases p with
        | none => rw [hc] at g1; simp [Instr.sureAddr, stuck] at g1
        | some p => rw [hc] at g1; exact g1
      | _ => rw [hc] at g1; simp [Instr.sureAddr, stuck] at g1
    refine ⟨d :: ds, v :: vs, by simp only [List.mapM_cons, Sem.run_bind, hl, Result.andThen_ok, h1]; rfl, ⟨by simp [h2.1], fun i d' v' e1 e2 => ?_⟩, by simpa using h3⟩
    cases i with
    | zero => simp only [List.getElem?_cons_zero, Option.some.injEq] at e1 e2; subst e1; subst e2; exact g2
    | succ i => exact h2.2 i d' v' (by simpa using e1) (by simpa using e2)

theorem finish_ok {fr : Fr} {a : Act} (h : SRel C w Im φ fr σ a) (hq : FinQ E C Q (finish E C fr σ)) : ∀ e, e = .normal ∨ e = .ret → DoneP E C Q w Im φ σ e a w := by
  intro e he
  obtain ⟨ds, vs, h1, h2, h3⟩ := res_ok h.inv h.fr _ _ _ hq
  simp only [List.nil_append] at h3
  have hrun : (results C.fn a.tmps).run E.P w = .ok (if hh : vs.length = 1 then vs[0] else .tuple vs.toArray) w := by
    rw [results_eq, Array.mapM_eq_mapM_toList]
    simp only [Sem.run_bind, Sem.run_map, h1, Result.andThen_ok, Sem.run_pure]
    simp
  have htup : Rel w Im φ (tupD ds) (if hh : vs.length = 1 then vs[0] else .tuple vs.toArray) := by
    split
    · rename_i hh
      have hd : ds.length = 1 := by rw [h2.1, hh]
      match ds, vs, hd, hh, h2 with
      | [d], [v], _, _, h2 => exact h2.2 0 d v rfl rfl
    · rename_i hh
      have hd : ds.length ≠ 1 := by rw [h2.1]; exact hh
      have : tupD ds = .tup ds := by
        match ds, hd with
        | [], _ => rfl
        | _ :: _ :: _, _ => rfl
      rw [this]
      exact .tup _ _ (by simpa using h2.1) (fun i d v e1 e2 => h2.2 i d v e1 (by simpa using e2))
  unfold sealD at h3
  simp only [Bool.cond_eq_ite] at h3
  split at h3
  · split at h3
    · rename_i x s hc
      obtain ⟨φ2, i1, i2, i3⟩ := compact_ok h.inv h.m hc (a := fun _ => (if hh : vs.length = 1 then vs[0] else .tuple vs.toArray)) (fun t => by
        simp only [fget, Bool.cond_eq_ite]; split; exact htup; exact .undef _)
      split at h3
      · rename_i hx
        have hd' := i3 0
        have hx' := Nat.eq_of_beq_eq_true hx
        simp only [fget, hx', Nat.beq_refl, cond_true] at hd'
        exact ⟨he, h.df, _, x.2, s, φ2, Im, hrun, i2, i1, hd', h3⟩
      · exact h3.elim
    · exact h3.elim
  · split at h3
    · rename_i d' s e1' e2'
      obtain ⟨hneed, h3⟩ := needs_ok h3
      have e1 := frz_to (fun b hb => hneed b (List.mem_append.2 (.inl hb))) e1'
      have e2 := sto_to (fun d d' => frz_to) (fun b hb => hneed b (List.mem_append.2 (.inr hb))) e2'
      obtain ⟨φ2, I2, i1, i2, i3⟩ := seal_ok h.inv h.m htup e1 e2
      exact ⟨he, h.df, _, d', s, φ2, I2, hrun, i2, i1, i3, h3⟩
    · exact h3.elim

end
end Go.RX
