/-
  RX, soundness: regions whose order is open, second part.
-/
import Derived.Test.YthooiaebbikjiaaRxDraw
set_option linter.unusedSimpArgs false
set_option linter.unusedVariables false
namespace Go.RX
open Go
section
variable {P : Program} {σ σ' : Sto}

theorem intBin_sim (op : BinOp) (k k' : IntKind) (x y : Int) : Sim σ σ' (intBin op k k' x y σ) (intBin op k k' x y σ') := by
  unfold intBin
  split
  · exact .need _ (.ok _)
  · exact .need _ (.ok _)
  · split
    · exact .need _ (.ok _)
    · exact .bad _
  · split
    · exact .need _ (.ok _)
    · exact .bad _
  · split
    · exact .opt _
    · exact .bad _

theorem bin_sim (op : BinOp) (t : TypeId) (x y : D) : Sim σ σ' (binD P op t x y σ) (binD P op t x y σ') := by
  unfold binD
  split
  · exact intBin_sim _ _ _ _ _
  · split
    · exact .ok _
    · exact .ok _
    · exact .ok _
    · exact .need _ (.ok _)
    · exact .bad _
  · split
    · exact .opt _
    · exact .opt _
    · exact .bad _

theorem readRow_sim (rows : List (List D)) (sz i o n : Nat) (ag : Bool) : Sim σ σ' (readRow rows sz i o n ag σ) (readRow rows sz i o n ag σ') := by
  unfold readRow
  split
  · refine .row _ fun x => ?_
    by_cases h1 : ag = true
    · rw [if_pos h1, if_pos h1]
      by_cases h2 : x.length = sz
      · rw [if_pos h2, if_pos h2]; exact .ok _
      · rw [if_neg h2]; exact .bad _
    · rw [if_neg h1, if_neg h1]
      by_cases h2 : n = 1
      · rw [if_pos h2, if_pos h2]; exact .opt _
      · rw [if_neg h2]; exact .bad _
  · split
    · exact .need _ (.ok _)
    · exact .bad _

theorem load_sim (hle : SLe σ σ') (t : TypeId) (p : D) : Sim σ σ' (loadD P t p σ) (loadD P t p σ') := by
  unfold loadD
  split
  · exact .bad _
  · split
    · split
      · rename_i B hB; rw [hle _ _ hB]; exact readRow_sim _ _ _ _ _ _
      · exact .bad _
    · exact readRow_sim _ _ _ _ _ _
    · exact .bad _

theorem indexAddr_sim (hle : SLe σ σ') (t : TypeId) (x : D) (i : Int) : Sim σ σ' (indexAddrD P t x i σ) (indexAddrD P t x i σ') := by
  unfold indexAddrD
  split
  · split
    · exact .bad _
    · split
      · split
        · exact .need _ (.ok _)
        · exact .bad _
      · exact .bad _
      · split
        · rename_i B hB
          rw [hle _ _ hB]
          simp only
          split
          · exact .need _ (.ok _)
          · exact .bad _
        · exact .bad _
      · exact .bad _
  · split
    · split
      · rename_i B hB
        rw [hle _ _ hB]
        simp only
        split
        · exact .need _ (.ok _)
        · exact .bad _
      · exact .bad _
    · exact .bad _
  · exact .bad _

theorem partA_sim (t : TypeId) (cs : List D) (off : Nat) : Sim σ σ' (partA P t cs off σ) (partA P t cs off σ') := by
  unfold partA
  split
  · split
    · exact .ok _
    · exact .row _ fun _ => .opt _
  · exact .bad _
theorem index_sim (t : TypeId) (x : D) (i : Int) : Sim σ σ' (indexD P t x i σ) (indexD P t x i σ') := by
  unfold indexD
  split
  · split
    · exact .need _ (partA_sim _ _ _)
    · exact .bad _
  · exact .need _ (.row _ fun _ => .opt _)
  · exact .bad _

theorem sliceB_sim {n c : Nat} {lo hi mx : Option Int} {k k' : (l h : Nat) → (m : Option Nat) → ARes} (h : ∀ l h m, Sim σ σ' (k l h m) (k' l h m)) : Sim σ σ' (sliceB n c lo hi mx k) (sliceB n c lo hi mx k') := by
  unfold sliceB
  split
  · exact h _ _ _
  · exact .need _ (h _ _ _)
  · exact .need _ (h _ _ _)
  · exact .need _ (.need _ (h _ _ _))
  · exact .need _ (.need _ (h _ _ _))
  · exact .need _ (.need _ (.need _ (h _ _ _)))
  · exact .bad _

theorem slice_sim (hle : SLe σ σ') (t : TypeId) (x : D) (lo hi mx : Option Int) : Sim σ σ' (sliceD P t x lo hi mx σ) (sliceD P t x lo hi mx σ') := by
  unfold sliceD
  split
  · split
    · exact sliceB_sim fun _ _ _ => .ok _
    · exact .bad _
  · split
    · exact sliceB_sim fun _ _ _ => .ok _
    · exact .bad _
  · split
    · split
      · exact sliceB_sim fun _ _ _ => .ok _
      · exact .bad _
    · exact .bad _
  · split
    · rename_i n B hn hB
      rw [hn, hle _ _ hB]
      simp only
      split
      · exact sliceB_sim fun _ _ _ => .ok _
      · exact .bad _
    · exact .bad _
  · split
    · rename_i n B hn hB
      rw [hn, hle _ _ hB]
      simp only
      split
      · exact sliceB_sim fun _ _ _ => .ok _
      · exact .bad _
    · exact .bad _
  · exact .bad _

theorem rowsD_mono (hle : SLe σ σ') {x : D} {y : Nat × Bool × Option Nat × List (List D)} (h : rowsD σ x = some y) : rowsD σ' x = some y := by
  cases x <;> simp only [rowsD] at h ⊢ <;> try exact h
  split at h
  · rename_i B hB; rw [hle _ _ hB]; exact h
  · cases h

theorem needN_sim {n : Option Nat} {k : Nat} {r r' : ARes} (h : Sim σ σ' r r') : Sim σ σ' (needN n k r) (needN n k r') := by
  cases n
  · exact h
  · exact .need _ h

theorem conv_sim (hle : SLe σ σ') {s d : TypeId} (hd : ∀ e, P.underlying d ≠ some (.slice e)) (x : D) : Sim σ σ' (convD P s d x σ) (convD P s d x σ') := by
  unfold convD
  split
  · exact .ok _
  · exact .ok _
  · rename_i e l h3 h4; exact absurd (by assumption) (hd _)
  · split
    · rename_i sz dq n rows h1 h2 h3
      rw [h1, h2, rowsD_mono hle h3]
      simp only
      split
      · exact needN_sim (.str _ fun _ => .ok _)
      · exact .bad _
    · exact .bad _
  · exact .bad _

theorem aop_sim (ρ : Operand → D) (o : Oper) (h1 : kindOf P o.op ≤ 1) (h2 : kindOf P o.op = 0 ∨ SLe σ σ') : Sim σ σ' (aop P ρ o σ) (aop P ρ o σ') := by
  unfold aop
  cases hop : o.op <;> simp only [hop] at h1 h2 ⊢ <;> try (exfalso; simp [kindOf, kindOp] at h1; done)
  case move => exact .ok _
  case assign => exact .ok _
  case pick c a b => cases ρ c <;> first | exact .bad _ | exact .split _ fun _ => .ok _
  case build => exact .opt _
  case load => exact load_sim (h2.resolve_left (by simp [kindOf, kindOp])) _ _
  case nilCheck x => cases ρ x <;> first | exact .bad _ | exact .ok _
  case binOp => exact bin_sim _ _ _ _
  case unOp => exact .opt _
  case convert s d x =>
    have hd : ∀ e, P.underlying d ≠ some (.slice e) := fun e he => by simp [kindOf, kindOp, he] at h1
    have hle : SLe σ σ' := h2.resolve_left (by
      intro h0
      simp only [kindOf, kindOp] at h0
      first | (simp at h0; done) | (split at h0 <;> simp at h0))
    exact conv_sim hle hd _
  case makeFunc fn first caps => cases fn <;> first | exact .bad _ | exact .ok _
  case slice t x lo hi mx =>
    have hle := h2.resolve_left (by simp [kindOf, kindOp])
    split
    · exact slice_sim hle _ _ _ _ _
    · exact .bad _
  case fieldAddr => exact .opt _
  case field => exact .opt _
  case indexAddr t x i =>
    have hle := h2.resolve_left (by simp [kindOf, kindOp])
    cases ρ i <;> first | exact .bad _ | exact indexAddr_sim hle _ _ _
  case index t x i => cases ρ i <;> first | exact .bad _ | exact index_sim _ _ _
  case extract x i => cases ρ x <;> first | exact .bad _ | exact .opt _
  case makeInterface t x =>
    split
    · exact .bad _
    · cases ρ x <;> first | exact .bad _ | exact .ok _
    · exact .bad _
  case call c =>
    unfold callD
    cases hc : c.callee with
    | value f =>
      have hle := h2.resolve_left (by simp [kindOf, kindOp, hc])
      simp only
      cases ρ f <;> first | exact .bad _ | skip
      simp only
      split
      · exact .call _ _ hle
      · exact .bad _
    | builtin b =>
      simp only
      unfold builtinD
      cases b <;> try (exfalso; simp [kindOf, kindOp, hc] at h1; done)
      all_goals first
        | exact .opt _
        | (split <;> first
            | exact .bad _
            | (unfold lenOp; split <;> first | exact .ok _ | exact .bad _)
            | (unfold capOp; split <;> first | exact .ok _ | exact .bad _)
            | (simp_all; done))
    | invoke r m => exfalso; simp [kindOf, kindOp, hc] at h1

/-- Operands alike, answers alike. -/
theorem aop_congr {ρ ρ' : Operand → D} (o : Oper) (h : ∀ x ∈ o.op.operands, ρ x = ρ' x) : aop P ρ o σ = aop P ρ' o σ := by
  unfold aop
  cases hop : o.op <;> rw [hop] at h <;> simp only [Op.operands] at h <;> (try simp only)
  case build t ps => rw [show (ps.toList.map fun p => (p.1, ρ p.2)) = (ps.toList.map fun p => (p.1, ρ' p.2)) from List.map_congr_left fun p hp => by rw [h p.2 (by simp; exact ⟨p.1, by simpa using hp⟩)]]
  case buildSlice t n ps => rw [show (ps.toList.map fun p => (p.1, ρ p.2)) = (ps.toList.map fun p => (p.1, ρ' p.2)) from List.map_congr_left fun p hp => by rw [h p.2 (by simp; exact ⟨p.1, by simpa using hp⟩)]]
  case makeFunc fn first caps =>
    cases fn <;> try rfl
    simp only
    rw [show first.toList.map ρ = first.toList.map ρ' from List.map_congr_left fun x hx => h x (by simp at hx; simp [hx]), show caps.toList.map ρ = caps.toList.map ρ' from List.map_congr_left fun x hx => h x (by simp at hx; simp [hx])]
  case call c =>
    unfold callD
    have hargs : c.args.toList.map ρ = c.args.toList.map ρ' := List.map_congr_left fun x hx => h x (by simp at hx; simp [Call.operands, hx])
    rw [hargs]
    cases hc : c.callee with
    | value f => simp only; rw [h f (by simp [Call.operands, hc])]
    | builtin b => rfl
    | invoke r m => rfl
  case slice t x lo hi mx => cases lo <;> cases hi <;> cases mx <;> simp_all
  all_goals (first | rfl | (simp_all; done))

/-- What makes a block leaves the others. -/
theorem grow_le {E : Env} {ρ : Operand → D} {o : Oper} (h1 : kindOf P o.op = 2) {d : D} {s : Sto} (hl : Leaf E σ (aop P ρ o σ) d s) : SLe σ s := by
  have halloc : ∀ t x, Leaf E σ (allocD P t x σ) d s → SLe σ s := fun t x hl => by
    unfold allocD at hl
    split at hl
    · cases hl; exact SLe.append _ _
    · cases hl
  unfold aop at hl
  cases hop : o.op <;> simp only [hop] at h1 hl <;> try (exfalso; simp [kindOf, kindOp] at h1; done)
  case alloc t =>
    split at hl
    · exact halloc _ _ hl
    · cases hl
  case box t x => exact halloc _ _ hl
  case buildSlice t n ps =>
    unfold buildSliceD at hl
    split at hl
    · split at hl
      · split at hl
        · split at hl
          · cases hl; exact SLe.append _ _
          · cases hl
        · cases hl
      · cases hl
    · cases hl
  case makeSlice t l c =>
    split at hl
    · unfold makeSliceD at hl
      split at hl
      · split at hl
        · split at hl
          · cases hl with | need _ hl => cases hl; exact SLe.append _ _
          · cases hl
        · cases hl
      · cases hl
    · cases hl
  case convert s' d' x =>
    simp only [kindOf, kindOp] at h1
    split at h1
    · rename_i e he
      unfold convD at hl
      split at hl
      · exfalso; simp_all
      · exfalso; simp_all
      · split at hl
        · cases hl; exact SLe.append _ _
        · cases hl
      · exfalso; simp_all
      · cases hl
    · cases h1
  case call c =>
    cases hc : c.callee with
    | builtin b => cases b <;> (exfalso; simp [kindOf, kindOp, hc] at h1)
    | value f => exfalso; simp [kindOf, kindOp, hc] at h1
    | invoke r m => exfalso; simp [kindOf, kindOp, hc] at h1

end
end Go.RX
