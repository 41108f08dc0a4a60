/-
  RX, soundness: what is asked when names are frozen.
-/
import Derived.Test.YthooiaebbikjiaaRxSound3
set_option linter.unusedSimpArgs false
set_option linter.unusedVariables false
namespace Go.RX
open Go
section
variable {E : Env} {C : Cx} {Q : D → Sto → Prop} {σ : Sto} {m : Nat}

theorem needs_ok : ∀ {l : List Bool} {q : Qy}, FinQ E C Q (needs l q) → (∀ b ∈ l, b = true) ∧ FinQ E C Q q
  | [], q, h => ⟨fun b hb => by simp at hb, h⟩
  | b :: l, q, h => by
    obtain ⟨h1, h2⟩ := h
    obtain ⟨h3, h4⟩ := needs_ok h2
    exact ⟨fun x hx => (List.mem_cons.1 hx).elim (fun e => e ▸ h1) (h3 x), h4⟩

theorem all_flat {α : Type} {c : α → List Bool} {l : List α} (h : ∀ b ∈ l.flatMap c, b = true) : ∀ x ∈ l, ∀ b ∈ c x, b = true :=
  fun x hx b hb => h b (List.mem_flatMap.2 ⟨x, hx, hb⟩)

theorem mapO_to {f g : D → Option D} : ∀ {l l' : List D}, (∀ x ∈ l, ∀ y, f x = some y → g x = some y) → mapO f l = some l' → mapO g l = some l'
  | [], l', _, e => e
  | d :: r, l', h, e => by
    simp only [mapO] at e ⊢
    split at e
    · rename_i x y h1 h2
      rw [h d (by simp) _ h1, mapO_to (fun x hx => h x (by simp [hx])) h2]; exact e
    · cases e
theorem mapR_to {f g : D → Option D} : ∀ {l l' : List (List D)}, (∀ r ∈ l, ∀ x ∈ r, ∀ y, f x = some y → g x = some y) → mapR f l = some l' → mapR g l = some l'
  | [], l', _, e => e
  | d :: r, l', h, e => by
    simp only [mapR] at e ⊢
    split at e
    · rename_i x y h1 h2
      rw [mapO_to (h d (by simp)) h1, mapR_to (fun x hx => h x (by simp [hx])) h2]; exact e
    · cases e
theorem tr_to {f g : D → Option D} {c : D → List Bool} (h : ∀ d d', (∀ b ∈ c d, b = true) → f d = some d' → g d = some d') : ∀ (n : Nat) (d d' : D), (∀ b ∈ gat c n d, b = true) → tr f n d = some d' → tr g n d = some d'
  | 0, _, _, _, e => by simp [tr] at e
  | n + 1, d, d', hc, e => by
    have ih := tr_to h n
    cases d <;> simp only [tr, gat] at e hc ⊢ <;> try exact e
    case ptr => exact h _ _ hc e
    case msl => exact h _ _ hc e
    case fn =>
      have hc1 := all_flat (fun b hb => hc b (List.mem_append.2 (.inl hb)))
      have hc2 := all_flat (fun b hb => hc b (List.mem_append.2 (.inr hb)))
      split at e
      · rename_i x y h1 h2
        rw [mapO_to (fun x hx y => ih x y (hc1 x hx)) h1, mapO_to (fun x hx y => ih x y (hc2 x hx)) h2]; exact e
      · cases e
    case agg =>
      simp only [Option.map_eq_some_iff] at e ⊢
      obtain ⟨x, h1, rfl⟩ := e
      exact ⟨x, mapO_to (fun x hx y => ih x y (all_flat hc x hx)) h1, rfl⟩
    case tup =>
      simp only [Option.map_eq_some_iff] at e ⊢
      obtain ⟨x, h1, rfl⟩ := e
      exact ⟨x, mapO_to (fun x hx y => ih x y (all_flat hc x hx)) h1, rfl⟩
    case iface =>
      simp only [Option.map_eq_some_iff] at e ⊢
      obtain ⟨x, h1, rfl⟩ := e
      exact ⟨x, ih _ _ hc h1, rfl⟩

theorem frzH_to : ∀ (n : Nat) (st : Bool) (d d' : D), (∀ b ∈ frzC σ m n d, b = true) → frzHU σ m st n d = some d' → frzH σ m st n d = some d'
  | 0, _, _, _, _, e => by simp [frzHU] at e
  | n + 1, st, d, d', hc, e => by
    have ih := tr_to (frzH_to n true) trFuel
    cases d <;> simp only [frzHU, frzH, frzC, Bool.cond_eq_ite] at e hc ⊢ <;> try (cases e; done)
    · split at e
      · rename_i h1; rw [if_pos h1]; exact e
      · rename_i h1
        rw [if_neg h1] at hc ⊢
        split at e
        · rename_i B hB
          simp only [hB] at hc ⊢
          split at e
          · rename_i h2
            rw [if_pos h2] at hc ⊢
            split at e
            · rename_i rows hrows
              rw [mapR_to (fun r hr x hx y => ih x y (all_flat (all_flat hc r hr) x hx)) hrows]; exact e
            · cases e
          · rename_i h2; rw [if_neg h2]; exact e
        · cases e
    · split at e
      · rename_i h1; rw [if_pos h1]; exact e
      · rename_i h1
        rw [if_neg h1] at hc ⊢
        split at e
        · rename_i B hB
          simp only [hB] at hc ⊢
          rw [if_pos (hc _ (by simp))]
          have hc' := fun b hb => hc b (List.mem_cons_of_mem _ hb)
          split at e
          · rename_i h2
            rw [if_pos h2] at hc' ⊢
            split at e
            · rename_i rows hrows
              rw [mapR_to (fun r hr x hx y => ih x y (all_flat (all_flat hc' r hr) x hx)) hrows]; exact e
            · cases e
          · rename_i h2; rw [if_neg h2]; exact e
        · cases e

theorem frz_to {d d' : D} (hc : ∀ b ∈ frzN σ m d, b = true) (e : frzU σ m d = some d') : frz σ m d = some d' := tr_to (frzH_to 6 false) trFuel d d' hc e
theorem frzs_to {l l' : List D} (hc : ∀ b ∈ l.flatMap (frzN σ m), b = true) (e : mapO (frzU σ m) l = some l') : mapO (frz σ m) l = some l' := mapO_to (fun x hx y => frz_to (all_flat hc x hx)) e

theorem blk_to {f g : D → Option D} {c : D → List Bool} (h : ∀ d d', (∀ b ∈ c d, b = true) → f d = some d' → g d = some d') {B B' : Option Blk} (hc : ∀ b ∈ blkN c B, b = true) (e : mapBlk f B = some B') : mapBlk g B = some B' := by
  cases B with
  | none => exact e
  | some B =>
    simp only [mapBlk, blkN, Bool.cond_eq_ite] at e hc ⊢
    split at e
    · rename_i h1
      rw [if_pos h1] at hc ⊢
      simp only [Option.map_eq_some_iff] at e ⊢
      obtain ⟨x, h2, rfl⟩ := e
      exact ⟨x, mapR_to (fun r hr x hx y => h x y (all_flat (all_flat hc r hr) x hx)) h2, rfl⟩
    · rename_i h1; rw [if_neg h1]; exact e
theorem sto_to {f g : D → Option D} {c : D → List Bool} (h : ∀ d d', (∀ b ∈ c d, b = true) → f d = some d' → g d = some d') : ∀ {s s' : Sto}, (∀ b ∈ s.flatMap (blkN c), b = true) → mapSto f s = some s' → mapSto g s = some s'
  | [], s', _, e => e
  | b :: r, s', hc, e => by
    simp only [mapSto] at e ⊢
    split at e
    · rename_i x y h1 h2
      rw [blk_to h (fun b' hb => hc b' (by simp only [List.flatMap_cons, List.mem_append]; exact .inl hb)) h1, sto_to h (fun b' hb => hc b' (by simp only [List.flatMap_cons, List.mem_append]; exact .inr hb)) h2]; exact e
    · cases e

end
end Go.RX
