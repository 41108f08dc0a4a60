/-
  RX, soundness: regions whose order is open.
-/
import Derived.Test.YthooiaebbikjiaaRxSound6
set_option linter.unusedSimpArgs false
set_option linter.unusedVariables false
namespace Go.RX
open Go
section
variable {E : Env} {C : Cx} {Q : D → Sto → Prop} {w w' : World} {Im Im' : Nat → Prop} {φ φ' : Phi} {σ σ' : Sto}

theorem keepL_get (mask : Nat) (fr : Fr) : ∀ (l : List Nat) (t : Nat), fget (keepL mask fr l) t = .undef ∨ fget (keepL mask fr l) t = fget fr t
  | [], t => .inl rfl
  | s :: l, t => by
    have ih := keepL_get mask fr l t
    simp only [keepL, Bool.cond_eq_ite]
    split
    · split
      · exact ih
      · simp only [fget, Bool.cond_eq_ite]
        split
        · rename_i he
          have he' := Nat.eq_of_beq_eq_true he
          subst he'
          exact .inr rfl
        · exact ih
    · exact ih

theorem keep_rel {fr : Fr} {n k : Nat} {a : Nat → Value} (h : ∀ t, Rel w Im φ (fget fr t) (a t)) (t : Nat) : Rel w Im φ (fget (keepFr n k fr) t) (a t) := by
  unfold keepFr
  rcases keepL_get k fr (List.range n) t with h1 | h1
  · rw [h1]; exact .undef _
  · rw [h1]; exact h t


/-! ### what an operation comes to, whichever questions are asked -/
inductive Leaf (E : Env) (σ : Sto) : ARes → D → Sto → Prop
  | ok (d : D) (s : Sto) : Leaf E σ (.ok d s) d s
  | need {b : Bool} {k : ARes} {d : D} {s : Sto} : b = true → Leaf E σ k d s → Leaf E σ (.need b k) d s
  | split {b : Bool} {k : Bool → ARes} {d : D} {s : Sto} : Leaf E σ (k b) d s → Leaf E σ (.split b k) d s
  | row {r : Option (List D)} {k : List D → ARes} {x : List D} {d : D} {s : Sto} : r = some x → Leaf E σ (k x) d s → Leaf E σ (.row r k) d s
  | str {r : Option (List UInt8)} {k : List UInt8 → ARes} {x : List UInt8} {d : D} {s : Sto} : r = some x → Leaf E σ (k x) d s → Leaf E σ (.str r k) d s
  | call {f : FuncId} {args args' : List D} {d : D} : mapO (tr noRef trFuel) args = some args' → SoundTo E f args' d → Leaf E σ (.call f args) d σ
  | callB {f : FuncId} {args args' : List D} {d : D} : mapO (frz σ 0) args = some args' → SoundTo E f args' d → plainD 4 d = true → Leaf E σ (.call f args) d σ

theorem conv_leaf {k : D → Sto → Qy} : ∀ (r : ARes), FinQ E C Q (conv E true k σ r) → ∃ d s, Leaf E σ r d s ∧ FinQ E C Q (k d s)
  | .ok d s, h => ⟨d, s, .ok d s, h⟩
  | .need b q, h => let ⟨d, s, h1, h2⟩ := conv_leaf q h.2; ⟨d, s, .need h.1 h1, h2⟩
  | .split b q, h => let ⟨d, s, h1, h2⟩ := conv_leaf (q b) h; ⟨d, s, .split h1, h2⟩
  | .row r q, h => let ⟨x, hx, h'⟩ := h; let ⟨d, s, h1, h2⟩ := conv_leaf (q x) h'; ⟨d, s, .row hx h1, h2⟩
  | .str r q, h => let ⟨x, hx, h'⟩ := h; let ⟨d, s, h1, h2⟩ := conv_leaf (q x) h'; ⟨d, s, .str hx h1, h2⟩
  | .call f args, h => by
    simp only [conv, cond_true, callDQ] at h
    split at h
    · rename_i args' hm
      obtain ⟨d, hs, hk⟩ := h
      exact ⟨d, σ, .call hm hs, hk⟩
    · split at h
      · rename_i args' hm0
        obtain ⟨hneed, h⟩ := needs_ok h
        have hm := frzs_to hneed hm0
        obtain ⟨d, hs, hk⟩ := h
        cases hp : plainD 4 d with
        | true => simp only [hp, cond_true] at hk; exact ⟨d, σ, .callB hm hs hp, hk⟩
        | false => simp only [hp, cond_false] at hk; exact hk.elim
      · exact h.elim
  | .bad, h => h.elim

/-- A call of which just one answer is known. -/
theorem soundTo_call (hi : Inv w Im φ σ) {f : FuncId} {args args' : List D} {d : D} {vs : Array Value} (hargs : ArgsRel w Im φ args vs.toList)
    (h : (mapO (tr noRef trFuel) args = some args') ∨ (mapO (frz σ 0) args = some args' ∧ plainD 4 d = true)) (hs : SoundTo E f args' d) :
    Calls E.P f vs w fun e w' => ∃ v Im', e = .returned v ∧ Nx w Im φ σ w' Im' φ σ ∧ Rel w' Im' φ d v := by
  rcases h with hm | ⟨hm, hp⟩
  · refine (hs w Im [] vs (Inv.nil hi.im) (args_map hm hargs (fun d d' v a b => noRef_rel trFuel d d' v a b))).mono ?_
    rintro e w' ⟨v, d', s, φ2, I2, rfl, ht, h2, hr, rfl, rfl⟩
    have ht' : Tr 0 w Im [] [] w' I2 φ2 [] := ht
    have hN : ∀ c, I2 c → Im c ∨ w.heap.size ≤ c := fun c hc => by
      rcases ht'.imN c hc with h | h | h
      · exact .inl h
      · exact absurd h (no_own c)
      · exact .inr h
    obtain ⟨n1, n2⟩ := hi.past ht' h2 ht'.im hN
    have : φ2 = [] := List.eq_nil_of_length_eq_zero (by rw [h2.len]; rfl)
    subst this
    exact ⟨v, I2, rfl, ⟨PhiLe.refl _, Nat.le_refl _, n2, n1⟩, hr.mono (fun _ h => h) (fun _ _ => rfl) (PhiLe.nil _)⟩
  · have hIm : ∀ c, Im c → (Im c ∨ Own φ σ c) := fun c h => .inl h
    have hfr : ∀ d d' v, Rel w Im φ d v → frz σ 0 d = some d' → Rel w (fun c => Im c ∨ Own φ σ c) [] d' v := fun d d' v a b => by
      have hown : ∀ (b : Nat) (B : Blk) (l : Loc), 0 ≤ b → sget σ b = some B → φ[b]? = some l → (fun c => Im c ∨ Own φ σ c) l.blk := fun b B l _ a2 a3 => .inr ⟨b, B, l, a3, a2, rfl⟩
      exact tr_rel hIm (fun b i o d' v a b' => frzH_rel hi hIm hown 6 false _ (fun _ b l hb => by omega) _ d' v (fun _ _ _ _ => trivial) a b') (fun b i len lo ex d' v a b' => frzH_rel hi hIm hown 6 false _ (fun _ b l hb => by omega) _ d' v (fun _ _ _ _ => trivial) a b') trFuel d d' v a b
    refine (hs w (fun c => Im c ∨ Own φ σ c) [] vs (Inv.nil (fun c hc => hc.elim (hi.im c) hi.own_lt)) (args_map hm hargs hfr)).mono ?_
    rintro e w' ⟨v, d', s, φ2, I2, rfl, ht, h2, hr, rfl, rfl⟩
    have ht' : Tr 0 w (fun c => Im c ∨ Own φ σ c) [] [] w' I2 φ2 [] := ht
    have hsame : ∀ c, c < w.heap.size → w'.heap[c]? = w.heap[c]? := fun c hc => ht'.ext.same c hc (no_own c)
    exact ⟨v, Im, rfl, ⟨PhiLe.refl _, Nat.le_refl _, ⟨⟨ht'.ext.size, fun c hc _ => hsame c hc, ht'.ext.io⟩, fun c hc => .inl hc, fun _ _ => rfl, fun _ h => h, fun _ h => .inl h⟩,
      ⟨hi.len, fun b B l a1 a2 => (hi.blk b B l a1 a2).of_heap (hsame _ (hi.blk b B l a1 a2).lt) ht'.ext.size (fun _ h => h) (fun c hc => hsame c (hi.im c hc)) (PhiLe.refl _), hi.inj, hi.sep, fun c hc => Nat.lt_of_lt_of_le (hi.im c hc) ht'.ext.size⟩⟩, plain_rel 4 d' v hp hr⟩

/-- It is carried out. -/
theorem leaf_run (hi : Inv w Im φ σ) {o : Oper} {a : Act} {next : Act → World → Prop} {R : Exit → Act → World → Prop} {r : ARes} {d : D} {s : Sto} (hl : Leaf E σ r d s)
    (hs : SatA E.P w Im φ σ (execOp a.eval o) r) (hk : ∀ v w' Im' φ', Nx w Im φ σ w' Im' φ' s → Rel w' Im' φ' d v → next (a.put o.dst v) w') : o.wp E.P a w next R := by
  induction hl with
  | ok d s =>
    obtain ⟨v, w', φ', h1, h2⟩ := hs
    have := hk v w' Im φ' (h2.nx h2.le.length) h2.rel
    unfold Oper.wp
    rcases h1 with h1 | ⟨h1, rfl⟩
    · rw [h1]; exact this
    · rw [h1]; exact this
  | need hb _ ih => exact ih (hs hb) hk
  | split _ ih => exact ih hs hk
  | row hx _ ih => exact ih (hs _ hx) hk
  | str hx _ ih => exact ih (hs _ hx) hk
  | call hm hsd =>
    obtain ⟨vs, h1, h2, h3⟩ := hs
    unfold Oper.wp
    rw [h1]
    refine (soundTo_call hi (vs := vs) ⟨by simpa using h2, fun i d v a b => h3 i d v a (by simpa using b)⟩ (.inl hm) hsd).mono ?_
    rintro e w' ⟨v, Im', rfl, n, hr⟩
    exact hk v w' Im' φ n hr
  | callB hm hsd hp =>
    obtain ⟨vs, h1, h2, h3⟩ := hs
    unfold Oper.wp
    rw [h1]
    refine (soundTo_call hi (vs := vs) ⟨by simpa using h2, fun i d v a b => h3 i d v a (by simpa using b)⟩ (.inr ⟨hm, hp⟩) hsd).mono ?_
    rintro e w' ⟨v, Im', rfl, n, hr⟩
    exact hk v w' Im' φ n hr

/-! ### other blocks, the same answer -/
def SLe (σ σ' : Sto) : Prop := ∀ (b : Nat) (B : Blk), sget σ b = some B → sget σ' b = some B
theorem SLe.refl (σ : Sto) : SLe σ σ := fun _ _ h => h
theorem SLe.trans {a b c : Sto} (h : SLe a b) (h' : SLe b c) : SLe a c := fun _ _ x => h' _ _ (h _ _ x)
theorem SLe.append (σ : Sto) (B : Option Blk) : SLe σ (σ ++ [B]) := fun b B' h => by rw [sget_append_left (sget_lt h)]; exact h

theorem mapO_mono {f g : D → Option D} (h : ∀ d d', f d = some d' → g d = some d') : ∀ {l l' : List D}, mapO f l = some l' → mapO g l = some l'
  | [], l', e => e
  | d :: r, l', e => by
    simp only [mapO] at e ⊢
    split at e
    · rename_i x y h1 h2
      rw [h _ _ h1, mapO_mono h h2]; exact e
    · cases e
theorem mapR_mono {f g : D → Option D} (h : ∀ d d', f d = some d' → g d = some d') : ∀ {l l' : List (List D)}, mapR f l = some l' → mapR g l = some l'
  | [], l', e => e
  | d :: r, l', e => by
    simp only [mapR] at e ⊢
    split at e
    · rename_i x y h1 h2
      rw [mapO_mono h h1, mapR_mono h h2]; exact e
    · cases e
theorem tr_mono {f g : D → Option D} (h : ∀ d d', f d = some d' → g d = some d') : ∀ (n : Nat) (d d' : D), tr f n d = some d' → tr g n d = some d'
  | 0, _, _, e => by simp [tr] at e
  | n + 1, d, d', e => by
    have ih := tr_mono h n
    cases d <;> simp only [tr] at e ⊢ <;> try exact e
    case ptr => exact h _ _ e
    case msl => exact h _ _ e
    case fn =>
      split at e
      · rename_i x y h1 h2
        rw [mapO_mono ih h1, mapO_mono ih h2]; exact e
      · cases e
    case agg =>
      simp only [Option.map_eq_some_iff] at e ⊢
      obtain ⟨x, h1, rfl⟩ := e
      exact ⟨x, mapO_mono ih h1, rfl⟩
    case tup =>
      simp only [Option.map_eq_some_iff] at e ⊢
      obtain ⟨x, h1, rfl⟩ := e
      exact ⟨x, mapO_mono ih h1, rfl⟩
    case iface =>
      simp only [Option.map_eq_some_iff] at e ⊢
      obtain ⟨x, h1, rfl⟩ := e
      exact ⟨x, ih _ _ h1, rfl⟩
theorem frzH_mono (hle : SLe σ σ') (m : Nat) : ∀ (n : Nat) (st : Bool) (d d' : D), frzH σ m st n d = some d' → frzH σ' m st n d = some d'
  | 0, _, _, _, e => by simp [frzH] at e
  | n + 1, st, d, d', e => by
    have ih := tr_mono (frzH_mono hle m n true) trFuel
    cases d <;> simp only [frzH, Bool.cond_eq_ite] at e ⊢ <;> try (cases e; done)
    · split at e
      · rename_i h1; rw [if_pos h1]; exact e
      · rename_i h1
        rw [if_neg h1]
        split at e
        · rename_i B hB
          rw [hle _ _ hB]
          simp only
          split at e
          · rename_i h2
            rw [if_pos h2]
            split at e
            · rename_i rows hrows
              rw [mapR_mono ih hrows]; exact e
            · cases e
          · rename_i h2; rw [if_neg h2]; exact e
        · cases e
    · split at e
      · rename_i h1; rw [if_pos h1]; exact e
      · rename_i h1
        rw [if_neg h1]
        split at e
        · rename_i B hB
          rw [hle _ _ hB]
          simp only
          split at e
          · rename_i h3
            rw [if_pos h3]
            split at e
            · rename_i h2
              rw [if_pos h2]
              split at e
              · rename_i rows hrows
                rw [mapR_mono ih hrows]; exact e
              · cases e
            · rename_i h2; rw [if_neg h2]; exact e
          · cases e
        · cases e
theorem frz_mono (hle : SLe σ σ') (m : Nat) (d d' : D) (h : frz σ m d = some d') : frz σ' m d = some d' := tr_mono (frzH_mono hle m 6 false) trFuel d d' h

/-- The same answer over other blocks. -/
inductive Sim (σ σ' : Sto) : ARes → ARes → Prop
  | ok (d : D) : Sim σ σ' (.ok d σ) (.ok d σ')
  | need (b : Bool) {k k' : ARes} : Sim σ σ' k k' → Sim σ σ' (.need b k) (.need b k')
  | split (b : Bool) {k k' : Bool → ARes} : (∀ x, Sim σ σ' (k x) (k' x)) → Sim σ σ' (.split b k) (.split b k')
  | row (r : Option (List D)) {k k' : List D → ARes} : (∀ x, Sim σ σ' (k x) (k' x)) → Sim σ σ' (.row r k) (.row r k')
  | str (r : Option (List UInt8)) {k k' : List UInt8 → ARes} : (∀ x, Sim σ σ' (k x) (k' x)) → Sim σ σ' (.str r k) (.str r k')
  | call (f : FuncId) (args : List D) : SLe σ σ' → Sim σ σ' (.call f args) (.call f args)
  | bad (r : ARes) : Sim σ σ' .bad r

theorem Sim.leaf {r r' : ARes} (h : Sim σ σ' r r') {d : D} {s : Sto} (hl : Leaf E σ r d s) : Leaf E σ' r' d σ' := by
  induction h with
  | ok d => cases hl; exact .ok _ _
  | need b _ ih => cases hl with | need hb hl => exact .need hb (ih hl)
  | split b _ ih => cases hl with | split hl => exact .split (ih _ hl)
  | row r _ ih => cases hl with | row hx hl => exact .row hx (ih _ hl)
  | str r _ ih => cases hl with | str hx hl => exact .str hx (ih _ hl)
  | call f args hle =>
    cases hl with
    | call hm hs => exact .call hm hs
    | callB hm hs hp => exact .callB (mapO_mono (frz_mono hle 0) hm) hs hp
  | bad r => cases hl

theorem Sim.opt (o : Option D) : Sim σ σ' (ARes.opt o σ) (ARes.opt o σ') := by
  cases o
  · exact .bad _
  · exact .ok _

end
end Go.RX
