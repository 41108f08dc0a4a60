/-
  Words and walks for FenceWrites. No condition.
-/
import Derived.Below
import Derived.RangeFuncLeaves
import Derived.Test.YtflpengopdhhhaaDoorFenceWritesX1
set_option linter.unusedSectionVars false
set_option linter.unnecessarySimpa false
set_option linter.unusedSimpArgs false
set_option linter.unusedVariables false
namespace Go.RX
open Go
section
variable {E : Env} {C : Cx} {Q : D → Sto → Prop} {w w' : World} {Im Im' : Nat → Prop} {φ φ' : Phi} {σ σ' : Sto}
theorem keepL_get (mask : Nat) (fr : Fr) : ∀ (l : List Nat) (t : Nat), fget (keepL mask fr l) t = .undef ∨ fget (keepL mask fr l) t = fget fr t
  | [], t => .inl rfl
  | s :: l, t => by
    have ih := keepL_get mask fr l t
    simp only [keepL, Bool.cond_eq_ite]
    split
    · split
      · exact ih
      · simp only [fget, Bool.cond_eq_ite]
        split
        · rename_i he
          have he' := Nat.eq_of_beq_eq_true he
          subst he'
          exact .inr rfl
        · exact ih
    · exact ih
theorem keep_rel {fr : Fr} {n k : Nat} {a : Nat → Value} (h : ∀ t, Rel w Im φ (fget fr t) (a t)) (t : Nat) : Rel w Im φ (fget (keepFr n k fr) t) (a t) := by
  unfold keepFr
  rcases keepL_get k fr (List.range n) t with h1 | h1
  · rw [h1]; exact .undef _
  · rw [h1]; exact h t
/-! ### what an operation comes to, whichever questions are asked -/
inductive Leaf (E : Env) (ks : Bool) (σ : Sto) : ARes → D → Sto → Prop
  | ok (d : D) (s : Sto) : Leaf E ks σ (.ok d s) d s
  | need {b : Bool} {k : ARes} {d : D} {s : Sto} : b = true → Leaf E ks σ k d s → Leaf E ks σ (.need b k) d s
  | split {b : Bool} {k : Bool → ARes} {d : D} {s : Sto} : Leaf E ks σ (k b) d s → Leaf E ks σ (.split b k) d s
  | row {r : Option (List D)} {k : List D → ARes} {x : List D} {d : D} {s : Sto} : r = some x → Leaf E ks σ (k x) d s → Leaf E ks σ (.row r k) d s
  | rows {r : List (List D)} {k : List (List D) → ARes} {d : D} {s : Sto} : Leaf E ks σ (k r) d s → Leaf E ks σ (.rows r k) d s
  | str {r : Option (List UInt8)} {k : List UInt8 → ARes} {x : List UInt8} {d : D} {s : Sto} : r = some x → Leaf E ks σ (k x) d s → Leaf E ks σ (.str r k) d s
  | call {f : FuncId} {args args' : List D} {d : D} : mapO (tr noRef trFuel) args = some args' → SoundTo E f args' d → Leaf E ks σ (.call f args) d σ
  | callB {f : FuncId} {args args' : List D} {d : D} : mapO (frz σ 0) args = some args' → SoundTo E f args' d → plainD 4 d = true → Leaf E ks σ (.call f args) d σ
  | callS {f : FuncId} {args : List D} {p : CallP} {d0 : D} {s0 : Sto} {x : D × Sto} : ks = true → (E.pol f).ro = false → callP E f args σ = some p → (∀ b ∈ p.ns, b = true) → (Sound E f p.args p.sub fun d' s' => d' = d0 ∧ s' = s0) → p.back d0 s0 = some x → Leaf E ks σ (.call f args) x.1 x.2
  | callR {f : FuncId} {args : List D} {p : CallP} {d0 : D} {s0 : Sto} {x : D × Sto} : ks = true → callP E f args σ = some p → (∀ b ∈ p.ns, b = true) → (Sound E f p.args p.sub fun d' s' => d' = d0 ∧ s' = s0) → p.back d0 s0 = some x → x.2.take σ.length = σ → Leaf E ks σ (.call f args) x.1 x.2
theorem conv_leaf {ks : Bool} {k : D → Sto → Qy} : ∀ (r : ARes), FinQ E C Q (conv E true ks k σ r) → ∃ d s, Leaf E ks σ r d s ∧ FinQ E C Q (k d s)
  | .ok d s, h => ⟨d, s, .ok d s, h⟩
  | .need b q, h => let ⟨d, s, h1, h2⟩ := conv_leaf q h.2; ⟨d, s, .need h.1 h1, h2⟩
  | .split b q, h => let ⟨d, s, h1, h2⟩ := conv_leaf (q b) h; ⟨d, s, .split h1, h2⟩
  | .row r q, h => let ⟨x, hx, h'⟩ := h; let ⟨d, s, h1, h2⟩ := conv_leaf (q x) h'; ⟨d, s, .row hx h1, h2⟩
  | .rows r q, h => let ⟨d, s, h1, h2⟩ := conv_leaf (q r) h; ⟨d, s, .rows h1, h2⟩
  | .any p q, h => h.elim
  | .str r q, h => let ⟨x, hx, h'⟩ := h; let ⟨d, s, h1, h2⟩ := conv_leaf (q x) h'; ⟨d, s, .str hx h1, h2⟩
  | .call f args, h => by
    simp only [conv, cond_true] at h
    cases ks with
    | true =>
      simp only [cond_true] at h
      cases hro : (E.pol f).ro with
      | true =>
        rw [hro] at h
        simp only [cond_true, callRQ] at h
        split at h
        · rename_i p hp
          obtain ⟨hneed, d0, s0, x, hs, hb, ht, hk⟩ := needs_ok h
          exact ⟨x.1, x.2, .callR rfl hp hneed hs hb ht, hk⟩
        · exact h.elim
      | false =>
      rw [hro] at h
      simp only [cond_false, callSQ] at h
      split at h
      · rename_i p hp
        obtain ⟨hneed, h⟩ := needs_ok h
        obtain ⟨d0, s0, hs, hk⟩ := h
        simp only at hk
        cases hb : p.back d0 s0 with
        | none => rw [hb] at hk; exact hk.elim
        | some x => rw [hb] at hk; exact ⟨x.1, x.2, .callS rfl hro hp hneed hs hb, hk⟩
      · exact h.elim
    | false =>
    simp only [cond_false, callDQ] at h
    split at h
    · rename_i args' hm
      obtain ⟨d, hs, hk⟩ := h
      exact ⟨d, σ, .call hm hs, hk⟩
    · split at h
      · rename_i args' hm0
        obtain ⟨hneed, h⟩ := needs_ok h
        have hm := frzs_to hneed hm0
        obtain ⟨d, hs, hk⟩ := h
        cases hp : plainD 4 d with
        | true => simp only [hp, cond_true] at hk; exact ⟨d, σ, .callB hm hs hp, hk⟩
        | false => simp only [hp, cond_false] at hk; exact hk.elim
      · exact h.elim
  | .bad, h => h.elim
theorem soundTo_call (hgl : GlOk E w Im) (hi : Inv w Im φ σ) {f : FuncId} {args args' : List D} {d : D} {vs : Array Value} (hargs : ArgsRel w Im φ args vs.toList)
    (h : (mapO (tr noRef trFuel) args = some args') ∨ (mapO (frz σ 0) args = some args' ∧ plainD 4 d = true)) (hs : SoundTo E f args' d) :
    Calls E.P f vs w fun e w' => ∃ v Im', e = .returned v ∧ Nx w Im φ σ w' Im' φ σ ∧ Rel w' Im' φ d v := by
  rcases h with hm | ⟨hm, hp⟩
  · refine (hs w Im [] vs hgl (Inv.nil hi.im) (args_map hm hargs (fun d d' v a b => noRef_rel trFuel d d' v a b))).mono ?_
    rintro e w' ⟨v, d', s, φ2, I2, rfl, ht, h2, hr, rfl, rfl⟩
    have ht' : Tr 0 w Im [] [] w' I2 φ2 [] := ht
    have hN : ∀ c, I2 c → Im c ∨ w.heap.size ≤ c := fun c hc => by
      rcases ht'.imN c hc with h | h | h
      · exact .inl h
      · exact absurd h (no_own c)
      · exact .inr h
    obtain ⟨n1, n2⟩ := hi.past ht' h2 ht'.im hN
    have : φ2 = [] := List.eq_nil_of_length_eq_zero (by rw [h2.len]; rfl)
    subst this
    exact ⟨v, I2, rfl, ⟨PhiLe.refl _, Nat.le_refl _, n2, n1⟩, hr.mono (fun _ h => h) (fun _ _ => rfl) (PhiLe.nil _)⟩
  · have hIm : ∀ c, Im c → (Im c ∨ Own φ σ c) := fun c h => .inl h
    have hfr : ∀ d d' v, Rel w Im φ d v → frz σ 0 d = some d' → Rel w (fun c => Im c ∨ Own φ σ c) [] d' v := fun d d' v a b => by
      have hown : ∀ (b : Nat) (B : Blk) (l : Loc), 0 ≤ b → sget σ b = some B → φ[b]? = some l → 0 < l.size → (fun c => Im c ∨ Own φ σ c) l.blk := fun b B l _ a2 a3 hp => .inr ⟨b, B, l, a3, a2, rfl, hp⟩
      exact tr_rel hIm (fun b i o d' v a b' => frzH_rel hi hIm hown 6 false _ (fun _ b l hb => by omega) _ d' v (fun _ _ _ _ => trivial) a b') (fun b i len lo ex d' v a b' => frzH_rel hi hIm hown 6 false _ (fun _ b l hb => by omega) _ d' v (fun _ _ _ _ => trivial) a b') trFuel d d' v a b
    refine (hs w (fun c => Im c ∨ Own φ σ c) [] vs (hgl.mono (fun _ h => .inl h) (fun _ _ => rfl)) (Inv.nil (fun c hc => hc.elim (hi.im c) hi.own_lt)) (args_map hm hargs hfr)).mono ?_
    rintro e w' ⟨v, d', s, φ2, I2, rfl, ht, h2, hr, rfl, rfl⟩
    have ht' : Tr 0 w (fun c => Im c ∨ Own φ σ c) [] [] w' I2 φ2 [] := ht
    have hsame : ∀ c, c < w.heap.size → w'.heap[c]? = w.heap[c]? := fun c hc => ht'.ext.same c hc (no_own c)
    exact ⟨v, Im, rfl, ⟨PhiLe.refl _, Nat.le_refl _, ⟨⟨ht'.ext.size, fun c hc _ => hsame c hc, ht'.ext.io⟩, fun c hc => .inl hc, fun _ _ => rfl, fun _ h => h, fun _ h => .inl h⟩,
      ⟨hi.len, fun b B l a1 a2 => (hi.blk b B l a1 a2).of_heap (fun hp => hsame _ ((hi.blk b B l a1 a2).lt hp)) ht'.ext.size (fun _ h => h) (fun c hc => hsame c (hi.im c hc)) (PhiLe.refl _), hi.inj, hi.sep, fun c hc => Nat.lt_of_lt_of_le (hi.im c hc) ht'.ext.size⟩⟩, plain_rel 4 d' v hp hr⟩
theorem lit_run (hi : Inv w Im φ σ) {o : Oper} {a : Act} {next : Act → World → Prop} {R : Exit → Act → World → Prop} {ρ : Operand → D} (hρ : ∀ x, Rel w Im φ (ρ x) (a.eval x)) {d : D} (hd : litD E.P ρ o = some d)
    (hk : ∀ v w' Im', Nx w Im φ σ w' Im' φ σ → Rel w' Im' φ d v → next (a.put o.dst v) w') : o.wp E.P a w next R := by
  have hs := aop_sat (P := E.P) (σ := []) (φ := []) (Inv.nil hi.im) (ρ := fun x => bareD (litS E.P o) (ρ x)) (ρc := a.eval) (fun x => by
    unfold bareD
    split
    · rename_i cs h
      obtain ⟨vs, e, g1, g2⟩ := (noRef_rel trFuel _ _ _ (hρ x) h).agg_inv
      rw [e]
      have g3 := fixZ_rel (litS E.P o) ⟨g1, g2⟩
      exact .agg _ _ g3.1 g3.2
    · rename_i d' _ h; exact noRef_rel trFuel _ _ _ (hρ x) h
    · exact .undef _) o
  unfold litD at hd
  split at hd
  · rename_i l lo ex B hA
    rw [hA] at hs
    obtain ⟨v, w', φ', h1, h2⟩ := hs
    cases hdp : B.deep with
    | true => rw [hdp] at hd; cases hd
    | false =>
      rw [hdp] at hd
      simp only [cond_false] at hd
      cases hle : Nat.ble (0 + l) B.rows.length with
      | false => rw [hle] at hd; cases hd
      | true =>
        rw [hle] at hd
        simp only [cond_true, Option.some.injEq] at hd
        subst hd
        have hgv := h2.inv.give (fun _ => true)
        have ht : Tr 0 w Im [] [] w' (fun c => Im c ∨ Own φ' (selB (fun _ => true) 0 [some B]) c) φ' (selB (fun i => !((fun _ => true) i)) 0 [some B]) := Tr.trans h2.tr (hgv.2.le (Nat.zero_le _))
        have hown : ∀ c, Own φ' [some B] c → w.heap.size ≤ c := fun c hc => (h2.tr.own c hc).resolve_left (no_own c)
        obtain ⟨n1, n2⟩ := hi.past (J := Im) ⟨ht.ext, ht.own, ht.pre, ht.im, ht.imN⟩ hgv.1 (fun _ h => .inl h) (fun c hc => hc.imp id (hown c))
        have hr : Rel w' (fun c => Im c ∨ Own φ' (selB (fun _ => true) 0 [some B]) c) [] (.sl false B.sz ((B.rows.drop 0).take l)) v :=
          frzH_rel h2.inv (m := 0) (fun _ h => .inl h) (fun b B' l _ a2 a3 hp => .inr ⟨b, B', l, a3, a2, rfl, hp⟩) 6 false [] (fun _ b l hb => by omega) _ _ _ (fun _ _ _ _ => trivial) h2.rel (by
            have hg : sget [some B] 0 = some B := rfl
            simp only [frzH, Nat.blt, Nat.ble, cond_false, hg, hdp, hle, cond_true])
        have := hk v w' _ ⟨PhiLe.refl _, Nat.le_refl _, n2, n1⟩ (hr.mono (fun _ h => h) (fun _ _ => rfl) (PhiLe.nil _))
        unfold Oper.wp
        rcases h1 with h1 | ⟨h1, rfl⟩
        · rw [h1]; exact this
        · rw [h1]; exact this
  · cases hd
theorem leaf_run {ks : Bool} (hgl : GlOk E w Im) (hi : Inv w Im φ σ) {o : Oper} {a : Act} {next : Act → World → Prop} {R : Exit → Act → World → Prop} {r : ARes} {d : D} {s : Sto} (hl : Leaf E ks σ r d s)
    (hs : SatA E.P w Im φ σ (execOp a.eval o) r) (hk : ∀ v w' Im' φ', Nx w Im φ σ w' Im' φ' s → Rel w' Im' φ' d v → next (a.put o.dst v) w') : o.wp E.P a w next R := by
  induction hl with
  | ok d s =>
    obtain ⟨v, w', φ', h1, h2⟩ := hs
    have := hk v w' Im φ' (h2.nx h2.le.length) h2.rel
    unfold Oper.wp
    rcases h1 with h1 | ⟨h1, rfl⟩
    · rw [h1]; exact this
    · rw [h1]; exact this
  | need hb _ ih => exact ih (hs hb) hk
  | split _ ih => exact ih hs hk
  | row hx _ ih => exact ih (hs _ hx) hk
  | rows _ ih => exact ih hs hk
  | str hx _ ih => exact ih (hs _ hx) hk
  | call hm hsd =>
    obtain ⟨vs, h1, h2, h3⟩ := hs
    unfold Oper.wp
    rw [h1]
    refine (soundTo_call hgl hi (vs := vs) ⟨by simpa using h2, fun i d v a b => h3 i d v a (by simpa using b)⟩ (.inl hm) hsd).mono ?_
    rintro e w' ⟨v, Im', rfl, n, hr⟩
    exact hk v w' Im' φ n hr
  | callB hm hsd hp =>
    obtain ⟨vs, h1, h2, h3⟩ := hs
    unfold Oper.wp
    rw [h1]
    refine (soundTo_call hgl hi (vs := vs) ⟨by simpa using h2, fun i d v a b => h3 i d v a (by simpa using b)⟩ (.inr ⟨hm, hp⟩) hsd).mono ?_
    rintro e w' ⟨v, Im', rfl, n, hr⟩
    exact hk v w' Im' φ n hr
  | callR _ hp hneed hsd hb _ =>
    obtain ⟨vs, h1, h2, h3⟩ := hs
    unfold Oper.wp
    rw [h1]
    refine (callP_ok hgl hi (vs := vs) ⟨by simpa using h2, fun i d v a b => h3 i d v a (by simpa using b)⟩ hp hneed hsd).mono ?_
    rintro e w' ⟨v, d, s, rfl, ⟨rfl, rfl⟩, hx⟩
    obtain ⟨φ', Im', n, hr⟩ := hx _ hb
    exact hk v w' Im' φ' n hr
  | callS _ _ hp hneed hsd hb =>
    obtain ⟨vs, h1, h2, h3⟩ := hs
    unfold Oper.wp
    rw [h1]
    refine (callP_ok hgl hi (vs := vs) ⟨by simpa using h2, fun i d v a b => h3 i d v a (by simpa using b)⟩ hp hneed hsd).mono ?_
    rintro e w' ⟨v, d, s, rfl, ⟨rfl, rfl⟩, hx⟩
    obtain ⟨φ', Im', n, hr⟩ := hx _ hb
    exact hk v w' Im' φ' n hr
/-! ### other blocks, the same answer -/
def SLe (σ σ' : Sto) : Prop := ∀ (b : Nat) (B : Blk), sget σ b = some B → sget σ' b = some B
theorem SLe.refl (σ : Sto) : SLe σ σ := fun _ _ h => h
theorem SLe.trans {a b c : Sto} (h : SLe a b) (h' : SLe b c) : SLe a c := fun _ _ x => h' _ _ (h _ _ x)
theorem SLe.append (σ : Sto) (B : Option Blk) : SLe σ (σ ++ [B]) := fun b B' h => by rw [sget_append_left (sget_lt h)]; exact h
theorem mapO_mono {f g : D → Option D} (h : ∀ d d', f d = some d' → g d = some d') : ∀ {l l' : List D}, mapO f l = some l' → mapO g l = some l'
  | [], l', e => e
  | d :: r, l', e => by
    simp only [mapO] at e ⊢
    split at e
    · rename_i x y h1 h2
      rw [h _ _ h1, mapO_mono h h2]; exact e
    · cases e
theorem mapR_mono {f g : D → Option D} (h : ∀ d d', f d = some d' → g d = some d') : ∀ {l l' : List (List D)}, mapR f l = some l' → mapR g l = some l'
  | [], l', e => e
  | d :: r, l', e => by
    simp only [mapR] at e ⊢
    split at e
    · rename_i x y h1 h2
      rw [mapO_mono h h1, mapR_mono h h2]; exact e
    · cases e
theorem tr_mono {f g : D → Option D} (h : ∀ d d', f d = some d' → g d = some d') : ∀ (n : Nat) (d d' : D), tr f n d = some d' → tr g n d = some d'
  | 0, _, _, e => by simp [tr] at e
  | n + 1, d, d', e => by
    have ih := tr_mono h n
    cases d <;> simp only [tr] at e ⊢ <;> try exact e
    case ptr => exact h _ _ e
    case msl => exact h _ _ e
    case fn =>
      split at e
      · rename_i x y h1 h2
        rw [mapO_mono ih h1, mapO_mono ih h2]; exact e
      · cases e
    case agg =>
      simp only [Option.map_eq_some_iff] at e ⊢
      obtain ⟨x, h1, rfl⟩ := e
      exact ⟨x, mapO_mono ih h1, rfl⟩
    case tup =>
      simp only [Option.map_eq_some_iff] at e ⊢
      obtain ⟨x, h1, rfl⟩ := e
      exact ⟨x, mapO_mono ih h1, rfl⟩
    case iface =>
      simp only [Option.map_eq_some_iff] at e ⊢
      obtain ⟨x, h1, rfl⟩ := e
      exact ⟨x, ih _ _ h1, rfl⟩
theorem frzH_mono (hle : SLe σ σ') (m : Nat) : ∀ (n : Nat) (st : Bool) (d d' : D), frzH σ m st n d = some d' → frzH σ' m st n d = some d'
  | 0, _, _, _, e => by simp [frzH] at e
  | n + 1, st, d, d', e => by
    have ih := tr_mono (frzH_mono hle m n true) trFuel
    cases d <;> simp only [frzH, Bool.cond_eq_ite] at e ⊢ <;> try (cases e; done)
    · split at e
      · rename_i h1; rw [if_pos h1]; exact e
      · rename_i h1
        rw [if_neg h1]
        split at e
        · rename_i B hB
          rw [hle _ _ hB]
          simp only
          split at e
          · rename_i h2
            rw [if_pos h2]
            split at e
            · rename_i rows hrows
              rw [mapR_mono ih hrows]; exact e
            · cases e
          · rename_i h2; rw [if_neg h2]; exact e
        · cases e
    · split at e
      · rename_i h1; rw [if_pos h1]; exact e
      · rename_i h1
        rw [if_neg h1]
        split at e
        · rename_i B hB
          rw [hle _ _ hB]
          simp only
          split at e
          · rename_i h3
            rw [if_pos h3]
            split at e
            · rename_i h2
              rw [if_pos h2]
              split at e
              · rename_i rows hrows
                rw [mapR_mono ih hrows]; exact e
              · cases e
            · rename_i h2; rw [if_neg h2]; exact e
          · cases e
        · cases e
theorem frz_mono (hle : SLe σ σ') (m : Nat) (d d' : D) (h : frz σ m d = some d') : frz σ' m d = some d' := tr_mono (frzH_mono hle m 6 false) trFuel d d' h
/-- The same answer over other blocks. -/
inductive Sim (σ σ' : Sto) : ARes → ARes → Prop
  | ok (d : D) : Sim σ σ' (.ok d σ) (.ok d σ')
  | need (b : Bool) {k k' : ARes} : Sim σ σ' k k' → Sim σ σ' (.need b k) (.need b k')
  | split (b : Bool) {k k' : Bool → ARes} : (∀ x, Sim σ σ' (k x) (k' x)) → Sim σ σ' (.split b k) (.split b k')
  | row (r : Option (List D)) {k k' : List D → ARes} : (∀ x, Sim σ σ' (k x) (k' x)) → Sim σ σ' (.row r k) (.row r k')
  | rows (r : List (List D)) {k k' : List (List D) → ARes} : (∀ x, Sim σ σ' (k x) (k' x)) → Sim σ σ' (.rows r k) (.rows r k')
  | str (r : Option (List UInt8)) {k k' : List UInt8 → ARes} : (∀ x, Sim σ σ' (k x) (k' x)) → Sim σ σ' (.str r k) (.str r k')
  | call (f : FuncId) (args : List D) : SLe σ σ' → Sim σ σ' (.call f args) (.call f args)
  | any (p : Bool) {k k' : Bool → ARes} : Sim σ σ' (.any p k) (.any p k')
  | yld (l : Nat) (args : List D) (r : ARes) : Sim σ σ' (.yld l args) r
  | bad (r : ARes) : Sim σ σ' .bad r
theorem Sim.leaf {r r' : ARes} (h : Sim σ σ' r r') {d : D} {s : Sto} (hl : Leaf E false σ r d s) : Leaf E false σ' r' d σ' := by
  induction h with
  | ok d => cases hl; exact .ok _ _
  | yld => cases hl
  | need b _ ih => cases hl with | need hb hl => exact .need hb (ih hl)
  | split b _ ih => cases hl with | split hl => exact .split (ih _ hl)
  | row r _ ih => cases hl with | row hx hl => exact .row hx (ih _ hl)
  | rows r _ ih => cases hl with | rows hl => exact .rows (ih _ hl)
  | str r _ ih => cases hl with | str hx hl => exact .str hx (ih _ hl)
  | call f args hle =>
    cases hl with
    | call hm hs => exact .call hm hs
    | callB hm hs hp => exact .callB (mapO_mono (frz_mono hle 0) hm) hs hp
    | callS h => cases h
    | callR h => cases h
  | any p => cases hl
  | bad r => cases hl
theorem Sim.opt (o : Option D) : Sim σ σ' (ARes.opt o σ) (ARes.opt o σ') := by
  cases o
  · exact .bad _
  · exact .ok _
end
end Go.RX

namespace Go.RX
open Go
section
variable {P : Program} {σ σ' : Sto}
theorem intBin_sim (op : BinOp) (k k' : IntKind) (x y : Int) : Sim σ σ' (intBin op k k' x y σ) (intBin op k k' x y σ') := by
  unfold intBin
  split
  · exact .need _ (.ok _)
  · exact .need _ (.ok _)
  · split
    · exact .need _ (.ok _)
    · exact .bad _
  · split
    · exact .need _ (.ok _)
    · exact .bad _
  · split
    · exact .opt _
    · exact .bad _
theorem bin_sim (op : BinOp) (t : TypeId) (x y : D) : Sim σ σ' (binD P op t x y σ) (binD P op t x y σ') := by
  unfold binD
  split
  · exact intBin_sim _ _ _ _ _
  · split
    · exact .ok _
    · exact .ok _
    · exact .ok _
    · exact .need _ (.ok _)
    · exact .bad _
  · have h : ∀ f : Bool → D, Sim σ σ' (eqQ P t x y fun b => .ok (f b) σ) (eqQ P t x y fun b => .ok (f b) σ') := fun f => by
      unfold eqQ
      split
      · exact .any _
      · split
        · exact .ok _
        · exact .bad _
    split
    · exact h _
    · exact h _
    · exact .bad _
theorem readRow_sim (rows : List (List D)) (sz i o n : Nat) (ag : Bool) : Sim σ σ' (readRow rows sz i o n ag σ) (readRow rows sz i o n ag σ') := by
  unfold readRow
  split
  · refine .row _ fun x => ?_
    by_cases h1 : ag = true
    · rw [if_pos h1, if_pos h1]
      by_cases h2 : x.length = sz
      · rw [if_pos h2, if_pos h2]; exact .ok _
      · rw [if_neg h2]; exact .bad _
    · rw [if_neg h1, if_neg h1]
      by_cases h2 : n = 1
      · rw [if_pos h2, if_pos h2]; exact .opt _
      · rw [if_neg h2]; exact .bad _
  · split
    · exact .need _ (.rows _ fun _ => .ok _)
    · exact .bad _
theorem load_sim (hle : SLe σ σ') (t : TypeId) (p : D) : Sim σ σ' (loadD P t p σ) (loadD P t p σ') := by
  unfold loadD
  split
  · exact .bad _
  · split
    · split
      · rename_i B hB; rw [hle _ _ hB]; exact readRow_sim _ _ _ _ _ _
      · exact .bad _
    · exact readRow_sim _ _ _ _ _ _
    · exact .bad _
theorem indexAddr_sim (hle : SLe σ σ') (t : TypeId) (x : D) (i : Int) : Sim σ σ' (indexAddrD P t x i σ) (indexAddrD P t x i σ') := by
  unfold indexAddrD
  split
  · split
    · exact .bad _
    · split
      · split
        · exact .need _ (.ok _)
        · exact .bad _
      · exact .bad _
      · split
        · rename_i B hB
          rw [hle _ _ hB]
          simp only
          split
          · exact .need _ (.ok _)
          · exact .bad _
        · exact .bad _
      · exact .bad _
  · split
    · split
      · rename_i B hB
        rw [hle _ _ hB]
        simp only
        split
        · exact .need _ (.ok _)
        · exact .bad _
      · exact .bad _
    · split
      · exact .need _ (.ok _)
      · exact .bad _
    · exact .bad _
  · exact .bad _
theorem partA_sim (t : TypeId) (cs : List D) (off : Nat) : Sim σ σ' (partA P t cs off σ) (partA P t cs off σ') := by
  unfold partA
  split
  · split
    · exact .ok _
    · exact .row _ fun _ => .opt _
  · exact .bad _
theorem index_sim (t : TypeId) (x : D) (i : Int) : Sim σ σ' (indexD P t x i σ) (indexD P t x i σ') := by
  unfold indexD
  split
  · split
    · exact .need _ (partA_sim _ _ _)
    · exact .bad _
  · exact .need _ (.row _ fun _ => .opt _)
  · exact .bad _
theorem sliceB_sim {n c : Nat} {lo hi mx : Option Int} {k k' : (l h : Nat) → (m : Option Nat) → ARes} (h : ∀ l h m, Sim σ σ' (k l h m) (k' l h m)) : Sim σ σ' (sliceB n c lo hi mx k) (sliceB n c lo hi mx k') := by
  unfold sliceB
  split
  · exact h _ _ _
  · exact .need _ (h _ _ _)
  · exact .need _ (h _ _ _)
  · exact .need _ (.need _ (h _ _ _))
  · exact .need _ (.need _ (h _ _ _))
  · exact .need _ (.need _ (.need _ (h _ _ _)))
  · exact .bad _
theorem slice_sim (hle : SLe σ σ') (t : TypeId) (x : D) (lo hi mx : Option Int) : Sim σ σ' (sliceD P t x lo hi mx σ) (sliceD P t x lo hi mx σ') := by
  unfold sliceD
  split
  · split
    · exact sliceB_sim fun _ _ _ => .ok _
    · exact .bad _
  · split
    · exact sliceB_sim fun _ _ _ => .ok _
    · exact .bad _
  · split
    · split
      · exact sliceB_sim fun _ _ _ => .rows _ fun _ => .ok _
      · exact .bad _
    · exact .bad _
  · split
    · rename_i n B hn hB
      rw [hn, hle _ _ hB]
      simp only
      split
      · exact sliceB_sim fun _ _ _ => .ok _
      · exact .bad _
    · exact .bad _
  · split
    · rename_i n B hn hB
      rw [hn, hle _ _ hB]
      simp only
      split
      · exact sliceB_sim fun _ _ _ => .ok _
      · exact .bad _
    · exact .bad _
  · exact .bad _
theorem rowsD_mono (hle : SLe σ σ') {x : D} {y : Nat × Bool × Option Nat × List (List D)} (h : rowsD σ x = some y) : rowsD σ' x = some y := by
  cases x <;> simp only [rowsD] at h ⊢ <;> try exact h
  split at h
  · rename_i B hB; rw [hle _ _ hB]; exact h
  · cases h
theorem needN_sim {n : Option Nat} {k : Nat} {r r' : ARes} (h : Sim σ σ' r r') : Sim σ σ' (needN n k r) (needN n k r') := by
  cases n
  · exact h
  · exact .need _ h
theorem conv_sim (hle : SLe σ σ') {s d : TypeId} (hd : ∀ e, P.underlying d ≠ some (.slice e)) (x : D) : Sim σ σ' (convD P s d x σ) (convD P s d x σ') := by
  unfold convD
  split
  · exact .ok _
  · exact .ok _
  · rename_i e l h3 h4; exact absurd (by assumption) (hd _)
  · exact absurd (by assumption) (hd _)
  · split
    · rename_i sz dq n rows h1 h2 h3
      rw [h1, h2, rowsD_mono hle h3]
      simp only
      split
      · exact needN_sim (.str _ fun _ => .ok _)
      · exact .bad _
    · exact .bad _
  · exact .bad _
theorem aop_sim (ρ : Operand → D) (o : Oper) (h1 : kindOf P o.op ≤ 1) (h2 : kindOf P o.op = 0 ∨ SLe σ σ') : Sim σ σ' (aop P ρ o σ) (aop P ρ o σ') := by
  unfold aop
  cases hop : o.op <;> simp only [hop] at h1 h2 ⊢ <;> try (exfalso; simp [kindOf, kindOp] at h1; done)
  case move => exact .ok _
  case assign => exact .ok _
  case pick c a b => cases ρ c <;> first | exact .bad _ | exact .split _ fun _ => .ok _
  case build => exact .opt _
  case load => exact load_sim (h2.resolve_left (by simp [kindOf, kindOp])) _ _
  case nilCheck x => cases ρ x <;> first | exact .bad _ | exact .ok _
  case binOp => exact bin_sim _ _ _ _
  case unOp => exact .opt _
  case convert s d x =>
    have hd : ∀ e, P.underlying d ≠ some (.slice e) := fun e he => by simp [kindOf, kindOp, he] at h1
    by_cases hk : ∃ k, P.underlying d = some (.int k)
    · obtain ⟨k, hk⟩ := hk
      unfold convD
      rw [hk]
      split <;> first | exact .ok _ | exact .bad _ | (exfalso; simp_all; done)
    · have hle : SLe σ σ' := h2.resolve_left (by
        intro h0
        simp only [kindOf, kindOp] at h0
        split at h0
        · simp at h0
        · rename_i he; exact hk ⟨_, he⟩
        · simp at h0)
      exact conv_sim hle hd _
  case makeFunc fn first caps => cases fn <;> first | exact .bad _ | exact .ok _
  case slice t x lo hi mx =>
    have hle := h2.resolve_left (by simp [kindOf, kindOp])
    split
    · exact slice_sim hle _ _ _ _ _
    · exact .bad _
  case fieldAddr => exact .opt _
  case field => exact .opt _
  case indexAddr t x i =>
    have hle := h2.resolve_left (by simp [kindOf, kindOp])
    cases ρ i <;> first | exact .bad _ | exact indexAddr_sim hle _ _ _
  case index t x i => cases ρ i <;> first | exact .bad _ | exact index_sim _ _ _
  case extract x i => cases ρ x <;> first | exact .bad _ | exact .opt _
  case makeInterface t x =>
    split
    · exact .bad _
    · cases ρ x <;> first | exact .bad _ | exact .ok _
    · exact .bad _
  case call c =>
    unfold callD
    cases hc : c.callee with
    | value f =>
      have hle := h2.resolve_left (by simp [kindOf, kindOp, hc])
      simp only
      cases ρ f <;> first | exact .bad _ | exact .yld _ _ _ | skip
      simp only
      split
      · exact .call _ _ hle
      · exact .bad _
    | builtin b =>
      simp only
      unfold builtinD
      cases b <;> try (exfalso; simp [kindOf, kindOp, hc] at h1; done)
      all_goals first
        | exact .opt _
        | (split <;> first
            | exact .bad _
            | (unfold lenOp; split <;> first | exact .ok _ | exact .bad _)
            | (unfold capOp; split <;> first | exact .ok _ | exact .bad _)
            | (simp_all; done))
    | invoke r m => exfalso; simp [kindOf, kindOp, hc] at h1
theorem aop_congr {ρ ρ' : Operand → D} (o : Oper) (h : ∀ x ∈ o.op.operands, ρ x = ρ' x) : aop P ρ o σ = aop P ρ' o σ := by
  unfold aop
  cases hop : o.op <;> rw [hop] at h <;> simp only [Op.operands] at h <;> (try simp only)
  case build t ps => rw [show (ps.toList.map fun p => (p.1, ρ p.2)) = (ps.toList.map fun p => (p.1, ρ' p.2)) from List.map_congr_left fun p hp => by rw [h p.2 (by simp; exact ⟨p.1, by simpa using hp⟩)]]
  case buildSlice t n ps => rw [show (ps.toList.map fun p => (p.1, ρ p.2)) = (ps.toList.map fun p => (p.1, ρ' p.2)) from List.map_congr_left fun p hp => by rw [h p.2 (by simp; exact ⟨p.1, by simpa using hp⟩)]]
  case makeFunc fn first caps =>
    cases fn <;> try rfl
    simp only
    rw [show first.toList.map ρ = first.toList.map ρ' from List.map_congr_left fun x hx => h x (by simp at hx; simp [hx]), show caps.toList.map ρ = caps.toList.map ρ' from List.map_congr_left fun x hx => h x (by simp at hx; simp [hx])]
  case call c =>
    unfold callD
    have hargs : c.args.toList.map ρ = c.args.toList.map ρ' := List.map_congr_left fun x hx => h x (by simp at hx; simp [Call.operands, hx])
    rw [hargs]
    cases hc : c.callee with
    | value f => simp only; rw [h f (by simp [Call.operands, hc])]
    | builtin b => rfl
    | invoke r m => rfl
  case slice t x lo hi mx => cases lo <;> cases hi <;> cases mx <;> simp_all
  all_goals (first | rfl | (simp_all; done))
theorem grow_le {E : Env} {ρ : Operand → D} {o : Oper} (h1 : kindOf P o.op = 2) {d : D} {s : Sto} (hl : Leaf E false σ (aop P ρ o σ) d s) : SLe σ s := by
  have halloc : ∀ t x, Leaf E false σ (allocD P t x σ) d s → SLe σ s := fun t x hl => by
    unfold allocD at hl
    split at hl
    · cases hl; exact SLe.append _ _
    · cases hl
  unfold aop at hl
  cases hop : o.op <;> simp only [hop] at h1 hl <;> try (exfalso; simp [kindOf, kindOp] at h1; done)
  case alloc t =>
    split at hl
    · exact halloc _ _ hl
    · cases hl
  case box t x => exact halloc _ _ hl
  case buildSlice t n ps =>
    unfold buildSliceD at hl
    split at hl
    · split at hl
      · split at hl
        · split at hl
          · cases hl; exact SLe.append _ _
          · cases hl
        · cases hl
      · cases hl
    · cases hl
  case makeSlice t l c =>
    split at hl
    · unfold makeSliceD at hl
      split at hl
      · split at hl
        · split at hl
          · cases hl with
            | need _ hl =>
              cases hl with
              | rows hl =>
                cases hsm : sameOp l c <;> rw [hsm] at hl <;> (cases hl; exact SLe.append _ _)
          · cases hl
        · cases hl
      · cases hl
    · cases hl
  case convert s' d' x =>
    simp only [kindOf, kindOp] at h1
    split at h1
    · rename_i e he
      unfold convD at hl
      split at hl
      · exfalso; simp_all
      · exfalso; simp_all
      · split at hl
        · cases hl with | rows hl => cases hl; exact SLe.append _ _
        · cases hl
      · split at hl
        · split at hl
          · cases hl with | need _ hl => cases hl; exact SLe.refl _
          · cases hl
        · cases hl
      · exfalso; simp_all
      · cases hl
    · cases h1
    · cases h1
  case call c =>
    cases hc : c.callee with
    | builtin b => cases b <;> (exfalso; simp [kindOf, kindOp, hc] at h1)
    | value f => exfalso; simp [kindOf, kindOp, hc] at h1
    | invoke r m => exfalso; simp [kindOf, kindOp, hc] at h1
theorem load_simB {t : TypeId} {p : D} (hle : ∀ b B, blkD p = some b → sget σ b = some B → sget σ' b = some B) : Sim σ σ' (loadD P t p σ) (loadD P t p σ') := by
  unfold loadD
  split
  · exact .bad _
  · split
    · split
      · rename_i B hB; rw [hle _ _ rfl hB]; exact readRow_sim _ _ _ _ _ _
      · exact .bad _
    · exact readRow_sim _ _ _ _ _ _
    · exact .bad _
theorem indexAddr_simB {t : TypeId} {x : D} {i : Int} (hle : ∀ b B, blkD x = some b → sget σ b = some B → sget σ' b = some B) : Sim σ σ' (indexAddrD P t x i σ) (indexAddrD P t x i σ') := by
  unfold indexAddrD
  split
  · split
    · exact .bad _
    · split
      · split
        · exact .need _ (.ok _)
        · exact .bad _
      · exact .bad _
      · split
        · rename_i B hB
          rw [hle _ _ rfl hB]
          simp only
          split
          · exact .need _ (.ok _)
          · exact .bad _
        · exact .bad _
      · exact .bad _
  · split
    · split
      · rename_i B hB
        rw [hle _ _ rfl hB]
        simp only
        split
        · exact .need _ (.ok _)
        · exact .bad _
      · exact .bad _
    · split
      · exact .need _ (.ok _)
      · exact .bad _
    · exact .bad _
  · exact .bad _
theorem aop_simB (ρ : Operand → D) (o : Oper) (h1 : kindOf P o.op ≤ 1) {a : Operand} (hs : softOf o.op = some a) (hle : ∀ b B, blkD (ρ a) = some b → sget σ b = some B → sget σ' b = some B) : Sim σ σ' (aop P ρ o σ) (aop P ρ o σ') := by
  unfold aop
  cases hop : o.op <;> simp only [hop, softOf] at h1 hs ⊢ <;> try (cases hs; done)
  case load => obtain rfl := Option.some.inj hs; exact load_simB hle
  case store => exfalso; simp [kindOf, kindOp] at h1
  case indexAddr t x i =>
    obtain rfl := Option.some.inj hs
    cases ρ i <;> first | exact .bad _ | exact indexAddr_simB hle
  case call c =>
    exfalso
    split at hs
    · rename_i hc _
      simp [kindOf, kindOp, hc] at h1
    · cases hs
theorem sget_set_other {b b' : Nat} {B : Blk} {x : Option Blk} (hne : b ≠ b') (h : sget σ b' = some B) : sget (σ.set b x) b' = some B := by
  rw [← h]
  unfold sget
  rw [List.getElem?_set_ne hne]
theorem leaf_needN {E : Env} {n : Option Nat} {k : Nat} {r : ARes} {d : D} {s : Sto} (h : Leaf E false σ (needN n k r) d s) : Leaf E false σ r d s := by
  unfold needN at h
  split at h
  · exact h
  · cases h with | need _ h => exact h
theorem turn_le {E : Env} {ρ : Operand → D} {o : Oper} (h1 : kindOf P o.op = 3) {a : Operand} (hs : softOf o.op = some a) {d : D} {s : Sto} (hl : Leaf E false σ (aop P ρ o σ) d s) {b : Nat} {B : Blk} (hb : blkD (ρ a) ≠ some b) (h : sget σ b = some B) : sget s b = some B := by
  unfold aop at hl
  cases hop : o.op <;> simp only [hop, softOf] at h1 hs hl <;> try (cases hs; done)
  case load => exfalso; simp [kindOf, kindOp] at h1
  case indexAddr => exfalso; simp [kindOf, kindOp] at h1
  case store t x v =>
    obtain rfl := Option.some.inj hs
    unfold storeD at hl
    split at hl
    · rename_i n cs b' i o' _ _ hx
      have hne : b' ≠ b := fun e => hb (by rw [hx, e]; rfl)
      split at hl
      · split at hl
        · split at hl
          · cases hl with | row _ hl => cases hl with | rows hl => cases hl; exact sget_set_other hne h
          · split at hl
            · cases hl with | need _ hl => cases hl with | rows hl => cases hl; exact sget_set_other hne h
            · cases hl
        · cases hl
      · cases hl
    · cases hl
  case call c =>
    split at hs
    · rename_i s' x' hc ha
      obtain rfl := Option.some.inj hs
      simp only [callD, hc, ha, List.map_cons, List.map_nil] at hl
      have main : ∀ t, Leaf E false σ (appendD P t (ρ s') (ρ x') σ) d s → sget s b = some B := fun t hl => by
        unfold appendD at hl
        split at hl
        · split at hl
          · split at hl
            · have hl := leaf_needN hl
              split at hl
              · cases hl with | need _ hl => cases hl with | rows hl => cases hl; rw [sget_append_left (sget_lt h)]; exact h
              · rename_i b' i len lo ex hx
                have hne : b' ≠ b := fun e => hb (by rw [hx, e]; rfl)
                split at hl
                · split at hl
                  · cases hl with
                    | need _ hl => cases hl with
                      | need _ hl => cases hl with
                        | rows hl =>
                          cases hl
                          have := sget_set_other (x := none) hne h
                          rw [sget_append_left (sget_lt this)]; exact this
                  · cases hl
                · cases hl
              · cases hl
            · cases hl
          · cases hl
        · cases hl
      generalize c.argTypes.toList = ts at hl
      match ts, hl with
      | [], hl => simp only [builtinD] at hl; cases hl
      | [_], hl => simp only [builtinD] at hl; cases hl
      | [t, t'], hl =>
        simp only [builtinD] at hl
        split at hl
        · exact main t hl
        · exact main t hl
        · unfold appendZ at hl
          split at hl
          · split at hl
            · split at hl
              · cases hl with | need _ hl => cases hl with | rows hl => cases hl; rw [sget_append_left (sget_lt h)]; exact h
              · cases hl
            · cases hl
          · cases hl
        · cases hl
      | _ :: _ :: _ :: _, hl => simp only [builtinD] at hl; cases hl
    · cases hs
end
end Go.RX

namespace Go.RX
open Go
def FrOk (dst : Nat → Option Nat) (dv : Nat → D) (fr : Fr) (S : Nat → Prop) (g : Fr) : Prop :=
  ∀ t, (∃ j, S j ∧ dst j = some t ∧ (∀ k, S k → dst k = some t → k ≤ j) ∧ fget g t = dv j) ∨ ((∀ k, S k → dst k ≠ some t) ∧ fget g t = fget fr t)
def StOk (kd : Nat → Nat) (sv : Nat → Sto) (σ0 : Sto) (S : Nat → Prop) (σ : Sto) : Prop :=
  (∃ j, S j ∧ 2 ≤ kd j ∧ (∀ k, S k → 2 ≤ kd k → k ≤ j) ∧ σ = sv j) ∨ ((∀ k, S k → ¬ 2 ≤ kd k) ∧ σ = σ0)
section
variable {dst : Nat → Option Nat} {dv dv' : Nat → D} {fr : Fr} {S S' : Nat → Prop} {g g' : Fr} {kd : Nat → Nat} {sv sv' : Nat → Sto} {σ0 σ σ' : Sto}
theorem FrOk.same (h : FrOk dst dv fr S g) (h' : FrOk dst dv fr S' g') {t : Nat} (e : ∀ k, dst k = some t → (S k ↔ S' k)) : fget g t = fget g' t := by
  rcases h t with ⟨j, h1, h2, h3, h4⟩ | ⟨h1, h2⟩ <;> rcases h' t with ⟨j', k1, k2, k3, k4⟩ | ⟨k1, k2⟩
  · have a := k3 j ((e j h2).1 h1) h2
    have b := h3 j' ((e j' k2).2 k1) k2
    have : j = j' := by omega
    rw [h4, k4, this]
  · exact absurd h2 (k1 j ((e j h2).1 h1))
  · exact absurd k2 (h1 j' ((e j' k2).2 k1))
  · rw [h2, k2]
theorem FrOk.ext (h : FrOk dst dv fr S g) (e : ∀ t, fget g' t = fget g t) : FrOk dst dv fr S g' := fun t => by
  rcases h t with ⟨j, h1, h2, h3, h4⟩ | ⟨h1, h2⟩
  · exact .inl ⟨j, h1, h2, h3, by rw [e, h4]⟩
  · exact .inr ⟨h1, by rw [e, h2]⟩
theorem FrOk.congr (h : FrOk dst dv fr S g) (e : ∀ j, S j → dv' j = dv j) : FrOk dst dv' fr S g := fun t => by
  rcases h t with ⟨j, h1, h2, h3, h4⟩ | ⟨h1, h2⟩
  · exact .inl ⟨j, h1, h2, h3, by rw [e j h1, h4]⟩
  · exact .inr ⟨h1, h2⟩
theorem FrOk.iff (h : FrOk dst dv fr S g) (e : ∀ j, S j ↔ S' j) : FrOk dst dv fr S' g := by
  rw [show S' = S from funext fun j => propext (e j).symm]; exact h
theorem fget_put (g : Fr) (o : Option Nat) (d : D) (t : Nat) : fget (put g o d) t = if o = some t then d else fget g t := by
  cases o with
  | none => simp [put]
  | some s =>
    simp only [put, fset, fget, Bool.cond_eq_ite, Option.some.injEq]
    by_cases h : s = t
    · subst h; rw [if_pos (Nat.beq_refl s), if_pos rfl]
    · rw [if_neg (fun e => h (Nat.eq_of_beq_eq_true e)), if_neg h]
theorem FrOk.put (h : FrOk dst dv fr S g) {i : Nat} {d : D} (hd : dv i = d) (hlast : ∀ k t, S k → dst i = some t → dst k = some t → k ≤ i) : FrOk dst dv fr (fun k => S k ∨ k = i) (put g (dst i) d) := fun t => by
  rw [fget_put]
  by_cases hi : dst i = some t
  · rw [if_pos hi]
    exact .inl ⟨i, .inr rfl, hi, fun k hk hkt => hk.elim (fun hk => hlast k t hk hi hkt) (fun e => by omega), hd.symm⟩
  · rw [if_neg hi]
    rcases h t with ⟨j, h1, h2, h3, h4⟩ | ⟨h1, h2⟩
    · exact .inl ⟨j, .inl h1, h2, fun k hk hkt => hk.elim (fun hk => h3 k hk hkt) (fun e => by subst e; exact absurd hkt hi), h4⟩
    · exact .inr ⟨fun k hk => hk.elim (h1 k) (fun e => by subst e; exact hi), h2⟩
theorem StOk.same (h : StOk kd sv σ0 S σ) (h' : StOk kd sv σ0 S' σ') (e : ∀ k, 2 ≤ kd k → (S k ↔ S' k)) : σ = σ' := by
  rcases h with ⟨j, h1, h2, h3, h4⟩ | ⟨h1, h2⟩ <;> rcases h' with ⟨j', k1, k2, k3, k4⟩ | ⟨k1, k2⟩
  · have a := k3 j ((e j h2).1 h1) h2
    have b := h3 j' ((e j' k2).2 k1) k2
    have : j = j' := by omega
    rw [h4, k4, this]
  · exact absurd h2 (k1 j ((e j h2).1 h1))
  · exact absurd k2 (h1 j' ((e j' k2).2 k1))
  · rw [h2, k2]
theorem StOk.congr (h : StOk kd sv σ0 S σ) (e : ∀ j, S j → sv' j = sv j) : StOk kd sv' σ0 S σ := by
  rcases h with ⟨j, h1, h2, h3, h4⟩ | ⟨h1, h2⟩
  · exact .inl ⟨j, h1, h2, h3, by rw [e j h1, h4]⟩
  · exact .inr ⟨h1, h2⟩
theorem StOk.iff (h : StOk kd sv σ0 S σ) (e : ∀ j, 2 ≤ kd j → (S j ↔ S' j)) : StOk kd sv σ0 S' σ := by
  rcases h with ⟨j, h1, h2, h3, h4⟩ | ⟨h1, h2⟩
  · exact .inl ⟨j, (e j h2).1 h1, h2, fun k hk hc => h3 k ((e k hc).2 hk) hc, h4⟩
  · exact .inr ⟨fun k hk hc => h1 k ((e k hc).2 hk) hc, h2⟩
/-- The list of what turned the blocks. -/
inductive HistOk (kd : Nat → Nat) (sv : Nat → Sto) : Nat → List (Nat × Sto) → Prop
  | nil : HistOk kd sv 0 []
  | skip {i : Nat} {h : List (Nat × Sto)} : HistOk kd sv i h → ¬ 2 ≤ kd i → HistOk kd sv (i + 1) h
  | cons {i : Nat} {h : List (Nat × Sto)} : HistOk kd sv i h → 2 ≤ kd i → HistOk kd sv (i + 1) ((i, sv i) :: h)
theorem HistOk.congr {i : Nat} {h : List (Nat × Sto)} (hh : HistOk kd sv i h) (e : ∀ j, j < i → sv' j = sv j) : HistOk kd sv' i h := by
  induction hh with
  | nil => exact .nil
  | skip _ hk ih => exact .skip (ih fun j hj => e j (by omega)) hk
  | @cons i h _ hk ih => rw [← e i (by omega)]; exact .cons (ih fun j hj => e j (by omega)) hk
theorem lt_succ_cases {j i : Nat} (h : j < i + 1) : j < i ∨ j = i := by omega
theorem HistOk.get {i : Nat} {h : List (Nat × Sto)} (hh : HistOk kd sv i h) (mask : Nat) : StOk kd sv σ0 (fun j => j < i ∧ mask.testBit j = true) (histGet mask σ0 h) := by
  induction hh with
  | nil => exact .inr ⟨fun k hk => absurd hk.1 (Nat.not_lt_zero _), rfl⟩
  | @skip i h _ hk ih =>
    refine ih.iff fun j hc => ⟨fun x => ⟨Nat.lt_succ_of_lt x.1, x.2⟩, fun x => ⟨?_, x.2⟩⟩
    rcases lt_succ_cases x.1 with h | h
    · exact h
    · subst h; exact absurd hc hk
  | @cons i h _ hk ih =>
    simp only [histGet]
    cases hb : mask.testBit i with
    | true => exact .inl ⟨i, ⟨Nat.lt_succ_self i, hb⟩, hk, fun k h1 _ => Nat.le_of_lt_succ h1.1, rfl⟩
    | false =>
      refine ih.iff fun j hc => ⟨fun x => ⟨Nat.lt_succ_of_lt x.1, x.2⟩, fun x => ⟨?_, x.2⟩⟩
      rcases lt_succ_cases x.1 with h | h
      · exact h
      · subst h; rw [hb] at x; cases x.2
theorem HistOk.last {i : Nat} {h : List (Nat × Sto)} (hh : HistOk kd sv i h) : StOk kd sv σ0 (fun j => j < i) (lastSt σ0 h) := by
  induction hh with
  | nil => exact .inr ⟨fun k hk => absurd hk (Nat.not_lt_zero _), rfl⟩
  | @skip i h _ hk ih => exact ih.iff fun j hc => ⟨fun x => Nat.lt_succ_of_lt x, fun x => (lt_succ_cases x).elim id fun e => by subst e; exact absurd hc hk⟩
  | @cons i h _ hk ih => exact .inl ⟨i, Nat.lt_succ_self i, hk, fun k h1 _ => Nat.le_of_lt_succ h1, rfl⟩
end
section
variable {E : Env} {C : Cx} {Q : D → Sto → Prop} {w w' : World} {Im Im' : Nat → Prop} {φ φ' : Phi} {σ σ' : Sto}
def slotOf (all : List Oper) (j : Nat) : Option Nat := match all[j]? with | some g => g.dst | none => none
/-- What an operation came to. -/
inductive OpF (E : Env) (all : List Oper) (o : Oper) (g : Fr) (τ : Sto) : D → Sto → Prop
  | lit {d : D} : o.guard = none → litOp all o = true → litD E.P (evalD E.gl g) o = some d → OpF E all o g τ d τ
  | run {d : D} {s : Sto} : litOp all o = false → soloOk E g τ o = true → (o.guard = none ∨ ∃ j want sl b, o.guard = some (j, want) ∧ slotOf all j = some sl ∧ fget g sl = .bool b ∧ (b == want) = true) → Leaf E (kOp E.kp o.op) τ (aop E.P (evalD E.gl g) o τ) d s → OpF E all o g τ d s
  | off {j sl : Nat} {want b : Bool} : o.guard = some (j, want) → slotOf all j = some sl → fget g sl = .bool b → (b == want) = false → OpF E all o g τ (.tup []) τ
  | gone {j sl : Nat} {want : Bool} {vs : List D} : o.guard = some (j, want) → slotOf all j = some sl → fget g sl = .tup vs → OpF E all o g τ (.tup []) τ
theorem fset_same {g : Fr} {s : Nat} {d : D} (h : fget g s = d) (t : Nat) : fget (fset g s d) t = fget g t := by
  have := fget_put g (some s) d t
  simp only [put] at this
  rw [this]
  split
  · rename_i e; cases e; exact h.symm
  · rfl
theorem evalD_ext {g g' : Fr} (h : ∀ t, fget g t = fget g' t) : evalD E.gl g = evalD E.gl g' := funext fun x => by
  cases x <;> simp only [evalD]
  exact h _
theorem step_fact {n : Nat} {all : List Oper} {o : Oper} {g : Fr} {τ : Sto} {k : Fr → Sto → Qy} (hq : FinQ E C Q (stepOp E true n all o g τ k)) :
    dstOk n o.dst = true ∧ ∃ d s g', OpF E all o g τ d s ∧ (∀ t, fget g' t = fget g t) ∧ FinQ E C Q (k (put g' o.dst d) s) := by
  unfold stepOp at hq
  cases hd : dstOk n o.dst with
  | false => simp only [hd, cond_false] at hq; exact hq.elim
  | true =>
    simp only [hd, cond_true] at hq
    refine ⟨rfl, ?_⟩
    cases hlit : litOp all o with
    | true =>
      simp only [hlit, Bool.and_self, cond_true] at hq
      split at hq
      · rename_i d hd
        have hg : o.guard = none := by
          have := hlit
          simp only [litOp, Bool.and_eq_true, Option.isNone_iff_eq_none] at this
          exact this.1
        exact ⟨d, τ, g, .lit hg hlit hd, fun _ => rfl, hq⟩
      · exact hq.elim
    | false =>
    simp only [hlit, Bool.and_false, cond_false] at hq
    cases hso : soloOk E g τ o with
    | false => simp only [hso, Bool.not_false, Bool.and_self, cond_true] at hq; exact hq.elim
    | true =>
    simp only [hso, Bool.not_true, Bool.and_false, cond_false] at hq
    cases hg : o.guard with
    | none =>
      simp only [hg] at hq
      obtain ⟨d, s, h1, h2⟩ := conv_leaf _ hq
      exact ⟨d, s, g, .run hlit hso (.inl hg) h1, fun _ => rfl, h2⟩
    | some gw =>
      obtain ⟨j, want⟩ := gw
      simp only [hg] at hq
      split at hq
      · exact hq.elim
      · rename_i sl hs
        split at hq
        · rename_i b hb
          have hq' : FinQ E C Q (bif b == want then conv E true (kOp E.kp o.op) (fun d st => k (put (fset g sl (.bool b)) o.dst d) st) τ (aop E.P (evalD E.gl (fset g sl (.bool b))) o τ) else k (put (fset g sl (.bool b)) o.dst (.tup [])) τ) := hq
          have he := fset_same hb
          cases hbw : (b == want) with
          | true =>
            rw [hbw] at hq'
            obtain ⟨d, s, h1, h2⟩ := conv_leaf _ hq'
            rw [evalD_ext he] at h1
            exact ⟨d, s, _, .run hlit hso (.inr ⟨j, want, sl, b, hg, hs, hb, hbw⟩) h1, he, h2⟩
          | false =>
            rw [hbw] at hq'
            exact ⟨_, τ, _, .off hg hs hb hbw, he, hq'⟩
        · rename_i vs hb
          exact ⟨_, τ, g, .gone hg hs hb, fun _ => rfl, hq⟩
        · exact hq.elim
def tDst (tabs : List OpTab) (j : Nat) : Option Nat := match tabs[j]? with | some t => t.dst | none => none
def tKd (tabs : List OpTab) (j : Nat) : Nat := match tabs[j]? with | some t => t.kind | none => 0
def tLk (tabs : List OpTab) (j : Nat) : List Nat := match tabs[j]? with | some t => t.looks | none => []
def tBf (tabs : List OpTab) (j k : Nat) : Bool := match tabs[j]? with | some t => t.before.testBit k | none => false
def tSf (tabs : List OpTab) (j : Nat) : Option Operand := match tabs[j]? with | some t => t.soft | none => none
def SPair (tabs : List OpTab) (j k : Nat) : Prop := ∃ tj tk, tabs[j]? = some tj ∧ tabs[k]? = some tk ∧ softPair tj tk = true
theorem softOk_get {t : OpTab} {b : Option Nat} : ∀ {bl : List (Nat × OpTab × Option Nat)}, softOk t b bl = true → ∀ x ∈ bl, t.before.testBit x.1 = true ∨ softPair t x.2.1 = false ∨ dis t x.2.1 b x.2.2 = true
  | [], _, x, hx => by simp at hx
  | y :: r, h, x, hx => by
    simp only [softOk, Bool.and_eq_true, Bool.or_eq_true, Bool.not_eq_true'] at h
    rcases List.mem_cons.1 hx with rfl | hx
    · rcases h.1 with (h | h) | h
      · exact .inl h
      · exact .inr (.inl h)
      · exact .inr (.inr h)
    · exact softOk_get h.2 x hx
def BlOk (tabs : List OpTab) (bv : Nat → Option Nat) (i : Nat) (bl : List (Nat × OpTab × Option Nat)) : Prop := ∀ k t, k < i → tabs[k]? = some t → (k, t, bv k) ∈ bl
structure Fact (E : Env) (n : Nat) (all : List Oper) (tabs : List OpTab) (fr : Fr) (σ0 : Sto) (dv : Nat → D) (sv : Nat → Sto) (bv : Nat → Option Nat) (j : Nat) (o : Oper) : Prop where
  dst : dstOk n o.dst = true
  fact : ∃ g τ, FrOk (tDst tabs) dv fr (fun x => x < j) g ∧ StOk (tKd tabs) sv σ0 (fun x => x < j ∧ tBf tabs j x = true) τ ∧ OpF E all o g τ (dv j) (sv j) ∧ bv j = blkOf E.gl (tSf tabs j) g
  dis : ∀ k, k < j → tBf tabs j k = false → ∀ tj tk, tabs[j]? = some tj → tabs[k]? = some tk → softPair tj tk = true → dis tj tk (bv j) (bv k) = true
theorem region_facts {n : Nat} {all : List Oper} {tabs : List OpTab} (hdst : ∀ (i : Nat) (o : Oper) (t : OpTab), all[i]? = some o → tabs[i]? = some t → t.dst = o.dst) {fr : Fr} {σ0 : Sto} {k : Fr → Sto → Qy} :
    ∀ (l : List Oper) (ts : List OpTab) (i : Nat) (g : Fr) (hist : List (Nat × Sto)) (bl : List (Nat × OpTab × Option Nat)) (dv : Nat → D) (sv : Nat → Sto) (bv : Nat → Option Nat), (∀ x, l[x]? = all[i + x]?) → (∀ x, ts[x]? = tabs[i + x]?) →
    HistOk (tKd tabs) sv i hist → BlOk tabs bv i bl → FrOk (tDst tabs) dv fr (fun x => x < i) g → FinQ E C Q (regionL E n all σ0 k i l ts g hist bl) →
    ∃ dv' sv' bv', (∀ j, j < i → dv' j = dv j ∧ sv' j = sv j ∧ bv' j = bv j) ∧ (∀ j o, i ≤ j → all[j]? = some o → Fact E n all tabs fr σ0 dv' sv' bv' j o) ∧
      ∃ g' σ', FrOk (tDst tabs) dv' fr (fun x => x < i + l.length) g' ∧ StOk (tKd tabs) sv' σ0 (fun x => x < i + l.length) σ' ∧ FinQ E C Q (k g' σ')
  | [], [], i, g, hist, bl, dv, sv, bv, hl, ht, hh, hbl, hf, hq => by
    simp only [regionL] at hq
    refine ⟨dv, sv, bv, fun _ _ => ⟨rfl, rfl, rfl⟩, fun j o hj ho => ?_, g, _, by simpa using hf, by simpa using hh.last, hq⟩
    have := hl (j - i)
    rw [show i + (j - i) = j by omega, ho] at this
    simp at this
  | [], t :: ts, i, g, hist, bl, dv, sv, bv, hl, ht, hh, hbl, hf, hq => by simp only [regionL] at hq; exact hq.elim
  | o :: l, [], i, g, hist, bl, dv, sv, bv, hl, ht, hh, hbl, hf, hq => by simp only [regionL] at hq; exact hq.elim
  | o :: l, t :: ts, i, g, hist, bl, dv, sv, bv, hl, ht, hh, hbl, hf, hq => by
    simp only [regionL] at hq
    cases hso : softOk t (blkOf E.gl t.soft g) bl with
    | false => rw [hso] at hq; exact hq.elim
    | true =>
    rw [hso] at hq
    simp only [cond_true] at hq
    have ho : all[i]? = some o := by have := hl 0; simpa using this.symm
    have hti : tabs[i]? = some t := by have := ht 0; simpa using this.symm
    obtain ⟨h1, d, s, g', h2, h3, h4⟩ := step_fact hq
    have hd : tDst tabs i = o.dst := by simp only [tDst, hti]; exact hdst i o t ho hti
    have hk : tKd tabs i = t.kind := by simp only [tKd, hti]
    let dv1 : Nat → D := fun j => if j = i then d else dv j
    let sv1 : Nat → Sto := fun j => if j = i then s else sv j
    let bv1 : Nat → Option Nat := fun j => if j = i then blkOf E.gl t.soft g else bv j
    have e5 : ∀ j, j < i → bv1 j = bv j := fun j hj => by simp only [bv1]; rw [if_neg (by omega)]
    have e6 : bv1 i = blkOf E.gl t.soft g := by simp only [bv1]; rw [if_pos trivial]
    have hbl1 : BlOk tabs bv1 (i + 1) ((i, t, blkOf E.gl t.soft g) :: bl) := fun k t' hk htk => by
      rcases lt_succ_cases hk with h | h
      · rw [e5 k h]; exact List.mem_cons_of_mem _ (hbl k t' h htk)
      · subst h
        rw [hti] at htk
        obtain rfl := Option.some.inj htk
        rw [e6]; exact List.mem_cons_self
    have e1 : ∀ j, j < i → dv1 j = dv j := fun j hj => by simp only [dv1]; rw [if_neg (by omega)]
    have e2 : ∀ j, j < i → sv1 j = sv j := fun j hj => by simp only [sv1]; rw [if_neg (by omega)]
    have e3 : dv1 i = d := by simp only [dv1]; rw [if_pos trivial]
    have e4 : sv1 i = s := by simp only [sv1]; rw [if_pos trivial]
    have hf1 : FrOk (tDst tabs) dv1 fr (fun x => x < i + 1) (put g' o.dst d) := by
      have := ((hf.congr e1).ext h3).put (i := i) e3 (fun k t hk _ _ => by omega)
      rw [hd] at this
      exact this.iff fun j => by omega
    have hh1 : HistOk (tKd tabs) sv1 (i + 1) (bif Nat.ble 2 t.kind then (i, s) :: hist else hist) := by
      cases hb : Nat.ble 2 t.kind with
      | true =>
        rw [← e4]
        exact .cons (hh.congr e2) (by rw [hk]; exact Nat.le_of_ble_eq_true hb)
      | false =>
        refine .skip (hh.congr e2) (fun h => ?_)
        rw [hk] at h
        rw [Nat.ble_eq_true_of_le h] at hb; cases hb
    obtain ⟨dv', sv', bv', a1, a2, g2, s2, a3, a4, a5⟩ := region_facts hdst l ts (i + 1) _ _ _ dv1 sv1 bv1 (fun x => by have := hl (x + 1); simpa [Nat.add_assoc, Nat.add_comm 1] using this) (fun x => by have := ht (x + 1); simpa [Nat.add_assoc, Nat.add_comm 1] using this) hh1 hbl1 hf1 h4
    refine ⟨dv', sv', bv', fun j hj => ⟨by rw [(a1 j (by omega)).1, e1 j hj], by rw [(a1 j (by omega)).2.1, e2 j hj], by rw [(a1 j (by omega)).2.2, e5 j hj]⟩, fun j o' hj ho' => ?_, g2, s2, a3.iff fun j => by simp; omega, a4.iff fun j _ => by simp; omega, a5⟩
    rcases Nat.lt_or_ge i j with hlt | hge
    · exact a2 j o' hlt ho'
    · have : j = i := by omega
      subst this
      rw [ho] at ho'
      obtain rfl := Option.some.inj ho'
      refine ⟨h1, ⟨g, histGet t.before σ0 hist, hf.congr (fun x hx => by rw [(a1 x (by omega)).1, e1 x hx]), ?_, ?_, ?_⟩, ?_⟩
      · have := (hh.get (σ0 := σ0) t.before).congr (sv' := sv') (fun x hx => by rw [(a1 x (by omega)).2.1, e2 x hx.1])
        refine this.iff fun x _ => ?_
        simp only [tBf, hti]
      · rw [(a1 j (by omega)).1, (a1 j (by omega)).2.1, e3, e4]
        exact h2
      · rw [(a1 j (by omega)).2.2, e6]
        simp only [tSf, hti]
      · intro k hk hbf tj tk q1 q2 q3
        rw [hti] at q1
        obtain rfl := Option.some.inj q1
        rw [(a1 j (by omega)).2.2, e6, (a1 k (by omega)).2.2, e5 k hk]
        rcases softOk_get hso _ (hbl k tk hk q2) with h | h | h
        · simp only [tBf, hti] at hbf; rw [hbf] at h; cases h
        · rw [q3] at h; cases h
        · exact h
end
end Go.RX

namespace Go.RX
open Go
/-! ### the tables -/
theorem pairsOk_get {ti : OpTab} : ∀ (l : List OpTab) (k : Nat), pairsOk ti k l = true → ∀ (j : Nat) (tj : OpTab), l[j]? = some tj → pairOk (k + j) tj ti = true
  | [], _, _, j, tj, h => by simp at h
  | t :: l, k, h, j, tj, hj => by
    simp only [pairsOk, Bool.and_eq_true] at h
    cases j with
    | zero => simp at hj; subst hj; exact h.1
    | succ j => have := pairsOk_get l (k + 1) h.2 j tj (by simpa using hj); rwa [show k + 1 + j = k + (j + 1) by omega] at this
theorem tabsOk_get : ∀ (ts pre : List OpTab), tabsOk pre ts = true → ∀ (i j : Nat) (ti tj : OpTab), pre.length ≤ i → (pre ++ ts)[i]? = some ti → j < i → (pre ++ ts)[j]? = some tj → pairOk j tj ti = true
  | [], pre, _, i, j, ti, tj, h1, h2, _, _ => by
    exfalso
    rw [List.append_nil] at h2
    have := (List.getElem?_eq_some_iff.1 h2).1
    omega
  | t :: ts, pre, h, i, j, ti, tj, h1, h2, h3, h4 => by
    simp only [tabsOk, Bool.and_eq_true] at h
    rcases Nat.lt_or_ge pre.length i with hlt | hge
    · refine tabsOk_get ts (pre ++ [t]) h.2 i j ti tj (by simp; omega) ?_ h3 ?_
      · simpa using h2
      · simpa using h4
    · have he : i = pre.length := by omega
      subst he
      rw [List.getElem?_append_right (Nat.le_refl _)] at h2
      simp at h2
      subst h2
      rw [List.getElem?_append_left h3] at h4
      have := pairsOk_get pre 0 h.1 j tj h4
      rwa [Nat.zero_add] at this
theorem fold_bit (masks : List Nat) (j : Nat) : ∀ (l : List Edge) (s : Nat), (l.foldl (fun s e => bif Region.binds .any e then s ||| (2 ^ e.on) ||| masks.getD e.on 0 else s) s).testBit j = true →
    s.testBit j = true ∨ ∃ e ∈ l, Region.binds .any e = true ∧ (j = e.on ∨ (masks.getD e.on 0).testBit j = true)
  | [], s, h => .inl h
  | e :: l, s, h => by
    rcases fold_bit masks j l _ h with h1 | ⟨e', he, h2⟩
    · cases hb : Region.binds .any e with
      | false => simp only [hb, cond_false] at h1; exact .inl h1
      | true =>
        simp only [hb, cond_true, Nat.testBit_or, Bool.or_eq_true, Nat.testBit_two_pow, decide_eq_true_eq] at h1
        rcases h1 with (h1 | h1) | h1
        · exact .inl h1
        · exact .inr ⟨e, by simp, hb, .inl h1.symm⟩
        · exact .inr ⟨e, by simp, hb, .inr h1⟩
    · exact .inr ⟨e', by simp [he], h2⟩
theorem masksOf_spec : ∀ (l : List Oper) (acc : List Nat), (masksOf l acc).length = acc.length + l.length ∧ (∀ i, i < acc.length → (masksOf l acc)[i]? = acc[i]?) ∧
    ∀ (x : Nat) (o : Oper), l[x]? = some o → (masksOf l acc)[acc.length + x]? = some (beforeOf o ((masksOf l acc).take (acc.length + x)))
  | [], acc => ⟨rfl, fun _ _ => rfl, fun x o h => by simp at h⟩
  | o :: l, acc => by
    obtain ⟨h1, h2, h3⟩ := masksOf_spec l (acc ++ [beforeOf o acc])
    simp only [masksOf]
    refine ⟨by rw [h1]; simp; omega, fun i hi => ?_, fun x o' hx => ?_⟩
    · rw [h2 i (by simp; omega), List.getElem?_append_left hi]
    · cases x with
      | zero =>
        simp at hx
        subst hx
        rw [Nat.add_zero, h2 acc.length (by simp), List.getElem?_append_right (Nat.le_refl _)]
        simp only [Nat.sub_self, List.getElem?_cons_zero, Option.some.injEq]
        congr 1
        refine List.ext_getElem? fun i => ?_
        rw [List.getElem?_take]
        split
        · rename_i hi; rw [h2 i (by simp; omega), List.getElem?_append_left hi]
        · simp; omega
      | succ x =>
        have := h3 x o' (by simpa using hx)
        simp only [List.length_append, List.length_singleton] at this
        rwa [show acc.length + 1 + x = acc.length + (x + 1) by omega] at this
theorem edges_get : ∀ (l : List Oper) (i : Nat), edgesOkL i l = true → ∀ (x : Nat) (o : Oper), l[x]? = some o → ∀ e ∈ o.after, Region.binds .any e = true → e.on < i + x
  | [], _, _, x, o, h => by simp at h
  | o :: l, i, h, x, o', hx => by
    simp only [edgesOkL, Bool.and_eq_true, List.all_eq_true, Bool.or_eq_true, Bool.not_eq_true'] at h
    cases x with
    | zero =>
      simp at hx
      subst hx
      intro e he hb
      rcases h.1 e (by simpa using he) with h1 | h1
      · rw [h1] at hb; cases hb
      · exact Nat.le_of_ble_eq_true h1
    | succ x =>
      intro e he hb
      have := edges_get l (i + 1) h.2 x o' (by simpa using hx) e he hb
      omega
section
variable {P : Program} {K : FuncId → Nat} {ops : Array Oper}
theorem tab_len : (tabOf P K ops).length = ops.size := by
  simp [tabOf, (masksOf_spec ops.toList []).1]
theorem tab_get {i : Nat} {o : Oper} {t : OpTab} (ho : ops.toList[i]? = some o) (ht : (tabOf P K ops)[i]? = some t) :
    t.looks = o.looksAt ops ∧ t.dst = o.dst ∧ t.kind = kindT P K ops.toList o ∧ t.before = beforeOf o ((masksOf ops.toList []).take i) := by
  simp only [tabOf, List.getElem?_map, Option.map_eq_some_iff, List.getElem?_zip_eq_some, Prod.exists] at ht
  obtain ⟨o', m, ⟨h1, h2⟩, rfl⟩ := ht
  rw [ho] at h1
  obtain rfl := Option.some.inj h1
  have := (masksOf_spec ops.toList []).2.2 i o ho
  simp only [List.length_nil, Nat.zero_add] at this
  rw [h2] at this
  exact ⟨rfl, rfl, rfl, Option.some.inj this⟩
theorem tab_soft {i : Nat} {o : Oper} {t : OpTab} (ho : ops.toList[i]? = some o) (ht : (tabOf P K ops)[i]? = some t) : t.soft = softK K o.op := by
  simp only [tabOf, List.getElem?_map, Option.map_eq_some_iff, List.getElem?_zip_eq_some, Prod.exists] at ht
  obtain ⟨o', m, ⟨h1, h2⟩, rfl⟩ := ht
  rw [ho] at h1
  obtain rfl := Option.some.inj h1
  rfl
theorem tab_some {i : Nat} (hi : i < ops.size) : ∃ o t, ops.toList[i]? = some o ∧ (tabOf P K ops)[i]? = some t :=
  ⟨ops[i], (tabOf P K ops)[i]'(by rw [tab_len]; exact hi), by simp [hi], by simp [tab_len, hi]⟩
theorem tBf_spec {i j : Nat} (h : tBf (tabOf P K ops) i j = true) : ∃ o, ops.toList[i]? = some o ∧ ∃ e ∈ o.after, Region.binds .any e = true ∧ (j = e.on ∨ tBf (tabOf P K ops) e.on j = true) := by
  simp only [tBf] at h
  split at h
  · rename_i t ht
    have hlt := (List.getElem?_eq_some_iff.1 ht).1
    rw [tab_len] at hlt
    obtain ⟨o, t', ho, ht'⟩ := tab_some (P := P) (K := K) hlt
    rw [(tab_get ho ht).2.2.2] at h
    refine ⟨o, ho, ?_⟩
    rcases fold_bit _ j _ 0 h with h1 | ⟨e, he, hb, h1⟩
    · simp at h1
    · refine ⟨e, by simpa using he, hb, h1.imp id fun h1 => ?_⟩
      have hm : ((masksOf ops.toList []).take i)[e.on]? = some (((masksOf ops.toList []).take i).getD e.on 0) := by
        cases hx : ((masksOf ops.toList []).take i)[e.on]? with
        | none => rw [List.getD_eq_getElem?_getD, hx] at h1; simp at h1
        | some x => rw [List.getD_eq_getElem?_getD, hx]; rfl
      have hl := (List.getElem?_eq_some_iff.1 hm).1
      have hon : e.on < ops.size := by simp [(masksOf_spec ops.toList []).1] at hl; omega
      obtain ⟨o2, t2, ho2, ht2⟩ := tab_some (P := P) (K := K) hon
      simp only [tBf, ht2]
      have hms : (masksOf ops.toList [])[e.on]? = some (((masksOf ops.toList []).take i).getD e.on 0) := by
        rw [List.getElem?_take] at hm
        split at hm
        · exact hm
        · cases hm
      have := (masksOf_spec ops.toList []).2.2 e.on o2 ho2
      simp only [List.length_nil, Nat.zero_add] at this
      rw [hms] at this
      rw [(tab_get ho2 ht2).2.2.2, ← Option.some.inj this]
      exact h1
  · cases h
theorem tab_pair (h : tabsOk [] (tabOf P K ops) = true) {i j : Nat} (hi : i < ops.size) (hj : j < i) :
    tBf (tabOf P K ops) i j = true ∨ (hasSlot (tLk (tabOf P K ops) i) (tDst (tabOf P K ops) j) = false ∧ hasSlot (tLk (tabOf P K ops) j) (tDst (tabOf P K ops) i) = false ∧
      sameSlot (tDst (tabOf P K ops) i) (tDst (tabOf P K ops) j) = false ∧ (clash (tKd (tabOf P K ops) i) (tKd (tabOf P K ops) j) = false ∨ SPair (tabOf P K ops) i j)) := by
  obtain ⟨o, t, ho, ht⟩ := tab_some (P := P) (K := K) hi
  obtain ⟨o', t', ho', ht'⟩ := tab_some (P := P) (K := K) (Nat.lt_trans hj hi)
  have := tabsOk_get _ _ h i j t t' (by simp) ht hj ht'
  simp only [pairOk, Bool.or_eq_true, Bool.not_eq_true', Bool.or_eq_false_iff, Bool.and_eq_false_iff, Bool.not_eq_false'] at this
  simp only [tBf, tLk, tDst, tKd, ht, ht']
  exact this.imp id fun x => ⟨x.1.1.1, x.1.1.2, x.1.2, x.2.imp id fun h => ⟨t, t', ht, ht', h⟩⟩
end
/-! ### how many are left -/
def cnt (p : Nat → Bool) : Nat → Nat
  | 0 => 0
  | n + 1 => cnt p n + (if p n then 1 else 0)
theorem cnt_zero {p : Nat → Bool} : ∀ (n : Nat), cnt p n = 0 → ∀ i, i < n → p i = false
  | n + 1, h, i, hi => by
    simp only [cnt] at h
    rcases lt_succ_cases hi with h1 | h1
    · exact cnt_zero n (by omega) i h1
    · subst h1
      cases hp : p i with
      | false => rfl
      | true => rw [hp] at h; simp at h
theorem cnt_congr {p p' : Nat → Bool} : ∀ (n : Nat), (∀ i, i < n → p i = p' i) → cnt p n = cnt p' n
  | 0, _ => rfl
  | n + 1, h => by simp only [cnt]; rw [cnt_congr n (fun i hi => h i (by omega)), h n (by omega)]
theorem cnt_drop {p p' : Nat → Bool} {i : Nat} (h1 : p i = true) (h2 : p' i = false) (h3 : ∀ j, j ≠ i → p' j = p j) : ∀ (n : Nat), i < n → cnt p n = cnt p' n + 1
  | n + 1, hi => by
    simp only [cnt]
    rcases lt_succ_cases hi with h | h
    · rw [cnt_drop h1 h2 h3 n h, h3 n (by omega)]; omega
    · subst h
      rw [h1, h2, cnt_congr i (fun j hj => (h3 j (by omega)).symm)]
      simp
/-! ### any order -/
section
variable {E : Env} {C : Cx} {Q : D → Sto → Prop} {w w' : World} {Im Im' : Nat → Prop} {φ φ' : Phi} {σ σ' : Sto} {ops : Array Oper} {fr : Fr} {σ0 : Sto} {dv : Nat → D} {sv : Nat → Sto}
/-- A set of operations that have been carried out. -/
structure Done (E : Env) (ops : Array Oper) (S : Nat → Prop) : Prop where
  lt : ∀ i, S i → i < ops.size
  cl : ∀ i j, S i → tBf (tabOf E.P E.kp ops) i j = true → S j
theorem hasSlot_false {l : List Nat} {t : Nat} {o : Option Nat} (h : hasSlot l o = false) (ho : o = some t) (ht : t ∈ l) : False := by
  subst ho; simp [hasSlot] at h; exact h ht
theorem sameSlot_false {a b : Option Nat} {t : Nat} (h : sameSlot a b = false) (ha : a = some t) (hb : b = some t) : False := by
  subst ha; subst hb; simp only [sameSlot, Nat.beq_refl] at h; cases h
theorem clash_22 {a b : Nat} (ha : 2 ≤ a) (hb : 2 ≤ b) : clash a b = true := by
  simp only [clash, Nat.ble_eq_true_of_le ha, Nat.ble_eq_true_of_le hb]; rfl
theorem clash_13 {a b : Nat} (ha : 1 ≤ a) (hb : b = 3) : clash a b = true := by
  subst hb; simp only [clash, Nat.ble_eq_true_of_le ha]; simp [Nat.beq]
theorem clash_31 {a b : Nat} (ha : 1 ≤ a) (hb : b = 3) : clash b a = true := by
  subst hb; simp only [clash, Nat.ble_eq_true_of_le ha]; simp [Nat.beq]
theorem kindOp_le (op : Op) : kindOp op ≤ 4 := by
  unfold kindOp
  split <;> (try split) <;> omega
theorem kindOf_le (P : Program) (op : Op) : kindOf P op ≤ 3 := by
  have h := kindOp_le op
  unfold kindOf
  generalize kindOp op = k at h
  match k, h with
  | 0, _ => simp
  | 1, _ => simp
  | 2, _ => simp
  | 3, _ => simp
  | 4, _ =>
    simp only
    split
    · split <;> omega
    · omega
theorem SPair.kd {tabs : List OpTab} {i j : Nat} (h : SPair tabs i j) : (tKd tabs i = 1 ∧ tKd tabs j = 3) ∨ (tKd tabs i = 3 ∧ tKd tabs j = 1) := by
  obtain ⟨ti, tj, h1, h2, h3⟩ := h
  simp only [softPair, Bool.and_eq_true, Bool.or_eq_true] at h3
  simp only [tKd, h1, h2]
  exact h3.imp (fun h => ⟨Nat.eq_of_beq_eq_true h.1.2, Nat.eq_of_beq_eq_true h.2⟩) (fun h => ⟨Nat.eq_of_beq_eq_true h.1.1, Nat.eq_of_beq_eq_true h.2⟩)
theorem SPair.looks {tabs : List OpTab} {i j : Nat} (h : SPair tabs i j) : (tKd tabs i = 1 → ∃ a, tSf tabs i = some a) ∧ (tKd tabs j = 1 → ∃ a, tSf tabs j = some a) := by
  obtain ⟨ti, tj, h1, h2, h3⟩ := h
  simp only [softPair, Bool.and_eq_true, Bool.or_eq_true] at h3
  simp only [tSf, tKd, h1, h2]
  refine ⟨fun hk => ?_, fun hk => ?_⟩
  · rcases h3 with h3 | h3
    · exact Option.isSome_iff_exists.1 h3.1.1
    · have := Nat.eq_of_beq_eq_true h3.1.1; omega
  · rcases h3 with h3 | h3
    · have := Nat.eq_of_beq_eq_true h3.2; omega
    · exact Option.isSome_iff_exists.1 h3.1.2
theorem later {S : Nat → Prop} (hD : Done E ops S) (hT : tabsOk [] (tabOf E.P E.kp ops) = true) {i : Nat} (hi : i < ops.size) (hn : ¬ S i) (hb : ∀ j, tBf (tabOf E.P E.kp ops) i j = true → S j) {k : Nat} (hk : S k) (h : ¬ k < i) : i < k ∧ (hasSlot (tLk (tabOf E.P E.kp ops) k) (tDst (tabOf E.P E.kp ops) i) = false ∧ hasSlot (tLk (tabOf E.P E.kp ops) i) (tDst (tabOf E.P E.kp ops) k) = false ∧
      sameSlot (tDst (tabOf E.P E.kp ops) k) (tDst (tabOf E.P E.kp ops) i) = false ∧ (clash (tKd (tabOf E.P E.kp ops) k) (tKd (tabOf E.P E.kp ops) i) = false ∨ SPair (tabOf E.P E.kp ops) k i)) := by
  have hne : k ≠ i := fun e => hn (e ▸ hk)
  have hlt : i < k := by omega
  refine ⟨hlt, (tab_pair hT (hD.lt k hk) hlt).resolve_left fun h => hn (hD.cl k i hk h)⟩
theorem looks_same {S : Nat → Prop} (hD : Done E ops S) (hT : tabsOk [] (tabOf E.P E.kp ops) = true) {i : Nat} (hi : i < ops.size) (hn : ¬ S i) (hb : ∀ j, tBf (tabOf E.P E.kp ops) i j = true → S j) {t : Nat} (ht : t ∈ tLk (tabOf E.P E.kp ops) i) (k : Nat) (hk : tDst (tabOf E.P E.kp ops) k = some t) : S k ↔ k < i := by
  constructor
  · intro hs
    rcases Nat.lt_or_ge k i with h | h
    · exact h
    · exact (hasSlot_false (later hD hT hi hn hb hs (by omega)).2.2.1 hk ht).elim
  · intro hlt
    rcases tab_pair hT hi hlt with h | h
    · exact hb k h
    · exact (hasSlot_false h.1 hk ht).elim
theorem last_writer {S : Nat → Prop} (hD : Done E ops S) (hT : tabsOk [] (tabOf E.P E.kp ops) = true) {i : Nat} (hi : i < ops.size) (hn : ¬ S i) (hb : ∀ j, tBf (tabOf E.P E.kp ops) i j = true → S j) (k t : Nat) (hk : S k) (h1 : tDst (tabOf E.P E.kp ops) i = some t) (h2 : tDst (tabOf E.P E.kp ops) k = some t) : k ≤ i := by
  rcases Nat.lt_or_ge k i with h | h
  · omega
  · exact (sameSlot_false (later hD hT hi hn hb hk (by omega)).2.2.2.1 h2 h1).elim
theorem chg_same {S : Nat → Prop} (hD : Done E ops S) (hT : tabsOk [] (tabOf E.P E.kp ops) = true) {i : Nat} (hi : i < ops.size) (hn : ¬ S i) (hb : ∀ j, tBf (tabOf E.P E.kp ops) i j = true → S j) (hc : 2 ≤ tKd (tabOf E.P E.kp ops) i) (k : Nat) (hk : 2 ≤ tKd (tabOf E.P E.kp ops) k) : S k ↔ k < i ∧ tBf (tabOf E.P E.kp ops) i k = true := by
  constructor
  · intro hs
    rcases Nat.lt_or_ge k i with h | h
    · refine ⟨h, (tab_pair hT hi h).resolve_right fun hx => ?_⟩
      rcases hx.2.2.2 with hx | hx
      · rw [clash_22 hc hk] at hx; cases hx
      · have := hx.kd; omega
    · rcases (later hD hT hi hn hb hs (by omega)).2.2.2.2 with this | this
      · rw [clash_22 hk hc] at this; cases this
      · have := this.kd; omega
  · exact fun h => hb k h.2
theorem turn_same {S : Nat → Prop} (hD : Done E ops S) (hT : tabsOk [] (tabOf E.P E.kp ops) = true) {i : Nat} (hi : i < ops.size) (hn : ¬ S i) (hb : ∀ j, tBf (tabOf E.P E.kp ops) i j = true → S j) (hc : 1 ≤ tKd (tabOf E.P E.kp ops) i) (k : Nat) (hs : S k) (hk : tKd (tabOf E.P E.kp ops) k = 3) :
    (k < i ∧ tBf (tabOf E.P E.kp ops) i k = true) ∨ (k < i ∧ tBf (tabOf E.P E.kp ops) i k = false ∧ SPair (tabOf E.P E.kp ops) i k) ∨ (i < k ∧ tBf (tabOf E.P E.kp ops) k i = false ∧ SPair (tabOf E.P E.kp ops) k i) := by
  rcases Nat.lt_or_ge k i with h | h
  · cases hbf : tBf (tabOf E.P E.kp ops) i k with
    | true => exact .inl ⟨h, rfl⟩
    | false =>
      rcases tab_pair hT hi h with hx | hx
      · rw [hbf] at hx; cases hx
      · rcases hx.2.2.2 with hx | hx
        · rw [clash_13 hc hk] at hx; cases hx
        · exact .inr (.inl ⟨h, rfl, hx⟩)
  · obtain ⟨hlt, -, -, -, hx⟩ := later hD hT hi hn hb hs (by omega)
    rcases hx with hx | hx
    · rw [clash_31 hc hk] at hx; cases hx
    · refine .inr (.inr ⟨hlt, ?_, hx⟩)
      cases hbf : tBf (tabOf E.P E.kp ops) k i with
      | false => rfl
      | true => exact absurd (hD.cl k i hs hbf) hn
theorem kindK_3 {P : Program} {K : FuncId → Nat} {op : Op} (h : kindK P K op < 2) : kOp K op = false ∧ kindOf P op = kindK P K op := by
  unfold kindK at *
  cases hk : kOp K op with
  | true => rw [hk] at h; cases hn : noArgs K op <;> rw [hn] at h <;> simp at h
  | false => exact ⟨rfl, rfl⟩
theorem kindK_le (P : Program) (K : FuncId → Nat) (op : Op) : kindK P K op ≤ 3 := by
  unfold kindK
  cases kOp K op with
  | true => cases noArgs K op <;> simp
  | false => exact kindOf_le P op
theorem leaf_noargs {P : Program} {E : Env} {ρ : Operand → D} {o : Oper} {σ : Sto} (hk : kOp E.kp o.op = true) (hn : noArgs E.kp o.op = true) (hg : ∀ f, ρ (.func f) = .fn f [] []) {ks : Bool} {d : D} {s : Sto} (hl : Leaf E ks σ (aop P ρ o σ) d s) : SLe σ s := by
  unfold kOp at hk
  split at hk
  · rename_i c hc
    split at hk
    · rename_i f hf
      rw [hc] at hn
      simp only [noArgs, hf, Bool.or_eq_true, List.isEmpty_iff] at hn
      unfold aop at hl
      simp only [hc, callD, hf, hg] at hl
      split at hl
      · cases hl with
        | call => exact SLe.refl _
        | callB => exact SLe.refl _
        | callR _ _ _ _ _ ht =>
          intro b B h
          have hlt := sget_lt h
          have e : (List.take σ.length _)[b]? = σ[b]? := congrArg (·[b]?) ht
          rw [List.getElem?_take, if_pos hlt] at e
          rw [sget_some] at h ⊢
          rw [e]; exact h
        | callS _ hro hp _ _ hb =>
          have ha : c.args.toList = [] := by
            rcases hn with hn | hn
            · exact hn
            · exfalso
              have := Nat.eq_of_beq_eq_true hn
              simp only [Env.kp, hro, cond_false] at this
              cases h1 : ((E.pol f).keep || (E.pol f).pass) <;> rw [h1] at this <;> simp at this
          simp only [ha, List.map_nil, List.append_nil, callP, mapO, Option.some.injEq] at hp
          subst hp
          simp only [joinR] at hb
          split at hb
          · obtain rfl := Option.some.inj hb; exact SLe.refl _
          · split at hb
            · obtain rfl := Option.some.inj hb
              exact fun b B h => by rw [sget_append_left (sget_lt h)]; exact h
            · cases hb
      · cases hl
    · cases hk
  · cases hk
theorem soft_kOp {K : FuncId → Nat} {op : Op} {a : Operand} (h : softOf op = some a) : kOp K op = false := by
  cases op <;> simp only [softOf] at h <;> try (cases h; done)
  all_goals first
    | rfl
    | (split at h
       · rename_i c _ _ hc _; simp only [kOp, hc]
       · cases h)
theorem kindT_pos {P : Program} {K : FuncId → Nat} {all : List Oper} {o : Oper} (h : 1 ≤ kindT P K all o) : litOp all o = false ∧ kindT P K all o = kindK P K o.op := by
  unfold kindT at *
  cases hl : litOp all o with
  | true => rw [hl] at h; simp at h
  | false => exact ⟨rfl, rfl⟩
theorem kindT_le (P : Program) (K : FuncId → Nat) (all : List Oper) (o : Oper) : kindT P K all o ≤ 3 := by
  unfold kindT
  cases litOp all o with
  | true => simp
  | false => exact kindK_le P K o.op
theorem OpF.keep {all : List Oper} {o : Oper} {g : Fr} {τ : Sto} {d : D} {s : Sto} (h : OpF E all o g τ d s) (hkT : kindT E.P E.kp all o = 2) : SLe τ s := by
  obtain ⟨hlf, hke⟩ := kindT_pos (P := E.P) (K := E.kp) (all := all) (o := o) (by omega)
  have hk : kindK E.P E.kp o.op = 2 := by omega
  cases h with
  | lit => exact SLe.refl _
  | run _ _ _ hl =>
    cases hko : kOp E.kp o.op with
    | true =>
      rw [hko] at hl
      refine leaf_noargs hko ?_ (fun f => rfl) hl
      unfold kindK at hk
      rw [hko] at hk
      cases hn : noArgs E.kp o.op with
      | true => rfl
      | false => rw [hn] at hk; simp at hk
    | false =>
      rw [hko] at hl
      refine grow_le ?_ hl
      unfold kindK at hk
      rw [hko] at hk
      exact hk
  | off => exact SLe.refl _
  | gone => exact SLe.refl _
theorem selB_put' {p : Nat → Bool} : ∀ {σ : Sto} {k c : Nat} {B : Blk}, sget σ c = some B → p (k + c) = true → sget (selB p k σ) c = some B
  | [], _, _, _, h, _ => by simp [sget] at h
  | x :: r, k, 0, B, h, hp => by
    have hp' : p k = true := by simpa using hp
    simp only [selB, sget, List.getElem?_cons_zero] at h ⊢
    rw [hp']; exact h
  | x :: r, k, c + 1, B, h, hp => by
    have h' : sget r c = some B := by simpa only [sget, List.getElem?_cons_succ] using h
    have := selB_put' (k := k + 1) h' (by rw [← hp]; congr 1; omega)
    simpa only [selB, sget, List.getElem?_cons_succ] using this
theorem solo_reach {σ : Sto} {d : D} (h : soloB σ d = true) : ∀ b ∈ reach σ 200 [] ([d].flatMap (refs trFuel)), blkD d = some b := by
  intro b hb
  simp only [List.flatMap_cons, List.flatMap_nil, List.append_nil] at hb
  have one : ∀ c, blkD d = some c → refs trFuel d = [c] → blkD d = some b := fun c h1 h2 => by
    rw [h2] at hb
    simp only [soloB, h1] at h
    split at h
    · rename_i B hB
      simp only [Bool.not_eq_true'] at h
      simp only [reach, hB, h, List.contains_nil, cond_false, List.nil_append, Bool.false_eq_true, if_false, List.append_nil] at hb
      simp only [List.mem_singleton] at hb
      rw [hb]; exact h1
    · cases h
  have none_ : blkD d = none → blkD d = some b := fun h1 => by
    simp only [soloB, h1, List.isEmpty_iff] at h
    rw [h] at hb
    simp [reach] at hb
  cases d with
  | ptr c i o => exact one c rfl rfl
  | msl c i len lo ex => exact one c rfl rfl
  | _ => exact none_ rfl
theorem leaf_solo {P : Program} {E : Env} {K : FuncId → Nat} {ρ : Operand → D} {o : Oper} {σ : Sto} {a : Operand} (hk : soloOf K o.op = some a) (hg : ∀ f, ρ (.func f) = .fn f [] []) (hso : soloB σ (ρ a) = true) {ks : Bool} {d : D} {s : Sto} (hl : Leaf E ks σ (aop P ρ o σ) d s)
    {b : Nat} (hb : blkD (ρ a) ≠ some b) {B : Blk} (h : sget σ b = some B) : sget s b = some B := by
  unfold soloOf at hk
  split at hk
  · rename_i c hc
    split at hk
    · rename_i f a' hf ha
      have e : a' = a := by
        cases hK : Nat.beq (K f) 3 with
        | true => rw [hK] at hk; exact Option.some.inj hk
        | false => rw [hK] at hk; cases hk
      subst e
      have hni : ∀ x ∈ reach σ 200 [] ([ρ a'].flatMap (refs trFuel)), x ≠ b := fun x hx e => hb (e ▸ solo_reach hso x hx)
      unfold aop at hl
      simp only [hc, callD, hf, hg, ha, List.map_cons, List.map_nil, List.nil_append, List.append_nil] at hl
      split at hl
      · cases hl with
        | call => exact h
        | callB => exact h
        | callR _ _ _ _ _ ht =>
          have hlt := sget_lt h
          have e : (List.take σ.length _)[b]? = σ[b]? := congrArg (·[b]?) ht
          rw [List.getElem?_take, if_pos hlt] at e
          rw [sget_some] at h ⊢
          rw [e]; exact h
        | callS _ _ hp _ _ hbk =>
          have join : ∀ (d0 : D) (s0 τ : Sto) (x : D × Sto), sget τ b = some B → joinR d0 s0 τ = some x → sget x.2 b = some B := fun d0 s0 τ x ht hj => by
            simp only [joinR] at hj
            split at hj
            · obtain rfl := Option.some.inj hj; exact ht
            · split at hj
              · obtain rfl := Option.some.inj hj
                rw [sget_append_left (sget_lt ht)]; exact ht
              · cases hj
          unfold callP at hp
          split at hp
          · obtain rfl := Option.some.inj hp
            exact join _ _ _ _ h hbk
          · simp only [Bool.cond_eq_ite] at hp
            split at hp
            · split at hp
              · obtain rfl := Option.some.inj hp
                simp only at hbk
                split at hbk
                · rename_i d' s' _ _
                  have hset : ∀ (ids : List Nat) (xs τ : Sto), (∀ x ∈ ids, x ≠ b) → sget τ b = some B → sget (setAll ids xs τ) b = some B := fun ids => by
                    induction ids with
                    | nil => intro xs τ _ ht; simp only [setAll]; exact ht
                    | cons y ids ih =>
                      intro xs τ hy ht
                      cases xs with
                      | nil => simp only [setAll]; exact ht
                      | cons x xs =>
                        simp only [setAll]
                        exact sget_set_other (hy y (by simp)) (ih xs τ (fun z hz => hy z (by simp [hz])) ht)
                  cases hle : Nat.ble (reach σ 200 [] ([ρ a'].flatMap (refs trFuel))).length s'.length with
                  | true =>
                    rw [hle] at hbk
                    obtain rfl := Option.some.inj hbk
                    have := hset _ s' σ hni h
                    show sget (_ ++ _) b = _
                    rw [sget_append_left (sget_lt this)]; exact this
                  | false => rw [hle] at hbk; cases hbk
                · cases hbk
              · cases hp
            · split at hp
              · obtain rfl := Option.some.inj hp
                simp only [Bool.cond_eq_ite] at hbk
                split at hbk
                · obtain rfl := Option.some.inj hbk; exact h
                · refine join _ _ _ _ (selB_put' h ?_) hbk
                  simp only [Nat.zero_add, Bool.not_eq_true']
                  cases hcn : (reach σ 200 [] ([ρ a'].flatMap (refs trFuel))).contains b with
                  | false => rfl
                  | true => exact absurd rfl (hni b (by simpa using hcn))
              · cases hp
      · cases hl
    · cases hk
  · cases hk
theorem OpF.keep3 {all : List Oper} {o : Oper} {g : Fr} {τ : Sto} {d : D} {s : Sto} (h : OpF E all o g τ d s) (hkT : kindT E.P E.kp all o = 3) {a : Operand} (hs : softK E.kp o.op = some a) {b : Nat} (hb : blkD (evalD E.gl g a) ≠ some b) {B : Blk} (h0 : sget τ b = some B) : sget s b = some B := by
  obtain ⟨hlf, hke⟩ := kindT_pos (P := E.P) (K := E.kp) (all := all) (o := o) (by omega)
  have hk : kindK E.P E.kp o.op = 3 := by omega
  cases h with
  | lit => exact h0
  | run _ hso _ hl =>
    cases hsf : softOf o.op with
    | some a' =>
      have e : a' = a := by unfold softK at hs; rw [hsf] at hs; exact Option.some.inj hs
      subst e
      have hko := soft_kOp (K := E.kp) hsf
      have hk' : kindOf E.P o.op = 3 := by unfold kindK at hk; rw [hko] at hk; exact hk
      rw [hko] at hl; exact turn_le hk' hsf hl hb h0
    | none =>
      have hso' : soloOf E.kp o.op = some a := by unfold softK at hs; rw [hsf] at hs; exact hs
      refine leaf_solo hso' (fun f => rfl) ?_ hl hb h0
      unfold soloOk at hso
      rw [hso'] at hso
      exact hso
  | off => exact h0
  | gone => exact h0
def SLeP (W : Nat → Prop) (σ σ' : Sto) : Prop := ∀ (b : Nat) (B : Blk), W b → sget σ b = some B → sget σ' b = some B
theorem SLeP.refl {W : Nat → Prop} (σ : Sto) : SLeP W σ σ := fun _ _ _ h => h
theorem SLeP.trans {W : Nat → Prop} {a b c : Sto} (h : SLeP W a b) (h' : SLeP W b c) : SLeP W a c := fun _ _ hw x => h' _ _ hw (h _ _ hw x)
theorem grown {S B W : Nat → Prop} {bv : Nat → Option Nat} (hD : Done E ops S) (hT : tabsOk [] (tabOf E.P E.kp ops) = true) (hF : ∀ (j : Nat) (o : Oper), ops.toList[j]? = some o → Fact E C.fn.ntmps ops.toList (tabOf E.P E.kp ops) fr σ0 dv sv bv j o)
    (hBS : ∀ k, B k → S k) (h3 : ∀ k, S k → tKd (tabOf E.P E.kp ops) k = 3 → B k ∨ ((∃ a, tSf (tabOf E.P E.kp ops) k = some a) ∧ ∀ b, W b → bv k ≠ some b)) {τ : Sto} (hτ : StOk (tKd (tabOf E.P E.kp ops)) sv σ0 B τ) (hσ : StOk (tKd (tabOf E.P E.kp ops)) sv σ0 S σ) : SLeP W τ σ := by
  have key : ∀ (p : Nat), S p → 2 ≤ tKd (tabOf E.P E.kp ops) p → (∀ k, B k → 2 ≤ tKd (tabOf E.P E.kp ops) k → k ≤ p) → SLeP W τ (sv p) := by
    intro p
    induction p using Nat.strongRecOn with
    | _ p ih =>
      intro hp hc hmax
      by_cases hBp : B p
      · rcases hτ with ⟨m, m1, m2, m3, rfl⟩ | ⟨m1, _⟩
        · have a := m3 p hBp hc
          have b := hmax m m1 m2
          have : m = p := by omega
          subst this
          exact SLeP.refl _
        · exact absurd hc (m1 p hBp)
      · have hplt := hD.lt p hp
        obtain ⟨o, t, ho, ht⟩ := tab_some (P := E.P) (K := E.kp) hplt
        have hkd : tKd (tabOf E.P E.kp ops) p = kindT E.P E.kp ops.toList o := by simp only [tKd, ht]; exact (tab_get ho ht).2.2.1
        obtain ⟨g, τp, _, hst, hop, hbv⟩ := (hF p o ho).fact
        have hstep : SLeP W τp (sv p) := by
          by_cases hk3 : kindT E.P E.kp ops.toList o = 3
          · obtain ⟨⟨a, ha⟩, hw⟩ := (h3 p hp (by rw [hkd, hk3])).resolve_left hBp
            have hsf : softK E.kp o.op = some a := by rw [← tab_soft ho ht]; simpa only [tSf, ht] using ha
            intro b B hb h0
            refine hop.keep3 hk3 hsf ?_ h0
            have := hw b hb
            rw [hbv, ha] at this
            exact this
          · have hk2 : kindT E.P E.kp ops.toList o = 2 := by
              have h1 := kindT_le E.P E.kp ops.toList o
              omega
            exact fun b B _ h0 => hop.keep hk2 b B h0
        refine SLeP.trans ?_ hstep
        have hmB : ∀ m, B m → 2 ≤ tKd (tabOf E.P E.kp ops) m → m < p ∧ tBf (tabOf E.P E.kp ops) p m = true := fun m m1 m2 => by
          have h1 := hmax m m1 m2
          have h2 : m ≠ p := fun e => hBp (e ▸ m1)
          have h4 : m < p := by omega
          refine ⟨h4, (tab_pair hT hplt h4).resolve_right fun hx => ?_⟩
          rcases hx.2.2.2 with hx | hx
          · rw [clash_22 hc m2] at hx; cases hx
          · have := hx.kd; omega
        rcases hst with ⟨q, ⟨q1, q2⟩, q3, q4, rfl⟩ | ⟨q1, rfl⟩
        · exact ih q q1 (hD.cl p q hp q2) q3 fun k k1 k2 => q4 k (hmB k k1 k2) k2
        · rcases hτ with ⟨m, m1, m2, m3, rfl⟩ | ⟨_, rfl⟩
          · exact absurd m2 (q1 m (hmB m m1 m2))
          · exact SLeP.refl _
  rcases hσ with ⟨p, p1, p2, p3, rfl⟩ | ⟨p1, rfl⟩
  · exact key p p1 p2 fun k k1 k2 => p3 k (hBS k k1) k2
  · rcases hτ with ⟨m, m1, m2, m3, rfl⟩ | ⟨_, rfl⟩
    · exact absurd m2 (p1 m (hBS m m1))
    · exact SLeP.refl _
end
end Go.RX

namespace Go.RX
open Go
section
variable {E : Env} {C : Cx} {Q : D → Sto → Prop} {w w' : World} {Im Im' : Nat → Prop} {φ φ' : Phi} {σ σ' : Sto} {ops : Array Oper} {fr : Fr} {σ0 : Sto} {dv : Nat → D} {sv : Nat → Sto} {bv : Nat → Option Nat}
theorem ops_get {x : Operand} {t : Nat} {o : Oper} (h : x ∈ o.op.operands) (hx : x = .tmp t) : t ∈ o.looksAt ops := by
  subst hx
  simp only [Oper.looksAt, List.mem_append, List.mem_filterMap]
  exact .inl ⟨.tmp t, by simpa using h, rfl⟩
theorem guard_get {j sl : Nat} {want : Bool} {o : Oper} (h : o.guard = some (j, want)) (hs : slotOf ops.toList j = some sl) : sl ∈ o.looksAt ops := by
  simp only [Oper.looksAt, h, List.mem_append]
  refine .inr ?_
  simp only [slotOf, Array.getElem?_toList] at hs
  split at hs
  · rename_i g hg; rw [hg]; simp [hs]
  · cases hs
theorem drawn_op {F : Fence} {nn lo : Nat} (hOF : OkF F) {S : Nat → Prop} {R : Exit → Act → World → Prop} {next : Act → World → Prop} (hD : Done E ops S) (hT : tabsOk [] (tabOf E.P E.kp ops) = true) {i : Nat} {o : Oper} (ho : ops.toList[i]? = some o) (hn : ¬ S i)
    (hb : ∀ j, tBf (tabOf E.P E.kp ops) i j = true → S j)
    (hF : ∀ (j : Nat) (o : Oper), ops.toList[j]? = some o → Fact E C.fn.ntmps ops.toList (tabOf E.P E.kp ops) fr σ0 dv sv bv j o)
    {g : Fr} {a : Act} (hg : FrOk (tDst (tabOf E.P E.kp ops)) dv fr S g) (hσ : StOk (tKd (tabOf E.P E.kp ops)) sv σ0 S σ) (h : SRel E C lo w Im φ g σ a)
    (hk : ∀ g' σ' w' Im' φ' a', Nx w Im φ σ w' Im' φ' σ' → FrOk (tDst (tabOf E.P E.kp ops)) dv fr (fun x => S x ∨ x = i) g' → StOk (tKd (tabOf E.P E.kp ops)) sv σ0 (fun x => S x ∨ x = i) σ' → SRel E C lo w' Im' φ' g' σ' a' → next a' w') :
    wpOpIn F nn E.P ops R i next a w := by
  have hi : i < ops.size := by have := (List.getElem?_eq_some_iff.1 ho).1; simpa using this
  obtain ⟨o', t, ho', ht⟩ := tab_some (P := E.P) (K := E.kp) hi
  rw [ho] at ho'
  obtain rfl := Option.some.inj ho'
  obtain ⟨t1, t2, t3, t4⟩ := tab_get ho ht
  have hdst : tDst (tabOf E.P E.kp ops) i = o.dst := by simp only [tDst, ht, t2]
  have hkd : tKd (tabOf E.P E.kp ops) i = kindT E.P E.kp ops.toList o := by simp only [tKd, ht, t3]
  have hlk : tLk (tabOf E.P E.kp ops) i = o.looksAt ops := by simp only [tLk, ht, t1]
  obtain ⟨hd, ⟨g0, τ, hg0, hτ, hop, hbv⟩, hdis⟩ := hF i o ho
  have hsame : ∀ t, t ∈ o.looksAt ops → fget g t = fget g0 t := fun t ht => hg.same hg0 fun k hk => looks_same hD hT hi hn hb (by rw [hlk]; exact ht) k hk
  have hops : aop E.P (evalD E.gl g) o = aop E.P (evalD E.gl g0) o := by
    funext s
    refine aop_congr o fun x hx => ?_
    cases x with
    | tmp t => exact hsame t (ops_get hx rfl)
    | _ => rfl
  have hput : FrOk (tDst (tabOf E.P E.kp ops)) dv fr (fun x => S x ∨ x = i) (put g o.dst (dv i)) := by
    have := hg.put (i := i) (d := dv i) rfl fun k t hk h1 h2 => last_writer hD hT hi hn hb k t hk h1 h2
    rwa [hdst] at this
  have hnx : Nx w Im φ σ w Im φ σ := ⟨PhiLe.refl _, Nat.le_refl _, Tr.refl _ _ _ _ _, h.inv⟩
  have hbig : 2 ≤ kindT E.P E.kp ops.toList o → τ = σ ∧ StOk (tKd (tabOf E.P E.kp ops)) sv σ0 (fun x => S x ∨ x = i) (sv i) := fun hc => by
    rw [← hkd] at hc
    refine ⟨(hσ.same hτ fun k hk => chg_same hD hT hi hn hb hc k hk).symm, .inl ⟨i, .inr rfl, hc, fun k hk hck => hk.elim (fun hk => ?_) (fun e => by omega), rfl⟩⟩
    exact Nat.le_of_lt ((chg_same hD hT hi hn hb hc k hck).1 hk).1
  have hsmall : ¬ 2 ≤ kindT E.P E.kp ops.toList o → StOk (tKd (tabOf E.P E.kp ops)) sv σ0 (fun x => S x ∨ x = i) σ := fun hc => by
    rw [← hkd] at hc
    exact hσ.iff fun k hk2 => ⟨.inl, fun x => x.elim id fun e => by subst e; exact absurd hk2 hc⟩
  have skip : dv i = .tup [] → sv i = τ → next (a.put o.dst undef) w := fun e1 e2 => by
    have hs := h.step (hnx.mv h.inv h.m) hd (d := .tup []) (v := undef) (.tup [] #[] rfl (fun i d v a => by simp at a)) h.fr
    by_cases hc : 2 ≤ kindT E.P E.kp ops.toList o
    · obtain ⟨b1, b2⟩ := hbig hc
      rw [e2, b1] at b2
      exact hk _ _ w Im φ _ hnx (e1 ▸ hput) b2 hs
    · exact hk _ _ w Im φ _ hnx (e1 ▸ hput) (hsmall hc) hs
  have lit : sv i = τ → litOp ops.toList o = true → litD E.P (evalD E.gl g0) o = some (dv i) → o.wpIn F nn E.P a w next R := fun hsv hlt hl => by
    have hk0 : kindT E.P E.kp ops.toList o = 0 := by unfold kindT; rw [hlt]; rfl
    have hg' : evalD E.gl g0 = evalD E.gl g0 := rfl
    have hl' : litD E.P (evalD E.gl g) o = some (dv i) := by
      rw [← hl]
      unfold litD
      rw [aop_congr o (ρ := fun x => bareD (litS E.P o) (evalD E.gl g x)) (ρ' := fun x => bareD (litS E.P o) (evalD E.gl g0 x)) fun x hx => ?_]
      cases x with
      | tmp t => simp only [evalD]; rw [hsame t (ops_get hx rfl)]
      | _ => rfl
    refine hOF.wp (fun c hc => by unfold litOp at hlt; rw [hc] at hlt; simp at hlt) ?_
    exact lit_run h.inv (fun x => evalD_rel h.sd.gl h.fr x) hl' fun v w' Im' n hr => hk _ _ w' Im' φ _ n hput (hsmall (by omega)) (h.step (n.mv h.inv h.m) hd hr h.fr)
  have run : litOp ops.toList o = false → Leaf E (kOp E.kp o.op) τ (aop E.P (evalD E.gl g0) o τ) (dv i) (sv i) → o.wpIn F nn E.P a w next R := fun hlf hl => by
    have hkT : kindT E.P E.kp ops.toList o = kindK E.P E.kp o.op := by unfold kindT; rw [hlf]; rfl
    rw [hkT] at hkd hbig hsmall
    refine hOF.wp (fun c hc => by rw [aop_defer hc] at hl; cases hl) ?_
    by_cases hc : 2 ≤ kindK E.P E.kp o.op
    · obtain ⟨b1, b2⟩ := hbig hc
      rw [b1, ← hops] at hl
      exact leaf_run h.sd.gl h.inv hl (aop_sat h.inv (fun x => evalD_rel h.sd.gl h.fr x) o) fun v w' Im' φ' n hr => hk _ _ w' Im' φ' _ n hput b2 (h.step (n.mv h.inv h.m) hd hr h.fr)
    · obtain ⟨hko, hke⟩ := kindK_3 (P := E.P) (K := E.kp) (op := o.op) (by omega)
      have hsk : softK E.kp o.op = softOf o.op := by
        unfold softK
        cases hsf : softOf o.op with
        | some a => rfl
        | none =>
          cases hs : soloOf E.kp o.op with
          | none => rfl
          | some a =>
            exfalso
            unfold soloOf at hs
            split at hs
            · rename_i c hc
              split at hs
              · rename_i f s hf ha
                have h1 : Nat.ble 1 (E.kp f) = false := by
                  have := hko
                  rw [hc] at this
                  simpa only [kOp, hf] using this
                have : Nat.beq (E.kp f) 3 = false := by
                  cases h3 : Nat.beq (E.kp f) 3 with
                  | false => rfl
                  | true => rw [Nat.eq_of_beq_eq_true h3] at h1; cases h1
                rw [this] at hs; cases hs
              · cases hs
            · cases hs
      have hsim : Sim τ σ (aop E.P (evalD E.gl g0) o τ) (aop E.P (evalD E.gl g0) o σ) := by
        by_cases h0 : kindK E.P E.kp o.op = 0
        · exact aop_sim (evalD E.gl g0) o (by omega) (.inl (by omega))
        · have h1 : 1 ≤ tKd (tabOf E.P E.kp ops) i := by rw [hkd]; omega
          have h1' : tKd (tabOf E.P E.kp ops) i = 1 := by rw [hkd]; omega
          cases hsf : softOf o.op with
          | none =>
            have hno : tSf (tabOf E.P E.kp ops) i = none := by rw [← hsf, ← hsk, ← tab_soft ho ht]; simp only [tSf, ht]
            have := grown (C := C) (W := fun _ => True) hD hT hF (fun k hk => hb k hk.2) (fun k hk hkk => by
              rcases turn_same hD hT hi hn hb h1 k hk hkk with h | ⟨_, _, h⟩ | ⟨_, _, h⟩
              · exact .inl h
              · obtain ⟨a, ha⟩ := h.looks.1 h1'; rw [hno] at ha; cases ha
              · obtain ⟨a, ha⟩ := h.looks.2 h1'; rw [hno] at ha; cases ha) hτ hσ
            exact aop_sim (evalD E.gl g0) o (by omega) (.inr fun b B h => this b B trivial h)
          | some a =>
            have hyes : tSf (tabOf E.P E.kp ops) i = some a := by rw [← hsf, ← hsk, ← tab_soft ho ht]; simp only [tSf, ht]
            have hbi : bv i = blkD (evalD E.gl g0 a) := by rw [hbv, hyes]; rfl
            cases hb0 : blkD (evalD E.gl g0 a) with
            | none => exact aop_simB (evalD E.gl g0) o (by omega) hsf fun b B hw h => by rw [hb0] at hw; cases hw
            | some b0 =>
              rw [hb0] at hbi
              have hdl : ∀ (s : Bool) (y : Option Nat), disL (some b0) s y = true → s = true ∧ y ≠ some b0 := fun s y h => by
                simp only [disL, Bool.and_eq_true] at h
                refine ⟨h.1, fun e => ?_⟩
                subst e
                simp at h
              have := grown (C := C) (W := fun b => b = b0) hD hT hF (fun k hk => hb k hk.2) (fun k hk hkk => by
                rcases turn_same hD hT hi hn hb h1 k hk hkk with h | ⟨q1, q2, q3⟩ | ⟨q1, q2, q3⟩
                · exact .inl h
                · obtain ⟨ti, tk, e1, e2, e3⟩ := q3
                  have hd2 := hdis k q1 q2 ti tk e1 e2 e3
                  have k1 : ti.kind = 1 := by simpa only [tKd, e1] using h1'
                  simp only [Go.RX.dis, k1, Nat.beq_refl, cond_true, hbi] at hd2
                  obtain ⟨z1, z2⟩ := hdl _ _ hd2
                  exact .inr ⟨by simp only [tSf, e2]; exact Option.isSome_iff_exists.1 z1, fun b hw => by rw [hw]; exact z2⟩
                · obtain ⟨tk, ti, e2, e1, e3⟩ := q3
                  obtain ⟨ok, tk', hok, htk⟩ := tab_some (P := E.P) (K := E.kp) (hD.lt k hk)
                  have hd2 := (hF k ok hok).dis i q1 q2 tk ti e2 e1 e3
                  have k3 : tk.kind = 3 := by simpa only [tKd, e2] using hkk
                  simp only [Go.RX.dis, k3, show Nat.beq 3 1 = false from rfl, cond_false, hbi] at hd2
                  obtain ⟨z1, z2⟩ := hdl _ _ hd2
                  exact .inr ⟨by simp only [tSf, e2]; exact Option.isSome_iff_exists.1 z1, fun b hw => by rw [hw]; exact z2⟩) hτ hσ
              exact aop_simB (evalD E.gl g0) o (by omega) hsf fun b B hw h => this b B (by rw [hb0] at hw; exact (Option.some.inj hw).symm) h
      rw [hko] at hl
      have hl' := hsim.leaf hl
      rw [← hops] at hl'
      exact leaf_run h.sd.gl h.inv hl' (aop_sat h.inv (fun x => evalD_rel h.sd.gl h.fr x) o) fun v w' Im' φ' n hr => hk _ _ w' Im' φ' _ n hput (hsmall hc) (h.step (n.mv h.inv h.m) hd hr h.fr)
  have hA : ops.toList.toArray = ops := Array.toArray_toList
  have hoA : ops[i]? = some o := by simpa using ho
  unfold wpOpIn
  rw [hoA]
  simp only
  generalize hdd : dv i = dd at hop run skip lit
  generalize hss : sv i = ss at hop run skip lit
  cases hop with
  | lit hgn hlt hl =>
    have hwant : Region.wanted o (yielded ops a.tmps) = true := by simp [Region.wanted, hgn]
    rw [if_pos hwant]
    exact lit rfl hlt hl
  | run hlf _ hw hl =>
    have hwant : Region.wanted o (yielded ops a.tmps) = true := by
      rcases hw with hw | ⟨j, want, sl, b, h1, h2, h3, h4⟩
      · simp [Region.wanted, hw]
      · rw [← hsame sl (guard_get h1 h2)] at h3
        have hrs := h.fr sl
        rw [h3] at hrs
        have hy := guard_bool (j := j) h2 hrs.bool_inv
        rw [hA] at hy
        simp only [Region.wanted, h1, hy]
        cases b <;> cases want <;> first | rfl | cases h4
    rw [if_pos hwant]
    exact run hlf hl
  | @off j sl want b h1 h2 h3 h4 =>
    have hwant : Region.wanted o (yielded ops a.tmps) = false := by
      rw [← hsame sl (guard_get h1 h2)] at h3
      have hrs := h.fr sl
      rw [h3] at hrs
      have hy := guard_bool (j := j) h2 hrs.bool_inv
      rw [hA] at hy
      simp only [Region.wanted, h1, hy]
      cases b <;> cases want <;> first | rfl | cases h4
    rw [hwant, if_neg (by simp)]
    exact ⟨fun f _ => hOF.fn f, skip rfl rfl⟩
  | @gone j sl want vs h1 h2 h3 =>
    have hwant : Region.wanted o (yielded ops a.tmps) = false := by
      rw [← hsame sl (guard_get h1 h2)] at h3
      have hrs := h.fr sl
      rw [h3] at hrs
      obtain ⟨us, hv, _⟩ := hrs.tup_inv
      have hy := guard_tup (j := j) h2 hv
      rw [hA] at hy
      simp only [Region.wanted, h1, hy]
      cases want <;> rfl
    rw [hwant, if_neg (by simp)]
    exact ⟨fun f _ => hOF.fn f, skip rfl rfl⟩
def LS (l : Array Bool) (i : Nat) : Prop := l.getD i false = true
theorem ready_mem {l : Array Bool} {i : Nat} : i ∈ Region.ready .any ops l ↔ i < ops.size ∧ l.getD i true = false ∧ ∃ o, ops[i]? = some o ∧ ∀ e ∈ o.after, Region.binds .any e = true → LS l e.on := by
  simp only [Region.ready, List.mem_filter, List.mem_range, Bool.and_eq_true, Bool.not_eq_true', LS]
  constructor
  · rintro ⟨h1, h2, h3⟩
    refine ⟨h1, h2, ?_⟩
    have hi : ops[i]? = some ops[i] := by simp [h1]
    rw [hi] at h3
    refine ⟨_, hi, fun e he hb => ?_⟩
    simp only [Option.map_some, Option.getD_some, Array.all_eq_true_iff_forall_mem, Bool.or_eq_true, Bool.not_eq_true'] at h3
    exact (h3 e he).resolve_left (by rw [hb]; simp)
  · rintro ⟨h1, h2, o, ho, h3⟩
    refine ⟨h1, h2, ?_⟩
    rw [ho]
    simp only [Option.map_some, Option.getD_some, Array.all_eq_true_iff_forall_mem, Bool.or_eq_true, Bool.not_eq_true']
    intro e he
    cases hb : Region.binds .any e with
    | false => exact .inl rfl
    | true => exact .inr (h3 e he hb)
theorem ready_none (hE : edgesOkL 0 ops.toList = true) {l : Array Bool} (hsz : l.size = ops.size) (h : Region.ready .any ops l = []) : ∀ i, i < ops.size → LS l i := by
  intro i
  induction i using Nat.strongRecOn with
  | _ i ih =>
    intro hi
    cases hl : l.getD i false with
    | true => exact hl
    | false =>
      exfalso
      have hm : i ∈ Region.ready .any ops l := by
        refine ready_mem.2 ⟨hi, ?_, ops[i], by simp [hi], fun e he hb => ?_⟩
        · have : i < l.size := by omega
          simpa [this] using hl
        · have := edges_get _ 0 hE i ops[i] (by simp [hi]) e he hb
          have h2 : e.on < i := by omega
          exact ih e.on h2 (by omega)
      rw [h] at hm; simp at hm
theorem LS_set {l : Array Bool} {i j : Nat} (hi : i < l.size) : LS (l.setIfInBounds i true) j ↔ LS l j ∨ j = i := by
  simp only [LS, Array.getD_eq_getD_getElem?, Array.getElem?_setIfInBounds]
  by_cases h : i = j
  · subst h; simp [hi]
  · rw [if_neg h]; exact ⟨.inl, fun x => x.resolve_right fun e => h e.symm⟩
theorem drawn_all {F : Fence} {nn lo : Nat} (hOF : OkF F) {R : Exit → Act → World → Prop} (hE : edgesOkL 0 ops.toList = true) (hT : tabsOk [] (tabOf E.P E.kp ops) = true)
    (hF : ∀ (j : Nat) (o : Oper), ops.toList[j]? = some o → Fact E C.fn.ntmps ops.toList (tabOf E.P E.kp ops) fr σ0 dv sv bv j o)
    {w0 : World} {Im0 : Nat → Prop} {φ0 : Phi} {s0 : Sto}
    (hend : ∀ g σ w Im φ a, Tr φ0.length w0 Im0 φ0 s0 w Im φ σ → FrOk (tDst (tabOf E.P E.kp ops)) dv fr (fun x => x < ops.size) g → StOk (tKd (tabOf E.P E.kp ops)) sv σ0 (fun x => x < ops.size) σ → SRel E C lo w Im φ g σ a → R .normal a w) :
    ∀ (fuel : Nat) (l : Array Bool) (g : Fr) (σ : Sto) (w : World) (Im : Nat → Prop) (φ : Phi) (a : Act), l.size = ops.size → cnt (fun i => !l.getD i false) ops.size ≤ fuel → Done E ops (LS l) →
      φ0.length ≤ φ.length → Tr φ0.length w0 Im0 φ0 s0 w Im φ σ → FrOk (tDst (tabOf E.P E.kp ops)) dv fr (LS l) g → StOk (tKd (tabOf E.P E.kp ops)) sv σ0 (LS l) σ → SRel E C lo w Im φ g σ a → wpAnyIn F nn E.P .any ops R fuel l a w := by
  have fin : ∀ (l : Array Bool) (g : Fr) (σ : Sto) (w : World) (Im : Nat → Prop) (φ : Phi) (a : Act), (∀ i, i < ops.size → LS l i) → Done E ops (LS l) →
      Tr φ0.length w0 Im0 φ0 s0 w Im φ σ → FrOk (tDst (tabOf E.P E.kp ops)) dv fr (LS l) g → StOk (tKd (tabOf E.P E.kp ops)) sv σ0 (LS l) σ → SRel E C lo w Im φ g σ a → R .normal a w := fun l g σ w Im φ a hall hD ht hg hs h =>
    hend g σ w Im φ a ht (hg.iff fun j => ⟨hD.lt j, hall j⟩) (hs.iff fun j _ => ⟨hD.lt j, hall j⟩) h
  intro fuel
  induction fuel with
  | zero =>
    intro l g σ w Im φ a hsz hc hD hlen ht hg hs h
    have hall : ∀ i, i < ops.size → LS l i := fun i hi => by
      have := cnt_zero (p := fun i => !l.getD i false) ops.size (by omega) i hi
      simpa [LS] using this
    refine ⟨?_, fin l g σ w Im φ a hall hD ht hg hs h⟩
    refine List.eq_nil_iff_forall_not_mem.2 fun i hi => ?_
    obtain ⟨h1, h2, _⟩ := ready_mem.1 hi
    have := hall i h1
    have hlt : i < l.size := by omega
    simp only [LS] at this
    simp [hlt] at h2 this
    rw [h2] at this; cases this
  | succ fuel ih =>
    intro l g σ w Im φ a hsz hc hD hlen ht hg hs h
    refine ⟨fun hr => fin l g σ w Im φ a (ready_none hE hsz hr) hD ht hg hs h, fun i hi => ?_⟩
    obtain ⟨h1, h2, o, ho, h3⟩ := ready_mem.1 hi
    have hlt : i < l.size := by omega
    have hfalse : l.getD i false = false := by simp [hlt] at h2 ⊢; exact h2
    have hn : ¬ LS l i := by simp only [LS, hfalse]; simp
    have hbf : ∀ j, tBf (tabOf E.P E.kp ops) i j = true → LS l j := fun j hj => by
      obtain ⟨o', ho', e, he, hb, hx⟩ := tBf_spec hj
      have : o' = o := by rw [Array.getElem?_toList, ho] at ho'; exact (Option.some.inj ho').symm
      subst this
      rcases hx with rfl | hx
      · exact h3 e he hb
      · exact hD.cl e.on j (h3 e he hb) hx
    refine drawn_op hOF hD hT (by simpa using ho) hn hbf hF hg hs h fun g' σ' w' Im' φ' a' n hg' hs' h' => ?_
    have hiff : ∀ j, (LS l j ∨ j = i) ↔ LS (l.setIfInBounds i true) j := fun j => (LS_set hlt).symm
    refine ih _ g' σ' w' Im' φ' a' (by simp [hsz]) ?_ ⟨fun j hj => ?_, fun j k hj hk => ?_⟩ (Nat.le_trans hlen n.len) (ht.trans (n.tr.le hlen)) (hg'.iff hiff) (hs'.iff fun j _ => hiff j) h'
    · have := cnt_drop (p := fun i => !l.getD i false) (p' := fun j => !(l.setIfInBounds i true).getD j false) (i := i) (by simp [hfalse]) (by have := (hiff i).1 (.inr rfl); simp only [LS] at this; simp [this]) (fun j hj => by
        simp only [Array.getD_eq_getD_getElem?, Array.getElem?_setIfInBounds]
        rw [if_neg fun e => hj e.symm]) ops.size h1
      omega
    · rcases (hiff j).2 hj with hj | rfl
      · exact hD.lt j hj
      · exact h1
    · rcases (hiff j).2 hj with hj | rfl
      · exact (hiff k).1 (.inl (hD.cl j k hj hk))
      · exact (hiff k).1 (.inl (hbf k hk))
theorem region_ok {F : Fence} {nn lo : Nat} (hOF : OkF F) (hm : E.P.follows .mixedOrders = true) {a : Act} (h : SRel E C lo w Im φ fr σ a) {id : Nat} {ops : Array Oper} {R : Exit → Act → World → Prop} {k : Fr → Sto → Qy}
    (hk : ∀ fr' σ' w' Im' φ' a', Tr φ.length w Im φ σ w' Im' φ' σ' → SRel E C lo w' Im' φ' fr' σ' a' → FinQ E C Q (k fr' σ') → R .normal a' w')
    (hq : FinQ E C Q (regionQ E C.fn.ntmps ops fr σ k)) : (Code.region id ops true).wpIn F nn E.P R a w := by
  unfold regionQ at hq
  cases hc : (edgesOkL 0 ops.toList && tabsOk [] (tabOf E.P E.kp ops)) with
  | false => rw [hc] at hq; exact hq.elim
  | true =>
    rw [hc] at hq
    simp only [Bool.and_eq_true] at hc
    obtain ⟨dv, sv, bv, _, hF, g', σ', hg, hs, hq'⟩ := region_facts (fr := fr) (fun i o t ho ht => (tab_get ho ht).2.1) ops.toList (tabOf E.P E.kp ops) 0 fr [] [] (fun _ => .undef) (fun _ => []) (fun _ => none) (fun x => by rw [Nat.zero_add]) (fun x => by rw [Nat.zero_add]) .nil (fun k t hk _ => absurd hk (Nat.not_lt_zero _)) (fun t => .inr ⟨fun k hk => by omega, rfl⟩) hq
    have hF' : ∀ (j : Nat) (o : Oper), ops.toList[j]? = some o → Fact E C.fn.ntmps ops.toList (tabOf E.P E.kp ops) fr σ dv sv bv j o := fun j o ho => hF j o (Nat.zero_le _) ho
    rw [show 0 + ops.toList.length = ops.size by simp] at hg hs
    have hdw : ({ w with drawn := w.drawn + 1 } : World) = w.drew := rfl
    refine wpIn_region_any hm ?_
    rw [hdw]
    refine drawn_all hOF (C := C) hc.1 hc.2 hF' (w0 := w) (Im0 := Im) (φ0 := φ) (s0 := σ) (fun g2 σ2 w2 Im2 φ2 a2 ht hg2 hs2 h2 => ?_) ops.size _ fr σ w.drew Im φ a (by simp) ?_ ⟨fun i hi => ?_, fun i j hi _ => ?_⟩ (Nat.le_refl _) (Tr.drew _ _ _ _ _) (fun t => .inr ⟨fun k hk => ?_, rfl⟩) (.inr ⟨fun k hk => ?_, rfl⟩) ⟨fun t => (Tr.drew φ.length w Im φ σ).rel h.inv (PhiLe.refl _) (h.fr t), h.inv.drew, h.sd.tr h.m h.inv (Tr.drew φ.length _ _ _ _) h.inv.drew, h.sz, h.m⟩
    · have e1 : ∀ t, fget g' t = fget g2 t := fun t => hg.same hg2 fun k _ => Iff.rfl
      have e2 : σ' = σ2 := hs.same hs2 fun k _ => Iff.rfl
      subst e2
      exact hk g' σ' w2 Im2 φ2 a2 ht ⟨fun t => by rw [e1]; exact h2.fr t, h2.inv, h2.sd, h2.sz, h2.m⟩ hq'
    · have : ∀ (p : Nat → Bool) (n : Nat), cnt p n ≤ n := fun p n => by
        induction n with
        | zero => exact Nat.le_refl _
        | succ n ih => simp only [cnt]; split <;> omega
      exact this _ _
    all_goals
      exfalso
      simp only [LS, Array.getD_eq_getD_getElem?, Array.getElem?_replicate] at *
      first
      | (split at hi <;> simp at hi; done)
      | (split at hk <;> simp at hk; done)
end
end Go.RX

namespace Go.RX
open Go Go.RowKit
section
variable {E : Env} {C C' : Cx} {Q : D → Sto → Prop} {w w' : World} {Im Im' : Nat → Prop} {φ φ' : Phi} {σ σ' : Sto}
theorem Inv.ext (hi : Inv w Im φ σ) (hsz : w.heap.size ≤ w'.heap.size) (hs : ∀ c, c < w.heap.size → (Im c ∨ Own φ σ c) → w'.heap[c]? = w.heap[c]?) : Inv w' Im φ σ :=
  ⟨hi.len, fun b B l h1 h2 => (hi.blk b B l h1 h2).of_heap (fun hp => hs _ ((hi.blk b B l h1 h2).lt hp) (.inr ⟨b, B, l, h2, h1, rfl, hp⟩)) hsz (fun _ h => h) (fun c hc => hs c (hi.im c hc) (.inl hc)) (PhiLe.refl _), hi.inj, hi.sep, fun c hc => Nat.lt_of_lt_of_le (hi.im c hc) hsz⟩
theorem Inv.apart (hi : Inv w Im φ σ) {ids : List Nat} {f : D → Option D} (hsub : mapSto f (pickSto σ ids) = some σ') : ∀ c, Own φ (selB (fun i => !(ids.contains i)) 0 σ) c → ¬ Own (phiOf φ ids) σ' c := by
  rintro c ⟨b, B, l, a1, a2, a3, hp⟩ ⟨j, B', l', e1, e2, e3, hp'⟩
  obtain ⟨a4, a5⟩ := selB_get a2
  obtain ⟨B0, hB0, _⟩ := (mapSto_some hsub).2 j B' e2
  obtain ⟨b', hb', hB'⟩ := pickSto_get hB0
  obtain ⟨l0, hl0, _⟩ := hi.loc hB'
  rw [phiOf_get hb', locOf, hl0] at e1
  obtain rfl : l0 = l' := by simpa using e1
  have hne : b' ≠ b := fun e => by
    subst e
    rw [Nat.zero_add] at a5
    have : ids.contains b' = true := by simpa using List.mem_of_getElem? hb'
    rw [this] at a5; cases a5
  exact hi.inj b' b B0 B l0 l hne hl0 a1 hB' a4 hp' hp (e3.trans a3.symm)
theorem upTo_ge : ∀ (l : List Nat) (m : Nat), m ≤ upTo m l ∧ ∀ b ∈ l, b < upTo m l
  | [], m => ⟨Nat.le_refl _, fun b hb => by cases hb⟩
  | b :: l, m => by
    obtain ⟨h1, h2⟩ := upTo_ge l (bif Nat.blt b m then m else b + 1)
    have h3 : m ≤ (bif Nat.blt b m then m else b + 1) ∧ b < (bif Nat.blt b m then m else b + 1) := by
      cases hb : Nat.blt b m with
      | true => exact ⟨Nat.le_refl _, Nat.lt_of_succ_le (Nat.le_of_ble_eq_true hb)⟩
      | false =>
        refine ⟨?_, Nat.lt_succ_self b⟩
        rcases Nat.lt_or_ge b m with h | h
        · have : Nat.blt b m = true := Nat.ble_eq_true_of_le h
          rw [this] at hb; cases hb
        · simp only [cond_false]; omega
    refine ⟨Nat.le_trans h3.1 h1, fun c hc => ?_⟩
    rcases List.mem_cons.1 hc with rfl | hc
    · exact Nat.lt_of_lt_of_le h3.2 h1
    · exact h2 c hc
theorem selB_get' {p : Nat → Bool} : ∀ {i : Nat} {σ : Sto} {b : Nat} {B : Blk}, sget σ b = some B → p (i + b) = true → sget (selB p i σ) b = some B
  | _, [], b, B, h, _ => by simp [sget] at h
  | i, x :: r, 0, B, h, hp => by
    simp only [selB, sget, List.getElem?_cons_zero] at h ⊢
    rw [Nat.add_zero] at hp
    rw [hp]; exact h
  | i, x :: r, b + 1, B, h, hp => by
    have : sget (selB p (i + 1) r) b = some B := selB_get' (by simpa only [sget, List.getElem?_cons_succ] using h) (by rw [← hp]; congr 1; omega)
    simpa only [selB, sget, List.getElem?_cons_succ] using this
theorem selB_all {p : Nat → Bool} (hp : ∀ i, p i = true) : ∀ (i : Nat) (σ : Sto), selB p i σ = σ
  | _, [] => rfl
  | i, x :: r => by simp only [selB, hp, cond_true, selB_all hp (i + 1) r]
def rem (ids : List Nat) (σ : Sto) : Sto := selB (fun i => !(ids.contains i)) 0 σ
theorem rem_nil (σ : Sto) : rem [] σ = σ := selB_all (fun i => rfl) 0 σ
theorem Inv.fill {ids : List Nat} {sub σ0 : Sto} {n : Nat} (h1 : Inv w Im φ' (rem ids σ)) (h2 : Inv w Im (phiOf φ ids) sub) (hd : ∀ c, Own φ' (rem ids σ) c → ¬ Own (phiOf φ ids) sub c) (hin : ∀ b ∈ ids, b < φ.length ∧ φ'[b]? = φ[b]?)
    (hb : mapSto (tr (renH (backN ids n)) trFuel) sub = some (pickSto σ0 ids)) (hB : pickSto σ ids = pickSto σ0 ids) : Inv w Im φ' σ ∧ ∀ c, Own φ' σ c → Own φ' (rem ids σ) c ∨ Own (phiOf φ ids) sub c := by
  rw [← hB] at hb
  obtain ⟨q1, q2⟩ := mapSto_some hb
  have hget : ∀ b B l, sget σ b = some B → φ'[b]? = some l → (sget (rem ids σ) b = some B) ∨ ∃ j B2, ids[j]? = some b ∧ sget sub j = some B2 ∧ (phiOf φ ids)[j]? = some l ∧ mapBlk (tr (renH (backN ids n)) trFuel) (some B2) = some (some B) := fun b B l a1 a2 => by
    by_cases hm : b ∈ ids
    · obtain ⟨j, hj⟩ := List.getElem?_of_mem hm
      right
      have hp : sget (pickSto σ ids) j = some B := by
        rw [sget_some] at a1 ⊢
        simp only [pickSto, List.getElem?_map, hj, Option.map_some]
        rw [a1]
      obtain ⟨B2, hB2, h5⟩ := q2 j B hp
      obtain ⟨g1, g2⟩ := hin b hm
      refine ⟨j, B2, hj, hB2, ?_, h5⟩
      rw [phiOf_get hj, locOf, ← g2, a2]; rfl
    · left
      exact selB_get' a1 (by simpa using hm)
  have hown : ∀ c, Own φ' σ c → Own φ' (rem ids σ) c ∨ Own (phiOf φ ids) sub c := fun c ⟨b, B, l, a1, a2, a3, a4⟩ => by
    rcases hget b B l a2 a1 with h | ⟨j, B2, _, h3, h4, _⟩
    · exact .inl ⟨b, B, l, a1, h, a3, a4⟩
    · exact .inr ⟨j, B2, l, h4, h3, a3, a4⟩
  refine ⟨⟨by have := h1.len; rw [rem, selB_length] at this; exact this, fun b B l a1 a2 => ?_, fun b b' B B' l l' hne a1 a2 a3 a4 p1 p2 => ?_, fun c hc ho => ?_, h1.im⟩, hown⟩
  · rcases hget b B l a1 a2 with h | ⟨j, B2, h0, h3, h4, h5⟩
    · exact h1.blk b B l h a2
    · refine mapBlk_ok (fun _ h => h) (fun d d' v a b' => ren_rel (fun _ h => h) (fun j1 c1 l1 e1 e2 => ?_) trFuel d d' v a b') (tr_scal (renH_scal _) trFuel) h5 (h2.blk j B2 l h3 h4)
      have hj1 := (List.getElem?_eq_some_iff.1 e2).1
      simp only [phiOf, List.length_map] at hj1
      simp only [backN, Bool.cond_eq_ite] at e1
      rw [if_pos (show Nat.blt j1 ids.length = true from Nat.ble_eq_true_of_le hj1)] at e1
      obtain ⟨g1, g2⟩ := hin c1 (List.mem_of_getElem? e1)
      rw [g2]
      rw [phiOf_get e1, locOf, List.getElem?_eq_getElem g1] at e2
      rw [List.getElem?_eq_getElem g1]
      simpa using e2
  · rcases hget b B l a3 a1 with h | ⟨j, B2, g0, g3, g4, _⟩ <;> rcases hget b' B' l' a4 a2 with h' | ⟨j', C2, k0, k3, k4, _⟩
    · exact h1.inj b b' B B' l l' hne a1 a2 h h' p1 p2
    · exact fun e => hd l.blk ⟨b, B, l, a1, h, rfl, p1⟩ ⟨j', C2, l', k4, k3, e.symm, p2⟩
    · exact fun e => hd l'.blk ⟨b', B', l', a2, h', rfl, p2⟩ ⟨j, B2, l, g4, g3, e, p1⟩
    · refine h2.inj j j' B2 C2 l l' (fun e => ?_) g4 k4 g3 k3 p1 p2
      subst e
      exact hne (Option.some.inj (g0.symm.trans k0))
  · rcases hown c ho with h | h
    · exact h1.sep c hc h
    · exact h2.sep c hc h
theorem detR_sat {P : Program} {s : Sem Next} : ∀ (r : ARes) (x : D × Sto), SatA P w Im φ σ s r → detR r = some x → SatA P w Im φ σ s (.ok x.1 x.2)
  | .ok d s, x, h, e => by obtain rfl := Option.some.inj e; exact h
  | .need b q, x, h, e => by
    cases b with
    | true => exact detR_sat q x (h rfl) e
    | false => cases e
  | .row r k, x, h, e => by
    cases r with
    | some y => exact detR_sat (k y) x (h y rfl) e
    | none => cases e
  | .rows r k, x, h, e => detR_sat (k r) x h e
  | .split .., _, _, e => by cases e
  | .any .., _, _, e => by cases e
  | .str .., _, _, e => by cases e
  | .call .., _, _, e => by cases e
  | .yld .., _, _, e => by cases e
  | .bad, _, _, e => by cases e
theorem Nx.refl (hi : Inv w Im φ σ) : Nx w Im φ σ w Im φ σ := ⟨PhiLe.refl _, Nat.le_refl _, Tr.refl _ _ _ _ _, hi⟩
theorem Nx.trans {w1 : World} {φ1 : Phi} {σ1 : Sto} {w2 : World} {φ2 : Phi} {σ2 : Sto} (a : Nx w Im φ σ w1 Im φ1 σ1) (b : Nx w1 Im φ1 σ1 w2 Im φ2 σ2) : Nx w Im φ σ w2 Im φ2 σ2 :=
  ⟨fun c l h => b.le c l (a.le c l h), Nat.le_trans a.len b.len, a.tr.trans (b.tr.le a.len), b.inv⟩
theorem asgOps_ok {E : Env} {F : Fence} (hF : OkF F) {nf : Nat} {all : Array Oper} {R : Exit → Act → World → Prop} {n : Nat} : ∀ (l : List Oper) (w : World) (φ : Phi) (σ : Sto) (fr : Fr) (x : Fr × Sto) (a : Act), GlOk E w Im → Inv w Im φ σ → asgOps E n l fr σ = some x → (∀ t, Rel w Im φ (fget fr t) (a.tmps.getD t undef)) → a.tmps.size = n →
    (∀ a' w' φ', (∀ t, Rel w' Im φ' (fget x.1 t) (a'.tmps.getD t undef)) → a'.tmps.size = n → a'.defers = a.defers → Nx w Im φ σ w' Im φ' x.2 → R .normal a' w') → wpListIn F nf E.P all R l a w
  | [], w, φ, σ, fr, x, a, hgl, hi, h, hr, hs, hk => by
    simp only [asgOps, Option.some.injEq] at h
    subst h
    exact hk a w φ hr hs rfl (.refl hi)
  | o :: l, w, φ, σ, fr, x, a, hgl, hi, h, hr, hs, hk => by
    simp only [asgOps] at h
    split at h
    · rename_i y hg hd hx
      simp only [wpListIn]
      rw [if_pos (by simp [Region.wanted, hg])]
      refine hF.wp (fun c hc => by rw [aop_defer hc] at hx; cases hx) ?_
      have hsat := detR_sat _ _ (aop_sat hi (fun x => evalD_rel hgl hr x) o) hx
      obtain ⟨v, w1, φ1, h1, h2⟩ := hsat
      have n1 : Nx w Im φ σ w1 Im φ1 y.2 := h2.nx h2.le.length
      have fin : wpListIn F nf E.P all R l (a.put o.dst v) w1 := asgOps_ok hF l w1 φ1 y.2 _ x _ (hgl.mono (fun _ h => h) (n1.tr.keeps hi)) n1.inv h
        (put_rel (fun t => (hr t).mono (fun _ h => h) (n1.tr.keeps hi) n1.le) hs hd h2.rel) (by rw [put_size]; exact hs)
        fun a' w' φ' k1 k2 k3 k4 => hk a' w' φ' k1 k2 (by rw [k3, put_df]) (n1.trans k4)
      unfold Oper.wp
      rcases h1 with h1 | ⟨h1, rfl⟩
      · rw [h1]; exact fin
      · rw [h1]; exact fin
    · cases h
theorem asgC_ok {E : Env} {F : Fence} (hF : OkF F) {nf n : Nat} : ∀ (c : Code) (w : World) (φ : Phi) (σ : Sto) (fr : Fr) (x : Fr × Sto) (a : Act) (R : Exit → Act → World → Prop), GlOk E w Im → Inv w Im φ σ → asgC E n c fr σ = some x → (∀ t, Rel w Im φ (fget fr t) (a.tmps.getD t undef)) → a.tmps.size = n →
    (∀ a' w' φ', (∀ t, Rel w' Im φ' (fget x.1 t) (a'.tmps.getD t undef)) → a'.tmps.size = n → a'.defers = a.defers → Nx w Im φ σ w' Im φ' x.2 → R .normal a' w') → c.wpIn F nf E.P R a w
  | .skip, w, φ, σ, fr, x, a, R, hgl, hi, h, hr, hs, hk => by
    obtain rfl := Option.some.inj h
    exact wpIn_skip (hk a w φ hr hs rfl (.refl hi))
  | .region i ops false, w, φ, σ, fr, x, a, R, hgl, hi, h, hr, hs, hk => wpIn_region_list (asgOps_ok hF _ w φ σ fr x a hgl hi h hr hs hk)
  | .seq c1 c2, w, φ, σ, fr, x, a, R, hgl, hi, h, hr, hs, hk => by
    simp only [asgC] at h
    split at h
    · rename_i y hy
      refine wpIn_seq (asgC_ok hF c1 w φ σ fr y a _ hgl hi hy hr hs fun a1 w1 φ1 k1 k2 k3 k4 => ?_)
      refine asgC_ok hF c2 w1 φ1 y.2 y.1 x a1 _ (hgl.mono (fun _ h => h) (k4.tr.keeps hi)) k4.inv h k1 k2 fun a2 w2 φ2 m1 m2 m3 m4 => hk a2 w2 φ2 m1 m2 (by rw [m3, k3]) (k4.trans m4)
    · cases h
  | .region _ _ true, _, _, _, _, _, _, _, _, _, h, _, _, _ => by cases h
  | .cond .., _, _, _, _, _, _, _, _, _, h, _, _, _ => by cases h
  | .block .., _, _, _, _, _, _, _, _, _, h, _, _, _ => by cases h
  | .loop .., _, _, _, _, _, _, _, _, _, h, _, _, _ => by cases h
  | .rangeFunc .., _, _, _, _, _, _, _, _, _, h, _, _, _ => by cases h
  | .exit .., _, _, _, _, _, _, _, _, _, h, _, _, _ => by cases h
  | .scope .., _, _, _, _, _, _, _, _, _, h, _, _, _ => by cases h
  | .label .., _, _, _, _, _, _, _, _, _, h, _, _, _ => by cases h
  | .goto .., _, _, _, _, _, _, _, _, _, h, _, _, _ => by cases h
  | .ret, _, _, _, _, _, _, _, _, _, h, _, _, _ => by cases h
  | .refuse .., _, _, _, _, _, _, _, _, _, h, _, _, _ => by cases h
theorem setPs_rel : ∀ (ps : List Nat) (ys : List D) (vs : List Value) (fr : Fr) (tmps : Array Value) (n : Nat), ps.all (fun p => Nat.blt p n) = true → tmps.size = n → ArgsRel w Im φ ys vs → (∀ t, Rel w Im φ (fget fr t) (tmps.getD t undef)) →
    (∀ t, Rel w Im φ (fget (setPs ps ys fr) t) (((ps.zip vs).foldl (fun t (x : Nat × Value) => t.setIfInBounds x.1 x.2) tmps).getD t undef)) ∧ ((ps.zip vs).foldl (fun t (x : Nat × Value) => t.setIfInBounds x.1 x.2) tmps).size = n
  | [], ys, vs, fr, tmps, n, _, hs, _, hr => by cases ys <;> exact ⟨hr, hs⟩
  | p :: ps, [], vs, fr, tmps, n, _, hs, hv, hr => by
    have : vs = [] := List.eq_nil_of_length_eq_zero (by rw [← hv.1]; rfl)
    subst this
    exact ⟨hr, hs⟩
  | p :: ps, y :: ys, [], fr, tmps, n, _, hs, hv, hr => by have := hv.1; simp at this
  | p :: ps, y :: ys, v :: vs, fr, tmps, n, hp, hs, hv, hr => by
    simp only [List.all_cons, Bool.and_eq_true] at hp
    refine setPs_rel ps ys vs _ _ n hp.2 (by rw [Array.size_setIfInBounds]; exact hs) ⟨by have := hv.1; simpa using this, fun i d v' a b => hv.2 (i + 1) d v' (by simpa using a) (by simpa using b)⟩ ?_
    exact put_rel (a := ⟨tmps, []⟩) (dst := some p) hr hs hp.1 (hv.2 0 y v rfl rfl)
def codeOf : Nat → Code
  | 0 => .skip
  | 1 => .ret
  | n + 2 => .exit n
def JL (rec : LoopState → Option Code → Loop) (mm l b : Nat) (w : World) (Im : Nat → Prop) (φ : Phi) (σ : Sto) (ids : List Nat) (B : Sto → Prop) (R : List D → Sto → (D → Sto → Prop) → Prop) (A : Nat → Sto → Prop) (Yo : Option (List (List D))) (W : World) (I X : Nat → Prop) : Prop :=
  ∃ φ' σf σ', σ' = rem ids σf ∧ B σf ∧ Tr mm w Im φ σ W I φ' σ' ∧ Inv W I φ' σ' ∧ W.heap[b]? = some (.deferred (some [])) ∧ (¬ I l ∧ ¬ I b ∧ ¬ Own φ' σ' l ∧ ¬ Own φ' σ' b) ∧ (∀ c, X c ↔ (Own φ' σ' c ∨ c = l ∨ c = b)) ∧
    (match Yo with
     | some Y => W.heap[l]? = some (.loop (rec .ready none)) ∧ Rng B R A Y σf
     | none => ∃ n, n ≠ 0 ∧ W.heap[l]? = some (.loop (rec .done (some (codeOf n)))) ∧ A n σf)
theorem exCode_jump {e : Exit} {n : Nat} (h : exCode e = some n) : (n = 0 ∧ e = .normal) ∨ (n ≠ 0 ∧ ((n = 1 ∧ e = .ret) ∨ ∃ id, n = id + 2 ∧ e = .exit id)) := by
  cases e <;> simp [exCode] at h
  · exact .inl ⟨h.symm, rfl⟩
  · exact .inr ⟨by omega, .inr ⟨_, h.symm, rfl⟩⟩
  · exact .inr ⟨by omega, .inl ⟨h.symm, rfl⟩⟩
theorem rng_ok {F : Fence} {nf lo : Nat} (hF : OkC C F) {t : List It} {fr : Fr} {a : Act} (hs : SRel E C lo w Im φ fr σ a) (hrb : C.rb = false) (hit : C.it = false) {f : Operand} {ps : Array Nat} {asg body : Code} {R : Exit → Act → World → Prop} (hR : ∀ e a' w', DoneP E C lo Q w Im φ σ e a' w' → R e a' w')
    (hq : FinQ E C Q (rngQ E C t fr σ (evalD E.gl fr f) ps asg body)) : (Code.rangeFunc f ps asg body).wpIn F nf E.P (sem F nf E.P R t) a w := by
  obtain rfl := hF.1 hrb
  unfold rngQ at hq
  split at hq
  rotate_left
  · exact hq.elim
  rename_i g caps hd
  simp only at hq
  generalize hids : reach σ 200 [] (caps.flatMap (refs trFuel)) = ids at hq
  split at hq
  rotate_left
  · exact hq.elim
  rename_i caps' sub fr1 h1 h2 h3 hfr1
  simp only [Bool.and_eq_true] at h1
  obtain ⟨⟨⟨⟨⟨h0, h0'⟩, hcal⟩, hps⟩, hCm⟩, hmσ⟩ := h1
  have hCm := Nat.le_of_ble_eq_true hCm
  have hmσ := Nat.le_of_ble_eq_true hmσ
  generalize hmm0 : upTo (bif (E.pol g).lend then upTo C.m ids else C.m) (fr.flatMap fun x => refs trFuel x.2) = mm at *
  obtain ⟨hnd, -⟩ := okIds_spec h0
  have hin : ∀ b ∈ ids, b < σ.length := fun b hb => Nat.lt_of_succ_le (Nat.le_of_ble_eq_true (List.all_eq_true.1 h0' b hb))
  obtain ⟨lids, σR, hlid, hmml, hback, Y, hseq, hrng⟩ : ∃ (lids : List Nat) (σR : Sto), (lids = ids ∧ σR = σ ∨ lids = [] ∧ σR = selB (fun i => !(ids.contains i)) 0 σ) ∧ (∀ b ∈ lids, b < mm) ∧ FinQ E C Q (.rng mm g caps' sub σR lids (rndQ E C.fn.ntmps ps asg body fr1) (aftQ t fr1)) := by
    cases hle : (E.pol g).lend with
    | true =>
      rw [hle, cond_true] at hq
      refine ⟨ids, σ, .inl ⟨rfl, rfl⟩, fun b hb => ?_, hq⟩
      rw [← hmm0, hle]
      exact Nat.lt_of_lt_of_le ((upTo_ge ids C.m).2 b hb) (upTo_ge _ _).1
    | false =>
      rw [hle, cond_false] at hq
      exact ⟨[], _, .inr ⟨rfl, rfl⟩, fun b hb => (by cases hb), hq⟩
  have hfn := evalD_rel hs.sd.gl hs.fr f
  rw [hd] at hfn
  obtain ⟨vf, vc, hv, hvf, hvc1, hvc2⟩ : ∃ vf vc, a.eval f = .func (.func g) vf vc ∧ vf = #[] ∧ caps.length = vc.size ∧ ∀ (i : Nat) (d : D) (v : Value), caps[i]? = some d → vc[i]? = some v → Rel w Im φ d v := by
    generalize a.eval f = v at hfn
    cases hfn with
    | fn _ _ _ vf vc e1 e2 e3 e4 => exact ⟨vf, vc, rfl, by simpa using e1.symm, e2, e4⟩
  subst hvf
  -- the loop's record
  obtain ⟨rec, hrec⟩ : ∃ rec : FuncId → LoopState → Option Code → Loop, rec = fun fn st pe => { state := st, pending := pe, fn, tmps := a.tmps, params := ps, assign := asg, body, defers := w.heap.size } := ⟨_, rfl⟩
  obtain ⟨W1, hW1⟩ : ∃ W1 : FuncId → World, W1 = fun fn => (w.alloc (.deferred (some []))).alloc (.loop (rec fn .ready none)) := ⟨_, rfl⟩
  obtain ⟨p1, p2⟩ := hs.inv.pick hnd rfl h3
  refine wpIn_rangeFunc ?_
  intro fn _
  have hsz1 : (W1 fn).heap.size = w.heap.size + 2 := by rw [hW1]; simp
  have hold : ∀ c, c < w.heap.size → (W1 fn).heap[c]? = w.heap[c]? := fun c hc => by
    rw [hW1]
    exact (Below.heap_alloc _ _ _ (by simp; omega)).trans (Below.heap_alloc _ _ _ hc)
  have hL1 : (W1 fn).heap[w.heap.size + 1]? = some (.loop (rec fn .ready none)) := by
    rw [hW1]; have := World.alloc_heap_new (w.alloc (.deferred (some []))) (.loop (rec fn .ready none)); rwa [World.size_alloc] at this
  have hK1 : (W1 fn).heap[w.heap.size]? = some (.deferred (some [])) := by
    rw [hW1]; exact (Below.heap_alloc _ _ _ (by simp)).trans (World.alloc_heap_new w _)
  have hio1 : Io w (W1 fn) := by rw [hW1]; exact ⟨rfl, rfl, rfl⟩
  refine ⟨w.heap.size + 1, [mark w.heap.size], W1 fn, { target := .fn (.func g) vc, args := #[.func (.yield (w.heap.size + 1)) #[] #[]] }, W1 fn, g,
    #[.func (.yield (w.heap.size + 1)) #[] #[]] ++ vc, W1 fn, ?_, ?_, fun f' _ => trivial, ?_, fun h => absurd h (by simp [Fence.wide]), callsIn_wide.2 ?_⟩
  · rw [hW1, hrec]; exact run_enterLoop_outer _ _ _ _ _
  · simp only [resolve, hv]
    simp [Deferred.ofValue]
    rfl
  · simp [invoke, callFunc_run hcal]
  have hinv0 := hs.inv.sel (fun i => !(ids.contains i))
  have hown0 : ∀ c, Own φ (selB (fun i => !(ids.contains i)) 0 σ) c → Own φ σ c := fun c ⟨b1, B1, l1, e1, e2, e3⟩ => ⟨b1, B1, l1, e1, (selB_get e2).1, e3⟩
  have hap := hs.inv.apart h3
  have hrem0 : rem lids σR = selB (fun i => !(ids.contains i)) 0 σ := by
    rcases hlid with ⟨rfl, rfl⟩ | ⟨rfl, rfl⟩
    · rfl
    · exact rem_nil _
  generalize hσr : selB (fun i => !(ids.contains i)) 0 σ = σr at hrem0 hinv0 hown0 hap
  have hGl : ∀ c, Own (phiOf φ ids) sub c → c < w.heap.size := fun c hc => p1.own_lt hc
  obtain ⟨RR, hRR⟩ : ∃ RR : List D → Sto → (D → Sto → Prop) → Prop, RR = (fun y s q => FinQ E (C.round mm) (QW q) (rndQ E C.fn.ntmps ps asg body fr1 y s)) := ⟨_, rfl⟩
  obtain ⟨AA, hAA⟩ : ∃ AA : Nat → Sto → Prop, AA = (fun n s => FinQ E C Q (aftQ t fr1 n s)) := ⟨_, rfl⟩
  obtain ⟨BB, hBB⟩ : ∃ BB : Sto → Prop, BB = (fun s => pickSto s lids = pickSto σR lids) := ⟨_, rfl⟩
  have hrng : Rng BB RR AA Y σR := by rw [hRR, hAA, hBB]; exact hrng
  generalize hln : (bif lids.isEmpty then [] else sub : Sto) = ln at hseq
  generalize hφ0 : (phiOf φ ids).take ln.length = φ0 at hseq
  have hsubl : sub.length = ids.length := by rw [(mapSto_some h3).1]; simp [pickSto]
  have hnil : lids = [] → ln = [] ∧ φ0 = [] := fun e => by
    subst e
    have : ln = [] := hln.symm
    subst this
    exact ⟨rfl, hφ0.symm⟩
  have hfull : lids ≠ [] → lids = ids ∧ σR = σ ∧ ln = sub ∧ φ0 = phiOf φ ids ∧ mapSto (tr (renH (backN ids σR.length)) trFuel) sub = some (pickSto σR ids) := fun e => by
    rcases hlid with ⟨e1, e2⟩ | ⟨e1, _⟩
    · have e3 : ln = sub := by
        rw [← hln]
        cases lids with
        | nil => exact absurd rfl e
        | cons x l => rfl
      refine ⟨e1, e2, e3, ?_, ?_⟩
      · rw [← hφ0, e3, List.take_of_length_le (by simp [phiOf, hsubl])]
      · rcases hback with h | h
        · exact absurd h e
        · rw [e1] at h; exact h
    · exact absurd e1 e
  have hown0' : ∀ c, Own φ0 ln c → Own (phiOf φ ids) sub c := fun c hc => by
    by_cases hl : lids = []
    · obtain ⟨e1, e2⟩ := hnil hl
      rw [e1, e2] at hc
      exact absurd hc (no_own c)
    · obtain ⟨_, _, e1, e2, _⟩ := hfull hl
      rw [e1, e2] at hc; exact hc
  have fillF : ∀ {W : World} {I : Nat → Prop} {φ' : Phi} {σf : Sto}, Inv W I φ' (rem lids σf) → Inv W I φ0 ln → (∀ c, Own φ' (rem lids σf) c → ¬ Own φ0 ln c) → (∀ b, b < mm → φ'[b]? = φ[b]?) → BB σf →
      Inv W I φ' σf ∧ ∀ c, Own φ' σf c → Own φ' (rem lids σf) c ∨ Own φ0 ln c := fun {W I φ' σf} g1 g2 g3 g4 g5 => by
    by_cases hl : lids = []
    · rw [hl, rem_nil] at g1 ⊢
      exact ⟨g1, fun c hc => .inl hc⟩
    · obtain ⟨e1, e2, e3, e4, e5⟩ := hfull hl
      rw [hBB] at g5
      simp only [e1, e3, e4] at g1 g2 g3 g5 ⊢
      refine g1.fill g2 g3 (fun b hb => ⟨by rw [hs.inv.len]; exact hin b hb, g4 b (hmml b (by rw [e1]; exact hb))⟩) e5 g5
  have splitF : ∀ {W : World} {I : Nat → Prop} {φ' : Phi} {σf : Sto}, Inv W I φ' σf → (∀ b, b < mm → φ'[b]? = φ[b]?) → BB σf →
      Inv W I φ0 ln ∧ (∀ c, Own φ' (rem lids σf) c → ¬ Own φ0 ln c) := fun {W I φ' σf} g1 g4 g5 => by
    by_cases hl : lids = []
    · obtain ⟨e1, e2⟩ := hnil hl
      rw [e1, e2]
      exact ⟨Inv.nil g1.im, fun c _ => no_own c⟩
    · obtain ⟨e1, e2, e3, e4, e5⟩ := hfull hl
      rw [hBB] at g5
      simp only [e1, e3, e4] at g5 ⊢
      have e6 : phiOf φ' ids = phiOf φ ids := by
        unfold phiOf
        refine List.map_congr_left fun b hb => ?_
        rw [locOf, locOf, g4 b (hmml b (by rw [e1]; exact hb))]
      have h3' : mapSto (tr (renH fun b => idxOf ids b 0) trFuel) (pickSto σf ids) = some sub := by rw [g5, e2]; exact h3
      rw [← e6]
      exact ⟨(g1.pick hnd rfl h3').1, g1.apart h3'⟩
  have hlenG : ∀ {W : World} {I : Nat → Prop} {φ' : Phi} {σ' : Sto}, Tr mm w Im φ σ W I φ' σ' → mm ≤ φ'.length := fun {W I φ' σ'} ht => by
    have hl := hs.inv.len
    rcases Nat.lt_or_ge φ'.length mm with hlt | hge
    · exfalso
      have e1 := ht.pre φ'.length hlt
      rw [List.getElem?_eq_getElem (by omega : φ'.length < φ.length)] at e1
      simp at e1
    · exact hge
  have hfrG : ∀ {W : World} {I : Nat → Prop} {φ' : Phi} {σ' : Sto}, Tr mm w Im φ σ W I φ' σ' → ∀ t, Rel W I φ' (fget fr1 t) (a.tmps.getD t undef) := fun {W I φ' σ'} ht t => by
    have hren : ∀ d d' v, Rel w Im φ d v → tr (renH (idH mm)) trFuel d = some d' → Rel w Im φ' d' v := fun d d' v h1 h2 => ren_rel (fun _ h => h) (fun b c l e1 e2 => by
      simp only [idH, Bool.cond_eq_ite] at e1
      split at e1
      · rename_i hb
        obtain rfl := Option.some.inj e1
        rw [ht.pre b (Nat.lt_of_succ_le (Nat.le_of_ble_eq_true hb))]; exact e2
      · cases e1) trFuel d d' v h1 h2
    have : Rel w Im φ' (fget fr1 t) (a.tmps.getD t undef) := by
      rcases mapFr_get hfr1 t with ⟨g1, g2⟩ | g
      · rw [g1]; exact .undef _
      · exact hren _ _ _ (hs.fr t) g
    exact this.mono ht.im (fun c hc => ht.keeps hs.inv c hc) (PhiLe.refl _)
  -- the partner
  have hpart : Partner E.P (w.heap.size + 1) (JL (rec fn) mm (w.heap.size + 1) w.heap.size w Im φ σ lids BB RR AA) w.heap.size (Own (phiOf φ ids) sub) φ0 ln := by
    refine ⟨fun Y W I X W' I' hJ hx hst => ?_, fun y Y W I X vs hJ hx hIs hy hI0 hX0 => ?_⟩
    · obtain ⟨φ', σf, σ', hrm, hBf, j1, j2, j3, ⟨j4, j5, j6, j7⟩, j8, j9⟩ := hJ
      have hsame : ∀ c, X c → W'.heap[c]? = W.heap[c]? := fun c hc => hst.same c (hx.lt c hc) (.inl hc)
      have hXl : X (w.heap.size + 1) := (j8 _).2 (.inr (.inl rfl))
      have hXb : X w.heap.size := (j8 _).2 (.inr (.inr rfl))
      refine ⟨φ', σf, σ', hrm, hBf, ⟨⟨Nat.le_trans j1.ext.size hst.size, fun c hc ho => ?_, j1.ext.io.trans hst.io⟩, j1.own, j1.pre, fun c hc => hst.im c (j1.im c hc), fun c hc => ?_⟩,
        ⟨j2.len, fun b B l e1 e2 => (j2.blk b B l e1 e2).of_heap (fun hp => hsame _ ((j8 _).2 (.inl ⟨b, B, l, e2, e1, rfl, hp⟩))) hst.size hst.im (fun c hc => hst.same c (j2.im c hc) (.inr (.inl hc))) (PhiLe.refl _), j2.inj,
          fun c hc ho => hst.imX c hc ((j8 c).2 (.inl ho)), hst.imS⟩,
        by rw [hsame _ hXb]; exact j3, ⟨fun h => hst.imX _ h hXl, fun h => hst.imX _ h hXb, j6, j7⟩, j8, ?_⟩
      · rw [hst.same c (Nat.lt_of_lt_of_le hc j1.ext.size) (.inr (.inr ⟨hc, fun h => ho (p2 c h)⟩))]
        exact j1.ext.same c hc ho
      · rcases hst.imN c hc with h | h | h
        · exact j1.imN c h
        · exact .inr (.inl (p2 c h))
        · exact .inr (.inr h)
      · cases Y with
        | some Y => exact ⟨by rw [hsame _ hXl]; exact j9.1, j9.2⟩
        | none => obtain ⟨n, g1, g2, g3⟩ := j9; exact ⟨n, g1, by rw [hsame _ hXl]; exact g2, g3⟩
    · obtain ⟨φ', σf, σ', hrm, hBf, j1, j2, j3, ⟨j4, j5, j6, j7⟩, j8, j9, hround⟩ := hJ
      subst hrm
      obtain ⟨hF1, hF2⟩ := fillF j2 hI0 (fun c hc => hX0 c ((j8 c).2 (.inl hc))) j1.pre hBf
      have j6' : ¬ Own φ' σf (w.heap.size + 1) := fun h => (hF2 _ h).elim j6 fun h => by have := hGl _ (hown0' _ h); omega
      have j7' : ¬ Own φ' σf w.heap.size := fun h => (hF2 _ h).elim j7 fun h => by have := hGl _ (hown0' _ h); omega
      have hlt : w.heap.size + 1 < W.heap.size := (Array.getElem?_eq_some_iff.1 j9).1
      have hlt0 := hlt
      have hround : RR y σf fun d s => BB s ∧ ((d = .int .i64 0 ∧ Rng BB RR AA Y s) ∨ ∃ n : Nat, n ≠ 0 ∧ d = .int .i64 (n : Int) ∧ AA n s) := hround
      generalize hQQ : (fun (d : D) (s : Sto) => BB s ∧ ((d = .int .i64 0 ∧ Rng BB RR AA Y s) ∨ ∃ n : Nat, n ≠ 0 ∧ d = .int .i64 (n : Int) ∧ AA n s)) = QQ at hround
      rw [hRR] at hround
      simp only [rndQ] at hround
      cases hyl : Nat.beq y.length ps.size with
      | false => simp only [hyl, cond_false] at hround; exact hround.elim
      | true =>
        simp only [hyl, cond_true] at hround
        have hyl' := Nat.eq_of_beq_eq_true hyl
        split at hround
        rotate_left
        · exact hround.elim
        rename_i xa hsim
        have hyr := run_yield (P := E.P) (args := vs) j9 (by have := hy.1; rw [hrec]; simp only [Array.length_toList] at this; show vs.size = ps.size; omega)
        refine ⟨_, _, _, _, hyr, ?_⟩
        have hrb2 : (rec fn .ready none).assign = asg ∧ (rec fn .ready none).body = body ∧ (rec fn .ready none).params = ps ∧ (rec fn .ready none).tmps = a.tmps ∧ (rec fn .ready none).state = .ready := by rw [hrec]; exact ⟨rfl, rfl, rfl, rfl, rfl⟩
        obtain ⟨q1, q2, q3, q4, q5⟩ := hrb2
        rw [q1, q2, q3, q4]
        have hfr0 := hfrG j1
        have hyv : ArgsRel W I φ' y vs.toList := ⟨hy.1, fun i d v e1 e2 => (hy.2 i d v e1 e2).mono (fun _ h => h) (fun _ _ => rfl) (PhiLe.nil _)⟩
        obtain ⟨s1, s2⟩ := setPs_rel ps.toList y vs.toList fr1 a.tmps C.fn.ntmps hps hs.sz hyv hfr0
        have hfold : (Array.foldl (fun tmps (x : Nat × Value) => tmps.setIfInBounds x.1 x.2) a.tmps (ps.zip vs)) = (ps.toList.zip vs.toList).foldl (fun t (x : Nat × Value) => t.setIfInBounds x.1 x.2) a.tmps := by
          rw [← Array.toList_zip, Array.foldl_toList]
        refine roundIn_of_wpIn (n := 0) trivial ?_
        refine asgC_ok (E := E) (F := Fence.wide.inRound (w.heap.size + 1)) (.inr ⟨_, rfl⟩) _ W φ' σf _ xa ⟨_, []⟩ _ (hs.sd.gl.mono j1.im (j1.keeps hs.inv)) hF1 hsim (fun t => ?_) ?_ fun a' W1 φ1 k1 k2 k3 kn => ?_
        · show Rel W I φ' _ (Array.getD (Array.foldl _ a.tmps (ps.zip vs)) t undef)
          rw [hfold]; exact s1 t
        · show Array.size (Array.foldl _ a.tmps (ps.zip vs)) = _
          rw [hfold]; exact s2
        -- the round begins
        have hl1 : W1.heap[w.heap.size + 1]? = some (.loop (rec fn .ready none)) := by rw [kn.tr.ext.same _ hlt0 j6']; exact j9
        refine ⟨_, run_beginRound hl1 q5, ?_⟩
        have hlt1 : w.heap.size + 1 < W1.heap.size := (Array.getElem?_eq_some_iff.1 hl1).1
        generalize hWB : W1.putObj (w.heap.size + 1) (.loop { rec fn .ready none with state := .busy }) = WB
        have hsB : WB.heap.size = W1.heap.size := by rw [← hWB]; simp
        have hoB : ∀ c, c ≠ w.heap.size + 1 → WB.heap[c]? = W1.heap[c]? := fun c hc => by rw [← hWB]; exact World.putObj_heap_other hc
        have hlB : WB.heap[w.heap.size + 1]? = some (.loop { rec fn .ready none with state := .busy }) := by rw [← hWB]; exact World.putObj_heap_same hlt1
        have hioB : Io W1 WB := by rw [← hWB]; exact ⟨rfl, rfl, rfl⟩
        generalize hW2 : W.putObj (w.heap.size + 1) (.loop { rec fn .ready none with state := .busy }) = W2
        have hs2 : W2.heap.size = W.heap.size := by rw [← hW2]; simp
        have ho2 : ∀ c, c ≠ w.heap.size + 1 → W2.heap[c]? = W.heap[c]? := fun c hc => by rw [← hW2]; exact World.putObj_heap_other hc
        have hl2 : W2.heap[w.heap.size + 1]? = some (.loop { rec fn .ready none with state := .busy }) := by rw [← hW2]; exact World.putObj_heap_same hlt
        have hio2 : Io W W2 := by rw [← hW2]; exact ⟨rfl, rfl, rfl⟩
        have hne : ∀ c, (I c ∨ Own φ' σf c) → c ≠ w.heap.size + 1 := fun c hc e => by subst e; exact hc.elim j4 j6'
        have hneB : ∀ c, (I c ∨ Own φ1 xa.2 c) → c ≠ w.heap.size + 1 := fun c hc e => by
          rcases hc with hc | hc
          · exact hne c (.inl hc) e
          · rcases kn.tr.own c hc with h | h
            · exact hne c (.inr h) e
            · omega
        have hi2 : Inv WB I φ1 xa.2 := kn.inv.ext (Nat.le_of_eq hsB.symm) fun c hc h => hoB c (hneB c h)
        have hm2 : mm ≤ φ1.length := Nat.le_trans (hlenG j1) kn.len
        have tr0 : Tr mm W2 I φ' σf WB I φ1 xa.2 := by
          refine ⟨⟨by rw [hs2, hsB]; exact kn.tr.ext.size, fun c hc ho => ?_, Io.trans (b := W) ⟨hio2.1.symm, hio2.2.1.symm, hio2.2.2.symm⟩ (kn.tr.ext.io.trans hioB)⟩, fun c hc => by rw [hs2]; exact kn.tr.own c hc, fun b hb => kn.tr.pre b (Nat.lt_of_lt_of_le hb (hlenG j1)), fun _ h => h, fun c hc => .inl hc⟩
          by_cases hcl : c = w.heap.size + 1
          · rw [hcl, hlB, hl2]
          · rw [hoB c hcl, ho2 c hcl]; exact kn.tr.ext.same c (by omega) ho
        have hsr : SRel E (C.round mm) WB.heap.size WB I φ1 xa.1 xa.2 a' := ⟨fun t => (k1 t).mono (fun _ h => h) (fun c hc => hoB c (hneB c (.inl hc))) (PhiLe.refl _), hi2,
          ⟨Nat.le_refl _, ((hs.sd.gl.mono j1.im (j1.keeps hs.inv)).mono (fun _ h => h) (kn.tr.keeps hF1)).mono (fun _ h => h) (fun c hc => hoB c (hneB c (.inl hc))), fun h => (by cases h), [], by rw [k3]; rfl, fun _ => rfl, List.nodup_nil, fun b hb => by simp at hb⟩, k2, hm2⟩
        have hround := hround (Fence.wide.inRound (w.heap.size + 1)) 0 ⟨fun h => (by cases h), fun _ => ⟨_, rfl⟩⟩ _ a' WB I φ1 hsr (fun e a2 w2 => DoneP E (C.round mm) WB.heap.size (QW QQ) WB I φ1 xa.2 e a2 w2) (fun e a2 w2 h => h)
        refine wpIn_mono hround ?_
        intro e a3 w3 hd3
        have hd3' : DoneP E (C.round mm) WB.heap.size (QW QQ) WB I φ1 xa.2 e a3 w3 := by cases e <;> exact hd3
        obtain ⟨n, σ2', φ2', I3, d1, d2', d3', d4⟩ := hd3'.1 rfl
        obtain ⟨d5, σ3, d6, d4⟩ := d4
        have hk2 : mm ≤ φ2'.length := by
          rcases Nat.lt_or_ge φ2'.length mm with hlt | hge
          · exfalso
            have e1 := d2'.pre φ2'.length hlt
            rw [List.getElem?_eq_getElem (by omega : φ2'.length < φ1.length)] at e1
            simp at e1
          · exact hge
        obtain ⟨φ3, m1, m2, m3, d3, m5⟩ := d6 mm w3 I3 φ2' (fun _ => .int .i64 (n : Int)) hk2 d3' (fun t => by simp only [fget, Bool.cond_eq_ite]; split; exact .int _ _; exact .undef _)
        have d2 : Tr mm W2 I φ' σf w3 I3 φ3 σ3 := tr0.trans (Tr.trans d2' m3)
        have m6 := m5 0
        simp only [fget, Nat.beq_refl, cond_true] at m6
        rw [← hQQ] at d4
        obtain ⟨hB3, d4⟩ := d4
        have d4 : ((.int .i64 (n : Int) : D) = .int .i64 0 ∧ Rng BB RR AA Y σ3) ∨ ∃ n' : Nat, n' ≠ 0 ∧ (.int .i64 (n : Int) : D) = .int .i64 (n' : Int) ∧ AA n' σ3 := by
          rcases d4 with ⟨rfl, k⟩ | ⟨n', k1, rfl, k2⟩
          · generalize ((n : Nat) : Int) = z at m6 ⊢
            cases m6; exact .inl ⟨rfl, k⟩
          · generalize ((n : Nat) : Int) = z at m6 ⊢
            cases m6; exact .inr ⟨n', k1, rfl, k2⟩
        have hl3 : w3.heap[w.heap.size + 1]? = some (.loop { rec fn .ready none with state := .busy }) := by rw [d2.ext.same _ (by omega) j6']; exact hl2
        have hx3 := d2.imX (X := fun c => c = w.heap.size + 1 ∨ c = w.heap.size) (fun c hc => by rcases hc with rfl | rfl; exact ⟨by omega, j4, j6'⟩; exact ⟨by omega, j5, j7'⟩)
        have hb3 : w3.heap[w.heap.size]? = some (.deferred (some [])) := by rw [d2.ext.same _ (by omega) j7', ho2 _ (by omega)]; exact j3
        -- what comes of it
        have out : ∀ (jump : Option Code) (b : Bool), jump.isNone = b →
            (match (if b = true then some Y else none : Option (List (List D))) with
             | some Y => jump = none ∧ Rng BB RR AA Y σ3
             | none => ∃ n, n ≠ 0 ∧ jump = some (codeOf n) ∧ AA n σ3) →
            ∃ v w4, (Instr.endRound (w.heap.size + 1) jump).run E.P w3 = .ok v w4 ∧ ∃ b Im' X', Ending.returned v = .returned (.bool b) ∧ JL (rec fn) mm (w.heap.size + 1) w.heap.size w Im φ σ lids BB RR AA (if b = true then some Y else none) w4 Im' X' ∧ PStep (fun c => X c ∨ Own φ0 ln c) W I w4 Im' X' ∧ Inv w4 Im' φ0 ln ∧ (∀ c, X' c → ¬ Own φ0 ln c) := fun jump b hj hout => by
          have hend := run_endRound (P := E.P) jump hl3
          generalize hW4 : w3.putObj (w.heap.size + 1) (.loop { { rec fn .ready none with state := .busy } with state := if jump.isNone then .ready else .done, pending := jump }) = W4 at hend
          have hs4 : W4.heap.size = w3.heap.size := by rw [← hW4]; simp
          have ho4 : ∀ c, c ≠ w.heap.size + 1 → W4.heap[c]? = w3.heap[c]? := fun c hc => by rw [← hW4]; exact World.putObj_heap_other hc
          have hl4 : W4.heap[w.heap.size + 1]? = some (.loop (rec fn (if jump.isNone then .ready else .done) jump)) := by
            rw [← hW4]
            rw [World.putObj_heap_same (by have := d2.ext.size; omega), hrec]
          have hio4 : Io w3 W4 := by rw [← hW4]; exact ⟨rfl, rfl, rfl⟩
          have hne3 : ∀ c, (I3 c ∨ Own φ3 σ3 c) → c ≠ w.heap.size + 1 := fun c hc e => by
            have := hx3 c (.inl e)
            exact hc.elim this.1 this.2
          have hsz3 : W.heap.size ≤ W4.heap.size := by rw [hs4, ← hs2]; exact d2.ext.size
          have hown3 : ∀ c, Own φ3 σ3 c → Own φ' σf c ∨ W.heap.size ≤ c := fun c hc => by rw [← hs2]; exact d2.own c hc
          have himN : ∀ c, I3 c → I c ∨ Own φ' σf c ∨ W.heap.size ≤ c := fun c hc => by rw [← hs2]; exact d2.imN c hc
          have hOwn : ∀ c, Own φ' σf c → Own φ σ c ∨ w.heap.size ≤ c := fun c hc => (hF2 c hc).elim (j1.own c) fun h => .inl (p2 c (hown0' c h))
          have hsame4 : ∀ c, c < W.heap.size → c ≠ w.heap.size + 1 → ¬ Own φ' σf c → W4.heap[c]? = W.heap[c]? := fun c hc hn ho => by rw [ho4 c hn, d2.ext.same c (by omega) ho, ho2 c hn]
          have hi4 : Inv W4 I3 φ3 σ3 := d3.ext (Nat.le_of_eq hs4.symm) fun c hc h => ho4 c (hne3 c h)
          have hremO : ∀ c, Own φ3 (rem lids σ3) c → Own φ3 σ3 c := fun c ⟨b1, B1, l1, e1, e2, e3⟩ => ⟨b1, B1, l1, e1, (selB_get e2).1, e3⟩
          have htr4 : Tr mm w Im φ σ W4 I3 φ3 (rem lids σ3) := by
            refine ⟨⟨Nat.le_trans j1.ext.size hsz3, fun c hc ho => ?_, j1.ext.io.trans (hio2.trans (d2.ext.io.trans hio4))⟩, fun c hc => ?_, fun b hb => by rw [d2.pre b hb, j1.pre b hb], fun c hc => d2.im c (j1.im c hc), fun c hc => ?_⟩
            · rw [hsame4 c (Nat.lt_of_lt_of_le hc j1.ext.size) (by omega) (fun h => (hOwn c h).elim ho (by omega))]
              exact j1.ext.same c hc ho
            · rcases hown3 c (hremO c hc) with h | h
              · exact hOwn c h
              · exact .inr (Nat.le_trans j1.ext.size h)
            · rcases himN c hc with h | h | h
              · exact j1.imN c h
              · exact (hOwn c h).elim (fun h => .inr (.inl h)) (fun h => .inr (.inr h))
              · exact .inr (.inr (Nat.le_trans j1.ext.size h))
          obtain ⟨hS1, hS2⟩ := splitF hi4 htr4.pre hB3
          refine ⟨_, W4, hend, b, I3, fun c => Own φ3 (rem lids σ3) c ∨ c = w.heap.size + 1 ∨ c = w.heap.size, by rw [hj], ⟨φ3, σ3, rem lids σ3, rfl, hB3, htr4, hi4.sel _, by rw [ho4 _ (by omega)]; exact hb3, ⟨(hx3 _ (.inl rfl)).1, (hx3 _ (.inr rfl)).1, fun h => (hx3 _ (.inl rfl)).2 (hremO _ h), fun h => (hx3 _ (.inr rfl)).2 (hremO _ h)⟩, fun c => Iff.rfl, ?_⟩,
            ⟨hsz3, fun c hc hX => hsame4 c hc (fun e => hX (.inl ((j8 c).2 (.inr (.inl e))))) (fun h => hX ((hF2 c h).elim (fun h => .inl ((j8 c).2 (.inl h))) .inr)), hio2.trans (d2.ext.io.trans hio4), d2.im, fun c hc => ?_, hi4.im, fun c hc => ?_, ⟨fun c hc => ?_, fun c hc => ?_⟩⟩, hS1, fun c hc ho => ?_⟩
          · cases b with
            | true =>
              simp only [if_true] at hout ⊢
              obtain ⟨rfl, hout⟩ := hout
              exact ⟨hl4, hout⟩
            | false =>
              simp only [Bool.false_eq_true, if_false] at hout ⊢
              obtain ⟨n, g1, rfl, g2⟩ := hout
              exact ⟨n, g1, hl4, g2⟩
          · rcases himN c hc with h | h | h
            · exact .inl h
            · exact .inr (.inl ((hF2 c h).elim (fun h => .inl ((j8 c).2 (.inl h))) .inr))
            · exact .inr (.inr h)
          · rcases hc with h | rfl | rfl
            · rcases hown3 c (hremO c h) with h | h
              · exact .inl ((hF2 c h).elim (fun h => .inl ((j8 c).2 (.inl h))) .inr)
              · exact .inr h
            · exact .inl (.inl ((j8 _).2 (.inr (.inl rfl))))
            · exact .inl (.inl ((j8 _).2 (.inr (.inr rfl))))
          · rcases hc with h | rfl | rfl
            · exact hi4.own_lt (hremO c h)
            · omega
            · omega
          · rcases hc with h | rfl | rfl
            · exact fun hI => hi4.sep c hI (hremO c h)
            · exact (hx3 _ (.inl rfl)).1
            · exact (hx3 _ (.inr rfl)).1
          · rcases hc with h | rfl | rfl
            · exact hS2 c h ho
            · have := hGl _ (hown0' _ ho); omega
            · have := hGl _ (hown0' _ ho); omega
        rcases exCode_jump d1 with ⟨rfl, rfl⟩ | ⟨hn, hn'⟩
        · rcases d4 with ⟨_, d4⟩ | ⟨n, k4, k5, _⟩
          · exact out none true rfl ⟨rfl, d4⟩
          · exfalso
            simp only [D.int.injEq, true_and] at k5
            omega
        · have d5 : AA n σ3 := by
            rcases d4 with ⟨k5, _⟩ | ⟨n', k4, k5, k6⟩
            · exfalso
              simp only [D.int.injEq, true_and] at k5
              omega
            · simp only [D.int.injEq, true_and] at k5
              have : n = n' := by omega
              rw [this]; exact k6
          rcases hn' with ⟨rfl, rfl⟩ | ⟨id, rfl, rfl⟩
          · exact out (some .ret) false rfl ⟨1, hn, rfl, d5⟩
          · exact out (some (.exit id)) false rfl ⟨id + 2, hn, rfl, d5⟩
  have hJ0 : JL (rec fn) mm (w.heap.size + 1) w.heap.size w Im φ σ lids BB RR AA (some Y) (W1 fn) Im (fun c => Own φ σr c ∨ c = w.heap.size + 1 ∨ c = w.heap.size) := by
    have hIl : ¬ Im (w.heap.size + 1) := fun h => by have := hs.inv.im _ h; omega
    have hIb : ¬ Im w.heap.size := fun h => by have := hs.inv.im _ h; omega
    have hOl : ¬ Own φ σr (w.heap.size + 1) := fun h => by have := hinv0.own_lt h; omega
    have hOb : ¬ Own φ σr w.heap.size := fun h => by have := hinv0.own_lt h; omega
    exact ⟨φ, σR, σr, hrem0.symm, by rw [hBB], ⟨⟨by omega, fun c hc _ => hold c hc, hio1⟩, fun c hc => .inl (hown0 c hc), fun _ _ => rfl, fun _ h => h, fun _ h => .inl h⟩, hinv0.ext (by omega) (fun c hc _ => hold c hc), hK1, ⟨hIl, hIb, hOl, hOb⟩, fun c => Iff.rfl, hL1, hrng⟩
  have hargs : ArgsRel (W1 fn) Im (phiOf φ ids) caps' vc.toList := by
    have := args_map h2 (vs := vc.toList) (w := w) (Im := Im) (φ := φ) ⟨by simpa using hvc1, fun i d v a b => hvc2 i d v a (by simpa using b)⟩ (fun d d' v a b => ren_rel (fun _ h => h) idx_phi trFuel d d' v a b)
    exact ⟨this.1, fun i d v a b => (this.2 i d v a b).mono (fun _ h => h) (fun c hc => hold c (hs.inv.im c hc)) (PhiLe.refl _)⟩
  refine (hseq (W1 fn) Im (phiOf φ ids) vc (w.heap.size + 1) _ w.heap.size (Own (phiOf φ ids) sub) (fun c => Own φ σr c ∨ c = w.heap.size + 1 ∨ c = w.heap.size) (hs.sd.gl.mono (fun _ h => h) (fun c hc => hold c (hs.inv.im c hc))) (p1.ext (by omega) fun c hc _ => hold c hc) hargs (hφ0 ▸ hpart) (by omega) (fun _ h => h)
    ⟨fun c hc => ?_, fun c hc hI => ?_⟩ (fun c hc hG => ?_) hJ0).mono ?_
  · rcases hc with h | rfl | rfl
    · have := hinv0.own_lt h; omega
    · omega
    · omega
  · rcases hc with h | rfl | rfl
    · exact hs.inv.sep c hI (hown0 c h)
    · have := hs.inv.im _ hI; omega
    · have := hs.inv.im _ hI; omega
  · rcases hc with h | rfl | rfl
    · exact hap c h hG
    · have := hGl _ hG; omega
    · have := hGl _ hG; omega
  rintro e w3 ⟨⟨v, rfl⟩, I3, X3, hend, hEI, hEX⟩
  rw [hφ0] at hEI hEX
  -- behind the iterator
  have after : ∀ (st : LoopState) (pe : Option Code) (φ' : Phi) (σ' : Sto), st ≠ .busy → w3.heap[w.heap.size + 1]? = some (.loop (rec fn st pe)) → Tr mm w Im φ σ w3 I3 φ' σ' → Inv w3 I3 φ' σ' → w3.heap[w.heap.size]? = some (.deferred (some [])) → (¬ I3 (w.heap.size + 1) ∧ ¬ I3 w.heap.size ∧ ¬ Own φ' σ' (w.heap.size + 1) ∧ ¬ Own φ' σ' w.heap.size) →
      ∃ w4, (Instr.endLoop (w.heap.size + 1)).run E.P w3 = .ok pe w4 ∧ ∀ td, FinQ E C Q (.go ⟨td, fr1, σ'⟩) → sem Fence.wide nf E.P R td .normal { a with defers := [mark w.heap.size] ++ a.defers } w4 := by
    intro st pe φ' σ' hst hl j1 j2 j3 ⟨j4, j5, j6, j7⟩
    have hlt : w.heap.size + 1 < w3.heap.size := (Array.getElem?_eq_some_iff.1 hl).1
    have hrun := run_endLoop (P := E.P) hl (by rw [hrec]; exact hst)
    have hpe : (rec fn st pe).pending = pe := by rw [hrec]
    generalize hW4 : w3.putObj (w.heap.size + 1) (.loop { rec fn st pe with state := .exhausted }) = W4 at hrun
    rw [hpe] at hrun
    refine ⟨W4, hrun, fun td htd => ?_⟩
    have hs4 : W4.heap.size = w3.heap.size := by rw [← hW4]; simp
    have ho4 : ∀ c, c ≠ w.heap.size + 1 → W4.heap[c]? = w3.heap[c]? := fun c hc => by rw [← hW4]; exact World.putObj_heap_other hc
    have hio4 : Io w3 W4 := by rw [← hW4]; exact ⟨rfl, rfl, rfl⟩
    have hne : ∀ c, (I3 c ∨ Own φ' σ' c) → c ≠ w.heap.size + 1 := fun c hc e => by subst e; exact hc.elim j4 j6
    have hi4 : Inv W4 I3 φ' σ' := j2.ext (Nat.le_of_eq hs4.symm) fun c hc h => ho4 c (hne c h)
    have ht4 : Tr mm w Im φ σ W4 I3 φ' σ' := ⟨⟨by rw [hs4]; exact j1.ext.size, fun c hc ho => by rw [ho4 c (by omega)]; exact j1.ext.same c hc ho, j1.ext.io.trans hio4⟩, j1.own, j1.pre, j1.im, j1.imN⟩
    have hsr : SRel E C lo W4 I3 φ' fr1 σ' { a with defers := [mark w.heap.size] ++ a.defers } := by
      refine ⟨hfrG ht4, hi4, ⟨Nat.le_trans hs.sd.low ht4.ext.size, hs.sd.gl.mono ht4.im (ht4.keeps hs.inv), fun h => (by rw [hit] at h; cases h), ?_⟩, hs.sz, Nat.le_trans hCm (hlenG ht4)⟩
      obtain ⟨Ds, hD⟩ := hs.sd.mks
      have hD4 := hD.tr ht4
      refine ⟨w.heap.size :: Ds, by rw [hD.eq]; rfl, fun h => (by rw [hit] at h; cases h), List.nodup_cons.2 ⟨fun h => ?_, hD.nodup⟩, fun b hb => ?_⟩
      · have := (hD.ok _ h).2.1; omega
      · rcases List.mem_cons.1 hb with rfl | hb
        · exact ⟨hs.sd.low, by omega, by rw [ho4 _ (by omega)]; exact j3, j5, j7⟩
        · exact hD4.ok b hb
    exact htd Fence.wide nf hF lo _ W4 I3 φ' hsr R fun e a2 w2 hd => hR e a2 w2 (DoneP.of_tr (ht4.le hCm) hd)
  -- the lent blocks are back
  have whole : ∀ {φ' : Phi} {σf : Sto}, BB σf → Tr mm w Im φ σ w3 I3 φ' (rem lids σf) → Inv w3 I3 φ' (rem lids σf) → (¬ Own φ' (rem lids σf) (w.heap.size + 1) ∧ ¬ Own φ' (rem lids σf) w.heap.size) → (∀ c, X3 c ↔ (Own φ' (rem lids σf) c ∨ c = w.heap.size + 1 ∨ c = w.heap.size)) →
      Tr mm w Im φ σ w3 I3 φ' σf ∧ Inv w3 I3 φ' σf ∧ ¬ Own φ' σf (w.heap.size + 1) ∧ ¬ Own φ' σf w.heap.size := fun {φ' σf} hB j1 j2 j67 j8 => by
    obtain ⟨hF1, hF2⟩ := fillF j2 hEI (fun c hc => hEX c ((j8 c).2 (.inl hc))) j1.pre hB
    refine ⟨⟨j1.ext, fun c hc => (hF2 c hc).elim (j1.own c) fun h => .inl (p2 c (hown0' c h)), j1.pre, j1.im, j1.imN⟩, hF1, fun h => (hF2 _ h).elim j67.1 fun h => by have := hGl _ (hown0' _ h); omega, fun h => (hF2 _ h).elim j67.2 fun h => by have := hGl _ (hown0' _ h); omega⟩
  rcases hend with ⟨φ', σ', _, rfl, hB, j1, j2, j3, j4, j5, j6, j7⟩ | ⟨φ', σ', _, rfl, hB, j1, j2, j3, j4, j5, n, g1, g2, g3⟩
  · obtain ⟨o1, o2, o3, o4⟩ := whole hB j1 j2 ⟨j4.2.2.1, j4.2.2.2⟩ j5
    obtain ⟨w4, k1, k2⟩ := after .ready none φ' σ' (by simp) j6 o1 o2 j3 ⟨j4.1, j4.2.1, o3, o4⟩
    refine ⟨none, w4, k1, k2 t ?_⟩
    have : AA 0 σ' := j7
    rw [hAA] at this
    exact this
  · obtain ⟨o1, o2, o3, o4⟩ := whole hB j1 j2 ⟨j4.2.2.1, j4.2.2.2⟩ j5
    obtain ⟨w4, k1, k2⟩ := after .done (some (codeOf n)) φ' σ' (by simp) g2 o1 o2 j3 ⟨j4.1, j4.2.1, o3, o4⟩
    refine ⟨some (codeOf n), w4, k1, ?_⟩
    rw [hAA] at g3
    match n, g1, g3 with
    | 0, g1, _ => exact absurd rfl g1
    | 1, _, g3 => exact k2 (.code .ret :: t) g3
    | n + 2, _, g3 => exact k2 (.code (.exit n) :: t) g3
end
end Go.RX

namespace Go.RX
open Go
section
variable {E : Env} {C : Cx} {Q : D → Sto → Prop} {w w' : World} {Im Im' : Nat → Prop} {φ φ' : Phi} {σ σ' : Sto}
theorem sem_ops {F : Fence} {n : Nat} {P : Program} {R : Exit → Act → World → Prop} {t : List It} {ops : Array Oper} {a : Act} (h : sem F n P R (.ops ops.toList ops.toList :: t) .normal a w) {id : Nat} : (Code.region id ops false).wpIn F n P (sem F n P R t) a w := by
  refine wpIn_region_list ?_
  have h' : wpListIn F n P ops.toList.toArray (sem F n P R t) ops.toList a w := h
  rwa [Array.toArray_toList] at h'
theorem sem_exit_none {F : Fence} {n : Nat} {P : Program} {R : Exit → Act → World → Prop} {id : Nat} : ∀ (t : List It) (a : Act) (w : World), popTo id t = none → R (.exit id) a w → sem F n P R t (.exit id) a w
  | [], _, _, _, h => h
  | .blk j :: t, a, w, h, hr => by
    simp only [popTo, Bool.cond_eq_ite] at h
    split at h
    · cases h
    · rename_i hj
      simp only [sem, Exit.inBlock]
      rw [if_neg (fun e => hj (by rw [e]; exact Nat.beq_refl j))]
      exact sem_exit_none t a w h hr
  | .sc :: t, a, w, h, hr => sem_exit_none t a w h hr
  | .code _ :: t, a, w, h, hr => sem_exit_none t a w h hr
  | .lp _ _ :: t, a, w, h, hr => sem_exit_none t a w h hr
  | .lpc _ _ :: t, a, w, h, hr => sem_exit_none t a w h hr
  | .ops _ _ :: t, a, w, h, hr => sem_exit_none t a w h hr
theorem look_ok (hm : E.P.follows .mixedOrders = true) (m : M) (hq : FinQ E C Q (look E C m)) : FinM E C Q m := by
  obtain ⟨td, fr, st⟩ := m
  intro F nf hF lo a w Im φ hs R hR
  simp only at hs hR
  have go : ∀ (td' : List It), FinM E C Q ⟨td', fr, st⟩ → sem F nf E.P R td' .normal a w := fun td' h => h F nf hF lo a w Im φ hs R hR
  have fin : ∀ (n : Nat) (e : Exit), exCode e = some n → (e = .normal ∨ e = .ret) → FinQ E C Q (bif C.rb then endR C n st else finish E C fr st) → R e a w := fun n e he he' h => by
    cases hrb : C.rb with
    | true => rw [hrb] at h; exact hR e a w (endR_ok hs hrb h he)
    | false => rw [hrb] at h; exact hR e a w (finish_ok hs hrb h e he')
  cases td with
  | nil => exact fin 0 .normal rfl (.inl rfl) hq
  | cons it t =>
    cases it with
    | blk id => exact go t hq
    | sc => exact go t hq
    | lp c k =>
      simp only [look] at hq
      split at hq
      · rename_i fr2 st2 hc
        have hkeep : ∀ t, Rel w Im φ (fget (keepFr C.fn.ntmps k fr) t) (a.tmps.getD t undef) := fun t => keep_rel hs.fr t
        obtain ⟨φ2, i1, i2, i3⟩ := compact_ok hs.inv hs.m hc hkeep
        have := hq F nf hF lo a w Im φ2 ⟨i3, i1, hs.sd.tr (Nat.le_refl _) hs.inv i2 i1, hs.sz, ?_⟩ R (fun e a' w' hd => hR e a' w' (DoneP.of_tr i2 hd))
        · exact this
        · rcases Nat.lt_or_ge φ2.length C.m with h | h
          · exfalso
            have h1 := i2.pre φ2.length h
            have h2 := hs.m
            rw [List.getElem?_eq_getElem (by omega : φ2.length < φ.length)] at h1
            simp at h1
          · exact h
      · exact hq.elim
    | lpc c k => exact loopIn_round (go _ hq)
    | ops all l =>
      cases l with
      | nil => exact go t hq
      | cons o l =>
        refine stepOp_ok hF hs (k := fun fr st => .go ⟨.ops all l :: t, fr, st⟩) (fun C' fr' σ' w' Im' φ' a' n hs' hq' => ?_) hq
        obtain ⟨Y, rfl⟩ := n.cx
        exact hq' F nf hF lo a' w' Im' φ' hs' R (fun e a2 w2 hd => hR e a2 w2 (n.dn lo Q e a2 w2 hd))
    | code c =>
      cases c with
      | skip => exact wpIn_skip (go t hq)
      | label l => exact wpIn_label (go t hq)
      | scope c => exact wpIn_scope_straight (go _ hq)
      | seq x y => exact wpIn_seq (go _ hq)
      | block id c => exact wpIn_block (go _ hq)
      | loop c => exact loop_of_in (go _ hq)
      | cond c x y =>
        simp only [look] at hq
        split at hq
        · rename_i b hb
          have hr := evalD_rel hs.sd.gl hs.fr c
          rw [hb] at hr
          exact wpIn_cond hr.bool_inv (go _ hq)
        · exact hq.elim
      | exit id =>
        simp only [look] at hq
        split at hq
        · rename_i t' ht
          exact wpIn_exit (sem_exit _ _ _ _ ht (go t' hq))
        · rename_i ht
          cases hrb : C.rb with
          | true =>
            rw [hrb] at hq
            exact wpIn_exit (sem_exit_none _ _ _ ht (hR _ a w (endR_ok hs hrb hq rfl)))
          | false => rw [hrb] at hq; exact hq.elim
      | ret => exact wpIn_ret (sem_ret _ _ _ (fin 1 .ret rfl (.inr rfl) hq))
      | rangeFunc f ps x y =>
        simp only [look] at hq
        cases hrb : C.rb with
        | true => rw [hrb] at hq; exact hq.elim
        | false =>
          cases hit : C.it with
          | true => rw [hrb, hit] at hq; exact hq.elim
          | false => rw [hrb, hit] at hq; exact rng_ok hF hs hrb hit hR hq
      | region id ops draw =>
        cases draw with
        | false => exact sem_ops (go _ hq)
        | true =>
          refine region_ok hF.ok hm hs (k := fun fr st => .go ⟨t, fr, st⟩) (fun fr' σ' w' Im' φ' a' n hs' hq' => ?_) hq
          exact hq' F nf hF lo a' w' Im' φ' hs' R (fun e a2 w2 hd => hR e a2 w2 (DoneP.of_tr (n.le hs.m) hd))
      | _ => exact hq.elim
/-! ### rules -/
theorem adv_ok (hm : E.P.follows .mixedOrders = true) : ∀ (n : Nat) (q : Qy), FinQ E C Q (adv E C n q) → FinQ E C Q q
  | 0, _, h => h
  | n + 1, .go m, h => look_ok hm m (adv_ok hm n _ h)
  | n + 1, .need b q, h => by
    cases b with
    | true => exact ⟨rfl, adv_ok hm n _ h⟩
    | false => exact h.elim
  | n + 1, .split b k, h => show FinQ E C Q (k b) from adv_ok hm n (k b) h
  | n + 1, .row r k, h => by
    cases r with
    | some x => exact ⟨x, rfl, adv_ok hm n _ h⟩
    | none => exact h.elim
  | n + 1, .rows r k, h => show FinQ E C Q (k r) from adv_ok hm n (k r) h
  | n + 1, .any p k, h => by
    cases p with
    | true => exact h
    | false =>
      intro b hb
      cases b with
      | true => exact absurd (hb rfl) (by simp)
      | false => exact adv_ok hm n _ h
  | n + 1, .str r k, h => by
    cases r with
    | some x => exact ⟨x, rfl, adv_ok hm n _ h⟩
    | none => exact h.elim
  | n + 1, .call .., h => h
  | n + 1, .callD .., h => h
  | n + 1, .callS .., h => h
  | n + 1, .callR .., h => h
  | n + 1, .yld .., h => h
  | n + 1, .rng .., h => h
  | n + 1, .ret .., h => h
  | n + 1, .bad, h => h
theorem leaves_marks {P : Program} {fn : Func} {tmps : Array Value} {R : Ending → World → Prop} (w0 : World) (Ds0 : List Nat) (hfin : ∀ w'', Shut Ds0 w0 w'' → ∃ v, (results fn tmps).run P w'' = .ok v w'' ∧ R (.returned v) w'') :
    ∀ (Ds : List Nat) (w : World), Ds.Nodup → (∀ b ∈ Ds, b ∈ Ds0 ∧ w.heap[b]? = some (.deferred (some []))) → Shut Ds0 w0 w → LeavesInM Fence.wide 0 P fn tmps R (Ds.map mark) .returning w
  | [], w, _, _, hs => by
    obtain ⟨v, h1, h2⟩ := hfin w hs
    exact ⟨v, h1, h2⟩
  | b :: Ds, w, hnd, hb, hs => by
    obtain ⟨hn, hnd'⟩ := List.nodup_cons.1 hnd
    obtain ⟨h1, h2⟩ := hb b (by simp)
    refine ⟨by simp, .inl ⟨b, _, rfl, run_takeDeferred h2, leaves_marks w0 Ds0 hfin Ds _ hnd' (fun c hc => ⟨(hb c (by simp [hc])).1, ?_⟩) ⟨by simpa using hs.size, fun c hc => ?_, hs.io.trans ⟨rfl, rfl, rfl⟩⟩⟩⟩
    · rw [World.putObj_heap_other (fun e => hn (by rw [← e]; exact hc))]
      exact (hb c (by simp [hc])).2
    · rw [World.putObj_heap_other (fun e => hc (by rw [e]; exact h1))]
      exact hs.same c hc
theorem DoneP.leaves {lo : Nat} (hrb : C.rb = false) (hit : C.it = false) {e : Exit} {a' : Act} (hd : DoneP E C lo Q w Im φ σ e a' w') {R : Ending → World → Prop}
    (hR : ∀ Ds, (∀ b ∈ Ds, lo ≤ b) → ∀ w'', Shut Ds w' w'' → ∀ v d σ' φ' Im', Tr C.m w Im φ σ w' Im' φ' σ' → Inv w'' Im' φ' σ' → Rel w'' Im' φ' d v → Q d σ' → R (.returned v) w'') :
    bodyPostM Fence.wide 0 E.P C.fn R e a' w' := by
  obtain ⟨g1, Ds, g3, g4, g5, g6, g7⟩ := hd.2 hrb
  have := leaves_marks (P := E.P) (fn := C.fn) (tmps := a'.tmps) (R := R) w' Ds (fun w'' hs => by
    obtain ⟨v, d, s, p, I, k1, k2, k3, k4, k5, -⟩ := g7 w'' hs
    exact ⟨v, k1, hR Ds (fun b hb => (g6 b hb).1) w'' hs v d s p I (k2 hit) k3 k4 k5⟩) Ds w' g5 (fun b hb => ⟨hb, (g6 b hb).2⟩) (Shut.refl _ _)
  rw [← g3] at this
  rcases g1 with rfl | rfl <;> exact this
theorem DoneP.leaves_it {lo : Nat} (hrb : C.rb = false) (hit : C.it = true) {e : Exit} {a' : Act} (hd : DoneP E C lo Q w Im φ σ e a' w') {R : Ending → World → Prop}
    (hR : ∀ v d σ' φ' Im', Inv w' Im' φ' σ' → Q d σ' → IEnd C w' Im' φ' σ' → R (.returned v) w') : bodyPostM Fence.wide 0 E.P C.fn R e a' w' := by
  obtain ⟨g1, Ds, g3, g4, g5, g6, g7⟩ := hd.2 hrb
  obtain rfl := g4 hit
  obtain ⟨v, d, s, p, I, k1, k2, k3, k4, k5, k6⟩ := g7 w' (Shut.refl _ _)
  have : LeavesInM Fence.wide 0 E.P C.fn a'.tmps R a'.defers .returning w' := by
    rw [g3]
    exact ⟨v, k1, hR v d s p I k3 k5 (k6 hit)⟩
  rcases g1 with rfl | rfl <;> exact this
theorem start_rel {fn : Func} {args : List D} {vs : Array Value} (hargs : ArgsRel w Im φ args vs.toList) : ∀ t, Rel w Im φ (fget ((List.range args.length).zip args) t) ((vs ++ Array.replicate (fn.ntmps - vs.size) undef).getD t undef) := by
  have hlen : vs.size = args.length := by have := hargs.1; simpa using this.symm
  intro t
  have key : ∀ (l : List D) (k : Nat), (∀ (i : Nat) (d : D), l[i]? = some d → Rel w Im φ d ((vs ++ Array.replicate (fn.ntmps - vs.size) undef).getD (k + i) undef)) → Rel w Im φ (fget ((List.range' k l.length).zip l) t) ((vs ++ Array.replicate (fn.ntmps - vs.size) undef).getD t undef) := by
    intro l
    induction l with
    | nil => intro k _; simp [fget]; exact .undef _
    | cons d l ih =>
      intro k hk
      simp only [List.length_cons, List.range'_succ, List.zip_cons_cons, fget, Bool.cond_eq_ite]
      split
      · rename_i he
        have := Nat.eq_of_beq_eq_true he
        subst this
        simpa using hk 0 d rfl
      · exact ih (k + 1) (fun i d' hd => by have := hk (i + 1) d' (by simpa using hd); rwa [show k + (i + 1) = k + 1 + i by omega] at this)
  rw [List.range_eq_range']
  refine key args 0 (fun i d hd => ?_)
  have hlt := (List.getElem?_eq_some_iff.1 hd).1
  rw [Nat.zero_add]
  have hv : vs.toList[i]? = some (vs[i]'(by omega)) := by simp
  have := hargs.2 i d _ hd hv
  have e : (vs ++ Array.replicate (fn.ntmps - vs.size) undef).getD i undef = vs[i]'(by omega) := by
    simp [Array.getElem?_append_left (show i < vs.size by omega), show i < vs.size by omega]
  rw [e]; exact this
theorem start_inv {fn : Func} {args : List D} {σ : Sto} {m : M} (hst : start fn args σ = some m) : ∃ c, fn.body = some c ∧ args.length ≤ fn.ntmps ∧ m = ⟨[.code c], (List.range args.length).zip args, σ⟩ := by
  unfold start at hst
  cases hb : fn.body with
  | none => simp [hb] at hst
  | some c =>
    simp only [hb, Bool.cond_eq_ite] at hst
    split at hst
    · rename_i hle
      exact ⟨c, rfl, Nat.le_of_ble_eq_true hle, (Option.some.inj hst).symm⟩
    · cases hst
theorem sound_of {f : FuncId} {fn : Func} {args : List D} {σ : Sto} {m : M} (hf : E.P.funcs[f]? = some fn) (hst : start fn args σ = some m) (h : FinQ E (.of fn (E.pol f).keep σ.length) Q (.go m)) : Sound E f args σ Q := by
  obtain ⟨c, hb, hle, rfl⟩ := start_inv hst
  intro w Im φ vs hgl hi hargs
  have hlen : vs.size = args.length := by have := hargs.1; simpa using this.symm
  refine callsIn_wide.1 (callsIn_of_wp_marks (n := 0) hf hb trivial ?_)
  have := h Fence.wide 0 ⟨fun _ => rfl, fun h => by cases h⟩ w.heap.size ⟨vs ++ Array.replicate (fn.ntmps - vs.size) undef, []⟩ w Im φ
    ⟨start_rel hargs, hi, ⟨Nat.le_refl _, hgl, fun h => (by cases h), [], rfl, fun _ => rfl, List.nodup_nil, fun b hb => by simp at hb⟩, by simp [Cx.of]; omega, by simp [hi.len, Cx.of]⟩
    (bodyPostM Fence.wide 0 E.P fn fun e w' => ∃ v d σ' φ' Im', e = .returned v ∧ Tr σ.length w Im φ σ w' Im' φ' σ' ∧ Inv w' Im' φ' σ' ∧ Rel w' Im' φ' d v ∧ Q d σ')
    (fun e a' w' hd => hd.leaves rfl rfl fun Ds hlo w'' hs v d s p I h1 h2 h3 h4 => by
      refine ⟨v, d, s, p, I, rfl, ⟨⟨by rw [hs.size]; exact h1.ext.size, fun c hc ho => ?_, h1.ext.io.trans hs.io⟩, fun c hc => h1.own c hc, h1.pre, h1.im, h1.imN⟩, h2, h3, h4⟩
      rw [hs.same c fun hm => by have := hlo c hm; omega]
      exact h1.ext.same c hc ho)
  exact wpIn_mono (Q := sem Fence.wide 0 E.P _ []) this (fun e a w hh => by cases e <;> exact hh)
theorem seq_of {f : FuncId} {fn : Func} {caps : List D} {σ ln : Sto} {Y : List (List D)} {m : Nat → M} (hf : E.P.funcs[f]? = some fn) (hst : ∀ l, start fn (.yld l :: caps) σ = some (m l)) (hln : Lent ln σ) (hcl : Closed ln)
    (h : ∀ l φ0 J, FinQ E (.seq fn σ.length ln l φ0 J (some Y)) (fun _ s => Lent ln s) (.go (m l))) : SoundSeq E f caps σ ln Y := by
  intro w Im φ vs l J n0 G X hgl hi hargs hp hn0 hG hx hd hJ
  obtain ⟨c, hb, hle, hmm⟩ := start_inv (hst l)
  obtain ⟨us, hus⟩ : ∃ us : Array Value, us = #[Value.func (.yield l) #[] #[]] ++ vs := ⟨_, rfl⟩
  rw [← hus]
  have hlnl : ln.length ≤ σ.length := by
    have := congrArg List.length hln
    rw [List.length_take] at this
    omega
  have hp0 : PhiLe (φ.take ln.length) φ := fun b l hb => by
    rw [List.getElem?_take] at hb
    split at hb
    · exact hb
    · cases hb
  have hpl : (φ.take ln.length).length = ln.length := by rw [List.length_take, hi.len]; omega
  have hargs' : ArgsRel w Im φ (.yld l :: caps) us.toList := by
    rw [hus]
    refine ⟨by have := hargs.1; simp at this ⊢; omega, fun i d v a b => ?_⟩
    cases i with
    | zero => simp at a b; subst a; subst b; exact .yld l
    | succ i => exact hargs.2 i d v (by simpa using a) (by simpa [Array.getElem?_append] using b)
  have hlen : us.size = (D.yld l :: caps).length := by have := hargs'.1; simpa using this.symm
  refine callsIn_wide.1 (callsIn_of_wp_marks (n := 0) hf hb trivial ?_)
  have h' := h l (φ.take ln.length) J
  rw [hmm] at h'
  have := h' Fence.wide 0 ⟨fun _ => rfl, fun h => by cases h⟩ w.heap.size ⟨us ++ Array.replicate (fn.ntmps - us.size) undef, []⟩ w Im φ
    ⟨start_rel hargs', hi, ⟨Nat.le_refl _, hgl, fun _ => ⟨⟨hp0, hpl, by show (φ.take ln.length).length ≤ σ.length; rw [hpl]; exact hlnl, hcl⟩, n0, G, X, hp, hn0, fun c hc => .inl (hG c hc), hx, hd, hJ⟩, [], rfl, fun _ => rfl, List.nodup_nil, fun b hb => by simp at hb⟩, by simp only [Array.size_append, Array.size_replicate, hlen, Cx.seq]; omega, by simp [hi.len, Cx.seq]⟩
    (bodyPostM Fence.wide 0 E.P fn fun e w' => (∃ v, e = .returned v) ∧ ∃ Im' X', (J (some []) w' Im' X' ∨ J none w' Im' X') ∧ Inv w' Im' (φ.take ln.length) ln ∧ (∀ c, X' c → ¬ Own (φ.take ln.length) ln c))
    (fun e a' w' hd => hd.leaves_it rfl rfl fun v d s p I hi' hq hend => ⟨⟨v, rfl⟩, by
      obtain ⟨⟨e1, e2, e3⟩, X', hj, hx'⟩ := hend
      obtain ⟨f1, f2⟩ := hi'.first hq e1 e2 e3
      exact ⟨I, X', hj, f1, fun c hc ho => hx' c hc (f2 c ho)⟩⟩)
  exact wpIn_mono (Q := sem Fence.wide 0 E.P _ []) this (fun e a w hh => by cases e <;> exact hh)
/-! A question is known by what it asks; what is behind it is said by functions, so that no text of it is needed. -/
def Qy.needB : Qy → Option Bool | .need b _ => some b | _ => none
def Qy.needK : Qy → Qy | .need _ q => q | _ => .bad
def Qy.splitB : Qy → Option Bool | .split b _ => some b | _ => none
def Qy.splitK : Qy → Bool → Qy | .split _ k => k | _ => fun _ => .bad
def Qy.rowR : Qy → Option (Option (List D)) | .row r _ => some r | _ => none
def Qy.rowK : Qy → List D → Qy | .row _ k => k | _ => fun _ => .bad
def Qy.rowsR : Qy → Option (List (List D)) | .rows r _ => some r | _ => none
def Qy.rowsK : Qy → List (List D) → Qy | .rows _ k => k | _ => fun _ => .bad
def Qy.strR : Qy → Option (Option (List UInt8)) | .str r _ => some r | _ => none
def Qy.strK : Qy → List UInt8 → Qy | .str _ k => k | _ => fun _ => .bad
def Qy.callK : Qy → D → Sto → Qy | .call _ _ _ k => k | .callS _ _ _ k => k | _ => fun _ _ => .bad
def Qy.callRK : Qy → D → Sto → Qy | .callR _ _ _ _ bk k, d, s => (match bk d s with | some x => k x.1 x.2 | none => .bad) | _, _, _ => .bad
def Qy.callRT : Qy → D → Sto → Option Sto | .callR _ _ _ σ bk _, d, s => (bk d s).map fun x => x.2.take σ.length | _, _, _ => none
def Qy.callRS : Qy → Sto | .callR _ _ _ σ _ _ => σ | _ => []
def Qy.callDK : Qy → D → Qy | .callD _ _ k => k | _ => fun _ => .bad
def Qy.yldA : Qy → Option (Nat × List D × Sto) | .yld l y s _ => some (l, y, s) | _ => none
def Qy.yldK : Qy → Bool → Qy | .yld _ _ _ k => k | _ => fun _ => .bad
def Qy.rngA : Qy → Option (Nat × FuncId × List D × Sto × Sto × List Nat) | .rng m g caps sub σ ids _ _ => some (m, g, caps, sub, σ, ids) | _ => none
def Qy.rngR : Qy → List D → Sto → Qy | .rng _ _ _ _ _ _ r _ => r | _ => fun _ _ => .bad
def Qy.rngK : Qy → Nat → Sto → Qy | .rng _ _ _ _ _ _ _ a => a | _ => fun _ _ => .bad
def Qy.retR : Qy → Option (D × Sto) | .ret d s => some (d, s) | _ => none
theorem r_need {q : Qy} (b : Bool) (h : q.needB = some b) (hb : b = true) (hk : FinQ E C Q q.needK) : FinQ E C Q q := by
  cases q <;> simp [Qy.needB] at h
  subst h
  exact ⟨hb, hk⟩
theorem r_split {q : Qy} (b : Bool) (h : q.splitB = some b) (ht : b = true → FinQ E C Q (q.splitK true)) (hf : b = false → FinQ E C Q (q.splitK false)) : FinQ E C Q q := by
  cases q <;> simp [Qy.splitB] at h
  subst h
  rename_i b k
  cases b
  · exact hf rfl
  · exact ht rfl
theorem r_row {q : Qy} (r : Option (List D)) (x : List D) (h : q.rowR = some r) (hr : r = some x) (hk : FinQ E C Q (q.rowK x)) : FinQ E C Q q := by
  cases q <;> simp [Qy.rowR] at h
  subst h
  exact ⟨x, hr, hk⟩
def Qy.anyP : Qy → Option Bool | .any p _ => some p | _ => none
def Qy.anyK : Qy → Bool → Qy | .any _ k => k | _ => fun _ => .bad
theorem r_any {q : Qy} (p : Bool) (h : q.anyP = some p) (hf : FinQ E C Q (q.anyK false)) (ht : p = true → FinQ E C Q (q.anyK true)) : FinQ E C Q q := by
  cases q with
  | any p' k =>
    obtain rfl : p' = p := Option.some.inj h
    intro b hb
    cases b with
    | false => exact hf
    | true => exact ht (hb rfl)
  | _ => cases h
theorem r_rows {q : Qy} (r x : List (List D)) (h : q.rowsR = some r) (hr : r = x) (hk : FinQ E C Q (q.rowsK x)) : FinQ E C Q q := by
  subst hr
  cases q with
  | rows r' k => obtain rfl : r' = r := Option.some.inj h; exact hk
  | _ => cases h
theorem r_str {q : Qy} (r : Option (List UInt8)) (x : List UInt8) (h : q.strR = some r) (hr : r = some x) (hk : FinQ E C Q (q.strK x)) : FinQ E C Q q := by
  cases q <;> simp [Qy.strR] at h
  subst h
  exact ⟨x, hr, hk⟩
theorem r_ret {q : Qy} (d : D) (s : Sto) (h : q.retR = some (d, s)) (hf : C.fin) (hq : Q d s) : FinQ E C Q q := by
  cases q <;> simp [Qy.retR] at h
  obtain ⟨rfl, rfl⟩ := h
  exact ⟨hf, hq⟩
theorem r_to {q q' : Qy} (h : q = q') (hq : FinQ E C Q q') : FinQ E C Q q := h ▸ hq
/-! ### closed runs -/
end
end Go.RX
