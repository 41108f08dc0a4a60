/-
  RX, soundness, fourth part: calls.
-/
import Derived.Test.YthooiaebbikjiaaRxFrz
set_option linter.unusedSimpArgs false
set_option linter.unusedVariables false
namespace Go.RX
open Go
section
variable {E : Env} {C : Cx} {Q : D → Sto → Prop} {w w' : World} {Im Im' : Nat → Prop} {φ φ' : Phi} {σ σ' : Sto}

theorem setAll_length : ∀ (ids : List Nat) (xs σ : Sto), (setAll ids xs σ).length = σ.length
  | [], _, _ => by simp [setAll]
  | _ :: _, [], _ => by simp [setAll]
  | b :: ids, x :: xs, σ => by simp [setAll, setAll_length ids xs σ]

theorem setAll_get : ∀ (ids : List Nat) (xs σ : Sto) (b : Nat), nodupB ids = true → b < σ.length →
    (∃ j, ids[j]? = some b ∧ j < xs.length ∧ sget (setAll ids xs σ) b = sget xs j) ∨ ((∀ j, ids[j]? = some b → xs.length ≤ j) ∧ sget (setAll ids xs σ) b = sget σ b)
  | [], xs, σ, b, _, _ => .inr ⟨fun j h => by simp at h, by simp [setAll]⟩
  | x :: ids, [], σ, b, _, _ => .inr ⟨fun j _ => by simp, by simp [setAll]⟩
  | x :: ids, y :: xs, σ, b, hnd, hb => by
    have hnd' := hnd
    simp only [nodupB, Bool.and_eq_true, Bool.not_eq_true'] at hnd'
    by_cases hx : x = b
    · subst hx
      refine .inl ⟨0, rfl, by simp, ?_⟩
      rw [setAll, sget_set_self (by rw [setAll_length]; exact hb)]
      unfold sget; cases y <;> rfl
    · rcases setAll_get ids xs σ b hnd'.2 hb with ⟨j, h1, h2, h3⟩ | ⟨h1, h2⟩
      · refine .inl ⟨j + 1, by simpa using h1, by simp; omega, ?_⟩
        rw [setAll, sget_set_ne hx, h3]
        unfold sget; simp
      · refine .inr ⟨fun j hj => ?_, by rw [setAll, sget_set_ne hx, h2]⟩
        cases j with
        | zero => simp at hj; exact absurd hj hx
        | succ j => have := h1 j (by simpa using hj); simp; omega

/-- Behind a call that was handed some of the caller's blocks. -/
theorem Inv.passed (hi : Inv w Im φ σ) {ids : List Nat} (hnd : nodupB ids = true) (hin : ∀ b ∈ ids, b < σ.length) {sub s s' : Sto} {φ2 : Phi}
    (hsub : mapSto (tr (renH fun b => idxOf ids b 0) trFuel) (pickSto σ ids) = some sub)
    (ht : Tr sub.length w Im (phiOf φ ids) sub w' Im' φ2 s) (h2 : Inv w' Im' φ2 s)
    (hs : mapSto (tr (renH (backN ids σ.length)) trFuel) s = some s') (hn : ids.length ≤ s'.length) :
    Nx w Im φ σ w' Im' (φ ++ φ2.drop ids.length) (setAll ids s' σ ++ s'.drop ids.length) ∧
    ∀ d d' v, Rel w' Im' φ2 d v → tr (renH (backN ids σ.length)) trFuel d = some d' → Rel w' Im' (φ ++ φ2.drop ids.length) d' v := by
  obtain ⟨p1, p2⟩ := hi.pick hnd rfl hsub
  obtain ⟨q1, q2⟩ := mapSto_some hs
  have hsubl : sub.length = ids.length := by rw [(mapSto_some hsub).1]; simp [pickSto]
  have hφlen := hi.len
  have h2len := h2.len
  have hpre : ∀ j b, ids[j]? = some b → ∃ l, φ[b]? = some l ∧ φ2[j]? = some l := fun j b hj => by
    have hb := hin b (List.mem_of_getElem? hj)
    have hj' := (List.getElem?_eq_some_iff.1 hj).1
    have hlt : b < φ.length := by omega
    refine ⟨φ[b]'hlt, List.getElem?_eq_getElem hlt, ?_⟩
    rw [ht.pre j (by omega), phiOf_get hj, locOf, List.getElem?_eq_getElem hlt]
    rfl
  have hren : ∀ d d' v, Rel w' Im' φ2 d v → tr (renH (backN ids σ.length)) trFuel d = some d' → Rel w' Im' (φ ++ φ2.drop ids.length) d' v := fun d d' v a b =>
    ren_rel (fun _ h => h) (fun j c l e1 e2 => by
      simp only [backN, Bool.cond_eq_ite] at e1
      split at e1
      · obtain ⟨l', e3, e4⟩ := hpre j c e1
        obtain rfl := Option.some.inj (e2.symm.trans e4)
        exact PhiLe.append _ _ _ _ e3
      · rename_i hlt
        have hge : ids.length ≤ j := by
          rcases Nat.lt_or_ge j ids.length with h | h
          · exact absurd (Nat.ble_eq_true_of_le h) hlt
          · exact h
        obtain rfl := Option.some.inj e1
        rw [← hφlen, List.getElem?_append_right (by omega), List.getElem?_drop, show ids.length + (φ.length + (j - ids.length) - φ.length) = j by omega]
        exact e2) trFuel d d' v a b
  -- what a block of the new store is
  have hget : ∀ b B l, sget (setAll ids s' σ ++ s'.drop ids.length) b = some B → (φ ++ φ2.drop ids.length)[b]? = some l →
      (b < σ.length ∧ (∀ j, ids[j]? ≠ some b) ∧ sget σ b = some B ∧ φ[b]? = some l) ∨
      (∃ j B2, sget s j = some B2 ∧ φ2[j]? = some l ∧ BlkOk w' Im' (φ ++ φ2.drop ids.length) B l ∧ ((b < σ.length ∧ ids[j]? = some b) ∨ (σ.length ≤ b ∧ j = ids.length + (b - σ.length)))) := fun b B l a1 a2 => by
    by_cases hb : b < σ.length
    · rw [sget_append_left (by rw [setAll_length]; exact hb)] at a1
      rw [List.getElem?_append_left (by rw [hφlen]; exact hb)] at a2
      rcases setAll_get ids s' σ b hnd hb with ⟨j, h1, h3, h4⟩ | ⟨h1, h3⟩
      · rw [h4] at a1
        obtain ⟨B2, hB2, h5⟩ := q2 j B a1
        obtain ⟨l', e3, e4⟩ := hpre j b h1
        obtain rfl := Option.some.inj (a2.symm.trans e3)
        exact .inr ⟨j, B2, hB2, e4, mapBlk_ok (fun _ h => h) hren (tr_scal (renH_scal _) trFuel) h5 (h2.blk _ _ _ hB2 e4), .inl ⟨hb, h1⟩⟩
      · rw [h3] at a1
        refine .inl ⟨hb, fun j hj => ?_, a1, a2⟩
        have := h1 j hj
        have := (List.getElem?_eq_some_iff.1 hj).1
        omega
    · have a1' : sget s' (ids.length + (b - σ.length)) = some B := by
        rw [sget_some] at a1 ⊢
        rw [List.getElem?_append_right (by rw [setAll_length]; omega), List.getElem?_drop, setAll_length] at a1
        exact a1
      rw [List.getElem?_append_right (by rw [hφlen]; omega), List.getElem?_drop, hφlen] at a2
      obtain ⟨B2, hB2, h5⟩ := q2 _ B a1'
      exact .inr ⟨_, B2, hB2, a2, mapBlk_ok (fun _ h => h) hren (tr_scal (renH_scal _) trFuel) h5 (h2.blk _ _ _ hB2 a2), .inr ⟨by omega, rfl⟩⟩
  have hown2 : ∀ c, Own φ2 s c → Own φ σ c ∨ w.heap.size ≤ c := fun c hc => by
    rcases ht.own c hc with h | h
    · exact .inl (p2 c h)
    · exact .inr h
  -- an untouched block is none of the callee's
  have hfar : ∀ b B l, sget σ b = some B → φ[b]? = some l → (∀ j, ids[j]? ≠ some b) → ¬ Own (phiOf φ ids) sub l.blk ∧ ¬ Own φ2 s l.blk := fun b B l a1 a2 a3 => by
    have hno : ¬ Own (phiOf φ ids) sub l.blk := by
      rintro ⟨j, B', l', e1, e2, e3⟩
      obtain ⟨B0, hB0, _⟩ := (mapSto_some hsub).2 j B' e2
      obtain ⟨b', hb', hB'⟩ := pickSto_get hB0
      obtain ⟨l0, hl0, _⟩ := hi.loc hB'
      rw [phiOf_get hb', locOf, hl0] at e1
      obtain rfl : l0 = l' := by simpa using e1
      have hne : b' ≠ b := fun e => a3 j (e ▸ hb')
      exact hi.inj b' b B0 B l0 l hne hl0 a2 hB' a1 e3
    refine ⟨hno, fun ho => ?_⟩
    rcases ht.own _ ho with h | h
    · exact hno h
    · have := (hi.blk b B l a1 a2).lt; omega
  refine ⟨⟨PhiLe.append _ _, by simp, ⟨⟨ht.ext.size, fun c hc ho => ht.ext.same c hc (fun h => ho (p2 c h)), ht.ext.io⟩, fun c hc => ?_, fun b hb => by rw [List.getElem?_append_left hb], ht.im, fun c hc => ?_⟩, ⟨?_, fun b B l a1 a2 => ?_, fun b b' B B' l l' hne a1 a2 a3 a4 => ?_, fun c hc ho => ?_, h2.im⟩⟩, hren⟩
  · obtain ⟨b, B, l, a1, a2, rfl⟩ := hc
    rcases hget b B l a2 a1 with ⟨_, _, h3, h4⟩ | ⟨j, B2, h3, h4, _, _⟩
    · exact .inl ⟨b, B, l, h4, h3, rfl⟩
    · exact hown2 _ ⟨j, B2, l, h4, h3, rfl⟩
  · rcases ht.imN c hc with h | h | h
    · exact .inl h
    · exact .inr (.inl (p2 c h))
    · exact .inr (.inr h)
  · simp only [List.length_append, setAll_length, List.length_drop, hφlen, h2len, q1]
  · rcases hget b B l a1 a2 with ⟨_, h0, h3, h4⟩ | ⟨j, B2, h3, h4, hk, _⟩
    · have hk := hi.blk b B l h3 h4
      exact hk.of_heap (ht.ext.same _ hk.lt (hfar b B l h3 h4 h0).1) ht.ext.size ht.im (fun c hc => ht.ext.same c (hi.im c hc) (p1.sep c hc)) (PhiLe.append _ _)
    · exact hk
  · rcases hget b B l a3 a1 with ⟨_, h0, h3, h4⟩ | ⟨j, B2, h3, h4, _, hj⟩ <;> rcases hget b' B' l' a4 a2 with ⟨_, g0, g3, g4⟩ | ⟨j', C2, g3, g4, _, gj⟩
    · exact hi.inj b b' B B' l l' hne h4 g4 h3 g3
    · exact fun e => (hfar b B l h3 h4 h0).2 ⟨j', C2, l', g4, g3, e.symm⟩
    · exact fun e => (hfar b' B' l' g3 g4 g0).2 ⟨j, B2, l, h4, h3, e⟩
    · refine h2.inj j j' B2 C2 l l' (fun e => ?_) h4 g4 h3 g3
      subst e
      rcases hj with ⟨_, hj⟩ | ⟨hj1, hj2⟩ <;> rcases gj with ⟨_, gj⟩ | ⟨gj1, gj2⟩
      · exact hne (Option.some.inj (hj.symm.trans gj))
      · have := (List.getElem?_eq_some_iff.1 hj).1; omega
      · have := (List.getElem?_eq_some_iff.1 gj).1; omega
      · omega
  · obtain ⟨b, B, l, a1, a2, rfl⟩ := ho
    rcases hget b B l a2 a1 with ⟨_, h0, h3, h4⟩ | ⟨j, B2, h3, h4, _, _⟩
    · rcases ht.imN _ hc with h | h | h
      · exact hi.sep _ h ⟨b, B, l, h4, h3, rfl⟩
      · exact (hfar b B l h3 h4 h0).1 h
      · have := (hi.blk b B l h3 h4).lt; omega
    · exact h2.sep _ hc ⟨j, B2, l, h4, h3, rfl⟩

/-- What is to be shown behind a call is shown. -/
theorem callQ_ok (hi : Inv w Im φ σ) {f : FuncId} {args : List D} {vs : Array Value} (hargs : ArgsRel w Im φ args vs.toList) {k : D → Sto → Qy} (h : FinQ E C Q (callQ E f args σ k)) :
    Calls E.P f vs w fun e w' => ∃ v d σ' φ' Im', e = .returned v ∧ Nx w Im φ σ w' Im' φ' σ' ∧ Rel w' Im' φ' d v ∧ FinQ E C Q (k d σ') := by
  unfold callQ at h
  split at h
  · rename_i args' hm
    obtain ⟨Qc, hs, hk⟩ := h
    refine (hs w Im [] vs (Inv.nil hi.im) (args_map hm hargs (fun d d' v a b => noRef_rel trFuel d d' v a b))).mono ?_
    rintro e w' ⟨v, d, s, φ2, I2, rfl, ht, h2, hr, hq⟩
    have hk' := hk d s hq
    have ht' : Tr 0 w Im [] [] w' I2 φ2 s := ht
    have hN : ∀ c, I2 c → Im c ∨ w.heap.size ≤ c := fun c hc => by
      rcases ht'.imN c hc with h | h | h
      · exact .inl h
      · exact absurd h (no_own c)
      · exact .inr h
    obtain ⟨n1, n2⟩ := hi.past ht' h2 ht'.im hN
    cases s with
    | nil =>
      have : φ2 = [] := List.eq_nil_of_length_eq_zero (by rw [h2.len]; rfl)
      subst this
      exact ⟨v, d, σ, φ, I2, rfl, ⟨PhiLe.refl _, Nat.le_refl _, n2, n1⟩, hr.mono (fun _ h => h) (fun _ _ => rfl) (PhiLe.nil _), hk'⟩
    | cons b s =>
      simp only at hk'
      split at hk'
      · rename_i d' s' e1 e2
        have hdis : ∀ c, Own φ2 (b :: s) c → ¬ Own φ σ c := fun c hc ho => by
          rcases ht'.own c hc with h | h
          · exact no_own c h
          · have := hi.own_lt ho; omega
        obtain ⟨j1, j2, j3⟩ := n1.join h2 hdis e2
        refine ⟨v, d', _, _, I2, rfl, ⟨PhiLe.append _ _, by simp, ⟨n2.ext, fun c hc => ?_, fun b hb => by rw [List.getElem?_append_left hb], n2.im, n2.imN⟩, j1⟩, j3 d d' v hr e1, hk'⟩
        rcases j2 c hc with h | h
        · exact .inl h
        · rcases ht'.own c h with h | h
          · exact absurd h (no_own c)
          · exact .inr h
      · exact hk'.elim
  · simp only [Bool.cond_eq_ite] at h
    split at h
    · split at h
      · rename_i args' sub h1 h2 h3
        simp only [Bool.and_eq_true] at h1
        obtain ⟨h0, h0'⟩ := h1
        obtain ⟨hnd, -⟩ := okIds_spec h0
        obtain ⟨Qc, hs, hk⟩ := h
        obtain ⟨p1, p2⟩ := hi.pick hnd rfl h3
        refine (hs w Im _ vs p1 (args_map h2 hargs (fun d d' v a b => ren_rel (fun _ h => h) idx_phi trFuel d d' v a b))).mono ?_
        rintro e w' ⟨v, d, s, φ2, I2, rfl, ht, hi2, hr, hq⟩
        have hk' := hk d s hq
        simp only at hk'
        split at hk'
        · rename_i d' s' e1 e2
          split at hk'
          · rename_i hn
            obtain ⟨j1, j2⟩ := hi.passed hnd (fun b hb => Nat.lt_of_succ_le (Nat.le_of_ble_eq_true (List.all_eq_true.1 h0' b hb))) h3 ht hi2 e2 (Nat.le_of_ble_eq_true hn)
            exact ⟨v, d', _, _, I2, rfl, j1, j2 d d' v hr e1, hk'⟩
          · exact hk'.elim
        · exact hk'.elim
      · exact h.elim
    · split at h
      · rename_i args' hm0
        obtain ⟨hneed, h⟩ := needs_ok h
        have hm := frzs_to hneed hm0
        obtain ⟨Qc, hs, hk⟩ := h
        have hIm : ∀ c, Im c → (Im c ∨ Own φ σ c) := fun c h => .inl h
        have hfr : ∀ d d' v, Rel w Im φ d v → frz σ 0 d = some d' → Rel w (fun c => Im c ∨ Own φ σ c) [] d' v := fun d d' v a b => by
          have hown : ∀ (b : Nat) (B : Blk) (l : Loc), 0 ≤ b → sget σ b = some B → φ[b]? = some l → (fun c => Im c ∨ Own φ σ c) l.blk := fun b B l _ a2 a3 => .inr ⟨b, B, l, a3, a2, rfl⟩
          exact tr_rel hIm (fun b i o d' v a b' => frzH_rel hi hIm hown 6 false _ (fun _ b l hb => by omega) _ d' v (fun _ _ _ _ => trivial) a b') (fun b i len lo ex d' v a b' => frzH_rel hi hIm hown 6 false _ (fun _ b l hb => by omega) _ d' v (fun _ _ _ _ => trivial) a b') trFuel d d' v a b
        refine (hs w (fun c => Im c ∨ Own φ σ c) [] vs (Inv.nil (fun c hc => hc.elim (hi.im c) hi.own_lt)) (args_map hm hargs hfr)).mono ?_
        rintro e w' ⟨v, d, s, φ2, I2, rfl, ht, h2, hr, hq⟩
        have hk' := hk d s hq
        have ht' : Tr 0 w (fun c => Im c ∨ Own φ σ c) [] [] w' I2 φ2 s := ht
        cases s with
        | nil =>
          simp only at hk'
          split at hk'
          · rename_i hp
            have hsame : ∀ c, c < w.heap.size → w'.heap[c]? = w.heap[c]? := fun c hc => ht'.ext.same c hc (no_own c)
            refine ⟨v, d, σ, φ, Im, rfl, ⟨PhiLe.refl _, Nat.le_refl _, ⟨⟨ht'.ext.size, fun c hc _ => hsame c hc, ht'.ext.io⟩, fun c hc => .inl hc, fun _ _ => rfl, fun _ h => h, fun _ h => .inl h⟩,
              ⟨hi.len, fun b B l a1 a2 => (hi.blk b B l a1 a2).of_heap (hsame _ (hi.blk b B l a1 a2).lt) ht'.ext.size (fun _ h => h) (fun c hc => hsame c (hi.im c hc)) (PhiLe.refl _), hi.inj, hi.sep, fun c hc => Nat.lt_of_lt_of_le (hi.im c hc) ht'.ext.size⟩⟩, plain_rel 4 d v hp hr, hk'⟩
          · exact hk'.elim
        | cons b s => exact hk'.elim
      · exact h.elim

end
end Go.RX
