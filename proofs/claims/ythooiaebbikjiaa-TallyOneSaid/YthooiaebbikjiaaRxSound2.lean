/-
  RX, soundness, second part: compaction, the end of a function.
-/
import Derived.Test.YthooiaebbikjiaaRxSound
set_option linter.unusedSimpArgs false
set_option linter.unusedVariables false
namespace Go.RX
open Go
section
variable {w : World} {Im Im' : Nat → Prop} {φ φ' : Phi} {σ σ' : Sto}

theorem mapBlk_ok {f : D → Option D} (hIm : ∀ c, Im c → Im' c) (hf : ∀ d d' v, Rel w Im φ d v → f d = some d' → Rel w Im' φ' d' v) (hs : ∀ d d', scal d = true → f d = some d' → scal d' = true)
    {B B' : Blk} {l : Loc} (h : mapBlk f (some B) = some (some B')) (hk : BlkOk w Im φ B l) : BlkOk w Im' φ' B' l := by
  simp only [mapBlk] at h
  split at h
  · rename_i hd
    simp only [Option.map_eq_some_iff] at h
    obtain ⟨rows, hrows, h1⟩ := h
    obtain rfl := Option.some.inj h1
    have hr := mapR_rows hf hs hrows hk.rowsAt'
    exact ⟨hk.sz, hr.1, by simp only [(mapR_some hrows).1]; exact hk.fit, hk.mem, hk.lt, fun i j r d a b => by simpa using hr.2 i j r d a b⟩
  · rename_i hd
    obtain rfl := Option.some.inj (Option.some.inj h)
    refine ⟨hk.sz, hk.len, hk.fit, hk.mem, hk.lt, fun i j r d a b => ?_⟩
    obtain ⟨v, hv, hr⟩ := hk.rel i j r d a b
    refine ⟨v, hv, ?_⟩
    have hd' : B.deep = false := by simpa using hd
    simp only [hd', Bool.false_eq_true, if_false] at hr ⊢
    exact hr.mono hIm (fun _ _ => rfl) (PhiLe.refl _)

theorem mapSto_some {f : D → Option D} : ∀ {σ σ' : Sto}, mapSto f σ = some σ' → σ'.length = σ.length ∧ ∀ (i : Nat) (B' : Blk), sget σ' i = some B' → ∃ B, sget σ i = some B ∧ mapBlk f (some B) = some (some B')
  | [], σ', h => by simp [mapSto] at h; subst h; exact ⟨rfl, fun i B' h => by simp [sget] at h⟩
  | b :: r, σ', h => by
    simp only [mapSto] at h
    split at h
    · rename_i c s h1 h2
      obtain rfl := Option.some.inj h
      obtain ⟨h3, h4⟩ := mapSto_some h2
      refine ⟨by simp [h3], fun i B' a => ?_⟩
      rw [sget_some] at a
      cases i with
      | zero =>
        simp at a
        subst a
        cases b with
        | none => simp [mapBlk] at h1
        | some B => exact ⟨B, rfl, h1⟩
      | succ i =>
        obtain ⟨B, hB, h5⟩ := h4 i B' (by rw [sget_some]; simpa using a)
        exact ⟨B, by rw [sget_some] at hB ⊢; simpa using hB, h5⟩
    · cases h

theorem nodupB_spec : ∀ {ids : List Nat}, nodupB ids = true → ∀ (i j b : Nat), ids[i]? = some b → ids[j]? = some b → i = j
  | [], _, i, j, b, h, _ => by simp at h
  | x :: r, h, i, j, b, h1, h2 => by
    simp only [nodupB, Bool.and_eq_true, Bool.not_eq_true'] at h
    have hx : x ∉ r := by simpa using h.1
    cases i with
    | zero =>
      cases j with
      | zero => rfl
      | succ j =>
        simp at h1 h2
        subst h1
        exact absurd (List.mem_of_getElem? h2) hx
    | succ i =>
      cases j with
      | zero =>
        simp at h1 h2
        subst h2
        exact absurd (List.mem_of_getElem? h1) hx
      | succ j => rw [nodupB_spec h.2 i j b (by simpa using h1) (by simpa using h2)]

theorem idxOf_spec : ∀ {ids : List Nat} {b k c : Nat}, idxOf ids b k = some c → k ≤ c ∧ ids[c - k]? = some b
  | [], _, _, _, h => by simp [idxOf] at h
  | x :: r, b, k, c, h => by
    simp only [idxOf, Bool.cond_eq_ite] at h
    split at h
    · rename_i hb
      obtain rfl := Option.some.inj h
      exact ⟨Nat.le_refl _, by simp; exact Nat.eq_of_beq_eq_true hb⟩
    · obtain ⟨h1, h2⟩ := idxOf_spec h
      exact ⟨by omega, by rw [show c - k = (c - (k + 1)) + 1 by omega]; simpa using h2⟩

def locOf (φ : Phi) (b : Nat) : Loc := (φ[b]?).getD ⟨0, 0, 0, 0⟩
def phiOf (φ : Phi) (ids : List Nat) : Phi := ids.map (locOf φ)

theorem phiOf_get {ids : List Nat} {i b : Nat} (h : ids[i]? = some b) : (phiOf φ ids)[i]? = some (locOf φ b) := by simp [phiOf, h]

theorem idx_phi {ids : List Nat} : ∀ (b c : Nat) (l : Loc), idxOf ids b 0 = some c → φ[b]? = some l → (phiOf φ ids)[c]? = some l := fun b c l h1 h2 => by
  obtain ⟨_, h3⟩ := idxOf_spec h1
  rw [Nat.sub_zero] at h3
  rw [phiOf_get h3, locOf, h2]; rfl

theorem pickSto_get {ids : List Nat} {i : Nat} {B : Blk} (h : sget (pickSto σ ids) i = some B) : ∃ b, ids[i]? = some b ∧ sget σ b = some B := by
  rw [sget_some] at h
  simp only [pickSto, List.getElem?_map, Option.map_eq_some_iff] at h
  obtain ⟨b, hb, h1⟩ := h
  refine ⟨b, hb, ?_⟩
  rw [sget_some]
  split at h1
  · rename_i B' h2; rw [h2, h1]
  · cases h1

/-- Some of the blocks, under other names. -/
theorem Inv.pick (hi : Inv w Im φ σ) {ids : List Nat} (hnd : nodupB ids = true) {f : D → Option D} (hf : f = tr (renH fun b => idxOf ids b 0) trFuel) (h : mapSto f (pickSto σ ids) = some σ') :
    Inv w Im (phiOf φ ids) σ' ∧ ∀ c, Own (phiOf φ ids) σ' c → Own φ σ c := by
  subst hf
  obtain ⟨h1, h2⟩ := mapSto_some h
  have hget : ∀ i B' l, sget σ' i = some B' → (phiOf φ ids)[i]? = some l → ∃ b B, ids[i]? = some b ∧ sget σ b = some B ∧ φ[b]? = some l ∧ BlkOk w Im (phiOf φ ids) B' l := fun i B' l h3 h4 => by
    obtain ⟨B, hB, h5⟩ := h2 i B' h3
    obtain ⟨b, hb, hB'⟩ := pickSto_get hB
    obtain ⟨l', hl', hk⟩ := hi.loc hB'
    rw [phiOf_get hb, locOf, hl'] at h4
    obtain rfl : l' = l := by simpa using h4
    exact ⟨b, B, hb, hB', hl', mapBlk_ok (fun _ h => h) (fun d d' v a b => ren_rel (fun _ h => h) idx_phi trFuel d d' v a b) (tr_scal (renH_scal _) trFuel) h5 hk⟩
  have hown : ∀ c, Own (phiOf φ ids) σ' c → Own φ σ c := by
    rintro c ⟨i, B', l, h3, h4, rfl⟩
    obtain ⟨b, B, _, hB, hl, _⟩ := hget i B' l h4 h3
    exact ⟨b, B, l, hl, hB, rfl⟩
  refine ⟨⟨by rw [h1]; simp [phiOf, pickSto], fun i B' l h3 h4 => ?_, fun i j B1 B2 l1 l2 hne h3 h4 h5 h6 => ?_, fun c hc ho => hi.sep c hc (hown c ho), hi.im⟩, hown⟩
  · obtain ⟨_, _, _, _, _, hk⟩ := hget i B' l h3 h4
    exact hk
  · obtain ⟨b1, C1, e1, e2, e3, _⟩ := hget i B1 l1 h5 h3
    obtain ⟨b2, C2, g1, g2, g3, _⟩ := hget j B2 l2 h6 h4
    refine hi.inj b1 b2 C1 C2 l1 l2 (fun e => ?_) e3 g3 e2 g2
    subst e
    exact hne (nodupB_spec hnd i j b1 e1 g1)

theorem mapFr_get {f : D → Option D} : ∀ {fr fr' : Fr}, mapFr f fr = some fr' → ∀ t, (fget fr' t = .undef ∧ fget fr t = .undef) ∨ f (fget fr t) = some (fget fr' t)
  | [], fr', h, t => by simp [mapFr] at h; subst h; exact .inl ⟨rfl, rfl⟩
  | x :: r, fr', h, t => by
    simp only [mapFr] at h
    split at h
    · rename_i d s h1 h2
      obtain rfl := Option.some.inj h
      simp only [fget, Bool.cond_eq_ite]
      split
      · exact .inr h1
      · exact mapFr_get h2 t
    · cases h

theorem okIds_spec {m : Nat} {ids : List Nat} (h : okIds m ids = true) : nodupB ids = true ∧ ∀ b, b < m → ids[b]? = some b := by
  simp only [okIds, Bool.and_eq_true, beq_iff_eq] at h
  refine ⟨h.2, fun b hb => ?_⟩
  have := congrArg (fun l => l[b]?) h.1
  simp only [List.getElem?_take, if_pos hb] at this
  rw [this]; simp [hb]

theorem compact_ok (hi : Inv w Im φ σ) {m : Nat} {fr fr' : Fr} (hm : m ≤ φ.length) (h : compact m fr σ = some (fr', σ')) {a : Nat → Value} (hfr : ∀ t, Rel w Im φ (fget fr t) (a t)) :
    ∃ φ', Inv w Im φ' σ' ∧ Tr m w Im φ σ w Im φ' σ' ∧ ∀ t, Rel w Im φ' (fget fr' t) (a t) := by
  unfold compact at h
  simp only at h
  split at h
  · rename_i fr2 s h1 h2 h3
    simp only [Option.some.injEq, Prod.mk.injEq] at h
    obtain ⟨rfl, rfl⟩ := h
    obtain ⟨hnd, hfirst⟩ := okIds_spec h1
    obtain ⟨i1, i2⟩ := hi.pick hnd rfl h3
    refine ⟨_, i1, ⟨⟨Nat.le_refl _, fun _ _ _ => rfl, ⟨rfl, rfl, rfl⟩⟩, fun c hc => .inl (i2 c hc), fun b hb => ?_, fun _ h => h, fun _ h => .inl h⟩, fun t => ?_⟩
    · rw [phiOf_get (hfirst b hb), locOf]
      have : b < φ.length := by omega
      simp [this]
    · rcases mapFr_get h2 t with ⟨g1, g2⟩ | g
      · rw [g1]; exact .undef _
      · exact ren_rel (fun _ h => h) idx_phi trFuel _ _ _ (hfr t) g
  · cases h

theorem sget_take {m b : Nat} : sget (σ.take m) b = if b < m then sget σ b else none := by
  unfold sget
  rw [List.getElem?_take]
  split <;> simp_all

/-- The end of a function: what it made is frozen. -/
theorem seal_ok (hi : Inv w Im φ σ) {m : Nat} (hm : m ≤ φ.length) {d d' : D} {v : Value} (hd : Rel w Im φ d v) (h1 : frz σ m d = some d') (h2 : mapSto (frz σ m) (σ.take m) = some σ') :
    ∃ φ' Im', Inv w Im' φ' σ' ∧ Tr m w Im φ σ w Im' φ' σ' ∧ Rel w Im' φ' d' v := by
  let Im2 : Nat → Prop := fun c => Im c ∨ ∃ b B l, m ≤ b ∧ sget σ b = some B ∧ φ[b]? = some l ∧ l.blk = c
  have hIm : ∀ c, Im c → Im2 c := fun c h => .inl h
  have hown : ∀ (b : Nat) (B : Blk) (l : Loc), m ≤ b → sget σ b = some B → φ[b]? = some l → Im2 l.blk := fun b B l a1 a2 a3 => .inr ⟨b, B, l, a1, a2, a3, rfl⟩
  have htake : ∀ (b : Nat) (l : Loc), b < m → φ[b]? = some l → (φ.take m)[b]? = some l := fun b l a1 a2 => by rw [List.getElem?_take, if_pos a1]; exact a2
  have hfr : ∀ d d' v, Rel w Im φ d v → frz σ m d = some d' → Rel w Im2 (φ.take m) d' v := fun d d' v a b =>
    tr_rel hIm (fun b i o d' v a b' => frzH_rel hi hIm hown 6 false _ (fun _ => htake) _ d' v (fun _ _ _ _ => trivial) a b') (fun b i len lo ex d' v a b' => frzH_rel hi hIm hown 6 false _ (fun _ => htake) _ d' v (fun _ _ _ _ => trivial) a b') trFuel d d' v a b
  have hsc : ∀ d d', scal d = true → frz σ m d = some d' → scal d' = true := tr_scal (fun d d' a b => frzH_scal 6 false d d' a b) trFuel
  obtain ⟨g1, g2⟩ := mapSto_some h2
  have hget : ∀ i B' l, sget σ' i = some B' → (φ.take m)[i]? = some l → i < m ∧ ∃ B, sget σ i = some B ∧ φ[i]? = some l ∧ BlkOk w Im2 (φ.take m) B' l := fun i B' l a b => by
    obtain ⟨B, hB, h5⟩ := g2 i B' a
    rw [sget_take] at hB
    split at hB
    · rename_i him
      rw [List.getElem?_take, if_pos him] at b
      exact ⟨him, B, hB, b, mapBlk_ok hIm hfr hsc h5 (hi.blk i B l hB b)⟩
    · cases hB
  have hown2 : ∀ c, Own (φ.take m) σ' c → Own φ σ c := by
    rintro c ⟨i, B', l, a, b, rfl⟩
    obtain ⟨_, B, hB, hl, _⟩ := hget i B' l b a
    exact ⟨i, B, l, hl, hB, rfl⟩
  refine ⟨φ.take m, Im2, ⟨?_, fun i B' l a b => (hget i B' l a b).2.choose_spec.2.2, fun i j B1 B2 l1 l2 hne a1 a2 a3 a4 => ?_, fun c hc ho => ?_, fun c hc => ?_⟩, ⟨⟨Nat.le_refl _, fun _ _ _ => rfl, ⟨rfl, rfl, rfl⟩⟩, fun c hc => .inl (hown2 c hc), fun b hb => by rw [List.getElem?_take, if_pos hb], hIm, fun c hc => ?_⟩, hfr d d' v hd h1⟩
  · rw [g1, List.length_take, List.length_take, hi.len]
  · obtain ⟨_, C1, e1, e2, _⟩ := hget i B1 l1 a3 a1
    obtain ⟨_, C2, f1, f2, _⟩ := hget j B2 l2 a4 a2
    exact hi.inj i j C1 C2 l1 l2 hne e2 f2 e1 f1
  · rcases hc with hc | ⟨b, B, l, a1, a2, a3, a4⟩
    · exact hi.sep c hc (hown2 c ho)
    · obtain ⟨i, B', l', b1, b2, b3⟩ := ho
      obtain ⟨him, B2, c1, c2, _⟩ := hget i B' l' b2 b1
      exact hi.inj b i B B2 l l' (by omega) a3 c2 a2 c1 (by rw [a4, b3])
  · rcases hc with hc | ⟨b, B, l, a1, a2, a3, rfl⟩
    · exact hi.im c hc
    · exact (hi.blk b B l a2 a3).lt
  · rcases hc with hc | ⟨b, B, l, a1, a2, a3, rfl⟩
    · exact .inl hc
    · exact .inr (.inl ⟨b, B, l, a3, a2, rfl⟩)

end
end Go.RX
