/-
  RX, soundness, first part: going through data (renaming, freezing), compaction, handing over.
-/
import Derived.Test.YthooiaebbikjiaaRxOps8
set_option linter.unusedSimpArgs false
set_option linter.unusedVariables false
namespace Go.RX
open Go
section
variable {w : World} {Im Im' : Nat → Prop} {φ φ' : Phi} {σ : Sto}

theorem mapO_some {f : D → Option D} : ∀ {ds ds' : List D}, mapO f ds = some ds' → ds'.length = ds.length ∧ ∀ (i : Nat) (d d' : D), ds[i]? = some d → ds'[i]? = some d' → f d = some d'
  | [], ds', h => by simp [mapO] at h; subst h; exact ⟨rfl, fun i d d' h => by simp at h⟩
  | d :: r, ds', h => by
    simp only [mapO] at h
    split at h
    · rename_i e s h1 h2
      obtain rfl := Option.some.inj h
      obtain ⟨h3, h4⟩ := mapO_some h2
      refine ⟨by simp [h3], fun i d d' a b => ?_⟩
      cases i with
      | zero => simp at a b; subst a; subst b; exact h1
      | succ i => exact h4 i d d' (by simpa using a) (by simpa using b)
    · cases h

theorem mapR_some {f : D → Option D} : ∀ {rs rs' : List (List D)}, mapR f rs = some rs' → rs'.length = rs.length ∧ ∀ (i : Nat) (r r' : List D), rs[i]? = some r → rs'[i]? = some r' → mapO f r = some r'
  | [], rs', h => by simp [mapR] at h; subst h; exact ⟨rfl, fun i d d' h => by simp at h⟩
  | d :: r, rs', h => by
    simp only [mapR] at h
    split at h
    · rename_i e s h1 h2
      obtain rfl := Option.some.inj h
      obtain ⟨h3, h4⟩ := mapR_some h2
      refine ⟨by simp [h3], fun i d d' a b => ?_⟩
      cases i with
      | zero => simp at a b; subst a; subst b; exact h1
      | succ i => exact h4 i d d' (by simpa using a) (by simpa using b)
    · cases h

theorem get_of_len {α β : Type} {l : List α} {m : List β} (h : l.length = m.length) {i : Nat} {y : β} (hy : m[i]? = some y) : ∃ x, l[i]? = some x := by
  have := (List.getElem?_eq_some_iff.1 hy).1
  exact ⟨l[i]'(by omega), by simp⟩

/-- Related before, related behind: where the names of local blocks are dealt with rightly. -/
theorem tr_rel {h : D → Option D} (hIm : ∀ c, Im c → Im' c)
    (hp : ∀ b i o d' v, Rel w Im φ (.ptr b i o) v → h (.ptr b i o) = some d' → Rel w Im' φ' d' v)
    (hm : ∀ b i len lo ex d' v, Rel w Im φ (.msl b i len lo ex) v → h (.msl b i len lo ex) = some d' → Rel w Im' φ' d' v) :
    ∀ (n : Nat) (d d' : D) (v : Value), Rel w Im φ d v → tr h n d = some d' → Rel w Im' φ' d' v
  | 0, _, _, _, _, hd => by simp [tr] at hd
  | n + 1, d, d', v, hr, hd => by
    have IH := tr_rel hIm hp hm n
    have lst : ∀ (ds ds' : List D) (vs : Array Value), mapO (tr h n) ds = some ds' → ds.length = vs.size → (∀ (i : Nat) (d : D) (v : Value), ds[i]? = some d → vs[i]? = some v → Rel w Im φ d v) →
        ds'.length = vs.size ∧ ∀ (i : Nat) (d : D) (v : Value), ds'[i]? = some d → vs[i]? = some v → Rel w Im' φ' d v := fun ds ds' vs h1 h2 h3 => by
      obtain ⟨h4, h5⟩ := mapO_some h1
      refine ⟨by omega, fun i d v a b => ?_⟩
      obtain ⟨d0, hd0⟩ := get_of_len h4.symm a
      exact IH d0 d v (h3 i d0 v hd0 b) (h5 i d0 d hd0 a)
    cases hr with
    | undef v => simp [tr] at hd; subst hd; exact .undef _
    | bool b => simp [tr] at hd; subst hd; exact .bool _
    | int k n => simp [tr] at hd; subst hd; exact .int _ _
    | str s l e => simp [tr] at hd; subst hd; exact .str _ _ e
    | nilp => simp [tr] at hd; subst hd; exact .nilp
    | ptr b i o l e => exact hp _ _ _ _ _ (.ptr b i o l e) (by simpa [tr] using hd)
    | iptr sz rows i o c base vf e1 e2 e3 e4 =>
      simp [tr] at hd; subst hd
      exact .iptr _ _ _ _ _ _ vf (hIm _ e1) e2 e3 (fun i j r d a b => (e4 i j r d a b).mono hIm (fun _ _ => rfl) (PhiLe.refl _))
    | nilsl sz => simp [tr] at hd; subst hd; exact .nilsl _
    | sl sz rows c base cap vf e1 e2 e3 e4 e5 =>
      simp [tr] at hd; subst hd
      exact .sl _ _ _ _ _ vf (fun h => hIm _ (e1 h)) e2 e3 e4 (fun i j r d a b => (e5 i j r d a b).mono hIm (fun _ _ => rfl) (PhiLe.refl _))
    | msl b i len lo ex l cap a e1 e2 e3 e4 e5 e6 e7 => exact hm _ _ _ _ _ _ _ (.msl b i len lo ex l cap a e1 e2 e3 e4 e5 e6 e7) (by simpa [tr] using hd)
    | fn f first caps vf vc e1 e2 e3 e4 =>
      simp only [tr] at hd
      split at hd
      · rename_i a c h1 h2
        obtain rfl := Option.some.inj hd
        obtain ⟨g1, g2⟩ := lst _ _ _ h1 e1 e3
        obtain ⟨g3, g4⟩ := lst _ _ _ h2 e2 e4
        exact .fn _ _ _ _ _ g1 g3 g2 g4
      · cases hd
    | nilfn => simp [tr] at hd; subst hd; exact .nilfn
    | agg cs vs e1 e2 =>
      simp only [tr, Option.map_eq_some_iff] at hd
      obtain ⟨cs', h1, rfl⟩ := hd
      obtain ⟨g1, g2⟩ := lst _ _ _ h1 e1 e2
      exact .agg _ _ g1 g2
    | tup cs vs e1 e2 =>
      simp only [tr, Option.map_eq_some_iff] at hd
      obtain ⟨cs', h1, rfl⟩ := hd
      obtain ⟨g1, g2⟩ := lst _ _ _ h1 e1 e2
      exact .tup _ _ g1 g2
    | iface t d v e =>
      simp only [tr, Option.map_eq_some_iff] at hd
      obtain ⟨d2, h1, rfl⟩ := hd
      exact .iface _ _ _ (IH _ _ _ e h1)
    | nili => simp [tr] at hd; subst hd; exact .nili

/-- A scalar stays one. -/
theorem tr_scal {h : D → Option D} (hs : ∀ d d', scal d = true → h d = some d' → scal d' = true) : ∀ (n : Nat) (d d' : D), scal d = true → tr h n d = some d' → scal d' = true
  | 0, _, _, _, hd => by simp [tr] at hd
  | n + 1, d, d', hsd, hd => by
    cases d <;> simp [scal] at hsd
    case ptr => exact hs _ _ rfl (by simpa [tr] using hd)
    case msl => exact hs _ _ rfl (by simpa [tr] using hd)
    case fn =>
      simp only [tr] at hd
      split at hd
      · obtain rfl := Option.some.inj hd; rfl
      · cases hd
    case iface =>
      simp only [tr, Option.map_eq_some_iff] at hd
      obtain ⟨d2, h1, rfl⟩ := hd
      rfl
    all_goals (simp [tr] at hd; subst hd; rfl)

theorem mapO_ok {f : D → Option D} (hf : ∀ d d', scal d = true → f d = some d' → scal d' = true) {sz : Nat} {r r' : List D} (h : mapO f r = some r') (hr : RowOk sz r) : RowOk sz r' := by
  obtain ⟨h1, h2⟩ := mapO_some h
  refine ⟨by rw [h1]; exact hr.1, List.all_eq_true.2 fun d hd => ?_⟩
  obtain ⟨i, hi⟩ := List.getElem?_of_mem hd
  obtain ⟨d0, hd0⟩ := get_of_len h1.symm hi
  exact hf d0 d (List.all_eq_true.1 hr.2 d0 (List.mem_of_getElem? hd0)) (h2 i d0 d hd0 hi)

theorem mapR_ok {f : D → Option D} (hf : ∀ d d', scal d = true → f d = some d' → scal d' = true) {sz : Nat} {rs rs' : List (List D)} (h : mapR f rs = some rs') (hr : ∀ r ∈ rs, RowOk sz r) : ∀ r ∈ rs', RowOk sz r := by
  obtain ⟨h1, h2⟩ := mapR_some h
  intro r hm
  obtain ⟨i, hi⟩ := List.getElem?_of_mem hm
  obtain ⟨r0, hr0⟩ := get_of_len h1.symm hi
  exact mapO_ok hf (h2 i r0 r hr0 hi) (hr r0 (List.mem_of_getElem? hr0))

/-- Rows gone through. -/
theorem mapR_rows {f : D → Option D} {ψ ψ' : Phi} (hf : ∀ d d' v, Rel w Im ψ d v → f d = some d' → Rel w Im' ψ' d' v) (hs : ∀ d d', scal d = true → f d = some d' → scal d' = true)
    {c base sz : Nat} {rows rows' : List (List D)} (h : mapR f rows = some rows') (hr : RowsAt w Im ψ c base sz rows) : RowsAt w Im' ψ' c base sz rows' := by
  obtain ⟨h1, h2⟩ := mapR_some h
  refine ⟨mapR_ok hs h hr.1, fun i j r d a b => ?_⟩
  obtain ⟨r0, hr0⟩ := get_of_len h1.symm a
  obtain ⟨h3, h4⟩ := mapO_some (h2 i r0 r hr0 a)
  obtain ⟨d0, hd0⟩ := get_of_len h3.symm b
  obtain ⟨v, hv, hrel⟩ := hr.2 i j r0 d0 hr0 hd0
  exact ⟨v, hv, hf d0 d v hrel (h4 j d0 d hd0 b)⟩

theorem RowsAt.choose {ψ : Phi} {c base sz : Nat} {rows : List (List D)} (h : RowsAt w Im ψ c base sz rows) : ∃ vf : Nat → Nat → Value,
    (∀ (i j : Nat) (r : List D) (d : D), rows[i]? = some r → r[j]? = some d → w.cell? ⟨c, base + i * sz + j, none⟩ = some (vf i j)) ∧
    (∀ (i j : Nat) (r : List D) (d : D), rows[i]? = some r → r[j]? = some d → Rel w Im ψ d (vf i j)) := by
  refine ⟨fun i j => (w.cell? ⟨c, base + i * sz + j, none⟩).getD undef, fun i j r d a b => ?_, fun i j r d a b => ?_⟩
  · obtain ⟨v, hv, _⟩ := h.2 i j r d a b
    simp only [hv]; rfl
  · obtain ⟨v, hv, hr⟩ := h.2 i j r d a b
    simp only [hv]; exact hr

theorem RowsAt.iptr {c base sz : Nat} {rows : List (List D)} (h : RowsAt w Im [] c base sz rows) (hc : Im c) (i o : Nat) : Rel w Im φ (.iptr sz rows i o) (.pointer (some ⟨c, base + i * sz + o, none⟩)) := by
  obtain ⟨vf, h1, h2⟩ := h.choose
  exact .iptr _ _ _ _ _ _ vf hc h.1 h1 h2

theorem RowsAt.sl {c base sz : Nat} {rows : List (List D)} (h : RowsAt w Im [] c base sz rows) (hc : rows ≠ [] → Im c) {cap : Nat} (hcap : rows.length ≤ cap) : Rel w Im φ (.sl false sz rows) (.slice (some ⟨c, base, none⟩) rows.length cap) := by
  obtain ⟨vf, h1, h2⟩ := h.choose
  exact .sl _ _ _ _ _ vf hc h.1 hcap h1 h2

theorem RowsAt.im {ψ : Phi} {c base sz : Nat} {rows : List (List D)} (h : RowsAt w Im ψ c base sz rows) (hIm : ∀ c, Im c → Im' c) : RowsAt w Im' ψ c base sz rows :=
  ⟨h.1, fun i j r d a b => let ⟨v, hv, hr⟩ := h.2 i j r d a b; ⟨v, hv, hr.mono hIm (fun _ _ => rfl) (PhiLe.refl _)⟩⟩

theorem renH_scal (ρ : Nat → Option Nat) : ∀ d d', scal d = true → renH ρ d = some d' → scal d' = true := fun d d' h1 h2 => by
  cases d <;> simp [scal] at h1 <;> simp only [renH, Option.map_eq_some_iff, Option.some.injEq] at h2
  all_goals first | (obtain ⟨c, _, rfl⟩ := h2; rfl) | (subst h2; rfl)

theorem ren_rel {ρ : Nat → Option Nat} (hIm : ∀ c, Im c → Im' c) (hρ : ∀ (b c : Nat) (l : Loc), ρ b = some c → φ[b]? = some l → φ'[c]? = some l) (n : Nat) (d d' : D) (v : Value) (hr : Rel w Im φ d v) (hd : tr (renH ρ) n d = some d') : Rel w Im' φ' d' v := by
  refine tr_rel hIm (fun b i o d' v hr hd => ?_) (fun b i len lo ex d' v hr hd => ?_) n d d' v hr hd
  · simp only [renH, Option.map_eq_some_iff] at hd
    obtain ⟨c, hc, rfl⟩ := hd
    obtain ⟨l, hl, rfl⟩ := hr.ptr_inv
    exact .ptr _ _ _ _ (hρ _ _ _ hc hl)
  · simp only [renH, Option.map_eq_some_iff] at hd
    obtain ⟨c, hc, rfl⟩ := hd
    obtain ⟨l, cap, a, hl, rfl, h1, h2, h3, h4, h5, h6⟩ := hr.msl_inv
    exact .msl _ _ _ _ _ _ _ _ (hρ _ _ _ hc hl) h1 h2 h3 h4 h5 h6

theorem noRef_rel (n : Nat) (d d' : D) (v : Value) (hr : Rel w Im φ d v) (hd : tr noRef n d = some d') : Rel w Im [] d' v :=
  tr_rel (fun _ h => h) (fun b i o d' v hr hd => by simp [noRef] at hd) (fun b i len lo ex d' v hr hd => by simp [noRef] at hd) n d d' v hr hd

theorem frzH_scal {m : Nat} : ∀ (k : Nat) (st : Bool) (d d' : D), scal d = true → frzH σ m st k d = some d' → scal d' = true := fun k st d d' h1 h2 => by
  cases k with
  | zero => simp [frzH] at h2
  | succ k =>
    cases d <;> simp only [frzH, Bool.cond_eq_ite] at h2 <;> try (cases h2; done)
    all_goals
      (repeat' (first | split at h2))
      all_goals first | (cases h2; done) | (obtain rfl := Option.some.inj h2; rfl)

/-- Freezing. -/
theorem frzH_rel (hi : Inv w Im φ σ) {m : Nat} (hIm : ∀ c, Im c → Im' c) (hown : ∀ (b : Nat) (B : Blk) (l : Loc), m ≤ b → sget σ b = some B → φ[b]? = some l → Im' l.blk) :
    ∀ (n : Nat) (strict : Bool) (φ' : Phi), (strict = false → ∀ (b : Nat) (l : Loc), b < m → φ[b]? = some l → φ'[b]? = some l) → ∀ (d d' : D) (v : Value), (∀ b i o, d = .ptr b i o → True) → Rel w Im φ d v → frzH σ m strict n d = some d' → Rel w Im' φ' d' v
  | 0, _, _, _, _, _, _, _, _, hd => by simp [frzH] at hd
  | n + 1, strict, φ', hφ', d, d', v, _, hr, hd => by
    have IH := frzH_rel hi hIm hown n true [] (fun h => by cases h)
    have htr : ∀ (d d' : D) (v : Value), Rel w Im φ d v → tr (frzH σ m true n) trFuel d = some d' → Rel w Im' [] d' v := fun d d' v h1 h2 =>
      tr_rel hIm (fun b i o d' v a b' => IH _ d' v (fun _ _ _ _ => trivial) a b') (fun b i len lo ex d' v a b' => IH _ d' v (fun _ _ _ _ => trivial) a b') trFuel d d' v h1 h2
    have hscal := fun k st => frzH_scal (σ := σ) (m := m) k st
    have hts : ∀ d d', scal d = true → tr (frzH σ m true n) trFuel d = some d' → scal d' = true := tr_scal (hscal n true) trFuel
    cases d with
    | ptr b i o =>
      obtain ⟨l, hl, rfl⟩ := hr.ptr_inv
      simp only [frzH, Bool.cond_eq_ite] at hd
      split at hd
      · rename_i hlt
        split at hd
        · cases hd
        · rename_i hst
          obtain rfl := Option.some.inj hd
          exact .ptr _ _ _ _ (hφ' (by simpa using hst) b l (Nat.lt_of_succ_le (Nat.le_of_ble_eq_true hlt)) hl)
      · rename_i hlt
        have hge : m ≤ b := by
          rcases Nat.lt_or_ge b m with h | h
          · exact absurd (Nat.ble_eq_true_of_le h) hlt
          · exact h
        split at hd
        · rename_i B hB
          obtain ⟨l', hl', hk⟩ := hi.loc hB
          obtain rfl := Option.some.inj (hl.symm.trans hl')
          have him := hown b B l hge hB hl
          split at hd
          · rename_i hdp
            split at hd
            · rename_i rows hrows
              obtain rfl := Option.some.inj hd
              rw [hk.sz]
              exact (mapR_rows htr hts hrows hk.rowsAt').iptr him i o
            · cases hd
          · rename_i hdp
            obtain rfl := Option.some.inj hd
            have h5 := hk.rowsAt
            simp only [hdp] at h5
            rw [hk.sz]
            exact (h5.im hIm).iptr him i o
        · cases hd
    | msl b i len lo ex =>
      obtain ⟨l, cap, a, hl, rfl, h1, h2, h3, h4, h5, h6⟩ := hr.msl_inv
      simp only [frzH, Bool.cond_eq_ite] at hd
      split at hd
      · rename_i hlt
        split at hd
        · cases hd
        · rename_i hst
          obtain rfl := Option.some.inj hd
          exact .msl _ _ _ _ _ _ _ _ (hφ' (by simpa using hst) b l (Nat.lt_of_succ_le (Nat.le_of_ble_eq_true hlt)) hl) h1 h2 h3 h4 h5 h6
      · rename_i hlt
        have hge : m ≤ b := by
          rcases Nat.lt_or_ge b m with h | h
          · exact absurd (Nat.ble_eq_true_of_le h) hlt
          · exact h
        split at hd
        · rename_i B hB
          obtain ⟨l', hl', hk⟩ := hi.loc hB
          obtain rfl := Option.some.inj (hl.symm.trans hl')
          have him := hown b B l hge hB hl
          split at hd
          · rename_i hble
            have hble' := Nat.le_of_ble_eq_true hble
            have hlen : ((B.rows.drop i).take len).length = len := by simp; omega
            have key : ∀ rows, rows.length = len → RowsAt w Im' [] l.blk (l.base + i * B.sz) B.sz rows → Rel w Im' φ' (.sl false B.sz rows) (.slice (some a) len cap) := fun rows q1 q2 => by
              by_cases hcap : cap = 0
              · have : rows = [] := List.eq_nil_of_length_eq_zero (by omega)
                subst this
                have : len = 0 := by simpa using q1.symm
                subst this
                have ha : a = ⟨a.block, a.off, none⟩ := by cases a; simp_all
                rw [ha]
                exact .sl B.sz [] _ _ cap (fun _ _ => undef) (by simp) (by simp) (by simp) (by simp) (by simp)
              · rw [h6 hcap, hk.sz, ← q1]
                exact q2.sl (fun _ => him) (by omega)
            split at hd
            · rename_i hdp
              split at hd
              · rename_i rows hrows
                obtain rfl := Option.some.inj hd
                exact key rows (by rw [(mapR_some hrows).1, hlen]) (mapR_rows htr hts hrows (hk.rowsAt'.sub i len))
              · cases hd
            · rename_i hdp
              obtain rfl := Option.some.inj hd
              have h7 := (hk.rowsAt).sub i len
              simp only [hdp] at h7
              exact key _ hlen (h7.im hIm)
          · cases hd
        · cases hd
    | _ => simp [frzH] at hd

end
end Go.RX
