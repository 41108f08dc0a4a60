/-
  Words and walks for FenceWrites. No condition.
-/
import Derived.WalkKit
import Derived.ProofKit
import Derived.OpenShut
import Derived.ShutString
import Derived.ChangeOld
import Derived.Below
import Derived.SizedLaws
import Derived.Test.YtflpengopdhhhaaDoorFenceWritesX2
set_option linter.unusedSectionVars false
set_option linter.unnecessarySimpa false
set_option linter.unusedSimpArgs false
set_option linter.unusedVariables false
namespace Go.RX
open Go
/-! ### weaker data: nil slices are slices of nothing -/
def Wk (d d' : D) : Prop := ∀ (w : World) (Im : Nat → Prop) (φ : Phi) (v : Value), Rel w Im φ d v → Rel w Im φ d' v
def fixL (f : List (Option Nat) → D → Option (List (Option Nat) × D)) : List (Option Nat) → List D → Option (List (Option Nat) × List D)
  | ns, [] => some (ns, [])
  | ns, d :: r => match f ns d with
    | some x => (match fixL f x.1 r with | some y => some (y.1, x.2 :: y.2) | none => none)
    | none => none
def fixD : Nat → List (Option Nat) → D → Option (List (Option Nat) × D)
  | 0, ns, d => some (ns, d)
  | n + 1, ns, d => match d with
    | .sl true z rows => (match ns with
      | some sz :: r => some (r, .sl false sz rows)
      | none :: r => some (r, .sl true z rows)
      | [] => some ([], .sl true z rows))
    | .agg cs => (match fixL (fixD n) ns cs with | some x => some (x.1, .agg x.2) | none => none)
    | .tup cs => (match fixL (fixD n) ns cs with | some x => some (x.1, .tup x.2) | none => none)
    | d => some (ns, d)
theorem fixL_spec {f : List (Option Nat) → D → Option (List (Option Nat) × D)} (hf : ∀ ns d x, f ns d = some x → Wk d x.2) : ∀ (ns : List (Option Nat)) (l : List D) (y : List (Option Nat) × List D), fixL f ns l = some y →
    l.length = y.2.length ∧ ∀ (i : Nat) (d d' : D), l[i]? = some d → y.2[i]? = some d' → Wk d d'
  | ns, [], y, h => by
    simp only [fixL, Option.some.injEq] at h
    subst h
    exact ⟨rfl, fun i d d' h => by simp at h⟩
  | ns, d :: r, y, h => by
    simp only [fixL] at h
    split at h
    · rename_i x hx
      split at h
      · rename_i z hz
        obtain rfl := Option.some.inj h
        obtain ⟨h1, h2⟩ := fixL_spec hf _ _ _ hz
        refine ⟨by simp [h1], fun i d1 d2 a b => ?_⟩
        cases i with
        | zero =>
          simp only [List.getElem?_cons_zero, Option.some.injEq] at a b
          subst a; subst b
          exact hf _ _ _ hx
        | succ i => exact h2 i d1 d2 (by simpa using a) (by simpa using b)
      · cases h
    · cases h
theorem fixD_wk : ∀ (n : Nat) (ns : List (Option Nat)) (d : D) (x : List (Option Nat) × D), fixD n ns d = some x → Wk d x.2
  | 0, ns, d, x, h => by simp only [fixD, Option.some.injEq] at h; subst h; exact fun _ _ _ _ h => h
  | n + 1, ns, d, x, h => by
    have agg : ∀ (cs : List D) (y : List (Option Nat) × List D), fixL (fixD n) ns cs = some y → ∀ (w : World) (Im : Nat → Prop) (φ : Phi) (vs : Array Value), cs.length = vs.size → (∀ (i : Nat) (d : D) (v : Value), cs[i]? = some d → vs[i]? = some v → Rel w Im φ d v) →
        y.2.length = vs.size ∧ ∀ (i : Nat) (d : D) (v : Value), y.2[i]? = some d → vs[i]? = some v → Rel w Im φ d v := fun cs y hy w Im φ vs h1 h2 => by
      obtain ⟨g1, g2⟩ := fixL_spec (fixD_wk n) _ _ _ hy
      refine ⟨by omega, fun i d v a b => ?_⟩
      have hl := (List.getElem?_eq_some_iff.1 a).1
      have ha : cs[i]? = some (cs[i]'(by omega)) := by simp
      exact g2 i _ d ha a w Im φ v (h2 i _ v ha b)
    simp only [fixD] at h
    split at h
    · rename_i z rows
      split at h
      · obtain rfl := Option.some.inj h
        intro w Im φ v hr
        obtain ⟨rfl, rfl⟩ := hr.nilsl_inv
        exact .nilsl2 _
      · obtain rfl := Option.some.inj h; exact fun _ _ _ _ h => h
      · obtain rfl := Option.some.inj h; exact fun _ _ _ _ h => h
    · rename_i cs
      split at h
      · rename_i y hy
        obtain rfl := Option.some.inj h
        intro w Im φ v hr
        obtain ⟨vs, rfl, h1, h2⟩ := hr.agg_inv
        obtain ⟨k1, k2⟩ := agg _ _ hy w Im φ vs h1 h2
        exact .agg _ _ k1 k2
      · cases h
    · rename_i cs
      split at h
      · rename_i y hy
        obtain rfl := Option.some.inj h
        intro w Im φ v hr
        obtain ⟨vs, rfl, h1, h2⟩ := hr.tup_inv
        obtain ⟨k1, k2⟩ := agg _ _ hy w Im φ vs h1 h2
        exact .tup _ _ k1 k2
      · cases h
    · obtain rfl := Option.some.inj h; exact fun _ _ _ _ h => h
def fix1 (ns : List (Option Nat)) (d : D) : Option D := (fixD 4 ns d).map (·.2)
def fixA (ns : List (Option Nat)) (l : List D) : Option (List D) := (fixL (fixD 4) ns l).map (·.2)
theorem fix1_wk {ns : List (Option Nat)} {d d' : D} (h : fix1 ns d = some d') : Wk d d' := by
  simp only [fix1, Option.map_eq_some_iff] at h
  obtain ⟨x, h1, rfl⟩ := h
  exact fixD_wk _ _ _ _ h1
theorem fixA_args {ns : List (Option Nat)} {l l' : List D} (h : fixA ns l = some l') {w : World} {Im : Nat → Prop} {φ : Phi} {vs : List Value} (hr : ArgsRel w Im φ l vs) : ArgsRel w Im φ l' vs := by
  simp only [fixA, Option.map_eq_some_iff] at h
  obtain ⟨x, h1, rfl⟩ := h
  obtain ⟨g1, g2⟩ := fixL_spec (fixD_wk 4) _ _ _ h1
  refine ⟨by rw [← g1]; exact hr.1, fun i d v a b => ?_⟩
  have hl := (List.getElem?_eq_some_iff.1 a).1
  have ha : l[i]? = some (l[i]'(by omega)) := by simp
  exact g2 i _ d ha a w Im φ v (hr.2 i _ v ha b)
section
variable {E : Env} {C : Cx} {Q : D → Sto → Prop}
theorem Sound.args {f : FuncId} {args args' : List D} {σ : Sto} {ns : List (Option Nat)} (h : fixA ns args = some args') (hs : Sound E f args' σ Q) : Sound E f args σ Q :=
  fun w Im φ vs hg hi ha => hs w Im φ vs hg hi (fixA_args h ha)
/-! ### cuts -/
/-- What is done at a cut: a slot that holds nil gets a block; nil slices in a slot, or in a block's rows, become slices of nothing; a block's cell that holds nil gets a block. -/
inductive Fx where
  | mat (t sz : Nat)
  | slot (t : Nat) (ns : List (Option Nat))
  | blk (b : Nat) (ns : List (Option Nat))
  | matc (b i o sz : Nat)
  | unex (t : Nat)
  | matt (t i sz : Nat)
  | mv (b : Nat)
def fmap (g : D → Option D) (t : Nat) : Fr → Option Fr
  | [] => some []
  | x :: r => match (if x.1 = t then g x.2 else some x.2), fmap g t r with
    | some d, some r' => some ((x.1, d) :: r')
    | _, _ => none
def isNil : D → Bool
  | .sl true _ _ => true
  | _ => false
def unexD : D → D
  | .msl b i len lo _ => .msl b i len lo false
  | d => d
def mattD (n i : Nat) : D → Option D
  | .tup cs => (match cs[i]? with
    | some d => if isNil d then some (.tup (cs.set i (.msl n 0 0 0 false))) else none
    | none => none)
  | _ => none
def mvH (b n c : Nat) : Option Nat := bif Nat.beq c b then some n else some c
def fx1 : Fx → Fr × Sto → Option (Fr × Sto)
  | .mv b, m => (match sget m.2 b, mapFr (tr (renH (mvH b m.2.length)) trFuel) m.1, mapSto (tr (renH (mvH b m.2.length)) trFuel) (m.2.set b none ++ [m.2[b]?.join]) with
    | some _, some fr, some s => some (fr, s)
    | _, _, _ => none)
  | .matt t i sz, m => if 0 < sz then (fmap (mattD m.2.length i) t m.1).map fun fr => (fr, m.2 ++ [some ⟨sz, false, []⟩]) else none
  | .unex t, m => (fmap (fun d => some (unexD d)) t m.1).map fun fr => (fr, m.2)
  | .mat t sz, m => if 0 < sz then (fmap (fun d => if isNil d then some (.msl m.2.length 0 0 0 false) else none) t m.1).map fun fr => (fr, m.2 ++ [some ⟨sz, false, []⟩]) else none
  | .slot t ns, m => (fmap (fix1 ns) t m.1).map fun fr => (fr, m.2)
  | .blk b ns, m => (match sget m.2 b with
    | some B => (mapR (fix1 ns) B.rows).map fun rows => (m.1, m.2.set b (some ⟨B.sz, B.deep, rows⟩))
    | none => none)
  | .matc b i o sz, m => (match sget m.2 b with
    | some B => (match B.rows[i]? with
      | some r => (match r[o]? with
        | some d => if 0 < sz ∧ isNil d then some (m.1, m.2.set b (some ⟨B.sz, true, B.rows.set i (r.set o (.msl m.2.length 0 0 0 false))⟩) ++ [some ⟨sz, false, []⟩]) else none
        | none => none)
      | none => none)
    | none => none)
def fxs : List Fx → Fr × Sto → Option (Fr × Sto)
  | [], m => some m
  | f :: r, m => match fx1 f m with | some m' => fxs r m' | none => none
theorem fmap_get {g : D → Option D} {t : Nat} : ∀ {fr fr' : Fr}, fmap g t fr = some fr' → ∀ s, (s ≠ t → fget fr' s = fget fr s) ∧ (s = t → (fget fr' s = .undef ∧ fget fr s = .undef) ∨ g (fget fr s) = some (fget fr' s))
  | [], fr', h, s => by
    simp only [fmap, Option.some.injEq] at h
    subst h
    exact ⟨fun _ => rfl, fun _ => .inl ⟨rfl, rfl⟩⟩
  | x :: r, fr', h, s => by
    simp only [fmap] at h
    split at h
    · rename_i d r' h1 h2
      obtain rfl := Option.some.inj h
      have ih := fmap_get h2 s
      simp only [fget, Bool.cond_eq_ite]
      by_cases hx : Nat.beq x.1 s = true
      · have hx' := Nat.eq_of_beq_eq_true hx
        simp only [hx, if_true]
        refine ⟨fun hne => ?_, fun he => .inr ?_⟩
        · rw [if_neg (by omega)] at h1
          exact (Option.some.inj h1).symm
        · rw [if_pos (by omega)] at h1
          exact h1
      · simp only [hx]
        exact ih
    · cases h
theorem unex_rel {w : World} {Im : Nat → Prop} {φ : Phi} {d : D} {v : Value} (h : Rel w Im φ d v) : Rel w Im φ (unexD d) v := by
  cases d with
  | msl b i len lo ex =>
    cases h with
    | mnil b i ex l h => exact .mnil _ _ _ _ h
    | msl b i len lo ex l cap a g1 g2 g3 g4 g5 g6 g7 => exact .msl _ _ _ _ _ _ _ _ g1 g2 g3 (fun h => by cases h) g5 g6 g7
  | _ => exact h
theorem Inv.map {w : World} {Im : Nat → Prop} {φ : Phi} {σ σ' : Sto} {f : D → Option D} (hi : Inv w Im φ σ) (hf : ∀ d d' v, Rel w Im φ d v → f d = some d' → Rel w Im φ d' v) (hs : ∀ d d', scal d = true → f d = some d' → scal d' = true) (h : mapSto f σ = some σ') :
    Inv w Im φ σ' ∧ ∀ c, Own φ σ' c → Own φ σ c := by
  obtain ⟨h1, h2⟩ := mapSto_some h
  have hown : ∀ c, Own φ σ' c → Own φ σ c := fun c ⟨b, B, l, e1, e2, e3⟩ => let ⟨B0, e4, _⟩ := h2 b B e2; ⟨b, B0, l, e1, e4, e3⟩
  refine ⟨⟨by rw [h1]; exact hi.len, fun b B l e1 e2 => ?_, fun b b' B B' l l' hne e1 e2 e3 e4 p1 p2 => ?_, fun c hc ho => hi.sep c hc (hown c ho), hi.im⟩, hown⟩
  · obtain ⟨B0, e3, e4⟩ := h2 b B e1
    exact mapBlk_ok (fun _ h => h) hf hs e4 (hi.blk b B0 l e3 e2)
  · obtain ⟨B0, e5, _⟩ := h2 b B e3
    obtain ⟨B0', e6, _⟩ := h2 b' B' e4
    exact hi.inj b b' B0 B0' l l' hne e1 e2 e5 e6 p1 p2
theorem Inv.mv {w : World} {Im : Nat → Prop} {φ : Phi} {σ : Sto} (hi : Inv w Im φ σ) {b : Nat} {B : Blk} {l : Loc} (hB : sget σ b = some B) (hl : φ[b]? = some l) :
    Inv w Im (φ ++ [l]) (σ.set b none ++ [some B]) ∧ ∀ c, Own (φ ++ [l]) (σ.set b none ++ [some B]) c → Own φ σ c := by
  have hbl := sget_lt hB
  have hlen := hi.len
  have hget : ∀ c A k, sget (σ.set b none ++ [some B]) c = some A → (φ ++ [l])[c]? = some k → (c < σ.length ∧ c ≠ b ∧ sget σ c = some A ∧ φ[c]? = some k) ∨ (c = σ.length ∧ A = B ∧ k = l) := fun c A k h1 h2 => by
    by_cases hc : c < σ.length
    · rw [sget_append_left (by simpa using hc)] at h1
      rw [List.getElem?_append_left (by omega)] at h2
      by_cases hbc : b = c
      · subst hbc
        exfalso
        rw [sget_some, List.getElem?_set_self (by omega)] at h1
        cases h1
      · rw [sget_set_ne hbc] at h1
        exact .inl ⟨hc, fun e => hbc e.symm, h1, h2⟩
    · have h3 := sget_lt h1
      simp at h3
      have hc' : c = σ.length := by omega
      subst hc'
      rw [sget_some, List.getElem?_append_right (by simp)] at h1
      rw [← hlen, List.getElem?_append_right (by simp)] at h2
      simp at h1 h2
      exact .inr ⟨rfl, h1.symm, h2.symm⟩
  have hown : ∀ c, Own (φ ++ [l]) (σ.set b none ++ [some B]) c → Own φ σ c := by
    rintro c ⟨b', B', l', e1, e2, e3, hp⟩
    rcases hget b' B' l' e2 e1 with ⟨_, _, h1, h2⟩ | ⟨_, rfl, rfl⟩
    · exact ⟨b', B', l', h2, h1, e3, hp⟩
    · exact ⟨b, _, _, hl, hB, e3, hp⟩
  refine ⟨⟨by simp [hlen], fun c A k h1 h2 => ?_, fun c c' A A' k k' hne h1 h2 h3 h4 p1 p2 => ?_, fun c hc ho => hi.sep c hc (hown c ho), hi.im⟩, hown⟩
  · rcases hget c A k h1 h2 with ⟨_, _, e1, e2⟩ | ⟨_, rfl, rfl⟩
    · exact (hi.blk c A k e1 e2).of_heap (fun _ => rfl) (Nat.le_refl _) (fun _ h => h) (fun _ _ => rfl) (PhiLe.append _ _)
    · exact (hi.blk b _ _ hB hl).of_heap (fun _ => rfl) (Nat.le_refl _) (fun _ h => h) (fun _ _ => rfl) (PhiLe.append _ _)
  · rcases hget c A k h3 h1 with ⟨_, n1, e1, e2⟩ | ⟨z1, rfl, rfl⟩ <;> rcases hget c' A' k' h4 h2 with ⟨_, n2, g1, g2⟩ | ⟨z2, rfl, rfl⟩
    · exact hi.inj c c' A A' k k' hne e2 g2 e1 g1 p1 p2
    · exact hi.inj c b A _ k _ n1 e2 hl e1 hB p1 p2
    · exact hi.inj b c' _ A' _ k' (fun e => n2 e.symm) hl g2 hB g1 p1 p2
    · omega
theorem fx1_mw {f : Fx} {m m' : Fr × Sto} (h : fx1 f m = some m') : MW m m' := by
  obtain ⟨fr, σ⟩ := m
  intro k w Im φ v hk hi hr
  cases f with
  | mv b =>
    simp only [fx1] at h
    split at h
    · rename_i B fr' s hB h1 h2
      obtain rfl := Option.some.inj h
      obtain ⟨l, hl, _⟩ := hi.loc hB
      obtain ⟨i1, i2⟩ := hi.mv hB hl
      have hj : σ[b]?.join = some B := by rw [sget_some.1 hB]; rfl
      rw [hj] at h2
      have hf : ∀ d d' v, Rel w Im (φ ++ [l]) d v → tr (renH (mvH b σ.length)) trFuel d = some d' → Rel w Im (φ ++ [l]) d' v := fun d d' v a b => ren_rel (fun _ h => h) (fun x c l' e1 e2 => by
        simp only [mvH, Bool.cond_eq_ite] at e1
        split at e1
        · rename_i hx
          obtain rfl := Option.some.inj e1
          have := Nat.eq_of_beq_eq_true hx
          subst this
          rw [List.getElem?_append_left (List.getElem?_eq_some_iff.1 hl).1, hl] at e2
          rw [← e2]; exact phi_self hi.len l
        · obtain rfl := Option.some.inj e1; exact e2) trFuel d d' v a b
      obtain ⟨j1, j2⟩ := i1.map hf (tr_scal (renH_scal _) trFuel) h2
      refine ⟨_, PhiLe.append _ _, by simp, ⟨⟨Nat.le_refl _, fun _ _ _ => rfl, Io.refl w⟩, fun c hc => .inl (i2 c (j2 c hc)), fun c hc => by rw [List.getElem?_append_left (by omega)], fun _ h => h, fun _ h => .inl h⟩, j1, fun t => ?_⟩
      rcases mapFr_get h1 t with ⟨g1, g2⟩ | g
      · simp only [g1]; exact .undef _
      · exact hf _ _ _ ((hr t).mono (fun _ h => h) (fun _ _ => rfl) (PhiLe.append _ _)) g
    · cases h
  | mat t sz =>
    simp only [fx1] at h
    split at h
    · rename_i hpos
      simp only [Option.map_eq_some_iff] at h
      obtain ⟨fr', h1, rfl⟩ := h
      obtain ⟨n1, n2⟩ := hi.nothing hpos false
      refine ⟨_, PhiLe.append _ _, by simp, n2.le hk, n1, fun s => ?_⟩
      have hg := fmap_get h1 s
      by_cases hs : s = t
      · rcases hg.2 hs with ⟨h2, -⟩ | h2
        · simp only [h2]; exact .undef _
        · have hrs := hr s
          simp only at h2 hrs
          split at h2
          · rename_i hn
            have h3 := Option.some.inj h2
            show Rel w Im _ (fget fr' s) (v s)
            rw [← h3]
            revert hrs
            generalize fget fr s = d at hn
            intro hrs
            cases d with
            | sl nl z rows =>
              cases nl with
              | true =>
                obtain ⟨e, -⟩ := hrs.nilsl_inv
                rw [e]
                exact .mnil _ _ _ _ (phi_self hi.len _)
              | false => simp [isNil] at hn
            | _ => simp [isNil] at hn
          · cases h2
      · rw [hg.1 hs]
        exact (hr s).mono (fun _ h => h) (fun _ _ => rfl) (PhiLe.append _ _)
    · cases h
  | matt t i sz =>
    simp only [fx1] at h
    split at h
    · rename_i hpos
      simp only [Option.map_eq_some_iff] at h
      obtain ⟨fr', h1, rfl⟩ := h
      obtain ⟨n1, n2⟩ := hi.nothing hpos false
      refine ⟨_, PhiLe.append _ _, by simp, n2.le hk, n1, fun s => ?_⟩
      have hg := fmap_get h1 s
      by_cases hs : s = t
      · rcases hg.2 hs with ⟨h2, -⟩ | h2
        · simp only [h2]; exact .undef _
        · have hrs := hr s
          simp only at h2 hrs
          revert hrs
          generalize fget fr s = d at h2
          intro hrs
          cases d with
          | tup cs =>
            simp only [mattD] at h2
            split at h2
            · rename_i x hx
              split at h2
              · rename_i hn
                have h3 := Option.some.inj h2
                show Rel w Im _ (fget fr' s) (v s)
                rw [← h3]
                obtain ⟨vs, hv, k1, k2⟩ := hrs.tup_inv
                rw [hv]
                refine .tup _ _ (by rw [List.length_set]; exact k1) fun j d' v' a b => ?_
                rw [List.getElem?_set] at a
                split at a
                · rename_i hij
                  subst hij
                  split at a
                  · obtain rfl := Option.some.inj a
                    have hrx := k2 i x v' hx b
                    cases x with
                    | sl nl z rows =>
                      cases nl with
                      | true =>
                        obtain ⟨e, -⟩ := hrx.nilsl_inv
                        rw [e]
                        exact .mnil _ _ _ _ (phi_self hi.len _)
                      | false => simp [isNil] at hn
                    | _ => simp [isNil] at hn
                  · cases a
                · exact (k2 j d' v' a b).mono (fun _ h => h) (fun _ _ => rfl) (PhiLe.append _ _)
              · cases h2
            · cases h2
          | _ => cases h2
      · rw [hg.1 hs]
        exact (hr s).mono (fun _ h => h) (fun _ _ => rfl) (PhiLe.append _ _)
    · cases h
  | unex t =>
    simp only [fx1, Option.map_eq_some_iff] at h
    obtain ⟨fr', h1, rfl⟩ := h
    refine ⟨φ, PhiLe.refl _, Nat.le_refl _, Tr.refl _ _ _ _ _, hi, fun s => ?_⟩
    have hg := fmap_get h1 s
    by_cases hs : s = t
    · rcases hg.2 hs with ⟨h2, -⟩ | h2
      · simp only [h2]; exact .undef _
      · have hrs := hr s
        simp only at h2 hrs
        have h3 := Option.some.inj h2
        show Rel w Im _ (fget fr' s) (v s)
        rw [← h3]
        exact unex_rel hrs
    · rw [hg.1 hs]; exact hr s
  | slot t ns =>
    simp only [fx1, Option.map_eq_some_iff] at h
    obtain ⟨fr', h1, rfl⟩ := h
    refine ⟨φ, PhiLe.refl _, Nat.le_refl _, Tr.refl _ _ _ _ _, hi, fun s => ?_⟩
    have hg := fmap_get h1 s
    by_cases hs : s = t
    · rcases hg.2 hs with ⟨h2, -⟩ | h2
      · simp only [h2]; exact .undef _
      · exact fix1_wk h2 _ _ _ _ (hr s)
    · rw [hg.1 hs]; exact hr s
  | blk b ns =>
    simp only [fx1] at h
    split at h
    · rename_i B hB
      simp only [Option.map_eq_some_iff] at h
      obtain ⟨rows, h1, rfl⟩ := h
      have hbl := sget_lt hB
      have hown : ∀ c, Own φ (σ.set b (some ⟨B.sz, B.deep, rows⟩)) c → Own φ σ c := by
        rintro c ⟨b1, B1, l1, e1, e2, e3, hp⟩
        by_cases hbb : b = b1
        · subst hbb; exact ⟨b, B, l1, e1, hB, e3, hp⟩
        · rw [sget_set_ne hbb] at e2; exact ⟨b1, B1, l1, e1, e2, e3, hp⟩
      have hget : ∀ b1 B1, sget (σ.set b (some ⟨B.sz, B.deep, rows⟩)) b1 = some B1 → ∃ B0, sget σ b1 = some B0 := fun b1 B1 e => by
        by_cases hbb : b = b1
        · subst hbb; exact ⟨B, hB⟩
        · rw [sget_set_ne hbb] at e; exact ⟨B1, e⟩
      refine ⟨φ, PhiLe.refl _, Nat.le_refl _, ⟨⟨Nat.le_refl _, fun _ _ _ => rfl, ⟨rfl, rfl, rfl⟩⟩, fun c hc => .inl (hown c hc), fun _ _ => rfl, fun _ h => h, fun _ h => .inl h⟩,
        ⟨by simp [hi.len], fun b1 B1 l1 e1 e2 => ?_, fun b1 b2 B1 B2 l1 l2 hne e1 e2 e3 e4 p1 p2 => ?_, fun c hc ho => hi.sep c hc (hown c ho), hi.im⟩, hr⟩
      · by_cases hbb : b = b1
        · subst hbb
          rw [sget_set_self hbl] at e1
          obtain rfl := Option.some.inj e1
          have hk0 := hi.blk b B l1 hB e2
          have hmr := mapR_some h1
          have hsc : ∀ d d', scal d = true → fix1 ns d = some d' → scal d' = true := fun d d' a b => by
            cases d <;> simp [scal] at a <;> simp only [fix1, fixD, Option.map_some, Option.some.injEq] at b
            case sl nl z rows0 =>
              cases nl
              · simp only [Option.map_some, Option.some.injEq] at b; subst b; rfl
              · rcases ns with _ | ⟨n0, ns0⟩
                · simp only [Option.map_some, Option.some.injEq] at b; subst b; rfl
                · cases n0 <;> (simp only [Option.map_some, Option.some.injEq] at b; subst b; rfl)
            all_goals (subst b; rfl)
          have hrows := mapR_ok hsc h1 hk0.len
          refine ⟨hk0.pos, hk0.sz, hrows, by simp only [hmr.1]; exact hk0.fit, hk0.mem, hk0.lt, hk0.fz, fun i j r d a c => ?_⟩
          obtain ⟨r0, hr0⟩ := get_of_len hmr.1.symm a
          have hro := mapO_some (hmr.2 i r0 r hr0 a)
          obtain ⟨d0, hd0⟩ := get_of_len hro.1.symm c
          obtain ⟨u, hu, hur⟩ := hk0.rel i j r0 d0 hr0 hd0
          exact ⟨u, hu, fix1_wk (hro.2 j d0 d hd0 c) _ _ _ _ hur⟩
        · rw [sget_set_ne hbb] at e1; exact hi.blk b1 B1 l1 e1 e2
      · obtain ⟨C1, f1⟩ := hget _ _ e3
        obtain ⟨C2, f2⟩ := hget _ _ e4
        exact hi.inj b1 b2 C1 C2 l1 l2 hne e1 e2 f1 f2 p1 p2
    · cases h
  | matc b i o sz =>
    simp only [fx1] at h
    split at h
    · rename_i B hB
      split at h
      · rename_i r hrow
        split at h
        · rename_i d hd
          split at h
          · rename_i hc
            obtain ⟨hpos, hn⟩ := hc
            obtain rfl := Option.some.inj h
            obtain ⟨n1, n2⟩ := hi.nothing hpos false
            have hbl := sget_lt hB
            have hφ : PhiLe φ (φ ++ [Loc.mk 0 0 sz 0]) := PhiLe.append _ _
            have hset : (σ.set b (some (Blk.mk B.sz true (B.rows.set i (r.set o (D.msl σ.length 0 0 0 false)))))) ++ [some (Blk.mk sz false [])] = (σ ++ [some (Blk.mk sz false [])]).set b (some (Blk.mk B.sz true (B.rows.set i (r.set o (D.msl σ.length 0 0 0 false))))) := by
              rw [List.set_append_left _ _ hbl]
            have hB' : sget (σ ++ [some (Blk.mk sz false [])]) b = some B := by rw [sget_append_left hbl]; exact hB
            have hown : ∀ c, Own (φ ++ [Loc.mk 0 0 sz 0]) ((σ ++ [some (Blk.mk sz false [])]).set b (some (Blk.mk B.sz true (B.rows.set i (r.set o (D.msl σ.length 0 0 0 false)))))) c → Own (φ ++ [Loc.mk 0 0 sz 0]) (σ ++ [some (Blk.mk sz false [])]) c := by
              rintro c ⟨b1, B1, l1, e1, e2, e3, hp⟩
              by_cases hbb : b = b1
              · subst hbb; exact ⟨b, B, l1, e1, hB', e3, hp⟩
              · rw [sget_set_ne hbb] at e2; exact ⟨b1, B1, l1, e1, e2, e3, hp⟩
            have hget : ∀ b1 B1, sget ((σ ++ [some (Blk.mk sz false [])]).set b (some (Blk.mk B.sz true (B.rows.set i (r.set o (D.msl σ.length 0 0 0 false)))))) b1 = some B1 → ∃ B0, sget (σ ++ [some (Blk.mk sz false [])]) b1 = some B0 := fun b1 B1 e => by
              by_cases hbb : b = b1
              · subst hbb; exact ⟨B, hB'⟩
              · rw [sget_set_ne hbb] at e; exact ⟨B1, e⟩
            simp only [hset]
            refine ⟨_, hφ, by simp, ⟨⟨Nat.le_refl _, fun _ _ _ => rfl, ⟨rfl, rfl, rfl⟩⟩, fun c hc => (n2.le hk).own c (hown c hc), (n2.le hk).pre, fun _ h => h, fun _ h => .inl h⟩,
              ⟨by simp [hi.len], fun b1 B1 l1 e1 e2 => ?_, fun b1 b2 B1 B2 l1 l2 hne e1 e2 e3 e4 p1 p2 => ?_, fun c hc ho => n1.sep c hc (hown c ho), hi.im⟩, fun s => (hr s).mono (fun _ h => h) (fun _ _ => rfl) hφ⟩
            · by_cases hbb : b = b1
              · subst hbb
                rw [sget_set_self (by simp; omega)] at e1
                obtain rfl := Option.some.inj e1
                have hk0 := n1.blk b B l1 hB' e2
                have hrl := hk0.len r (List.mem_of_getElem? hrow)
                have hol := (List.getElem?_eq_some_iff.1 hd).1
                have hil := (List.getElem?_eq_some_iff.1 hrow).1
                refine ⟨hk0.pos, hk0.sz, fun x hx => ?_, by simpa using hk0.fit, hk0.mem, hk0.lt, hk0.fz, fun i' j x e a c => ?_⟩
                · rcases List.mem_or_eq_of_mem_set hx with hx | rfl
                  · exact hk0.len x hx
                  · refine ⟨by simp [hrl.1], List.all_eq_true.2 fun y hy => ?_⟩
                    rcases List.mem_or_eq_of_mem_set hy with hy | rfl
                    · exact List.all_eq_true.1 hrl.2 y hy
                    · rfl
                · simp only [if_true]
                  simp only [List.getElem?_set] at a
                  have old : ∀ r0 d0, B.rows[i']? = some r0 → r0[j]? = some d0 → ∃ u, w.cell? ⟨l1.blk, l1.base + i' * B.sz + j, none⟩ = some u ∧ Rel w Im (φ ++ [Loc.mk 0 0 sz 0]) d0 u := fun r0 d0 q1 q2 => by
                    obtain ⟨u, hu, hur⟩ := hk0.rel i' j r0 d0 q1 q2
                    exact ⟨u, hu, hur.mono (fun _ h => h) (fun _ _ => rfl) (by split; exact PhiLe.refl _; exact PhiLe.nil _)⟩
                  by_cases hii : i = i'
                  · subst hii
                    simp only [if_true, hil, Option.some.injEq] at a
                    subst a
                    simp only [List.getElem?_set] at c
                    by_cases hoo : o = j
                    · subst hoo
                      simp only [if_true, hol, Option.some.injEq] at c
                      subst c
                      obtain ⟨u, hu, hur⟩ := old r d hrow hd
                      refine ⟨u, hu, ?_⟩
                      cases d with
                      | sl nl z rows0 =>
                        cases nl with
                        | true =>
                          obtain ⟨e0, -⟩ := hur.nilsl_inv
                          rw [e0]
                          exact .mnil _ _ _ _ (phi_self hi.len _)
                        | false => simp [isNil] at hn
                      | _ => simp [isNil] at hn
                    · simp only [if_neg hoo] at c
                      exact old r e hrow c
                  · simp only [if_neg hii] at a
                    exact old x e a c
              · rw [sget_set_ne hbb] at e1; exact n1.blk b1 B1 l1 e1 e2
            · obtain ⟨C1, f1⟩ := hget _ _ e3
              obtain ⟨C2, f2⟩ := hget _ _ e4
              exact n1.inj b1 b2 C1 C2 l1 l2 hne e1 e2 f1 f2 p1 p2
          · cases h
        · cases h
      · cases h
    · cases h
theorem MW.trans {a b c : Fr × Sto} (h : MW a b) (k : MW b c) : MW a c := fun n w Im φ v hn hi hr => by
  obtain ⟨φ1, a1, a2, a3, a4, a5⟩ := h n w Im φ v hn hi hr
  obtain ⟨φ2, b1, b2, b3, b4, b5⟩ := k n w Im φ1 v (by omega) a4 a5
  exact ⟨φ2, a1.trans b1, by omega, a3.trans b3, b4, b5⟩
theorem fxs_mw : ∀ {l : List Fx} {m m' : Fr × Sto}, fxs l m = some m' → MW m m'
  | [], m, m', h => by
    simp only [fxs, Option.some.injEq] at h
    subst h
    exact fun k w Im φ v hk hi hr => ⟨φ, PhiLe.refl _, Nat.le_refl _, Tr.refl _ _ _ _ _, hi, hr⟩
  | f :: r, m, m', h => by
    simp only [fxs] at h
    split at h
    · rename_i m1 h1
      exact (fx1_mw h1).trans (fxs_mw h)
    · cases h
theorem Sound.res {f : FuncId} {args : List D} {σ : Sto} (hs : Sound E f args σ (QW Q)) : Sound E f args σ Q :=
  fun w Im φ vs hg hi ha => (hs w Im φ vs hg hi ha).mono fun e w' ⟨v, d, σ', φ', Im', a, b, c, hr, d', s', hw, hq⟩ => by
    have hlen : σ.length ≤ φ'.length := by
      rcases Nat.lt_or_ge φ'.length σ.length with hlt | hge
      · exfalso
        have h1 := b.pre φ'.length hlt
        have hl := hi.len
        rw [List.getElem?_eq_getElem (by omega : φ'.length < φ.length)] at h1
        simp at h1
      · exact hge
    obtain ⟨φ2, b1, b2, b3, b4, b5⟩ := hw σ.length w' Im' φ' (fun _ => v) hlen c (fun t => by
      simp only [fget, Bool.cond_eq_ite]; split; exact hr; exact .undef _)
    have h0 := b5 0
    simp only [fget, Nat.beq_refl, cond_true] at h0
    exact ⟨v, d', s', φ2, Im', a, b.trans b3, b4, h0, hq⟩
def cutM (C : Cx) (mask : Nat) (l : List Fx) (m : M) : Option M :=
  match fxs l (keepFr C.fn.ntmps mask m.fr, m.st) with
  | some x => (match compact C.m x.1 x.2 with
    | some y => some ⟨m.td, y.1, y.2⟩
    | none => none)
  | none => none
theorem cutM_ok {mask : Nat} {l : List Fx} {m m' : M} (hc : cutM C mask l m = some m') (h : FinM E C Q m') : FinM E C Q m := by
  unfold cutM at hc
  split at hc
  · rename_i x hx
    split at hc
    · rename_i y hy
      obtain rfl := Option.some.inj hc
      intro FF nf hFF lo0 a w Im φ hs R hR
      have hkeep : ∀ t, Rel w Im φ (fget (keepFr C.fn.ntmps mask m.fr) t) (a.tmps.getD t undef) := fun t => keep_rel hs.fr t
      obtain ⟨φ1, a1, a2, a3, a4, a5⟩ := fxs_mw hx C.m w Im φ (fun t => a.tmps.getD t undef) hs.m hs.inv hkeep
      have hm1 : C.m ≤ φ1.length := Nat.le_trans hs.m a2
      obtain ⟨φ2, i1, i2, i3⟩ := compact_ok a4 hm1 hy a5
      refine h FF nf hFF lo0 a w Im φ2 ⟨i3, i1, hs.sd.tr (Nat.le_refl _) hs.inv (a3.trans i2) i1, hs.sz, ?_⟩ R (fun e a' w' hd => hR e a' w' (DoneP.of_tr (a3.trans i2) hd))
      rcases Nat.lt_or_ge φ2.length C.m with hlt | hge
      · exfalso
        have h1 := i2.pre φ2.length hlt
        rw [List.getElem?_eq_getElem (by omega : φ2.length < φ1.length)] at h1
        simp at h1
      · exact hge
    · cases hc
  · cases hc
def Qy.cut (C : Cx) (mask : Nat) (l : List Fx) : Qy → Option M
  | .go m => cutM C mask l m
  | _ => none
theorem r_cut {q : Qy} (mask : Nat) (l : List Fx) {m' : M} (h : q.cut C mask l = some m') (hk : FinQ E C Q (.go m')) : FinQ E C Q q := by
  cases q with
  | go m => exact cutM_ok h hk
  | _ => cases h
theorem r_fz {m : M} (t : Nat) {b i len lo : Nat} {ex : Bool} {B : Blk} {rs : List (List D)} (h1 : fget m.fr t = .msl b i len lo ex) (h2 : sget m.st b = some B) (h3 : B.deep = false) (h4 : Nat.ble (i + len) B.rows.length = true)
    (h5 : (B.rows.drop i).take len = rs) (hk : FinQ E C Q (.go ⟨m.td, fset m.fr t (.sl false B.sz rs), selB (fun j => !(Nat.beq j b)) 0 m.st⟩)) : FinQ E C Q (.go m) := by
  intro FF nf hFF lo0 a w Im φ hs R hR
  have hgv := hs.inv.give (fun j => Nat.beq j b)
  have hir := hs.inv.sel (fun j => Nat.beq j b)
  refine hk FF nf hFF lo0 a w _ φ ⟨fun s => ?_, hgv.1, hs.sd.tr hs.m hs.inv hgv.2 hgv.1, hs.sz, hs.m⟩ R (fun e a' w' hd => hR e a' w' (DoneP.of_tr (hgv.2.le hs.m) hd))
  have hold : Rel w (fun c => Im c ∨ Own φ (selB (fun j => Nat.beq j b) 0 m.st) c) φ (fget m.fr s) (a.tmps.getD s undef) := (hs.fr s).mono (fun _ h => .inl h) (fun _ _ => rfl) (PhiLe.refl _)
  simp only [fset, fget, Bool.cond_eq_ite]
  split
  · rename_i he
    have he' := Nat.eq_of_beq_eq_true he
    subst he'
    have hr := hs.fr t
    rw [h1] at hr
    have hsel : sget (selB (fun j => Nat.beq j b) 0 m.st) b = some B := by
      have key : ∀ (p : Nat → Bool) (σ : Sto) (k c : Nat) (B : Blk), sget σ c = some B → p (k + c) = true → sget (selB p k σ) c = some B := by
        intro p σ
        induction σ with
        | nil => intro k c B h; simp [sget] at h
        | cons x r ih =>
          intro k c B h hp
          cases c with
          | zero =>
            have hp' : p k = true := by simpa using hp
            simp only [selB, sget, List.getElem?_cons_zero] at h ⊢
            rw [hp']; exact h
          | succ c =>
            have h' : sget r c = some B := by simpa only [sget, List.getElem?_cons_succ] using h
            have := ih (k + 1) c B h' (by rw [← hp]; congr 1; omega)
            simpa only [selB, sget, List.getElem?_cons_succ] using this
      exact key _ _ 0 b B h2 (by simp)
    have hf : frzH (selB (fun j => Nat.beq j b) 0 m.st) 0 false 6 (.msl b i len lo ex) = some (.sl false B.sz rs) := by
      simp only [frzH, Nat.blt, Nat.ble, cond_false, hsel, h4, cond_true, h3, h5]
    exact frzH_rel hir (fun c h => .inl h) (fun b' B' l _ a2 a3 hp => .inr ⟨b', B', l, a3, a2, rfl, hp⟩) 6 false φ (fun _ b' l hb hl => hl) _ _ _ (fun _ _ _ _ => trivial) hr hf
  · exact hold
def Qy.fz (t : Nat) : Qy → Option (Nat × Nat × List (List D))
  | .go m => (match fget m.fr t with
    | .msl b i len _ _ => (match sget m.st b with
      | some B => bif B.deep then none else some (i + len, B.rows.length, (B.rows.drop i).take len)
      | none => none)
    | _ => none)
  | _ => none
def Qy.fzK (t : Nat) (rs : List (List D)) : Qy → Qy
  | .go m => (match fget m.fr t with
    | .msl b _ _ _ _ => (match sget m.st b with
      | some B => .go ⟨m.td, fset m.fr t (.sl false B.sz rs), selB (fun j => !(Nat.beq j b)) 0 m.st⟩
      | none => .bad)
    | _ => .bad)
  | _ => .bad
theorem r_fzT {q : Qy} (t : Nat) {n1 n2 : Nat} {raw rs : List (List D)} (h : q.fz t = some (n1, n2, raw)) (h4 : Nat.ble n1 n2 = true) (h5 : raw = rs) (hk : FinQ E C Q (q.fzK t rs)) : FinQ E C Q q := by
  cases q with
  | go m =>
    simp only [Qy.fz] at h
    split at h
    · rename_i b i len lo ex h1
      split at h
      · rename_i B h2
        cases hd : B.deep with
        | true => rw [hd] at h; cases h
        | false =>
          rw [hd] at h
          simp only [cond_false, Option.some.injEq, Prod.mk.injEq] at h
          obtain ⟨rfl, rfl, rfl⟩ := h
          simp only [Qy.fzK, h1, h2] at hk
          exact r_fz t h1 h2 hd h4 h5 hk
      · cases h
    · cases h
  | _ => cases h
theorem Inv.cell {w : World} {Im : Nat → Prop} {φ : Phi} {σ : Sto} (h : Inv w Im φ σ) {c : Nat} {A : Blk} (hA : sget σ c = some A) {i : Nat} {r : List D} (hrow : A.rows[i]? = some r) {o : Nat} {d d' : D} (hd : r[o]? = some d) (hs : scal d' = true)
    (hw : ∀ v, Rel w Im φ d v → Rel w Im φ d' v) :
    Inv w Im φ (σ.set c (some ⟨A.sz, (A.rows.set i (r.set o d')).any (·.any hasRef1), A.rows.set i (r.set o d')⟩)) ∧ Tr φ.length w Im φ σ w Im φ (σ.set c (some ⟨A.sz, (A.rows.set i (r.set o d')).any (·.any hasRef1), A.rows.set i (r.set o d')⟩)) := by
  have hbl := sget_lt hA
  generalize hN : (⟨A.sz, (A.rows.set i (r.set o d')).any (·.any hasRef1), A.rows.set i (r.set o d')⟩ : Blk) = N
  have hown : ∀ x, Own φ (σ.set c (some N)) x → Own φ σ x := by
    rintro x ⟨b1, B1, l1, e1, e2, e3, hp⟩
    by_cases hbb : c = b1
    · subst hbb; exact ⟨c, A, l1, e1, hA, e3, hp⟩
    · rw [sget_set_ne hbb] at e2; exact ⟨b1, B1, l1, e1, e2, e3, hp⟩
  have hget : ∀ b1 B1, sget (σ.set c (some N)) b1 = some B1 → ∃ B0, sget σ b1 = some B0 := fun b1 B1 e => by
    by_cases hbb : c = b1
    · subst hbb; exact ⟨A, hA⟩
    · rw [sget_set_ne hbb] at e; exact ⟨B1, e⟩
  refine ⟨⟨by simp [h.len], fun b1 B1 l1 e1 e2 => ?_, fun b1 b2 B1 B2 l1 l2 hne e1 e2 e3 e4 p1 p2 => ?_, fun x hx ho => h.sep x hx (hown x ho), h.im⟩,
    ⟨⟨Nat.le_refl _, fun _ _ _ => rfl, ⟨rfl, rfl, rfl⟩⟩, fun x hx => .inl (hown x hx), fun _ _ => rfl, fun _ h => h, fun _ h => .inl h⟩⟩
  · by_cases hbb : c = b1
    · subst hbb
      rw [sget_set_self hbl] at e1
      obtain rfl := Option.some.inj e1
      subst hN
      have hk0 := h.blk c A l1 hA e2
      have hrl := hk0.len r (List.mem_of_getElem? hrow)
      have hlen : ∀ x ∈ A.rows.set i (r.set o d'), RowOk A.sz x := fun x hx => by
        rcases List.mem_or_eq_of_mem_set hx with hx | rfl
        · exact hk0.len x hx
        · refine ⟨by rw [List.length_set]; exact hrl.1, List.all_eq_true.2 fun y hy => ?_⟩
          rcases List.mem_or_eq_of_mem_set hy with hy | rfl
          · exact List.all_eq_true.1 hrl.2 y hy
          · exact hs
      refine ⟨hk0.pos, hk0.sz, hlen, by simpa using hk0.fit, hk0.mem, hk0.lt, hk0.fz, fun i' j x e a b => ?_⟩
      have hxm := List.mem_of_getElem? a
      have fin : ∀ v, Rel w Im φ e v → Rel w Im (if ((A.rows.set i (r.set o d')).any (·.any hasRef1)) then φ else []) e v := fun v hv =>
        rel_flag (hlen x hxm).2 (fun hh => List.any_eq_true.2 ⟨x, hxm, hh⟩) b hv
      have old : ∀ r0 d0, A.rows[i']? = some r0 → r0[j]? = some d0 → ∃ u, w.cell? ⟨l1.blk, l1.base + i' * A.sz + j, none⟩ = some u ∧ Rel w Im φ d0 u := fun r0 d0 q1 q2 => by
        obtain ⟨u, hu, hur⟩ := hk0.rel i' j r0 d0 q1 q2
        exact ⟨u, hu, hur.mono (fun _ h => h) (fun _ _ => rfl) (by split; exact PhiLe.refl _; exact PhiLe.nil _)⟩
      have hil := (List.getElem?_eq_some_iff.1 hrow).1
      have hol := (List.getElem?_eq_some_iff.1 hd).1
      simp only [List.getElem?_set] at a
      by_cases hii : i = i'
      · subst hii
        simp only [if_true, hil, Option.some.injEq] at a
        subst a
        simp only [List.getElem?_set] at b
        by_cases hoo : o = j
        · subst hoo
          simp only [if_true, hol, Option.some.injEq] at b
          subst b
          obtain ⟨u, hu, hur⟩ := old r d hrow hd
          exact ⟨u, hu, fin u (hw u hur)⟩
        · simp only [if_neg hoo] at b
          obtain ⟨u, hu, hur⟩ := old r e hrow b
          exact ⟨u, hu, fin u hur⟩
      · simp only [if_neg hii] at a
        obtain ⟨u, hu, hur⟩ := old x e a b
        exact ⟨u, hu, fin u hur⟩
    · rw [sget_set_ne hbb] at e1; exact h.blk b1 B1 l1 e1 e2
  · obtain ⟨C1, f1⟩ := hget _ _ e3
    obtain ⟨C2, f2⟩ := hget _ _ e4
    exact h.inj b1 b2 C1 C2 l1 l2 hne e1 e2 f1 f2 p1 p2
def Qy.fzc (c i o : Nat) : Qy → Option (Nat × Nat × List (List D))
  | .go m => (match sget m.st c with
    | some A => (match A.rows[i]? with
      | some r => (match r[o]? with
        | some (.msl b j len _ _) => (match sget m.st b with
          | some B => bif B.deep || Nat.beq b c then none else some (j + len, B.rows.length, (B.rows.drop j).take len)
          | none => none)
        | _ => none)
      | none => none)
    | none => none)
  | _ => none
def fzcS (c i o : Nat) (rs : List (List D)) (σ : Sto) : Option Sto :=
  match sget σ c with
    | some A => (match A.rows[i]? with
      | some r => (match r[o]? with
        | some (.msl b _ _ _ _) => (match sget σ b with
          | some B => some ((selB (fun j => !(Nat.beq j b)) 0 σ).set c (some ⟨A.sz, (A.rows.set i (r.set o (.sl false B.sz rs))).any (·.any hasRef1), A.rows.set i (r.set o (.sl false B.sz rs))⟩))
          | none => none)
        | _ => none)
      | none => none)
    | none => none
def Qy.fzcK (c i o : Nat) (rs : List (List D)) : Qy → Qy
  | .go m => (match fzcS c i o rs m.st with | some st => .go ⟨m.td, m.fr, st⟩ | none => .bad)
  | _ => .bad
theorem selB_put {p : Nat → Bool} : ∀ {σ : Sto} {k c : Nat} {B : Blk}, sget σ c = some B → p (k + c) = true → sget (selB p k σ) c = some B
  | [], _, _, _, h, _ => by simp [sget] at h
  | x :: r, k, 0, B, h, hp => by
    have hp' : p k = true := by simpa using hp
    simp only [selB, sget, List.getElem?_cons_zero] at h ⊢
    rw [hp']; exact h
  | x :: r, k, c + 1, B, h, hp => by
    have h' : sget r c = some B := by simpa only [sget, List.getElem?_cons_succ] using h
    have := selB_put (k := k + 1) h' (by rw [← hp]; congr 1; omega)
    simpa only [selB, sget, List.getElem?_cons_succ] using this
theorem r_fzC {q : Qy} (c i o : Nat) {n1 n2 : Nat} {raw rs : List (List D)} (h : q.fzc c i o = some (n1, n2, raw)) (h4 : Nat.ble n1 n2 = true) (h5 : raw = rs) (hk : FinQ E C Q (q.fzcK c i o rs)) : FinQ E C Q q := by
  cases q with
  | go m =>
    simp only [Qy.fzc] at h
    split at h
    · rename_i A hA
      split at h
      · rename_i r hrow
        split at h
        · rename_i b j len lo ex hcell
          split at h
          · rename_i B hB
            cases hd : (B.deep || Nat.beq b c) with
            | true => rw [hd] at h; cases h
            | false =>
              rw [hd] at h
              simp only [cond_false, Option.some.injEq, Prod.mk.injEq] at h
              obtain ⟨rfl, rfl, rfl⟩ := h
              simp only [Bool.or_eq_false_iff] at hd
              obtain ⟨hdeep, hbc⟩ := hd
              simp only [Qy.fzcK, fzcS, hA, hrow, hcell, hB] at hk
              intro FF nf hFF lo0 a w Im φ hs R hR
              have hgv := hs.inv.give (fun x => Nat.beq x b)
              have hir := hs.inv.sel (fun x => Nat.beq x b)
              have hcb : Nat.beq c b = false := by
                cases hh : Nat.beq c b with
                | false => rfl
                | true => rw [Nat.eq_of_beq_eq_true hh, Nat.beq_refl] at hbc; cases hbc
              have hA' : sget (selB (fun x => !(Nat.beq x b)) 0 m.st) c = some A := selB_put hA (by simp only [Nat.zero_add, hcb]; rfl)
              have hB' : sget (selB (fun x => Nat.beq x b) 0 m.st) b = some B := selB_put hB (by simp)
              have hf : frzH (selB (fun x => Nat.beq x b) 0 m.st) 0 false 6 (.msl b j len lo ex) = some (.sl false B.sz rs) := by
                simp only [frzH, Nat.blt, Nat.ble, cond_false, hB', h4, cond_true, hdeep, h5]
              have hw : ∀ v, Rel w Im φ (.msl b j len lo ex) v → Rel w (fun x => Im x ∨ Own φ (selB (fun x => Nat.beq x b) 0 m.st) x) φ (.sl false B.sz rs) v := fun v hr =>
                frzH_rel hir (fun x h => .inl h) (fun b' B' l _ a2 a3 hp => .inr ⟨b', B', l, a3, a2, rfl, hp⟩) 6 false φ (fun _ b' l hb hl => hl) _ _ _ (fun _ _ _ _ => trivial) hr hf
              have hw' : ∀ v, Rel w (fun x => Im x ∨ Own φ (selB (fun x => Nat.beq x b) 0 m.st) x) φ (.msl b j len lo ex) v → Rel w (fun x => Im x ∨ Own φ (selB (fun x => Nat.beq x b) 0 m.st) x) φ (.sl false B.sz rs) v := fun v hr => by
                refine hw v ?_
                cases hr with
                | mnil b i ex l h => exact .mnil _ _ _ _ h
                | msl b i len lo ex l cap a g1 g2 g3 g4 g5 g6 g7 => exact .msl _ _ _ _ _ _ _ _ g1 g2 g3 g4 g5 g6 g7
              obtain ⟨c1, c2⟩ := hgv.1.cell hA' hrow hcell rfl hw'
              exact hk FF nf hFF lo0 a w _ φ ⟨fun s => (hs.fr s).mono (fun _ h => .inl h) (fun _ _ => rfl) (PhiLe.refl _), c1, hs.sd.tr hs.m hs.inv (hgv.2.trans c2) c1, hs.sz, hs.m⟩ R (fun e a' w' hd => hR e a' w' (DoneP.of_tr ((hgv.2.trans c2).le hs.m) hd))
          · cases h
        · cases h
      · cases h
    · cases h
  | _ => cases h
/-! ### calls and ends, with weaker data -/
def Qy.callF (ns : List (Option Nat)) : Qy → Option (FuncId × List D × Sto)
  | .call f args sub _ => (match fixA ns args with | some a => some (f, a, sub) | none => none)
  | .callS f args sub _ => (match fixA ns args with | some a => some (f, a, sub) | none => none)
  | _ => none
def Qy.callDF (ns : List (Option Nat)) : Qy → Option (FuncId × List D)
  | .callD f args _ => (match fixA ns args with | some a => some (f, a) | none => none)
  | _ => none
def Qy.retF (l : List Fx) : Qy → Option (D × Sto)
  | .ret d s => (match fxs l ([(0, d)], s) with | some x => some (fget x.1 0, x.2) | none => none)
  | _ => none
theorem r_callF {q : Qy} (ns : List (Option Nat)) {f : FuncId} {args : List D} {sub : Sto} {d : D} {s : Sto} (h : q.callF ns = some (f, args, sub)) (hs : Sound E f args sub fun d' s' => d' = d ∧ s' = s) (hk : FinQ E C Q (q.callK d s)) : FinQ E C Q q := by
  cases q with
  | call f' args' sub' k =>
    simp only [Qy.callF] at h
    split at h
    · rename_i a ha
      simp only [Option.some.injEq, Prod.mk.injEq] at h
      obtain ⟨rfl, rfl, rfl⟩ := h
      exact ⟨_, hs.args ha, fun d' s' ⟨e1, e2⟩ => by rw [e1, e2]; exact hk⟩
    · cases h
  | callS f' args' sub' k =>
    simp only [Qy.callF] at h
    split at h
    · rename_i a ha
      simp only [Option.some.injEq, Prod.mk.injEq] at h
      obtain ⟨rfl, rfl, rfl⟩ := h
      exact ⟨d, s, hs.args ha, hk⟩
    · cases h
  | _ => cases h
theorem r_callDF {q : Qy} (ns : List (Option Nat)) {f : FuncId} {args : List D} {d : D} (h : q.callDF ns = some (f, args)) (hs : SoundTo E f args d) (hk : FinQ E C Q (q.callDK d)) : FinQ E C Q q := by
  cases q with
  | callD f' args' k =>
    simp only [Qy.callDF] at h
    split at h
    · rename_i a ha
      simp only [Option.some.injEq, Prod.mk.injEq] at h
      obtain ⟨rfl, rfl⟩ := h
      exact ⟨d, Sound.args ha hs, hk⟩
    · cases h
  | _ => cases h
theorem r_retF {q : Qy} (l : List Fx) {d : D} {s : Sto} (h : q.retF l = some (d, s)) (hf : C.fin) (hq : Q d s) : FinQ E C (QW Q) q := by
  cases q with
  | ret d' s' =>
    simp only [Qy.retF] at h
    split at h
    · rename_i x hx
      simp only [Option.some.injEq, Prod.mk.injEq] at h
      obtain ⟨rfl, rfl⟩ := h
      refine ⟨hf, _, _, fun k w Im φ v hk hi hr => ?_, hq⟩
      obtain ⟨φ2, b1, b2, b3, b4, b5⟩ := fxs_mw hx k w Im φ v hk hi hr
      refine ⟨φ2, b1, b2, b3, b4, fun t => ?_⟩
      simp only [fget, Bool.cond_eq_ite]
      split
      · rename_i ht
        have ht' := Nat.eq_of_beq_eq_true ht
        subst ht'
        exact b5 0
      · exact .undef _
    · cases h
  | _ => cases h
theorem sound_ofW {f : FuncId} {fn : Func} {args : List D} {σ : Sto} {m : M} (hf : E.P.funcs[f]? = some fn) (hst : start fn args σ = some m) (h : FinQ E (.of fn (E.pol f).keep σ.length) (QW Q) (.go m)) : Sound E f args σ Q :=
  Sound.res (sound_of hf hst h)
abbrev Is (x d : D) (s : Sto) : Prop := d = x ∧ s = []
/-! ### walks along a plain function's text -/
theorem p_split {α : Type} {q : Qy} {c : Bool} {A B : Option α} {r : α} (h : (bif c then A else B) = some r) (hq : q.splitB = some c) (ht : c = true → A = some r → FinQ E C Q (q.splitK true)) (hf : c = false → B = some r → FinQ E C Q (q.splitK false)) : FinQ E C Q q :=
  r_split c hq (fun hc => ht hc (by rw [hc] at h; exact h)) (fun hc => hf hc (by rw [hc] at h; exact h))
theorem p_need {α : Type} {q : Qy} {c : Bool} {A : Option α} {r : α} (h : (bif c then A else none) = some r) (hq : q.needB = some c) (hk : c = true → A = some r → FinQ E C Q q.needK) : FinQ E C Q q := by
  cases c with
  | true => exact r_need true hq rfl (hk rfl h)
  | false => cases h
theorem p_row {α β : Type} {q : Qy} {o : Option β} {F : β → Option α} {r : α} (ro : Option (List D)) (en : β → List D) (h : o.bind F = some r) (hq : q.rowR = some ro) (ho : ro = o.map en) (hk : ∀ y, o = some y → F y = some r → FinQ E C Q (q.rowK (en y))) : FinQ E C Q q := by
  cases o with
  | none => cases h
  | some y => exact r_row ro (en y) hq ho (hk y rfl h)
theorem p_call {α β : Type} {q : Qy} {o : Option β} {F : β → Option α} {r : α} (ns : List (Option Nat)) {f : FuncId} {args : List D} {sub : Sto} (en : β → D) (es : β → Sto) (h : o.bind F = some r) (hq : q.callF ns = some (f, args, sub))
    (hs : ∀ y, o = some y → Sound E f args sub fun d s => d = en y ∧ s = es y) (hk : ∀ y, o = some y → F y = some r → FinQ E C Q (q.callK (en y) (es y))) : FinQ E C Q q := by
  cases o with
  | none => cases h
  | some y => exact r_callF ns hq (hs y rfl) (hk y rfl h)
theorem p_callD {α β : Type} {q : Qy} {o : Option β} {F : β → Option α} {r : α} (ns : List (Option Nat)) {f : FuncId} {args : List D} (en : β → D) (h : o.bind F = some r) (hq : q.callDF ns = some (f, args))
    (hs : ∀ y, o = some y → Sound E f args [] fun d s => d = en y ∧ s = []) (hk : ∀ y, o = some y → F y = some r → FinQ E C Q (q.callDK (en y))) : FinQ E C Q q := by
  cases o with
  | none => cases h
  | some y => exact r_callDF ns hq (hs y rfl) (hk y rfl h)
/-! ### ranges over a function -/
theorem r_yld {q : Qy} {l : Nat} {y : List D} {s : Sto} {Y : List (List D)} (h : q.yldA = some (l, y, s)) (hit : C.it = true) (hrb : C.rb = false) (hl : C.lp = l) (hln : Lent C.ln s) (hY : C.Y = some (y :: Y)) (ht : FinQ E (C.tell (some Y)) Q (q.yldK true)) (hf : FinQ E (C.tell none) Q (q.yldK false)) : FinQ E C Q q := by
  cases q <;> simp [Qy.yldA] at h
  obtain ⟨rfl, rfl, rfl⟩ := h
  exact ⟨hit, hrb, hl, hln, Y, hY, ht, hf⟩
theorem r_rng {q : Qy} {m : Nat} {g : FuncId} {caps : List D} {sub σ : Sto} {ids : List Nat} (h : q.rngA = some (m, g, caps, sub, σ, ids)) {Y : List (List D)} (hb : ids = [] ∨ mapSto (tr (renH (backN ids σ.length)) trFuel) sub = some (pickSto σ ids)) (hs : SoundSeq E g caps sub (bif ids.isEmpty then [] else sub) Y)
    (hk : Rng (fun s => pickSto s ids = pickSto σ ids) (fun y s q' => FinQ E (C.round m) (QW q') (q.rngR y s)) (fun n s => FinQ E C Q (q.rngK n s)) Y σ) : FinQ E C Q q := by
  cases q <;> simp [Qy.rngA] at h
  obtain ⟨rfl, rfl, rfl, rfl, rfl, rfl⟩ := h
  exact ⟨hb, Y, hs, hk⟩
/-! ### rounds: what a step function comes to -/
inductive Ev {S R : Type} (step : S → Option (S ⊕ R)) : S → R → Prop
  | done {s : S} {r : R} : step s = some (.inr r) → Ev step s r
  | next {s s' : S} {r : R} : step s = some (.inl s') → Ev step s' r → Ev step s r
end
end Go.RX

namespace Go.RX
open Go Go.ChangeShapes Go.WideShapes Go.RowKit
/-! ### what plain data are -/
section
variable (P : Program)
def tiles (pf : TypeId → Bool) : Nat → List Field → Option Nat
  | off, [] => some off
  | off, f :: r => bif Nat.beq f.offset off && pf f.type then tiles pf (off + P.cellsOf f.type) r else none
def flatB : Nat → TypeId → Bool
  | 0, _ => false
  | n + 1, t => match P.underlying t with
    | some .bool | some (.int _) | some .string => P.cellsOf t == 1
    | some (.struct fs) => tiles P (flatB n) 0 fs.toList == some (P.cellsOf t)
    | some (.array m e) => flatB n e && P.cellsOf t == m * P.cellsOf e
    | some (.slice e) => flatB n e && (P.cellsOf t == 1 && Nat.ble 1 (P.cellsOf e))
    | _ => false
def wtL (wt : TypeId → List D → Prop) : List TypeId → List D → Prop
  | [], ds => ds = []
  | t :: r, ds => ∃ a b, ds = a ++ b ∧ wt t a ∧ wtL wt r b
def wtF : Nat → TypeId → List D → Prop
  | 0, _, _ => False
  | n + 1, t, ds => match P.underlying t with
    | some .bool => ∃ b, ds = [.bool b]
    | some (.int k) => ∃ m, ds = [.int k m] ∧ k.min ≤ m ∧ m ≤ k.max
    | some .string => ∃ s, ds = [.str s] ∧ s.length ≤ reachBytes
    | some (.struct fs) => wtL (wtF n) (fs.toList.map (·.type)) ds
    | some (.array m e) => wtL (wtF n) (List.replicate m e) ds
    | some (.slice e) => ∃ rows, ds = [.sl false (P.cellsOf e) rows] ∧ rows.length * P.bytesOf e ≤ reachBytes ∧ ∀ r ∈ rows, wtF n e r
    | _ => False
def parB (t : TypeId) : Bool := match P.underlying t with
  | some .bool | some (.int _) | some .string | some (.struct _) | some (.array _ _) | some (.slice _) => flatB P 6 t
  | _ => false
def wtP (t : TypeId) (d : D) : Prop := match P.underlying t with
  | some (.struct _) | some (.array _ _) => ∃ cs, d = .agg cs ∧ wtF P 6 t cs
  | _ => wtF P 6 t [d]
def wtA : List TypeId → List D → Prop
  | [], ds => ds = []
  | t :: r, ds => ∃ d ds', ds = d :: ds' ∧ wtP P t d ∧ wtA r ds'
end
section
variable {P : Program} {w : World} {Im : Nat → Prop} {H : Type} {enc : TypeId × Value → H} {base : Nat} {spare : Nat → Bool} {held : Bool}
def CR (w : World) (Im : Nat → Prop) (ds : List D) (cs : List Value) : Prop :=
  ds.length = cs.length ∧ ds.all scal = true ∧ ∀ (i : Nat) (d : D) (v : Value), ds[i]? = some d → cs[i]? = some v → Rel w Im [] d v
theorem CR.nil : CR w Im [] [] := ⟨rfl, rfl, fun i d v h => by simp at h⟩
theorem CR.one {d : D} {v : Value} (h : Rel w Im [] d v) (hs : scal d = true) : CR w Im [d] [v] :=
  ⟨rfl, by simp [hs], fun i d' v' h1 h2 => by cases i <;> simp at h1 h2; subst h1; subst h2; exact h⟩
theorem CR.append {a b : List D} {cs es : List Value} (h : CR w Im a cs) (k : CR w Im b es) : CR w Im (a ++ b) (cs ++ es) := by
  refine ⟨by simp [h.1, k.1], by rw [List.all_append, h.2.1, k.2.1]; rfl, fun i d v h1 h2 => ?_⟩
  rcases Nat.lt_or_ge i a.length with hlt | hge
  · rw [List.getElem?_append_left hlt] at h1
    rw [List.getElem?_append_left (by rw [← h.1]; exact hlt)] at h2
    exact h.2.2 i d v h1 h2
  · rw [List.getElem?_append_right hge] at h1
    rw [List.getElem?_append_right (by rw [← h.1]; exact hge), ← h.1] at h2
    exact k.2.2 _ d v h1 h2
theorem weights_all {e : TypeId} : ∀ {l : List (DataW H)} {d : DataW H} {n : Nat}, d ∈ l → n ∈ d.weights P e → n ∈ DataW.weightsAll P e l
  | x :: l, d, n, hd, hn => by
    simp only [DataW.weightsAll, List.mem_append]
    rcases List.mem_cons.1 hd with rfl | hd
    · exact .inl hn
    · exact .inr (weights_all hd hn)
theorem wf_bounds {k : IntKind} {n : Int} (h : (Lit.int k n).wf = true) : k.min ≤ n ∧ n ≤ k.max := by
  simpa [Lit.wf] using h
theorem list_of {α : Type} {p : Nat → α → Prop} : ∀ (n : Nat), (∀ i, i < n → ∃ x, p i x) → ∃ l : List α, l.length = n ∧ ∀ i x, l[i]? = some x → p i x
  | 0, _ => ⟨[], rfl, fun i x h => by simp at h⟩
  | n + 1, h => by
    obtain ⟨l, h1, h2⟩ := list_of n fun i hi => h i (by omega)
    obtain ⟨x, hx⟩ := h n (by omega)
    refine ⟨l ++ [x], by simp [h1], fun i y hy => ?_⟩
    rcases Nat.lt_or_ge i l.length with hlt | hge
    · rw [List.getElem?_append_left hlt] at hy; exact h2 i y hy
    · rw [List.getElem?_append_right hge] at hy
      have : i - l.length = 0 := by have := (List.getElem?_eq_some_iff.1 hy).1; simpa using this
      rw [this] at hy
      simp at hy
      subst hy
      have : i = n := by omega
      rw [this]; exact hx
theorem flat_open (hIm : ∀ c, c < w.heap.size → Im c) : ∀ (n fuel : Nat) (t : TypeId) (cs : List Value) (x : DataW H × List MemPlace), flatB P n t = true → DataW.trod enc P w base spare held fuel t cs = some x →
    (∀ m ∈ x.1.weights P t, m ≤ reachBytes) → ∃ ds, CR w Im ds cs ∧ wtF P n t ds ∧ cs.length = P.cellsOf t
  | 0, _, _, _, _, h, _, _ => by simp [flatB] at h
  | n + 1, fuel, t, cs, x, h, hx, hw => by
    simp only [flatB] at h
    simp only [wtF]
    split at h
    · rename_i hu
      obtain ⟨b, rfl, rfl⟩ := DataW.trod_bool hu hx
      exact ⟨[.bool b], .one (.bool b) rfl, ⟨b, rfl⟩, by simpa using (eq_of_beq h).symm⟩
    · rename_i k hu
      obtain ⟨m, rfl, rfl, hwf⟩ := DataW.trod_int hu hx
      exact ⟨[.int k m], .one (.int k m) rfl, ⟨m, rfl, wf_bounds hwf⟩, by simpa using (eq_of_beq h).symm⟩
    · rename_i hu
      obtain ⟨s, rfl, rfl, _⟩ := DataW.trod_string hu hx
      exact ⟨[.str s.data.toList], .one (.str s _ rfl) rfl, ⟨_, rfl, hw _ (by simp [DataW.weights])⟩, by simpa using (eq_of_beq h).symm⟩
    · rename_i fs hu
      obtain ⟨xs, m, rfl, rfl, hlen, hxl, hget⟩ := DataW.trod_struct hu hx
      simp only [DataW.weights, hu] at hw
      have key : ∀ (l : List Field) (k off : Nat), fs.toList.drop k = l → tiles P (flatB P n) off l = some cs.length →
          ∃ ds, CR w Im ds (cs.drop off) ∧ wtL (wtF P n) (l.map (·.type)) ds := by
        intro l
        induction l with
        | nil =>
          intro k off _ ht
          simp only [tiles, Option.some.injEq] at ht
          subst ht
          exact ⟨[], by simpa using CR.nil, rfl⟩
        | cons f l ih =>
          intro k off hk ht
          simp only [tiles, Bool.cond_eq_ite] at ht
          split at ht
          · rename_i hc
            simp only [Bool.and_eq_true] at hc
            have hoff := Nat.eq_of_beq_eq_true hc.1
            have hfk : fs[k]? = some f := by
              have : (fs.toList.drop k)[0]? = some f := by rw [hk]; rfl
              simpa using this
            have hg := hget k f hfk
            have hklt : k < xs.length := by rw [hxl]; exact (Array.getElem?_eq_some_iff.1 hfk).1
            have hxk : xs[k]? = some xs[k] := by simp [hklt]
            rw [hxk, hoff] at hg
            obtain ⟨a, h1, h2, h3⟩ := flat_open hIm n m f.type _ _ hc.2 hg (fun q hq => hw q (DataW.weights_mem_each (j := k) (t := f.type) (d := xs[k].1) (by simp [hfk]) (by simp [hxk]) q hq))
            obtain ⟨b, k1, k2⟩ := ih (k + 1) (off + P.cellsOf f.type) (by rw [← List.drop_drop, hk]; rfl) ht
            refine ⟨a ++ b, ?_, a, b, rfl, h2, k2⟩
            have := h1.append k1
            rwa [← List.drop_drop, List.take_append_drop] at this
          · cases ht
      have ht : tiles P (flatB P n) 0 fs.toList = some cs.length := by rw [hlen]; exact eq_of_beq h
      obtain ⟨ds, h1, h2⟩ := key fs.toList 0 0 rfl ht
      exact ⟨ds, by simpa using h1, h2, hlen⟩
    · rename_i m e hu
      simp only [Bool.and_eq_true] at h
      obtain ⟨xs, m', rfl, rfl, hlen, hxl, hget⟩ := DataW.trod_array hu hx
      simp only [DataW.weights, hu] at hw
      have hsz := eq_of_beq h.2
      have key : ∀ (r k : Nat), k + r = m → ∃ ds, CR w Im ds (cs.drop (k * P.cellsOf e)) ∧ wtL (wtF P n) (List.replicate r e) ds := by
        intro r
        induction r with
        | zero =>
          intro k hk
          refine ⟨[], ?_, rfl⟩
          rw [List.drop_eq_nil_of_le (by rw [hlen, hsz, ← hk]; simp)]
          exact CR.nil
        | succ r ih =>
          intro k hk
          have hg := hget k (by omega)
          have hklt : k < xs.length := by omega
          have hxk : xs[k]? = some xs[k] := by simp [hklt]
          rw [hxk] at hg
          obtain ⟨a, h1, h2, h3⟩ := flat_open hIm n m' e _ _ h.1 hg (fun q hq => hw q (weights_all (List.mem_map.2 ⟨xs[k], List.getElem_mem hklt, rfl⟩) hq))
          obtain ⟨b, k1, k2⟩ := ih (k + 1) (by omega)
          refine ⟨a ++ b, ?_, a, b, rfl, h2, k2⟩
          have := h1.append k1
          rwa [Nat.add_mul, Nat.one_mul, ← List.drop_drop, List.take_append_drop] at this
      obtain ⟨ds, h1, h2⟩ := key m 0 (by omega)
      exact ⟨ds, by simpa using h1, h2, hlen⟩
    · rename_i e hu
      simp only [Bool.and_eq_true] at h
      obtain ⟨hfe, hsz1, hble⟩ := h
      have hpos := Nat.le_of_ble_eq_true hble
      have hsz1' := (eq_of_beq hsz1)
      rcases DataW.trod_slice hu hx with ⟨rfl, rfl⟩ | ⟨a, len, cap, elems, rest, m, rfl, rfl, rfl, _, hlc, hm, hel, hget, hsp, _⟩
      · exact ⟨[.sl false (P.cellsOf e) []], .one (.nilsl2 _) rfl, ⟨[], rfl, by simp, fun r hr => by simp at hr⟩, by simpa using hsz1'.symm⟩
      · simp only [DataW.weights, hu] at hw
        have each : ∀ i, i < elems.length → ∃ r : List D, (∃ cs, w.cells? base (a.add (i * P.cellsOf e)) (P.cellsOf e) = some cs ∧ CR w Im r cs) ∧ wtF P n e r ∧ r.length = P.cellsOf e := by
          intro i hi
          have hg := hget i (by omega)
          have hxi : elems[i]? = some elems[i] := by simp [hi]
          rw [hxi, Option.bind_eq_some_iff] at hg
          obtain ⟨cs, h1, h2⟩ := hg
          obtain ⟨r, k1, k2, k3⟩ := flat_open hIm n m e cs _ hfe h2 (fun m hm => hw m (by
            simp only [List.mem_cons, List.mem_append]
            exact .inr (.inl (weights_all (List.mem_map.2 ⟨elems[i], List.getElem_mem hi, rfl⟩) hm))))
          exact ⟨r, ⟨cs, h1, k1⟩, k2, by rw [k1.1, k3]⟩
        obtain ⟨rows, r1, r2⟩ := list_of elems.length each
        have first : rows ≠ [] → a.spot = none ∧ a.block < w.heap.size := fun hne => by
          have h0 : 0 < rows.length := List.length_pos_iff.2 hne
          obtain ⟨⟨cs, c1, _⟩, _, c3⟩ := r2 0 rows[0] (by simp [h0])
          obtain ⟨_, s1, s2⟩ := World.cells?_some c1
          have h1 := s2 0 (by omega)
          simp only [Nat.zero_mul] at h1
          have h2 : (a.add 0).add 0 = a := by simp [Addr.add]
          rw [h2] at h1
          have hv : cs[0]? = some (cs[0]'(by omega)) := by simp
          rw [hv] at h1
          have hspot := World.cell?_spot h1
          refine ⟨hspot, ?_⟩
          have := World.cells?_block c1 (by omega)
          simp only [Addr.add] at this
          split at this <;> exact this
        have hrow : rows ≠ [] → RowsAt w Im [] a.block a.off (P.cellsOf e) rows := fun hne => by
          refine ⟨fun r hr => ?_, fun i j r x e1 e2 => ?_⟩
          · obtain ⟨i, hi⟩ := List.mem_iff_getElem?.1 hr
            obtain ⟨⟨cs, c1, c2⟩, _, c3⟩ := r2 i r hi
            exact ⟨c3, c2.2.1⟩
          · obtain ⟨⟨cs, c1, c2⟩, _, c3⟩ := r2 i r e1
            obtain ⟨_, s1, s2⟩ := World.cells?_some c1
            have hj : j < P.cellsOf e := by have := (List.getElem?_eq_some_iff.1 e2).1; omega
            have hv : cs[j]? = some (cs[j]'(by omega)) := by simp
            have := s2 j hj
            rw [hv] at this
            refine ⟨cs[j]'(by omega), ?_, c2.2.2 j x _ e2 hv⟩
            rw [← this]
            congr 1
            have q := (first hne).1
            obtain ⟨ab, ao, asp⟩ := a
            simp only at q
            subst q
            unfold Addr.add
            split <;> split <;> simp_all <;> omega
        have hlen : rows.length = len := by rw [r1, hel]
        refine ⟨[.sl false (P.cellsOf e) rows], .one ?_ rfl, ⟨rows, rfl, ?_, fun r hr => ?_⟩, by simpa using hsz1'.symm⟩
        · by_cases hne : rows = []
          · subst hne
            simp only [List.length_nil] at hlen
            subst hlen
            exact .sl _ [] 0 0 cap (fun _ _ => undef) a (by simp) (by simp) (by simp) (by simp) (by simp) (by simp)
          · obtain ⟨q1, q2⟩ := first hne
            have := (hrow hne).sl (φ := []) (fun _ => hIm _ q2) (cap := cap) (by omega)
            obtain ⟨ab, ao, asp⟩ := a
            simp only at q1
            subst q1
            rw [← hlen]; exact this
        · have := hw ((elems.map (·.1)).length * P.bytesOf e + (rest.map (·.1)).length * P.bytesOf e) (by simp [Nat.add_mul])
          rw [r1]
          simp at this
          exact Nat.le_trans (Nat.le_add_right _ _) this
        · obtain ⟨i, hi⟩ := List.mem_iff_getElem?.1 hr
          exact (r2 i r hi).2.1
    · cases h
def Old (w : World) (c : Nat) : Prop := c < w.heap.size
theorem par_open {t : TypeId} {v : Value} {d : DataW H} {ps : List MemPlace} {b0 : Nat} (hp : parB P t = true) (hok : Value.okWide P w .any b0 t v) (h : DataW.Trod enc P w 0 (fun _ => true) true t v d ps)
    (hw : ∀ m ∈ d.weights P t, m ≤ reachBytes) : ∃ x, Rel w (Old w) [] x v ∧ wtP P t x := by
  obtain ⟨fuel, h⟩ := h
  simp only [parB] at hp
  split at hp
  rotate_right
  · cases hp
  all_goals
    rename_i hu
    simp only [wtP, hu]
  · obtain ⟨b, rfl⟩ := okWide_bool hu hok
    obtain ⟨ds, h1, h2, _⟩ := flat_open (Im := Old w) (fun _ h => h) 6 fuel t _ _ hp h hw
    have : ds = [.bool b] := by
      simp only [wtF, hu] at h2
      obtain ⟨b', rfl⟩ := h2
      have := h1.2.2 0 _ _ rfl (show (Value.cells _).toList[0]? = some _ from rfl)
      cases this; rfl
    subst this
    exact ⟨.bool b, .bool b, h2⟩
  · rename_i k
    obtain ⟨b, rfl⟩ := okWide_int hu hok
    obtain ⟨ds, h1, h2, _⟩ := flat_open (Im := Old w) (fun _ h => h) 6 fuel t _ _ hp h hw
    have : ds = [.int k b] := by
      simp only [wtF, hu] at h2
      obtain ⟨b', rfl, _⟩ := h2
      have := h1.2.2 0 _ _ rfl (show (Value.cells _).toList[0]? = some _ from rfl)
      cases this; rfl
    subst this
    exact ⟨.int k b, .int k b, h2⟩
  · obtain ⟨b, rfl⟩ := okWide_string hu hok
    obtain ⟨ds, h1, h2, _⟩ := flat_open (Im := Old w) (fun _ h => h) 6 fuel t _ _ hp h hw
    have : ds = [.str b.data.toList] := by
      simp only [wtF, hu] at h2
      obtain ⟨b', rfl, _⟩ := h2
      have := h1.2.2 0 _ _ rfl (show (Value.cells _).toList[0]? = some _ from rfl)
      cases this with | str s l e => rw [e]
    subst this
    exact ⟨.str _, .str b _ rfl, h2⟩
  · obtain ⟨cs, rfl, _⟩ := okWide_struct hu hok
    obtain ⟨ds, h1, h2, _⟩ := flat_open (Im := Old w) (fun _ h => h) 6 fuel t _ _ hp h hw
    exact ⟨.agg ds, .agg ds cs (by simpa [Value.cells] using h1.1) (fun i d v a b => h1.2.2 i d v a (by simpa [Value.cells] using b)), ds, rfl, h2⟩
  · simp only [Value.okWide, hu] at hok
    obtain ⟨cs, rfl, _, _⟩ := hok
    obtain ⟨ds, h1, h2, _⟩ := flat_open (Im := Old w) (fun _ h => h) 6 fuel t _ _ hp h hw
    exact ⟨.agg ds, .agg ds cs (by simpa [Value.cells] using h1.1) (fun i d v a b => h1.2.2 i d v a (by simpa [Value.cells] using b)), ds, rfl, h2⟩
  · rename_i e
    obtain ⟨a0, len, cap, rfl⟩ := okWide_slice hu hok
    obtain ⟨ds, h1, h2, _⟩ := flat_open (Im := Old w) (fun _ h => h) 6 fuel t _ _ hp h hw
    have h2' := h2
    simp only [wtF, hu] at h2'
    obtain ⟨rows, rfl, h3, h4⟩ := h2'
    exact ⟨_, h1.2.2 0 _ _ rfl (show (Value.cells _).toList[0]? = some _ from rfl), h2⟩
theorem pars_open : ∀ {ts : List TypeId} {vs : List Value} {ds : List (DataW H)} {ps : List MemPlace} {b0 : Nat}, ts.all (parB P) = true → (∀ (j : Nat) t v, ts[j]? = some t → vs[j]? = some v → Value.okWide P w .any b0 t v) →
    DataW.TrodAll enc P w 0 (fun _ => true) true ts vs ds ps → (∀ m ∈ DataW.weightsEach P ts ds, m ≤ reachBytes) → ∃ xs, ArgsRel w (Old w) [] xs vs ∧ wtA P ts xs
  | [], vs, ds, ps, b0, _, _, h, _ => by
    obtain ⟨rfl, rfl, rfl⟩ := trodAll_nil h
    exact ⟨[], ⟨rfl, fun i d v h => by simp at h⟩, rfl⟩
  | t :: ts, vs, ds, ps, b0, hp, hok, h, hw => by
    obtain ⟨v, vs', d, ds', p, q, rfl, rfl, rfl, h1, h2⟩ := trodAll_cons h
    simp only [List.all_cons, Bool.and_eq_true] at hp
    simp only [DataW.weightsEach, List.mem_append] at hw
    obtain ⟨x, x1, x2⟩ := par_open hp.1 (hok 0 t v rfl rfl) h1 fun m hm => hw m (.inl hm)
    obtain ⟨xs, y1, y2⟩ := pars_open hp.2 (fun j t' v' a b => hok (j + 1) t' v' a b) h2 fun m hm => hw m (.inr hm)
    refine ⟨x :: xs, ⟨by simp [y1.1], fun i d' v' a b => ?_⟩, x, xs, rfl, x2, y2⟩
    cases i with
    | zero => simp at a b; subst a; subst b; exact x1
    | succ i => exact y1.2 i d' v' (by simpa using a) (by simpa using b)
theorem trods_stay (hl : laidOutB P = true) {W W' : World} (hb : Below W.heap.size W W') : ∀ {ts : List TypeId} {vs : List Value} {ds : List (DataW H)} {ps : List MemPlace}, (ts.all fun t => P.readableRec t && decide (t < P.types.size)) = true →
    DataW.TrodAll enc P W 0 (fun _ => true) true ts vs ds ps → DataW.TrodAll enc P W' 0 (fun b => decide (b < W.heap.size)) true ts vs ds ps
  | [], vs, ds, ps, _, h => by
    obtain ⟨rfl, rfl, rfl⟩ := trodAll_nil h
    exact trodAll_mk0
  | t :: ts, vs, ds, ps, hr, h => by
    obtain ⟨v, vs', d, ds', p, q, rfl, rfl, rfl, h1, h2⟩ := trodAll_cons h
    simp only [List.all_cons, Bool.and_eq_true, decide_eq_true_eq] at hr
    have lt : ∀ x ∈ p, x.block < W.heap.size := by obtain ⟨m, hm⟩ := h1; exact DataW.trod_lt m _ _ _ hm
    exact trodAll_cons_mk (Below.trod hl hr.1.1 hr.1.2 h1 hb lt) (trods_stay hl hb hr.2 h2)
theorem law_calls {E : Env} {f : FuncId} {ts : List TypeId} {W : World} {vs : Array Value} {ds : List (DataW H)} {ps : List MemPlace} {b0 : Nat} (hgl : GlOk E W (Old W)) (hl : laidOutB E.P = true) (hr : (ts.all fun t => E.P.readableRec t && decide (t < E.P.types.size)) = true)
    (hp : ts.all (parB E.P) = true) (hok : ∀ (j : Nat) t v, ts[j]? = some t → vs.toList[j]? = some v → Value.okWide E.P W .any b0 t v)
    (hA : DataW.TrodAll enc E.P W 0 (fun _ => true) true ts vs.toList ds ps) (hw : (DataW.weightsEach E.P ts ds).all (· ≤ reachBytes) = true)
    (hs : ∀ xs, wtA E.P ts xs → Sound E f xs [] fun d _ => d = .bool true) :
    Calls E.P f vs W fun e W' => e = .returned (.bool true) ∧ Below W.heap.size W W' ∧ DataW.TrodAll enc E.P W' 0 (fun b => decide (b < W.heap.size)) true ts vs.toList ds ps := by
  obtain ⟨xs, h1, h2⟩ := pars_open hp hok hA (fun m hm => by simpa using List.all_eq_true.1 hw m hm)
  refine (hs xs h2 W (Old W) [] vs hgl (Inv.nil fun c hc => hc) h1).mono ?_
  rintro e W' ⟨v, d, σ', φ', Im', rfl, ht, _, hr', rfl⟩
  have hv := hr'.bool_inv
  subst hv
  have hb : Below W.heap.size W W' := ⟨ht.ext.io.1, ht.ext.io.2.1, ht.ext.io.2.2, ht.ext.size, fun k hk => ht.ext.same k hk (no_own k)⟩
  exact ⟨rfl, hb, trods_stay hl hb hr hA⟩
end
end Go.RX

namespace Go.RX
open Go
def codeAt : Code → List Nat → Code
  | c, [] => c
  | .seq a b, i :: r => bif Nat.beq i 0 then codeAt a r else codeAt b r
  | .cond _ a b, i :: r => bif Nat.beq i 0 then codeAt a r else codeAt b r
  | .block _ a, _ :: r => codeAt a r
  | .loop a, _ :: r => codeAt a r
  | .scope a, _ :: r => codeAt a r
  | .rangeFunc _ _ a b, i :: r => bif Nat.beq i 0 then codeAt a r else codeAt b r
  | c, _ => c
def bodyOf (f : Func) : Code := match f.body with | some c => c | none => .skip
end Go.RX

namespace Go.RX
open Go
/-! ### encodings -/
def eInt (k : IntKind) (n : Int) : List D := [.int k n]
def eSl {α : Type} (sz : Nat) (en : α → List D) (l : List α) : List D := [.sl false sz (l.map en)]
/-! ### integers -/
def andI (k : IntKind) (x y : Int) : Int := k.wrap ((BitVec.ofInt k.bits x &&& BitVec.ofInt k.bits y).toNat : Int)
def orI (k : IntKind) (x y : Int) : Int := k.wrap ((BitVec.ofInt k.bits x ||| BitVec.ofInt k.bits y).toNat : Int)
def xorI (k : IntKind) (x y : Int) : Int := k.wrap ((BitVec.ofInt k.bits x ^^^ BitVec.ofInt k.bits y).toNat : Int)
def andNotI (k : IntKind) (x y : Int) : Int := k.wrap ((BitVec.ofInt k.bits x &&& ~~~ BitVec.ofInt k.bits y).toNat : Int)
def shlI (k : IntKind) (x y : Int) : Int := k.wrap (x * 2 ^ (min y.toNat k.bits))
def shrI (k : IntKind) (x y : Int) : Int := x.fdiv (2 ^ (min y.toNat k.bits))
def mnI (x y : Int) : Int := if y < x then y else x
def mxI (x y : Int) : Int := if x < y then y else x
/-! ### rows -/
theorem take_full {α : Type} (l : List α) : List.take l.length (List.drop 0 l) = l := by simp
theorem take_full' {α : Type} (l : List α) : List.take l.length l = l := by simp
theorem rows_app {α : Type} (en : α → List D) (l xs : List α) : List.take (l.map en).length (List.drop 0 (l.map en)) ++ xs.map en = (l ++ xs).map en := by rw [List.drop_zero, List.take_length, List.map_append]
theorem rows_rep {α : Type} (en : α → List D) (n : Nat) (x : α) : List.replicate n (en x) = (List.replicate n x).map en := by rw [List.map_replicate]
def b8 (n : Int) : UInt8 := UInt8.ofNat n.toNat
theorem rows_bytes : ∀ (l : List Int), rowsStr (l.map (eInt .u8)) = some (l.map b8)
  | [] => rfl
  | n :: l => by
    have ih := rows_bytes l
    simp only [List.map_cons, eInt, rowsStr] at ih ⊢
    rw [ih]; rfl
theorem ble_full (n : Nat) : Nat.ble (0 + n) n = true := by simp
section
variable {E : Env} {C : Cx} {Q : D → Sto → Prop}
theorem r_retE {q : Qy} (ns : List Fx) {d1 d : D} {s1 s : Sto} (h : q.retF ns = some (d1, s1)) (he : d1 = d ∧ s1 = s) (hq : Q d s) (hf : C.fin := by intro h; cases h) : FinQ E C (QW Q) q := by
  obtain ⟨rfl, rfl⟩ := he
  exact r_retF ns h hf hq
theorem r_len {n1 n2 : Nat} (f : Nat → Qy) (e : n1 = n2) (h : FinQ E C Q (f n2)) : FinQ E C Q (f n1) := by rw [e]; exact h
theorem r_needT {q : Qy} {b : Bool} (h : q.needB = some b) (hb : b = true) (hk : FinQ E C Q q.needK) : FinQ E C Q q := r_need b h hb hk
def After (E : Env) (C : Cx) {S R : Type} (Q : R → D → Sto → Prop) (stM : S → M) (r : R) : S ⊕ R → Prop
  | .inl s => FinQ E C (QW (Q r)) (.go (stM s))
  | .inr r' => r' = r
theorem ev_run {S R : Type} {Q : R → D → Sto → Prop} {stM : S → M} {step : S → Option (S ⊕ R)}
    (hs : ∀ (s : S) (x : S ⊕ R) (r : R), step s = some x → After E C Q stM r x → FinQ E C (QW (Q r)) (.go (stM s))) : ∀ {s : S} {r : R}, Ev step s r → FinQ E C (QW (Q r)) (.go (stM s)) := fun h => by
  induction h with
  | done h => exact hs _ _ _ h rfl
  | next h _ ih => exact hs _ _ _ h ih
end
/-! ### what a step function comes to, as a function -/
open Classical in
noncomputable def evf {S R : Type} (step : S → Option (S ⊕ R)) (s : S) : Option R := if h : ∃ r, Ev step s r then some (Classical.choose h) else none
theorem evf_ev {S R : Type} {step : S → Option (S ⊕ R)} {s : S} {r : R} (h : evf step s = some r) : Ev step s r := by
  unfold evf at h
  split at h
  · rename_i hh
    obtain rfl := Option.some.inj h
    exact Classical.choose_spec hh
  · cases h
theorem Ev.det {S R : Type} {step : S → Option (S ⊕ R)} {s : S} {r r' : R} (h : Ev step s r) (h' : Ev step s r') : r = r' := by
  induction h with
  | done h =>
    cases h' with
    | done h2 => rw [h] at h2; simpa using h2
    | next h2 _ => rw [h] at h2; simp at h2
  | next h _ ih =>
    cases h' with
    | done h2 => rw [h] at h2; simp at h2
    | next h2 h3 =>
      rw [h] at h2
      simp only [Option.some.injEq, Sum.inl.injEq] at h2
      subst h2
      exact ih h3
theorem evf_of {S R : Type} {step : S → Option (S ⊕ R)} {s : S} {r : R} (h : Ev step s r) : evf step s = some r := by
  unfold evf
  have hh : ∃ r, Ev step s r := ⟨r, h⟩
  rw [dif_pos hh, (Classical.choose_spec hh).det h]
/-! ### arguments, read -/
def inK (k : IntKind) (n : Int) : Prop := k.min ≤ n ∧ n ≤ k.max
section
variable {P : Program} {t : TypeId} {n : Nat} {ds : List D}
theorem wt_int {k : IntKind} (hu : P.underlying t = some (.int k)) (h : wtF P (n + 1) t ds) : ∃ m, ds = [.int k m] ∧ inK k m := by
  simp only [wtF, hu] at h
  exact h
variable (P t) in
def fieldTypes : Option (List TypeId) := match P.underlying t with | some (.struct fs) => some (fs.toList.map (·.type)) | _ => none
variable (P t) in
def elemType : Option TypeId := match P.underlying t with | some (.slice e) => some e | _ => none
theorem wt_struct {ts : List TypeId} (hu : fieldTypes P t = some ts) (h : wtF P (n + 1) t ds) : wtL (wtF P n) ts ds := by
  unfold fieldTypes at hu
  split at hu
  · rename_i fs hf
    simp only [wtF, hf] at h
    obtain rfl := Option.some.inj hu
    exact h
  · cases hu
theorem wt_slice {e : TypeId} {sz by_ : Nat} (hu : elemType P t = some e) (hs : P.cellsOf e = sz) (hb : P.bytesOf e = by_) (h : wtF P (n + 1) t ds) : ∃ rows, ds = [.sl false sz rows] ∧ rows.length * by_ ≤ reachBytes ∧ ∀ r ∈ rows, wtF P n e r := by
  unfold elemType at hu
  split at hu
  · rename_i fs hf
    simp only [wtF, hf] at h
    obtain rfl := Option.some.inj hu
    rw [hs, hb] at h
    exact h
  · cases hu
theorem wt_rows {α : Type} {en : α → List D} {Ok : α → Prop} {e : TypeId} (of : ∀ r, wtF P n e r → ∃ x, r = en x ∧ Ok x) : ∀ (rows : List (List D)), (∀ r ∈ rows, wtF P n e r) → ∃ l : List α, rows = l.map en ∧ ∀ x ∈ l, Ok x
  | [], _ => ⟨[], rfl, fun x h => by simp at h⟩
  | r :: rows, h => by
    obtain ⟨x, rfl, h1⟩ := of r (h r (by simp))
    obtain ⟨l, rfl, h2⟩ := wt_rows of rows fun r hr => h r (by simp [hr])
    exact ⟨x :: l, rfl, fun y hy => by rcases List.mem_cons.1 hy with rfl | hy; exact h1; exact h2 y hy⟩
theorem wtL_cons {wt : TypeId → List D → Prop} {r : List TypeId} (h : wtL wt (t :: r) ds) : ∃ a b, ds = a ++ b ∧ wt t a ∧ wtL wt r b := h
theorem wtL_nil {wt : TypeId → List D → Prop} (h : wtL wt [] ds) : ds = [] := h
variable (P t) in
def isAggT : Bool := match P.underlying t with | some (.struct _) | some (.array _ _) => true | _ => false
theorem wtP_agg {d : D} (hu : isAggT P t = true) (h : wtP P t d) : ∃ cs, d = .agg cs ∧ wtF P 6 t cs := by
  unfold isAggT at hu
  unfold wtP at h
  split at hu
  · rename_i hf; simp only [hf] at h; exact h
  · rename_i hf; simp only [hf] at h; exact h
  · cases hu
theorem wtP_flat {d : D} (hu : isAggT P t = false) (h : wtP P t d) : wtF P 6 t [d] := by
  unfold isAggT at hu
  unfold wtP at h
  split at h
  · rename_i hf; simp [hf] at hu
  · rename_i hf; simp [hf] at hu
  · exact h
theorem wtA_cons {r : List TypeId} {ds : List D} (h : wtA P (t :: r) ds) : ∃ d ds', ds = d :: ds' ∧ wtP P t d ∧ wtA P r ds' := h
theorem wtA_nil {ds : List D} (h : wtA P [] ds) : ds = [] := h
end
end Go.RX

namespace Go.RX
open Go
def rfPs : Code → Array Nat
  | .rangeFunc _ ps _ _ => ps
  | _ => #[]
def rfA : Code → Code
  | .rangeFunc _ _ a _ => a
  | _ => .skip
def rfB : Code → Code
  | .rangeFunc _ _ _ b => b
  | _ => .skip
theorem Cx.fin_of {fn : Func} {k : Bool} {m : Nat} : (Cx.of fn k m).fin := fun h => by cases h
theorem Cx.fin_round {C : Cx} {m : Nat} : (C.round m).fin := fun h => by cases h
section
variable {E : Env} {C : Cx} {Q : D → Sto → Prop}
def RngQ (E : Env) (C : Cx) (Q : D → Sto → Prop) (m : Nat) (c : Code) (t : List It) (fr : Fr) (ids : List Nat) (bs : Sto) (Y : List (List D)) (σ : Sto) : Prop :=
  Rng (fun s => pickSto s ids = bs) (fun y s q' => FinQ E (C.round m) (QW q') (rndQ E C.fn.ntmps (rfPs c) (rfA c) (rfB c) fr y s)) (fun n s => FinQ E C Q (aftQ t fr n s)) Y σ
def RngE (E : Env) (C : Cx) (Q : D → Sto → Prop) (m : Nat) (c : Code) (t : List It) (fr : Fr) (ids : List Nat) (bs : Sto) (Y : List (List D)) (d : D) (s : Sto) : Prop :=
  pickSto s ids = bs ∧ ((d = .int .i64 0 ∧ RngQ E C Q m c t fr ids bs Y s) ∨ ∃ n : Nat, n ≠ 0 ∧ d = .int .i64 (n : Int) ∧ FinQ E C Q (aftQ t fr n s))
variable {m : Nat} {c : Code} {t : List It} {fr : Fr} {ids : List Nat} {bs : Sto} {Y : List (List D)} {σ : Sto}
theorem rng_nil (h : FinQ E C Q (.go ⟨t, fr, σ⟩)) : RngQ E C Q m c t fr ids bs [] σ := h
theorem rng_cons {y : List D} (h : FinQ E (C.round m) (QW (RngE E C Q m c t fr ids bs Y)) (rndQ E C.fn.ntmps (rfPs c) (rfA c) (rfB c) fr y σ)) : RngQ E C Q m c t fr ids bs (y :: Y) σ := h
theorem p_rng {α T : Type} {q : Qy} {o : Option (List T)} {F : List T → Option α} {r : α} {g : FuncId} {caps1 caps : List D} {sub1 sub : Sto} (en : T → List D) (h : o.bind F = some r) (hq : q.rngA = some (m, g, caps1, sub1, σ, [])) (he : caps1 = caps ∧ sub1 = sub)
    (hr : q.rngR = rndQ E C.fn.ntmps (rfPs c) (rfA c) (rfB c) fr) (hk' : q.rngK = aftQ t fr) (hs : ∀ y, o = some y → SoundSeq E g caps sub [] (y.map en)) (hk : ∀ y, o = some y → F y = some r → RngQ E C Q m c t fr [] [] (y.map en) σ) : FinQ E C Q q := by
  obtain ⟨rfl, rfl⟩ := he
  cases o with
  | none => cases h
  | some y =>
    refine r_rng hq (.inl rfl) (hs y rfl) ?_
    have := hk y rfl h
    unfold RngQ at this
    rw [hr, hk']
    exact this
theorem p_rend0 {q : Qy} (ns : List Fx) {s1 s : Sto} (h : q.retF ns = some (.int .i64 0, s1)) (he : s1 = s) (hB : pickSto s ids = bs) (hk : RngQ E C Q m c t fr ids bs Y s) : FinQ E (C.round m) (QW (RngE E C Q m c t fr ids bs Y)) q := by
  subst he
  exact r_retF ns h Cx.fin_round ⟨hB, .inl ⟨rfl, hk⟩⟩
end
def AfterP {S R : Type} (Pd : S → R → Prop) (r : R) : S ⊕ R → Prop
  | .inl s => Pd s r
  | .inr r' => r' = r
theorem ev_runP {S R : Type} {Pd : S → R → Prop} {step : S → Option (S ⊕ R)} (hs : ∀ (s : S) (x : S ⊕ R) (r : R), step s = some x → AfterP Pd r x → Pd s r) : ∀ {s : S} {r : R}, Ev step s r → Pd s r := fun h => by
  induction h with
  | done h => exact hs _ _ _ h rfl
  | next h _ ih => exact hs _ _ _ h ih
/-! ### iterators -/
inductive EvL {S T : Type} (step : S → Option (List T × Option S)) : S → List T → Prop
  | done {s : S} {l : List T} : step s = some (l, none) → EvL step s l
  | next {s s' : S} {l r : List T} : step s = some (l, some s') → EvL step s' r → EvL step s (l ++ r)
theorem EvL.det {S T : Type} {step : S → Option (List T × Option S)} {s : S} {r r' : List T} (h : EvL step s r) (h' : EvL step s r') : r = r' := by
  induction h generalizing r' with
  | done h =>
    cases h' with
    | done h2 => rw [h] at h2; simpa using h2
    | next h2 _ => rw [h] at h2; simp at h2
  | next h _ ih =>
    cases h' with
    | done h2 => rw [h] at h2; simp at h2
    | next h2 h3 =>
      rw [h] at h2
      simp only [Option.some.injEq, Prod.mk.injEq] at h2
      obtain ⟨rfl, rfl⟩ := h2
      rw [ih h3]
open Classical in
/-- What an iterator tells. -/
noncomputable def evl {S T : Type} (step : S → Option (List T × Option S)) (s : S) : Option (List T) := if h : ∃ r, EvL step s r then some (Classical.choose h) else none
theorem evl_ev {S T : Type} {step : S → Option (List T × Option S)} {s : S} {r : List T} (h : evl step s = some r) : EvL step s r := by
  unfold evl at h
  split at h
  · rename_i hh
    obtain rfl := Option.some.inj h
    exact Classical.choose_spec hh
  · cases h
theorem evl_of {S T : Type} {step : S → Option (List T × Option S)} {s : S} {r : List T} (h : EvL step s r) : evl step s = some r := by
  unfold evl
  have hh : ∃ r, EvL step s r := ⟨r, h⟩
  rw [dif_pos hh, (Classical.choose_spec hh).det h]
def AfterL {S T : Type} (E : Env) (ln : Sto) (C : Option (List (List D)) → Cx) (en : T → List D) (stM : S → M) (lnS : S → Sto) : List T × Option S → List (List D) → Prop
  | (l, none), Y => Y = l.map en
  | (l, some s), Y => ∃ Y', Y = l.map en ++ Y' ∧ (lnS s = ln → FinQ E (C (some Y')) (fun _ s => Lent ln s) (.go (stM s)))
section
variable {S T : Type} {E : Env} {fn : Func} {m l : Nat} {ln : Sto} {φ0 : Phi} {J : Option (List (List D)) → World → (Nat → Prop) → (Nat → Prop) → Prop} {en : T → List D} {stM : S → M} {lnS : S → Sto} {Y : List (List D)}
theorem evl_run {step : S → Option (List T × Option S)} (hs : ∀ (s : S) (x : List T × Option S) (Y : List (List D)), lnS s = ln → step s = some x → AfterL E ln (Cx.seq fn m ln l φ0 J) en stM lnS x Y → FinQ E (Cx.seq fn m ln l φ0 J (some Y)) (fun _ s => Lent ln s) (.go (stM s))) :
    ∀ {s : S} {r : List T}, lnS s = ln → EvL step s r → FinQ E (Cx.seq fn m ln l φ0 J (some (r.map en))) (fun _ s => Lent ln s) (.go (stM s)) := fun hl h => by
  induction h with
  | done h => exact hs _ _ _ hl h rfl
  | next h _ ih => exact hs _ _ _ hl h ⟨_, by rw [List.map_append], ih⟩
theorem afterL_jump {s : S} (hl : lnS s = ln) (h : AfterL E ln (Cx.seq fn m ln l φ0 J) en stM lnS ([], some s) Y) : FinQ E (Cx.seq fn m ln l φ0 J (some Y)) (fun _ s => Lent ln s) (.go (stM s)) := by
  obtain ⟨Y', rfl, h⟩ := h
  exact h hl
theorem p_retY {q : Qy} {d : D} {s : Sto} (h : q.retR = some (d, s)) (hl : s.take ln.length = ln) (ha : AfterL (S := S) E ln (Cx.seq fn m ln l φ0 J) en stM lnS ([], none) Y) : FinQ E (Cx.seq fn m ln l φ0 J (some Y)) (fun _ s => Lent ln s) q :=
  r_ret d s h (fun _ => .inl (congrArg some ha)) hl
theorem p_retN {q : Qy} {d : D} {s : Sto} (h : q.retR = some (d, s)) (hl : s.take ln.length = ln) : FinQ E (Cx.seq fn m ln l φ0 J none) (fun _ s => Lent ln s) q :=
  r_ret d s h (fun _ => .inr rfl) hl
theorem p_yld {q : Qy} {A : Option (List T × Option S)} {x : T} {p : List T × Option S} {s : Sto} (h : A.map (fun p => (x :: p.1, p.2)) = some p) (ha : AfterL E ln (Cx.seq fn m ln l φ0 J) en stM lnS p Y) (hq : q.yldA = some (l, en x, s)) (hl : s.take ln.length = ln)
    (hf : FinQ E (Cx.seq fn m ln l φ0 J none) (fun _ s => Lent ln s) (q.yldK false)) (hk : ∀ (p' : List T × Option S) (Y' : List (List D)), A = some p' → AfterL E ln (Cx.seq fn m ln l φ0 J) en stM lnS p' Y' → FinQ E (Cx.seq fn m ln l φ0 J (some Y')) (fun _ s => Lent ln s) (q.yldK true)) :
    FinQ E (Cx.seq fn m ln l φ0 J (some Y)) (fun _ s => Lent ln s) q := by
  cases A with
  | none => cases h
  | some p' =>
    obtain rfl := Option.some.inj h
    obtain ⟨l', o⟩ := p'
    cases o with
    | none =>
      have hY : Y = en x :: l'.map en := ha
      subst hY
      exact r_yld hq rfl rfl rfl hl rfl (hk _ _ rfl rfl) hf
    | some s =>
      obtain ⟨Y', hY, h'⟩ := ha
      have hY' : Y = en x :: (l'.map en ++ Y') := hY
      subst hY'
      exact r_yld hq rfl rfl rfl hl rfl (hk _ _ rfl ⟨Y', rfl, h'⟩) hf
end
end Go.RX

namespace Go.RX
open Go
class Mix (E : Env) : Prop where
  hm : E.P.follows .mixedOrders = true
def Rs {R : Type} (e : R → D × Sto) (r : R) (d : D) (s : Sto) : Prop := d = (e r).1 ∧ s = (e r).2
def maskOf (fr : Fr) : Nat := fr.foldl (fun m x => m ||| bit x.1) 0
def startM (fn : Func) (args : List D) (σ : Sto) : M := ⟨[.code (bodyOf fn)], (List.range args.length).zip args, σ⟩
def AOk (E : Env) (C : Cx) {R : Type} (e : R → D × Sto) (m : M) (o : Option R) : Prop := ∀ ⦃r : R⦄, o = some r → FinQ E C (QW (Rs e r)) (.go m)
def SOk (E : Env) (C : Cx) {S R : Type} (e : R → D × Sto) (stM : S → M) (s : S) (o : Option (S ⊕ R)) : Prop := ∀ (r : R) (x : S ⊕ R), o = some x → After E C (Rs e) stM r x → FinQ E C (QW (Rs e r)) (.go (stM s))
section
variable {E : Env} [Mix E] {C : Cx} {Q : D → Sto → Prop} {q : Qy} {α : Type} {r : α}
theorem zs {c : Bool} {A B : Option α} (n : Nat) (h : (bif c then A else B) = some r) (ht : A = some r → FinQ E C Q ((adv E C n q).splitK true)) (hf : B = some r → FinQ E C Q ((adv E C n q).splitK false)) (hq : (adv E C n q).splitB = some c := by kernel_rfl) : FinQ E C Q q :=
  adv_ok Mix.hm n q (p_split h hq (fun _ => ht) fun _ => hf)
theorem zn {c : Bool} {A : Option α} (n : Nat) (h : (bif c then A else none) = some r) (hk : A = some r → FinQ E C Q (adv E C n q).needK) (hq : (adv E C n q).needB = some c := by kernel_rfl) : FinQ E C Q q :=
  adv_ok Mix.hm n q (p_need h hq fun _ => hk)
theorem zr {β : Type} {l : List β} {i : Nat} {F : β → Option α} (n : Nat) (en : β → List D) (h : (l[i]?).bind F = some r) (hk : ∀ y, F y = some r → FinQ E C Q ((adv E C n q).rowK (en y))) (hq : (adv E C n q).rowR = some ((l.map en)[i]?) := by kernel_rfl) : FinQ E C Q q :=
  adv_ok Mix.hm n q (p_row _ en h hq List.getElem?_map fun y _ => hk y)
theorem zc {β : Type} {o : Option β} {F : β → Option α} {f : FuncId} {args : List D} {sub : Sto} {e : β → D × Sto} (n : Nat) (ns : List (Option Nat)) (h : o.bind F = some r) (hs : ∀ y, o = some y → Sound E f args sub (Rs e y)) (hk : ∀ y, F y = some r → FinQ E C Q ((adv E C n q).callK (e y).1 (e y).2)) (hq : (adv E C n q).callF ns = some (f, args, sub) := by kernel_rfl) : FinQ E C Q q :=
  adv_ok Mix.hm n q (p_call ns (fun y => (e y).1) (fun y => (e y).2) h hq hs fun y _ => hk y)
theorem zd {β : Type} {o : Option β} {F : β → Option α} {f : FuncId} {args : List D} {e : β → D × Sto} (n : Nat) (ns : List (Option Nat)) (h : o.bind F = some r) (hs : ∀ y, o = some y → Sound E f args [] (Rs e y)) (hk : ∀ y, F y = some r → FinQ E C Q ((adv E C n q).callDK (e y).1)) (he : ∀ y, (e y).2 = [] := by exact fun _ => rfl) (hq : (adv E C n q).callDF ns = some (f, args) := by kernel_rfl) : FinQ E C Q q :=
  adv_ok Mix.hm n q (p_callD ns (fun y => (e y).1) h hq (fun y hy => (hs y hy).mono fun d s hh => ⟨hh.1, hh.2.trans (he y)⟩) fun y _ => hk y)
theorem zcE {β : Type} {o : Option β} {F : β → Option α} {f : FuncId} {args1 args : List D} {sub1 sub : Sto} {e : β → D × Sto} (n : Nat) (ns : List (Option Nat)) (h : o.bind F = some r) (hs : ∀ y, o = some y → Sound E f args sub (Rs e y)) (he : args1 = args ∧ sub1 = sub) (hk : ∀ y, F y = some r → FinQ E C Q ((adv E C n q).callK (e y).1 (e y).2)) (hq : (adv E C n q).callF ns = some (f, args1, sub1) := by kernel_rfl) : FinQ E C Q q := by
  obtain ⟨rfl, rfl⟩ := he
  exact zc n ns h hs hk hq
theorem zdE {β : Type} {o : Option β} {F : β → Option α} {f : FuncId} {args1 args : List D} {e : β → D × Sto} (n : Nat) (ns : List (Option Nat)) (h : o.bind F = some r) (hs : ∀ y, o = some y → Sound E f args [] (Rs e y)) (ha : args1 = args) (hk : ∀ y, F y = some r → FinQ E C Q ((adv E C n q).callDK (e y).1)) (he : ∀ y, (e y).2 = [] := by exact fun _ => rfl) (hq : (adv E C n q).callDF ns = some (f, args1) := by kernel_rfl) : FinQ E C Q q := by
  subst ha
  exact zd n ns h hs hk he hq
theorem Sound.sub {f : FuncId} {args : List D} {sub sub' : Sto} {fr' : Fr} {l : List Fx} {Qc : D → Sto → Prop} (h : fxs l ([], sub) = some (fr', sub')) (hs : Sound E f args sub' Qc) : Sound E f args sub Qc := fun w Im φ vs hg hi ha => by
  obtain ⟨φ1, a1, a2, a3, a4, -⟩ := fxs_mw h sub.length w Im φ (fun _ => undef) (Nat.le_of_eq hi.len.symm) hi (fun t => .undef _)
  refine (hs w Im φ1 vs hg a4 ⟨ha.1, fun i d v e1 e2 => (ha.2 i d v e1 e2).mono (fun _ h => h) (fun _ _ => rfl) a1⟩).mono ?_
  rintro e w' ⟨v, d, s2, φ2, I2, rfl, b1, b2, b3, b4⟩
  exact ⟨v, d, s2, φ2, I2, rfl, a3.trans (b1.le (by rw [← hi.len, ← a4.len]; exact a2)), b2, b3, b4⟩
def Qy.callRF (ns : List (Option Nat)) : Qy → Option (FuncId × List D × Sto)
  | .callR f args sub _ _ _ => (match fixA ns args with | some a => some (f, a, sub) | none => none)
  | _ => none
theorem zdR {β : Type} {o : Option β} {F : β → Option α} {f : FuncId} {args : List D} {sub : Sto} {e : β → D × Sto} (n : Nat) (ns : List (Option Nat)) (h : o.bind F = some r) (hs : ∀ y, o = some y → Sound E f args sub (Rs e y)) (hk : ∀ y, F y = some r → FinQ E C Q ((adv E C n q).callRK (e y).1 (e y).2)) (hq : (adv E C n q).callRF ns = some (f, args, sub) := by kernel_rfl) (ht : ∀ y, (adv E C n q).callRT (e y).1 (e y).2 = some (adv E C n q).callRS := by intro y; kernel_rfl) : FinQ E C Q q := by
  refine adv_ok Mix.hm n q ?_
  generalize adv E C n q = q' at hk hq ht
  cases q' with
  | callR f' args' sub' σ bk k =>
    simp only [Qy.callRF] at hq
    split at hq
    · rename_i a ha
      simp only [Option.some.injEq, Prod.mk.injEq] at hq
      obtain ⟨rfl, rfl, rfl⟩ := hq
      cases o with
      | none => cases h
      | some y =>
        have h1 := ht y
        have h2 := hk y h
        simp only [Qy.callRT, Qy.callRS, Option.map_eq_some_iff] at h1
        obtain ⟨x, hx, h1⟩ := h1
        simp only [Qy.callRK, hx] at h2
        exact ⟨_, _, x, (hs y rfl).args ha, hx, h1, h2⟩
    · cases hq
  | _ => cases hq
theorem zg (n : Nat) {m : M} (h : FinQ E C Q (.go m)) (l : List Fx := []) (hq : (adv E C n q).cut C (maskOf m.fr) l = some m := by kernel_rfl) : FinQ E C Q q :=
  adv_ok Mix.hm n q (r_cut _ l hq h)
theorem zu {fn : Func} {k : Bool} {m : Nat} {q : Qy} {R : Type} {r r' : R} {e : R → D × Sto} (n : Nat) (h : some r' = some r) (l : List Fx := []) (hq : (adv E (.of fn k m) n q).retF l = some (e r') := by kernel_rfl) : FinQ E (.of fn k m) (QW (Rs e r)) q := by
  obtain rfl := Option.some.inj h
  exact adv_ok Mix.hm n q (r_retF l (d := (e r').1) (s := (e r').2) hq Cx.fin_of ⟨rfl, rfl⟩)
theorem zj {S R : Type} {e : R → D × Sto} {stM : S → M} {s : S} {x : S ⊕ R} {r : R} (n : Nat) (h : some (.inl s) = some x) (ha : After E C (Rs e) stM r x) (hq : adv E C n q = .go (stM s) := by kernel_rfl) : FinQ E C (QW (Rs e r)) q := by
  obtain rfl := Option.some.inj h
  exact adv_ok Mix.hm n q (by rw [hq]; exact ha)
theorem zk {S R : Type} {e : R → D × Sto} {stM : S → M} {s : S} {x : S ⊕ R} {r : R} (n : Nat) (h : some (.inl s) = some x) (ha : After E C (Rs e) stM r x) (l : List Fx := []) (hq : (adv E C n q).cut C (maskOf (stM s).fr) l = some (stM s) := by kernel_rfl) : FinQ E C (QW (Rs e r)) q := by
  obtain rfl := Option.some.inj h
  exact zg n ha l hq
theorem zt {fn : Func} {k : Bool} {m : Nat} {q : Qy} {S R : Type} {e : R → D × Sto} {stM : S → M} {r r' : R} {x : S ⊕ R} (n : Nat) (h : some (.inr r') = some x) (ha : After E (.of fn k m) (Rs e) stM r x) (l : List Fx := []) (hq : (adv E (.of fn k m) n q).retF l = some (e r') := by kernel_rfl) : FinQ E (.of fn k m) (QW (Rs e r)) q := by
  obtain rfl := Option.some.inj h
  obtain rfl : r' = r := ha
  exact adv_ok Mix.hm n q (r_retF l (d := (e r').1) (s := (e r').2) hq Cx.fin_of ⟨rfl, rfl⟩)
theorem zm (n : Nat) {b : Bool} (hb : b = true) (hk : FinQ E C Q (adv E C n q).needK) (hq : (adv E C n q).needB = some b := by kernel_rfl) : FinQ E C Q q :=
  adv_ok Mix.hm n q (r_needT hq hb hk)
theorem zw (n : Nat) {a b : List (List D)} (hr : a = b) (hk : FinQ E C Q ((adv E C n q).rowsK b)) (hq : (adv E C n q).rowsR = some a := by kernel_rfl) : FinQ E C Q q :=
  adv_ok Mix.hm n q (r_rows a b hq hr hk)
theorem za {β : Type} (n : Nat) (en : β → List D) (l xs : List β) (hk : FinQ E C Q ((adv E C n q).needK.rowsK ((l ++ xs).map en))) (hn : (adv E C n q).needB = some (Nat.ble (0 + (l.map en).length) (l.map en).length) := by kernel_rfl) (hq : (adv E C n q).needK.rowsR = some (List.take (l.map en).length (List.drop 0 (l.map en)) ++ xs.map en) := by kernel_rfl) : FinQ E C Q q :=
  zm n (ble_full _) (r_rows _ _ hq (rows_app _ _ _) hk) hn
def Qy.fxK (l : List Fx) : Qy → Qy
  | .go m => (match fxs l (m.fr, m.st) with | some x => .go ⟨m.td, x.1, x.2⟩ | none => .bad)
  | _ => .bad
theorem fxK_ok {l : List Fx} (h : FinQ E C Q (q.fxK l)) : FinQ E C Q q := by
  cases q with
  | go m =>
    simp only [Qy.fxK] at h
    split at h
    · rename_i x hx
      intro FF nf hFF lo0 a w Im φ hs R hR
      obtain ⟨φ1, a1, a2, a3, a4, a5⟩ := fxs_mw hx C.m w Im φ (fun t => a.tmps.getD t undef) hs.m hs.inv hs.fr
      exact h FF nf hFF lo0 a w Im φ1 ⟨a5, a4, hs.sd.tr (Nat.le_refl _) hs.inv a3 a4, hs.sz, Nat.le_trans hs.m a2⟩ R (fun e a' w' hd => hR e a' w' (DoneP.of_tr a3 hd))
    · exact h.elim
  | _ => exact h.elim
theorem zf (n : Nat) (l : List Fx) (h : FinQ E C Q ((adv E C n q).fxK l)) : FinQ E C Q q := adv_ok Mix.hm n q (fxK_ok h)
theorem zkP {S R : Type} {Pd : S → R → Prop} {s : S} {x : S ⊕ R} {r : R} {m : M} (n : Nat) (h : some (.inl s) = some x) (ha : AfterP Pd r x) (hp : Pd s r → FinQ E C Q (.go m)) (l : List Fx := []) (hq : (adv E C n q).cut C (maskOf m.fr) l = some m := by kernel_rfl) : FinQ E C Q q := by
  obtain rfl := Option.some.inj h
  exact zg n (hp ha) l hq
theorem ztP {fn : Func} {k : Bool} {m : Nat} {q : Qy} {S R : Type} {e : R → D × Sto} {Pd : S → R → Prop} {r r' : R} {x : S ⊕ R} (n : Nat) (h : some (.inr r') = some x) (ha : AfterP Pd r x) (l : List Fx := []) (hq : (adv E (.of fn k m) n q).retF l = some (e r') := by kernel_rfl) : FinQ E (.of fn k m) (QW (Rs e r)) q := by
  obtain rfl := Option.some.inj h
  obtain rfl : r' = r := ha
  exact adv_ok Mix.hm n q (r_retF l (d := (e r').1) (s := (e r').2) hq Cx.fin_of ⟨rfl, rfl⟩)
theorem so {f : FuncId} {fn : Func} {k : Bool} {m : Nat} {args : List D} {σ : Sto} {R : Type} {e : R → D × Sto} {r : R} {o : Option R} (h : o = some r) (hs : AOk E (.of fn k m) e (startM fn args σ) o) (hC : (E.pol f).keep = k ∧ σ.length = m := by exact ⟨by kernel_rfl, by kernel_rfl⟩) (hf : E.P.funcs[f]? = some fn := by kernel_rfl) (hst : start fn args σ = some (startM fn args σ) := by kernel_rfl) : Sound E f args σ (Rs e r) := by
  obtain ⟨rfl, rfl⟩ := hC
  exact sound_ofW hf hst (hs h)
theorem sc {f : FuncId} {fn : Func} {k : Bool} {m : Nat} {args : List D} {σ : Sto} {S R : Type} {e : R → D × Sto} {stM : S → M} {step : S → Option (S ⊕ R)} {s0 : S} {r : R} (h : evf step s0 = some r) (hs : ∀ s, SOk E (.of fn k m) e stM s (step s)) (hC : (E.pol f).keep = k ∧ σ.length = m := by exact ⟨by kernel_rfl, by kernel_rfl⟩) (hf : E.P.funcs[f]? = some fn := by kernel_rfl) (hst : start fn args σ = some (stM s0) := by kernel_rfl) : Sound E f args σ (Rs e r) := by
  obtain ⟨rfl, rfl⟩ := hC
  exact sound_ofW hf hst (ev_run (fun s x r hs' ha => hs s r x hs' ha) (evf_ev h))
end
end Go.RX
