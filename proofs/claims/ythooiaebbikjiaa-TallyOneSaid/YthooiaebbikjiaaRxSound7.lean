/-
  RX, soundness, seventh part: a state ('look_ok'), rules.
-/
import Derived.Test.YthooiaebbikjiaaRxDraw5
set_option linter.unusedSimpArgs false
set_option linter.unusedVariables false
namespace Go.RX
open Go
section
variable {E : Env} {C : Cx} {Q : D → Sto → Prop} {w w' : World} {Im Im' : Nat → Prop} {φ φ' : Phi} {σ σ' : Sto}

theorem sem_ops {P : Program} {R : Exit → Act → World → Prop} {t : List It} {ops : Array Oper} {a : Act} (h : sem P R (.ops ops.toList ops.toList :: t) .normal a w) {id : Nat} : (Code.region id ops false).wp P (sem P R t) a w := by
  refine wp_region_list ?_
  have h' : wpList P ops.toList.toArray (sem P R t) ops.toList a w := h
  rwa [Array.toArray_toList] at h'

theorem look_ok (hm : E.P.follows .mixedOrders = true) (m : M) (hq : FinQ E C Q (look E C m)) : FinM E C Q m := by
  obtain ⟨td, fr, st⟩ := m
  intro a w Im φ hs R hR
  simp only at hs hR
  have go : ∀ (td' : List It), FinM E C Q ⟨td', fr, st⟩ → sem E.P R td' .normal a w := fun td' h => h a w Im φ hs R hR
  cases td with
  | nil => exact hR .normal a w (finish_ok hs hq .normal (.inl rfl))
  | cons it t =>
    cases it with
    | blk id => exact go t hq
    | lp c k =>
      simp only [look] at hq
      split at hq
      · rename_i fr2 st2 hc
        have hkeep : ∀ t, Rel w Im φ (fget (keepFr C.fn.ntmps k fr) t) (a.tmps.getD t undef) := fun t => keep_rel hs.fr t
        obtain ⟨φ2, i1, i2, i3⟩ := compact_ok hs.inv hs.m hc hkeep
        have := hq a w Im φ2 ⟨i3, i1, hs.df, hs.sz, ?_⟩ R (fun e a' w' hd => hR e a' w' (DoneP.of_tr i2 hd))
        · exact this
        · rcases Nat.lt_or_ge φ2.length C.m with h | h
          · exfalso
            have h1 := i2.pre φ2.length h
            have h2 := hs.m
            rw [List.getElem?_eq_getElem (by omega : φ2.length < φ.length)] at h1
            simp at h1
          · exact h
      · exact hq.elim
    | lpc c k => exact loopIn_round (go _ hq)
    | ops all l =>
      cases l with
      | nil => exact go t hq
      | cons o l =>
        refine stepOp_ok hs (k := fun fr st => .go ⟨.ops all l :: t, fr, st⟩) (fun fr' σ' w' Im' φ' a' n hs' hq' => ?_) hq
        exact hq' a' w' Im' φ' hs' R (fun e a2 w2 hd => hR e a2 w2 (DoneP.of_tr (n.tr.le hs.m) hd))
    | code c =>
      cases c with
      | skip => exact wp_skip (go t hq)
      | label l => exact wp_label (go t hq)
      | seq x y => exact wp_seq (go _ hq)
      | block id c => exact wp_block (go _ hq)
      | loop c => exact loop_of_in (go _ hq)
      | cond c x y =>
        simp only [look] at hq
        split at hq
        · rename_i b hb
          have hr := evalD_rel hs.fr c
          rw [hb] at hr
          exact wp_cond hr.bool_inv (go _ hq)
        · exact hq.elim
      | exit id =>
        simp only [look] at hq
        split at hq
        · rename_i t' ht
          exact wp_exit (sem_exit _ _ _ _ ht (go t' hq))
        · exact hq.elim
      | ret => exact wp_ret (sem_ret _ _ _ (hR .ret a w (finish_ok hs hq .ret (.inr rfl))))
      | region id ops draw =>
        cases draw with
        | false => exact sem_ops (go _ hq)
        | true =>
          refine region_ok hm hs (k := fun fr st => .go ⟨t, fr, st⟩) (fun fr' σ' w' Im' φ' a' n hs' hq' => ?_) hq
          exact hq' a' w' Im' φ' hs' R (fun e a2 w2 hd => hR e a2 w2 (DoneP.of_tr (n.le hs.m) hd))
      | _ => exact hq.elim

/-! ### rules -/
theorem adv_ok (hm : E.P.follows .mixedOrders = true) : ∀ (n : Nat) (q : Qy), FinQ E C Q (adv E C n q) → FinQ E C Q q
  | 0, _, h => h
  | n + 1, .go m, h => look_ok hm m (adv_ok hm n _ h)
  | n + 1, .need b q, h => by
    cases b with
    | true => exact ⟨rfl, adv_ok hm n _ h⟩
    | false => exact h.elim
  | n + 1, .split b k, h => show FinQ E C Q (k b) from adv_ok hm n (k b) h
  | n + 1, .row r k, h => by
    cases r with
    | some x => exact ⟨x, rfl, adv_ok hm n _ h⟩
    | none => exact h.elim
  | n + 1, .str r k, h => by
    cases r with
    | some x => exact ⟨x, rfl, adv_ok hm n _ h⟩
    | none => exact h.elim
  | n + 1, .call .., h => h
  | n + 1, .callD .., h => h
  | n + 1, .ret .., h => h
  | n + 1, .bad, h => h

theorem sound_of {f : FuncId} {fn : Func} {args : List D} {σ : Sto} {m : M} (hf : E.P.funcs[f]? = some fn) (hst : start fn args σ = some m) (h : FinQ E ⟨fn, (E.pol f).keep, σ.length⟩ Q (.go m)) : Sound E f args σ Q := by
  unfold start at hst
  cases hb : fn.body with
  | none => simp [hb] at hst
  | some c =>
    simp only [hb, Bool.cond_eq_ite] at hst
    split at hst
    · rename_i hle
      obtain rfl := Option.some.inj hst
      have hle' := Nat.le_of_ble_eq_true hle
      intro w Im φ vs hi hargs
      refine calls_of_wp hf hb ?_
      have hlen : vs.size = args.length := by have := hargs.1; simpa using this.symm
      have hfr : ∀ t, Rel w Im φ (fget ((List.range args.length).zip args) t) ((vs ++ Array.replicate (fn.ntmps - vs.size) undef).getD t undef) := by
        intro t
        have key : ∀ (l : List D) (k : Nat), (∀ (i : Nat) (d : D), l[i]? = some d → Rel w Im φ d ((vs ++ Array.replicate (fn.ntmps - vs.size) undef).getD (k + i) undef)) → Rel w Im φ (fget ((List.range' k l.length).zip l) t) ((vs ++ Array.replicate (fn.ntmps - vs.size) undef).getD t undef) := by
          intro l
          induction l with
          | nil => intro k _; simp [fget]; exact .undef _
          | cons d l ih =>
            intro k hk
            simp only [List.length_cons, List.range'_succ, List.zip_cons_cons, fget, Bool.cond_eq_ite]
            split
            · rename_i he
              have := Nat.eq_of_beq_eq_true he
              subst this
              simpa using hk 0 d rfl
            · exact ih (k + 1) (fun i d' hd => by have := hk (i + 1) d' (by simpa using hd); rwa [show k + (i + 1) = k + 1 + i by omega] at this)
        rw [List.range_eq_range']
        refine key args 0 (fun i d hd => ?_)
        have hlt := (List.getElem?_eq_some_iff.1 hd).1
        rw [Nat.zero_add]
        have hv : vs.toList[i]? = some (vs[i]'(by omega)) := by simp
        have := hargs.2 i d _ hd hv
        have e : (vs ++ Array.replicate (fn.ntmps - vs.size) undef).getD i undef = vs[i]'(by omega) := by
          simp [Array.getElem?_append_left (show i < vs.size by omega), show i < vs.size by omega]
        rw [e]; exact this
      have := h ⟨vs ++ Array.replicate (fn.ntmps - vs.size) undef, []⟩ w Im φ ⟨hfr, hi, rfl, by simp; omega, by simp [hi.len]⟩ (bodyPost E.P fn fun e w' => ∃ v d σ' φ' Im', e = .returned v ∧ Tr σ.length w Im φ σ w' Im' φ' σ' ∧ Inv w' Im' φ' σ' ∧ Rel w' Im' φ' d v ∧ Q d σ')
        (fun e a' w' hd => by
          obtain ⟨h1, h2, v, d, s, p, I, h3, h4, h5, h6, h7⟩ := hd
          rcases h1 with rfl | rfl
          · exact ⟨h2, v, h3, v, d, s, p, I, rfl, h4, h5, h6, h7⟩
          · exact ⟨h2, v, h3, v, d, s, p, I, rfl, h4, h5, h6, h7⟩)
      exact Code.wp_mono (fun e a w hh => by cases e <;> exact hh) this
    · cases hst

/-! A question is known by what it asks; what is behind it is said by functions, so that no text of it is needed. -/
def Qy.needB : Qy → Option Bool | .need b _ => some b | _ => none
def Qy.needK : Qy → Qy | .need _ q => q | _ => .bad
def Qy.splitB : Qy → Option Bool | .split b _ => some b | _ => none
def Qy.splitK : Qy → Bool → Qy | .split _ k => k | _ => fun _ => .bad
def Qy.rowR : Qy → Option (Option (List D)) | .row r _ => some r | _ => none
def Qy.rowK : Qy → List D → Qy | .row _ k => k | _ => fun _ => .bad
def Qy.strR : Qy → Option (Option (List UInt8)) | .str r _ => some r | _ => none
def Qy.strK : Qy → List UInt8 → Qy | .str _ k => k | _ => fun _ => .bad
def Qy.callA : Qy → Option (FuncId × List D × Sto) | .call f args sub _ => some (f, args, sub) | _ => none
def Qy.callK : Qy → D → Sto → Qy | .call _ _ _ k => k | _ => fun _ _ => .bad
def Qy.callDA : Qy → Option (FuncId × List D) | .callD f args _ => some (f, args) | _ => none
def Qy.callDK : Qy → D → Qy | .callD _ _ k => k | _ => fun _ => .bad
def Qy.retR : Qy → Option (D × Sto) | .ret d s => some (d, s) | _ => none
def Qy.goM : Qy → Option M | .go m => some m | _ => none

theorem r_need {q : Qy} (b : Bool) (h : q.needB = some b) (hb : b = true) (hk : FinQ E C Q q.needK) : FinQ E C Q q := by
  cases q <;> simp [Qy.needB] at h
  subst h
  exact ⟨hb, hk⟩
theorem r_split {q : Qy} (b : Bool) (h : q.splitB = some b) (ht : b = true → FinQ E C Q (q.splitK true)) (hf : b = false → FinQ E C Q (q.splitK false)) : FinQ E C Q q := by
  cases q <;> simp [Qy.splitB] at h
  subst h
  rename_i b k
  cases b
  · exact hf rfl
  · exact ht rfl
theorem r_row {q : Qy} (r : Option (List D)) (x : List D) (h : q.rowR = some r) (hr : r = some x) (hk : FinQ E C Q (q.rowK x)) : FinQ E C Q q := by
  cases q <;> simp [Qy.rowR] at h
  subst h
  exact ⟨x, hr, hk⟩
theorem r_str {q : Qy} (r : Option (List UInt8)) (x : List UInt8) (h : q.strR = some r) (hr : r = some x) (hk : FinQ E C Q (q.strK x)) : FinQ E C Q q := by
  cases q <;> simp [Qy.strR] at h
  subst h
  exact ⟨x, hr, hk⟩
theorem r_call {q : Qy} (f : FuncId) (args : List D) (sub : Sto) {Qc : D → Sto → Prop} (h : q.callA = some (f, args, sub)) (hs : Sound E f args sub Qc) (hk : ∀ d s, Qc d s → FinQ E C Q (q.callK d s)) : FinQ E C Q q := by
  cases q <;> simp [Qy.callA] at h
  obtain ⟨rfl, rfl, rfl⟩ := h
  exact ⟨Qc, hs, hk⟩
theorem r_callD {q : Qy} (f : FuncId) (args : List D) {d : D} (h : q.callDA = some (f, args)) (hs : SoundTo E f args d) (hk : FinQ E C Q (q.callDK d)) : FinQ E C Q q := by
  cases q <;> simp [Qy.callDA] at h
  obtain ⟨rfl, rfl⟩ := h
  exact ⟨d, hs, hk⟩
theorem r_ret {q : Qy} (d : D) (s : Sto) (h : q.retR = some (d, s)) (hq : Q d s) : FinQ E C Q q := by
  cases q <;> simp [Qy.retR] at h
  obtain ⟨rfl, rfl⟩ := h
  exact hq
theorem r_to {q q' : Qy} (h : q = q') (hq : FinQ E C Q q') : FinQ E C Q q := h ▸ hq

/-! ### closed runs -/
theorem runQ_ok (hm : E.P.follows .mixedOrders = true) {call : FuncId → List D → Sto → Option (D × Sto)} (hc : ∀ f args s d s', call f args s = some (d, s') → Sound E f args s fun d2 s2 => d2 = d ∧ s2 = s') {r : D × Sto} :
    ∀ (n : Nat) (q : Qy), runQ E C call n q = some r → FinQ E C (fun d s => d = r.1 ∧ s = r.2) q
  | 0, _, h => by simp [runQ] at h
  | n + 1, .go m, h => look_ok hm m (runQ_ok hm hc n _ h)
  | n + 1, .need b q, h => by
    cases b with
    | true => exact ⟨rfl, runQ_ok hm hc n _ h⟩
    | false => simp [runQ] at h
  | n + 1, .split b k, h => show FinQ E C _ (k b) from runQ_ok hm hc n (k b) h
  | n + 1, .row r k, h => by
    cases r with
    | some x => exact ⟨x, rfl, runQ_ok hm hc n _ h⟩
    | none => simp [runQ] at h
  | n + 1, .str r k, h => by
    cases r with
    | some x => exact ⟨x, rfl, runQ_ok hm hc n _ h⟩
    | none => simp [runQ] at h
  | n + 1, .call f args sub k, h => by
    simp only [runQ] at h
    split at h
    · rename_i d s hcall
      refine ⟨_, hc f args sub d s hcall, fun d2 s2 ⟨e1, e2⟩ => ?_⟩
      subst e1; subst e2
      exact runQ_ok hm hc n _ h
    · cases h
  | n + 1, .callD f args k, h => by
    simp only [runQ] at h
    split at h
    · rename_i d hcall
      exact ⟨d, hc f args [] d [] hcall, runQ_ok hm hc n _ h⟩
    · cases h
  | n + 1, .ret d σ, h => by simp only [runQ, Option.some.injEq] at h; subst h; exact ⟨rfl, rfl⟩
  | n + 1, .bad, h => by simp [runQ] at h

theorem runF_ok (hm : E.P.follows .mixedOrders = true) (n : Nat) : ∀ (k : Nat) (f : FuncId) (args : List D) (s : Sto) (d : D) (s' : Sto), runF E n k f args s = some (d, s') → Sound E f args s fun d2 s2 => d2 = d ∧ s2 = s'
  | 0, _, _, _, _, _, h => by simp [runF] at h
  | k + 1, f, args, s, d, s', h => by
    simp only [runF] at h
    split at h
    · rename_i fn hf
      split at h
      · rename_i m hst
        exact sound_of hf hst (runQ_ok hm (runF_ok hm n k) n _ h)
      · cases h
    · cases h

end
end Go.RX
