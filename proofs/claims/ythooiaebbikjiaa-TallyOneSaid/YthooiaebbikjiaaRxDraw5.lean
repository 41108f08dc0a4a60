/-
  RX, soundness: regions whose order is open, fifth part: 'region_ok'.
-/
import Derived.Test.YthooiaebbikjiaaRxDraw4
set_option linter.unusedSimpArgs false
set_option linter.unusedVariables false
namespace Go.RX
open Go
section
variable {E : Env} {C : Cx} {Q : D → Sto → Prop} {w w' : World} {Im Im' : Nat → Prop} {φ φ' : Phi} {σ σ' : Sto} {ops : Array Oper} {fr : Fr} {σ0 : Sto} {dv : Nat → D} {sv : Nat → Sto}

theorem ops_get {x : Operand} {t : Nat} {o : Oper} (h : x ∈ o.op.operands) (hx : x = .tmp t) : t ∈ o.looksAt ops := by
  subst hx
  simp only [Oper.looksAt, List.mem_append, List.mem_filterMap]
  exact .inl ⟨.tmp t, by simpa using h, rfl⟩

theorem guard_get {j sl : Nat} {want : Bool} {o : Oper} (h : o.guard = some (j, want)) (hs : slotOf ops.toList j = some sl) : sl ∈ o.looksAt ops := by
  simp only [Oper.looksAt, h, List.mem_append]
  refine .inr ?_
  simp only [slotOf, Array.getElem?_toList] at hs
  split at hs
  · rename_i g hg; rw [hg]; simp [hs]
  · cases hs

/-- One operation, wherever it comes. -/
theorem drawn_op {S : Nat → Prop} {R : Exit → Act → World → Prop} {next : Act → World → Prop} (hD : Done E ops S) (hT : tabsOk [] (tabOf E.P ops) = true) {i : Nat} {o : Oper} (ho : ops.toList[i]? = some o) (hn : ¬ S i)
    (hb : ∀ j, tBf (tabOf E.P ops) i j = true → S j)
    (hF : ∀ (j : Nat) (o : Oper), ops.toList[j]? = some o → Fact E C.fn.ntmps ops.toList (tabOf E.P ops) fr σ0 dv sv j o)
    {g : Fr} {a : Act} (hg : FrOk (tDst (tabOf E.P ops)) dv fr S g) (hσ : StOk (tKd (tabOf E.P ops)) sv σ0 S σ) (h : SRel C w Im φ g σ a)
    (hk : ∀ g' σ' w' Im' φ' a', Nx w Im φ σ w' Im' φ' σ' → FrOk (tDst (tabOf E.P ops)) dv fr (fun x => S x ∨ x = i) g' → StOk (tKd (tabOf E.P ops)) sv σ0 (fun x => S x ∨ x = i) σ' → SRel C w' Im' φ' g' σ' a' → next a' w') :
    wpOp E.P ops R i next a w := by
  have hi : i < ops.size := by have := (List.getElem?_eq_some_iff.1 ho).1; simpa using this
  obtain ⟨o', t, ho', ht⟩ := tab_some (P := E.P) hi
  rw [ho] at ho'
  obtain rfl := Option.some.inj ho'
  obtain ⟨t1, t2, t3, t4⟩ := tab_get ho ht
  have hdst : tDst (tabOf E.P ops) i = o.dst := by simp only [tDst, ht, t2]
  have hkd : tKd (tabOf E.P ops) i = kindOf E.P o.op := by simp only [tKd, ht, t3]
  have hlk : tLk (tabOf E.P ops) i = o.looksAt ops := by simp only [tLk, ht, t1]
  obtain ⟨hd, g0, τ, hg0, hτ, hop⟩ := hF i o ho
  have hsame : ∀ t, t ∈ o.looksAt ops → fget g t = fget g0 t := fun t ht => hg.same hg0 fun k hk => looks_same hD hT hi hn hb (by rw [hlk]; exact ht) k hk
  have hops : aop E.P (evalD g) o = aop E.P (evalD g0) o := by
    funext s
    refine aop_congr o fun x hx => ?_
    cases x with
    | tmp t => exact hsame t (ops_get hx rfl)
    | _ => rfl
  have hput : FrOk (tDst (tabOf E.P ops)) dv fr (fun x => S x ∨ x = i) (put g o.dst (dv i)) := by
    have := hg.put (i := i) (d := dv i) rfl fun k t hk h1 h2 => last_writer hD hT hi hn hb k t hk h1 h2
    rwa [hdst] at this
  have hnx : Nx w Im φ σ w Im φ σ := ⟨PhiLe.refl _, Nat.le_refl _, Tr.refl _ _ _ _ _, h.inv⟩
  have hbig : 2 ≤ kindOf E.P o.op → τ = σ ∧ StOk (tKd (tabOf E.P ops)) sv σ0 (fun x => S x ∨ x = i) (sv i) := fun hc => by
    rw [← hkd] at hc
    refine ⟨(hσ.same hτ fun k hk => chg_same hD hT hi hn hb hc k hk).symm, .inl ⟨i, .inr rfl, hc, fun k hk hck => hk.elim (fun hk => ?_) (fun e => by omega), rfl⟩⟩
    exact Nat.le_of_lt ((chg_same hD hT hi hn hb hc k hck).1 hk).1
  have hsmall : ¬ 2 ≤ kindOf E.P o.op → StOk (tKd (tabOf E.P ops)) sv σ0 (fun x => S x ∨ x = i) σ := fun hc => by
    rw [← hkd] at hc
    exact hσ.iff fun k hk2 => ⟨.inl, fun x => x.elim id fun e => by subst e; exact absurd hk2 hc⟩
  have skip : dv i = .tup [] → sv i = τ → next (a.put o.dst undef) w := fun e1 e2 => by
    have hs := h.step hnx hd (d := .tup []) (v := undef) (.tup [] #[] rfl (fun i d v a => by simp at a)) h.fr
    by_cases hc : 2 ≤ kindOf E.P o.op
    · obtain ⟨b1, b2⟩ := hbig hc
      rw [e2, b1] at b2
      exact hk _ _ w Im φ _ hnx (e1 ▸ hput) b2 hs
    · exact hk _ _ w Im φ _ hnx (e1 ▸ hput) (hsmall hc) hs
  have run : Leaf E τ (aop E.P (evalD g0) o τ) (dv i) (sv i) → o.wp E.P a w next R := fun hl => by
    by_cases hc : 2 ≤ kindOf E.P o.op
    · obtain ⟨b1, b2⟩ := hbig hc
      rw [b1, ← hops] at hl
      exact leaf_run h.inv hl (aop_sat h.inv (fun x => evalD_rel h.fr x) o) fun v w' Im' φ' n hr => hk _ _ w' Im' φ' _ n hput b2 (h.step n hd hr h.fr)
    · have hle : kindOf E.P o.op = 0 ∨ SLe τ σ := by
        by_cases h0 : kindOf E.P o.op = 0
        · exact .inl h0
        · refine .inr ?_
          have h1 : 1 ≤ tKd (tabOf E.P ops) i := by rw [hkd]; omega
          exact grown (C := C) hD hT hF (fun k hk => hb k hk.2) (fun k hk hkk => turn_same hD hT hi hn hb h1 k hk hkk) hτ hσ
      have hl' := (aop_sim (evalD g0) o (by omega) hle).leaf hl
      rw [← hops] at hl'
      exact leaf_run h.inv hl' (aop_sat h.inv (fun x => evalD_rel h.fr x) o) fun v w' Im' φ' n hr => hk _ _ w' Im' φ' _ n hput (hsmall hc) (h.step n hd hr h.fr)
  have hA : ops.toList.toArray = ops := Array.toArray_toList
  have hoA : ops[i]? = some o := by simpa using ho
  unfold wpOp
  rw [hoA]
  simp only
  generalize hdd : dv i = dd at hop run skip
  generalize hss : sv i = ss at hop run skip
  cases hop with
  | run hw hl =>
    have hwant : Region.wanted o (yielded ops a.tmps) = true := by
      rcases hw with hw | ⟨j, want, sl, b, h1, h2, h3, h4⟩
      · simp [Region.wanted, hw]
      · rw [← hsame sl (guard_get h1 h2)] at h3
        have hrs := h.fr sl
        rw [h3] at hrs
        have hy := guard_bool (j := j) h2 hrs.bool_inv
        rw [hA] at hy
        simp only [Region.wanted, h1, hy]
        cases b <;> cases want <;> first | rfl | cases h4
    rw [if_pos hwant]
    exact .inl (run hl)
  | @off j sl want b h1 h2 h3 h4 =>
    have hwant : Region.wanted o (yielded ops a.tmps) = false := by
      rw [← hsame sl (guard_get h1 h2)] at h3
      have hrs := h.fr sl
      rw [h3] at hrs
      have hy := guard_bool (j := j) h2 hrs.bool_inv
      rw [hA] at hy
      simp only [Region.wanted, h1, hy]
      cases b <;> cases want <;> first | rfl | cases h4
    rw [hwant, if_neg (by simp)]
    exact skip rfl rfl
  | @gone j sl want vs h1 h2 h3 =>
    have hwant : Region.wanted o (yielded ops a.tmps) = false := by
      rw [← hsame sl (guard_get h1 h2)] at h3
      have hrs := h.fr sl
      rw [h3] at hrs
      obtain ⟨us, hv, _⟩ := hrs.tup_inv
      have hy := guard_tup (j := j) h2 hv
      rw [hA] at hy
      simp only [Region.wanted, h1, hy]
      cases want <;> rfl
    rw [hwant, if_neg (by simp)]
    exact skip rfl rfl

def LS (l : Array Bool) (i : Nat) : Prop := l.getD i false = true

theorem ready_mem {l : Array Bool} {i : Nat} : i ∈ Region.ready .any ops l ↔ i < ops.size ∧ l.getD i true = false ∧ ∃ o, ops[i]? = some o ∧ ∀ e ∈ o.after, Region.binds .any e = true → LS l e.on := by
  simp only [Region.ready, List.mem_filter, List.mem_range, Bool.and_eq_true, Bool.not_eq_true', LS]
  constructor
  · rintro ⟨h1, h2, h3⟩
    refine ⟨h1, h2, ?_⟩
    have hi : ops[i]? = some ops[i] := by simp [h1]
    rw [hi] at h3
    refine ⟨_, hi, fun e he hb => ?_⟩
    simp only [Option.map_some, Option.getD_some, Array.all_eq_true_iff_forall_mem, Bool.or_eq_true, Bool.not_eq_true'] at h3
    exact (h3 e he).resolve_left (by rw [hb]; simp)
  · rintro ⟨h1, h2, o, ho, h3⟩
    refine ⟨h1, h2, ?_⟩
    rw [ho]
    simp only [Option.map_some, Option.getD_some, Array.all_eq_true_iff_forall_mem, Bool.or_eq_true, Bool.not_eq_true']
    intro e he
    cases hb : Region.binds .any e with
    | false => exact .inl rfl
    | true => exact .inr (h3 e he hb)

theorem ready_none (hE : edgesOkL 0 ops.toList = true) {l : Array Bool} (hsz : l.size = ops.size) (h : Region.ready .any ops l = []) : ∀ i, i < ops.size → LS l i := by
  intro i
  induction i using Nat.strongRecOn with
  | _ i ih =>
    intro hi
    cases hl : l.getD i false with
    | true => exact hl
    | false =>
      exfalso
      have hm : i ∈ Region.ready .any ops l := by
        refine ready_mem.2 ⟨hi, ?_, ops[i], by simp [hi], fun e he hb => ?_⟩
        · have : i < l.size := by omega
          simpa [this] using hl
        · have := edges_get _ 0 hE i ops[i] (by simp [hi]) e he hb
          have h2 : e.on < i := by omega
          exact ih e.on h2 (by omega)
      rw [h] at hm; simp at hm

theorem LS_set {l : Array Bool} {i j : Nat} (hi : i < l.size) : LS (l.setIfInBounds i true) j ↔ LS l j ∨ j = i := by
  simp only [LS, Array.getD_eq_getD_getElem?, Array.getElem?_setIfInBounds]
  by_cases h : i = j
  · subst h; simp [hi]
  · rw [if_neg h]; exact ⟨.inl, fun x => x.resolve_right fun e => h e.symm⟩

theorem drawn_all {R : Exit → Act → World → Prop} (hE : edgesOkL 0 ops.toList = true) (hT : tabsOk [] (tabOf E.P ops) = true)
    (hF : ∀ (j : Nat) (o : Oper), ops.toList[j]? = some o → Fact E C.fn.ntmps ops.toList (tabOf E.P ops) fr σ0 dv sv j o)
    {w0 : World} {Im0 : Nat → Prop} {φ0 : Phi} {s0 : Sto}
    (hend : ∀ g σ w Im φ a, Tr φ0.length w0 Im0 φ0 s0 w Im φ σ → FrOk (tDst (tabOf E.P ops)) dv fr (fun x => x < ops.size) g → StOk (tKd (tabOf E.P ops)) sv σ0 (fun x => x < ops.size) σ → SRel C w Im φ g σ a → R .normal a w) :
    ∀ (fuel : Nat) (l : Array Bool) (g : Fr) (σ : Sto) (w : World) (Im : Nat → Prop) (φ : Phi) (a : Act), l.size = ops.size → cnt (fun i => !l.getD i false) ops.size ≤ fuel → Done E ops (LS l) →
      φ0.length ≤ φ.length → Tr φ0.length w0 Im0 φ0 s0 w Im φ σ → FrOk (tDst (tabOf E.P ops)) dv fr (LS l) g → StOk (tKd (tabOf E.P ops)) sv σ0 (LS l) σ → SRel C w Im φ g σ a → wpAny E.P .any ops R fuel l a w := by
  have fin : ∀ (l : Array Bool) (g : Fr) (σ : Sto) (w : World) (Im : Nat → Prop) (φ : Phi) (a : Act), (∀ i, i < ops.size → LS l i) → Done E ops (LS l) →
      Tr φ0.length w0 Im0 φ0 s0 w Im φ σ → FrOk (tDst (tabOf E.P ops)) dv fr (LS l) g → StOk (tKd (tabOf E.P ops)) sv σ0 (LS l) σ → SRel C w Im φ g σ a → R .normal a w := fun l g σ w Im φ a hall hD ht hg hs h =>
    hend g σ w Im φ a ht (hg.iff fun j => ⟨hD.lt j, hall j⟩) (hs.iff fun j _ => ⟨hD.lt j, hall j⟩) h
  intro fuel
  induction fuel with
  | zero =>
    intro l g σ w Im φ a hsz hc hD hlen ht hg hs h
    have hall : ∀ i, i < ops.size → LS l i := fun i hi => by
      have := cnt_zero (p := fun i => !l.getD i false) ops.size (by omega) i hi
      simpa [LS] using this
    refine ⟨?_, fin l g σ w Im φ a hall hD ht hg hs h⟩
    refine List.eq_nil_iff_forall_not_mem.2 fun i hi => ?_
    obtain ⟨h1, h2, _⟩ := ready_mem.1 hi
    have := hall i h1
    have hlt : i < l.size := by omega
    simp only [LS] at this
    simp [hlt] at h2 this
    rw [h2] at this; cases this
  | succ fuel ih =>
    intro l g σ w Im φ a hsz hc hD hlen ht hg hs h
    refine ⟨fun hr => fin l g σ w Im φ a (ready_none hE hsz hr) hD ht hg hs h, fun i hi => ?_⟩
    obtain ⟨h1, h2, o, ho, h3⟩ := ready_mem.1 hi
    have hlt : i < l.size := by omega
    have hfalse : l.getD i false = false := by simp [hlt] at h2 ⊢; exact h2
    have hn : ¬ LS l i := by simp only [LS, hfalse]; simp
    have hbf : ∀ j, tBf (tabOf E.P ops) i j = true → LS l j := fun j hj => by
      obtain ⟨o', ho', e, he, hb, hx⟩ := tBf_spec hj
      have : o' = o := by rw [Array.getElem?_toList, ho] at ho'; exact (Option.some.inj ho').symm
      subst this
      rcases hx with rfl | hx
      · exact h3 e he hb
      · exact hD.cl e.on j (h3 e he hb) hx
    refine drawn_op hD hT (by simpa using ho) hn hbf hF hg hs h fun g' σ' w' Im' φ' a' n hg' hs' h' => ?_
    have hiff : ∀ j, (LS l j ∨ j = i) ↔ LS (l.setIfInBounds i true) j := fun j => (LS_set hlt).symm
    refine ih _ g' σ' w' Im' φ' a' (by simp [hsz]) ?_ ⟨fun j hj => ?_, fun j k hj hk => ?_⟩ (Nat.le_trans hlen n.len) (ht.trans (n.tr.le hlen)) (hg'.iff hiff) (hs'.iff fun j _ => hiff j) h'
    · have := cnt_drop (p := fun i => !l.getD i false) (p' := fun j => !(l.setIfInBounds i true).getD j false) (i := i) (by simp [hfalse]) (by have := (hiff i).1 (.inr rfl); simp only [LS] at this; simp [this]) (fun j hj => by
        simp only [Array.getD_eq_getD_getElem?, Array.getElem?_setIfInBounds]
        rw [if_neg fun e => hj e.symm]) ops.size h1
      omega
    · rcases (hiff j).2 hj with hj | rfl
      · exact hD.lt j hj
      · exact h1
    · rcases (hiff j).2 hj with hj | rfl
      · exact (hiff k).1 (.inl (hD.cl j k hj hk))
      · exact (hiff k).1 (.inl (hbf k hk))

theorem region_ok (hm : E.P.follows .mixedOrders = true) {a : Act} (h : SRel C w Im φ fr σ a) {id : Nat} {ops : Array Oper} {R : Exit → Act → World → Prop} {k : Fr → Sto → Qy}
    (hk : ∀ fr' σ' w' Im' φ' a', Tr φ.length w Im φ σ w' Im' φ' σ' → SRel C w' Im' φ' fr' σ' a' → FinQ E C Q (k fr' σ') → R .normal a' w')
    (hq : FinQ E C Q (regionQ E C.fn.ntmps ops fr σ k)) : (Code.region id ops true).wp E.P R a w := by
  unfold regionQ at hq
  cases hc : (edgesOkL 0 ops.toList && tabsOk [] (tabOf E.P ops)) with
  | false => rw [hc] at hq; exact hq.elim
  | true =>
    rw [hc] at hq
    simp only [Bool.and_eq_true] at hc
    obtain ⟨dv, sv, _, hF, g', σ', hg, hs, hq'⟩ := region_facts (fr := fr) (fun i o t ho ht => (tab_get ho ht).2.1) ops.toList (tabOf E.P ops) 0 fr [] (fun _ => .undef) (fun _ => []) (fun x => by rw [Nat.zero_add]) (fun x => by rw [Nat.zero_add]) .nil (fun t => .inr ⟨fun k hk => by omega, rfl⟩) hq
    have hF' : ∀ (j : Nat) (o : Oper), ops.toList[j]? = some o → Fact E C.fn.ntmps ops.toList (tabOf E.P ops) fr σ dv sv j o := fun j o ho => hF j o (Nat.zero_le _) ho
    rw [show 0 + ops.toList.length = ops.size by simp] at hg hs
    have hdw : ({ w with drawn := w.drawn + 1 } : World) = w.drew := rfl
    refine wp_region_any hm ?_
    rw [hdw]
    refine drawn_all (C := C) hc.1 hc.2 hF' (w0 := w) (Im0 := Im) (φ0 := φ) (s0 := σ) (fun g2 σ2 w2 Im2 φ2 a2 ht hg2 hs2 h2 => ?_) ops.size _ fr σ w.drew Im φ a (by simp) ?_ ⟨fun i hi => ?_, fun i j hi _ => ?_⟩ (Nat.le_refl _) (Tr.drew _ _ _ _ _) (fun t => .inr ⟨fun k hk => ?_, rfl⟩) (.inr ⟨fun k hk => ?_, rfl⟩) ⟨fun t => (Tr.drew φ.length w Im φ σ).rel h.inv (PhiLe.refl _) (h.fr t), h.inv.drew, h.df, h.sz, h.m⟩
    · have e1 : ∀ t, fget g' t = fget g2 t := fun t => hg.same hg2 fun k _ => Iff.rfl
      have e2 : σ' = σ2 := hs.same hs2 fun k _ => Iff.rfl
      subst e2
      exact hk g' σ' w2 Im2 φ2 a2 ht ⟨fun t => by rw [e1]; exact h2.fr t, h2.inv, h2.df, h2.sz, h2.m⟩ hq'
    · have : ∀ (p : Nat → Bool) (n : Nat), cnt p n ≤ n := fun p n => by
        induction n with
        | zero => exact Nat.le_refl _
        | succ n ih => simp only [cnt]; split <;> omega
      exact this _ _
    all_goals
      exfalso
      simp only [LS, Array.getD_eq_getD_getElem?, Array.getElem?_replicate] at *
      first
      | (split at hi <;> simp at hi; done)
      | (split at hk <;> simp at hk; done)

end
end Go.RX
