/-
  RX, soundness: regions whose order is open, fourth part: any order.
-/
import Derived.Test.YthooiaebbikjiaaRxDraw3
set_option linter.unusedSimpArgs false
set_option linter.unusedVariables false
namespace Go.RX
open Go

/-! ### the tables -/
theorem pairsOk_get {ti : OpTab} : ∀ (l : List OpTab) (k : Nat), pairsOk ti k l = true → ∀ (j : Nat) (tj : OpTab), l[j]? = some tj → pairOk (k + j) tj ti = true
  | [], _, _, j, tj, h => by simp at h
  | t :: l, k, h, j, tj, hj => by
    simp only [pairsOk, Bool.and_eq_true] at h
    cases j with
    | zero => simp at hj; subst hj; exact h.1
    | succ j => have := pairsOk_get l (k + 1) h.2 j tj (by simpa using hj); rwa [show k + 1 + j = k + (j + 1) by omega] at this

theorem tabsOk_get : ∀ (ts pre : List OpTab), tabsOk pre ts = true → ∀ (i j : Nat) (ti tj : OpTab), pre.length ≤ i → (pre ++ ts)[i]? = some ti → j < i → (pre ++ ts)[j]? = some tj → pairOk j tj ti = true
  | [], pre, _, i, j, ti, tj, h1, h2, _, _ => by
    exfalso
    rw [List.append_nil] at h2
    have := (List.getElem?_eq_some_iff.1 h2).1
    omega
  | t :: ts, pre, h, i, j, ti, tj, h1, h2, h3, h4 => by
    simp only [tabsOk, Bool.and_eq_true] at h
    rcases Nat.lt_or_ge pre.length i with hlt | hge
    · refine tabsOk_get ts (pre ++ [t]) h.2 i j ti tj (by simp; omega) ?_ h3 ?_
      · simpa using h2
      · simpa using h4
    · have he : i = pre.length := by omega
      subst he
      rw [List.getElem?_append_right (Nat.le_refl _)] at h2
      simp at h2
      subst h2
      rw [List.getElem?_append_left h3] at h4
      have := pairsOk_get pre 0 h.1 j tj h4
      rwa [Nat.zero_add] at this

theorem fold_bit (masks : List Nat) (j : Nat) : ∀ (l : List Edge) (s : Nat), (l.foldl (fun s e => bif Region.binds .any e then s ||| (2 ^ e.on) ||| masks.getD e.on 0 else s) s).testBit j = true →
    s.testBit j = true ∨ ∃ e ∈ l, Region.binds .any e = true ∧ (j = e.on ∨ (masks.getD e.on 0).testBit j = true)
  | [], s, h => .inl h
  | e :: l, s, h => by
    rcases fold_bit masks j l _ h with h1 | ⟨e', he, h2⟩
    · cases hb : Region.binds .any e with
      | false => simp only [hb, cond_false] at h1; exact .inl h1
      | true =>
        simp only [hb, cond_true, Nat.testBit_or, Bool.or_eq_true, Nat.testBit_two_pow, decide_eq_true_eq] at h1
        rcases h1 with (h1 | h1) | h1
        · exact .inl h1
        · exact .inr ⟨e, by simp, hb, .inl h1.symm⟩
        · exact .inr ⟨e, by simp, hb, .inr h1⟩
    · exact .inr ⟨e', by simp [he], h2⟩

theorem masksOf_spec : ∀ (l : List Oper) (acc : List Nat), (masksOf l acc).length = acc.length + l.length ∧ (∀ i, i < acc.length → (masksOf l acc)[i]? = acc[i]?) ∧
    ∀ (x : Nat) (o : Oper), l[x]? = some o → (masksOf l acc)[acc.length + x]? = some (beforeOf o ((masksOf l acc).take (acc.length + x)))
  | [], acc => ⟨rfl, fun _ _ => rfl, fun x o h => by simp at h⟩
  | o :: l, acc => by
    obtain ⟨h1, h2, h3⟩ := masksOf_spec l (acc ++ [beforeOf o acc])
    simp only [masksOf]
    refine ⟨by rw [h1]; simp; omega, fun i hi => ?_, fun x o' hx => ?_⟩
    · rw [h2 i (by simp; omega), List.getElem?_append_left hi]
    · cases x with
      | zero =>
        simp at hx
        subst hx
        rw [Nat.add_zero, h2 acc.length (by simp), List.getElem?_append_right (Nat.le_refl _)]
        simp only [Nat.sub_self, List.getElem?_cons_zero, Option.some.injEq]
        congr 1
        refine List.ext_getElem? fun i => ?_
        rw [List.getElem?_take]
        split
        · rename_i hi; rw [h2 i (by simp; omega), List.getElem?_append_left hi]
        · simp; omega
      | succ x =>
        have := h3 x o' (by simpa using hx)
        simp only [List.length_append, List.length_singleton] at this
        rwa [show acc.length + 1 + x = acc.length + (x + 1) by omega] at this

theorem edges_get : ∀ (l : List Oper) (i : Nat), edgesOkL i l = true → ∀ (x : Nat) (o : Oper), l[x]? = some o → ∀ e ∈ o.after, Region.binds .any e = true → e.on < i + x
  | [], _, _, x, o, h => by simp at h
  | o :: l, i, h, x, o', hx => by
    simp only [edgesOkL, Bool.and_eq_true, List.all_eq_true, Bool.or_eq_true, Bool.not_eq_true'] at h
    cases x with
    | zero =>
      simp at hx
      subst hx
      intro e he hb
      rcases h.1 e (by simpa using he) with h1 | h1
      · rw [h1] at hb; cases hb
      · exact Nat.le_of_ble_eq_true h1
    | succ x =>
      intro e he hb
      have := edges_get l (i + 1) h.2 x o' (by simpa using hx) e he hb
      omega

section
variable {P : Program} {ops : Array Oper}

theorem tab_len : (tabOf P ops).length = ops.size := by
  simp [tabOf, (masksOf_spec ops.toList []).1]

theorem tab_get {i : Nat} {o : Oper} {t : OpTab} (ho : ops.toList[i]? = some o) (ht : (tabOf P ops)[i]? = some t) :
    t.looks = o.looksAt ops ∧ t.dst = o.dst ∧ t.kind = kindOf P o.op ∧ t.before = beforeOf o ((masksOf ops.toList []).take i) := by
  simp only [tabOf, List.getElem?_map, Option.map_eq_some_iff, List.getElem?_zip_eq_some, Prod.exists] at ht
  obtain ⟨o', m, ⟨h1, h2⟩, rfl⟩ := ht
  rw [ho] at h1
  obtain rfl := Option.some.inj h1
  have := (masksOf_spec ops.toList []).2.2 i o ho
  simp only [List.length_nil, Nat.zero_add] at this
  rw [h2] at this
  exact ⟨rfl, rfl, rfl, Option.some.inj this⟩

theorem tab_some {i : Nat} (hi : i < ops.size) : ∃ o t, ops.toList[i]? = some o ∧ (tabOf P ops)[i]? = some t :=
  ⟨ops[i], (tabOf P ops)[i]'(by rw [tab_len]; exact hi), by simp [hi], by simp [tab_len, hi]⟩

theorem tBf_spec {i j : Nat} (h : tBf (tabOf P ops) i j = true) : ∃ o, ops.toList[i]? = some o ∧ ∃ e ∈ o.after, Region.binds .any e = true ∧ (j = e.on ∨ tBf (tabOf P ops) e.on j = true) := by
  simp only [tBf] at h
  split at h
  · rename_i t ht
    have hlt := (List.getElem?_eq_some_iff.1 ht).1
    rw [tab_len] at hlt
    obtain ⟨o, t', ho, ht'⟩ := tab_some (P := P) hlt
    rw [(tab_get ho ht).2.2.2] at h
    refine ⟨o, ho, ?_⟩
    rcases fold_bit _ j _ 0 h with h1 | ⟨e, he, hb, h1⟩
    · simp at h1
    · refine ⟨e, by simpa using he, hb, h1.imp id fun h1 => ?_⟩
      have hm : ((masksOf ops.toList []).take i)[e.on]? = some (((masksOf ops.toList []).take i).getD e.on 0) := by
        cases hx : ((masksOf ops.toList []).take i)[e.on]? with
        | none => rw [List.getD_eq_getElem?_getD, hx] at h1; simp at h1
        | some x => rw [List.getD_eq_getElem?_getD, hx]; rfl
      have hl := (List.getElem?_eq_some_iff.1 hm).1
      have hon : e.on < ops.size := by simp [(masksOf_spec ops.toList []).1] at hl; omega
      obtain ⟨o2, t2, ho2, ht2⟩ := tab_some (P := P) hon
      simp only [tBf, ht2]
      have hms : (masksOf ops.toList [])[e.on]? = some (((masksOf ops.toList []).take i).getD e.on 0) := by
        rw [List.getElem?_take] at hm
        split at hm
        · exact hm
        · cases hm
      have := (masksOf_spec ops.toList []).2.2 e.on o2 ho2
      simp only [List.length_nil, Nat.zero_add] at this
      rw [hms] at this
      rw [(tab_get ho2 ht2).2.2.2, ← Option.some.inj this]
      exact h1
  · cases h

theorem tab_pair (h : tabsOk [] (tabOf P ops) = true) {i j : Nat} (hi : i < ops.size) (hj : j < i) :
    tBf (tabOf P ops) i j = true ∨ (hasSlot (tLk (tabOf P ops) i) (tDst (tabOf P ops) j) = false ∧ hasSlot (tLk (tabOf P ops) j) (tDst (tabOf P ops) i) = false ∧
      sameSlot (tDst (tabOf P ops) i) (tDst (tabOf P ops) j) = false ∧ clash (tKd (tabOf P ops) i) (tKd (tabOf P ops) j) = false) := by
  obtain ⟨o, t, ho, ht⟩ := tab_some (P := P) hi
  obtain ⟨o', t', ho', ht'⟩ := tab_some (P := P) (Nat.lt_trans hj hi)
  have := tabsOk_get _ _ h i j t t' (by simp) ht hj ht'
  simp only [pairOk, Bool.or_eq_true, Bool.not_eq_true', Bool.or_eq_false_iff] at this
  simp only [tBf, tLk, tDst, tKd, ht, ht']
  exact this.imp id fun x => ⟨x.1.1.1, x.1.1.2, x.1.2, x.2⟩
end

/-! ### how many are left -/
def cnt (p : Nat → Bool) : Nat → Nat
  | 0 => 0
  | n + 1 => cnt p n + (if p n then 1 else 0)
theorem cnt_zero {p : Nat → Bool} : ∀ (n : Nat), cnt p n = 0 → ∀ i, i < n → p i = false
  | n + 1, h, i, hi => by
    simp only [cnt] at h
    rcases lt_succ_cases hi with h1 | h1
    · exact cnt_zero n (by omega) i h1
    · subst h1
      cases hp : p i with
      | false => rfl
      | true => rw [hp] at h; simp at h
theorem cnt_congr {p p' : Nat → Bool} : ∀ (n : Nat), (∀ i, i < n → p i = p' i) → cnt p n = cnt p' n
  | 0, _ => rfl
  | n + 1, h => by simp only [cnt]; rw [cnt_congr n (fun i hi => h i (by omega)), h n (by omega)]
theorem cnt_drop {p p' : Nat → Bool} {i : Nat} (h1 : p i = true) (h2 : p' i = false) (h3 : ∀ j, j ≠ i → p' j = p j) : ∀ (n : Nat), i < n → cnt p n = cnt p' n + 1
  | n + 1, hi => by
    simp only [cnt]
    rcases lt_succ_cases hi with h | h
    · rw [cnt_drop h1 h2 h3 n h, h3 n (by omega)]; omega
    · subst h
      rw [h1, h2, cnt_congr i (fun j hj => (h3 j (by omega)).symm)]
      simp

/-! ### any order -/
section
variable {E : Env} {C : Cx} {Q : D → Sto → Prop} {w w' : World} {Im Im' : Nat → Prop} {φ φ' : Phi} {σ σ' : Sto} {ops : Array Oper} {fr : Fr} {σ0 : Sto} {dv : Nat → D} {sv : Nat → Sto}

/-- A set of operations that have been carried out. -/
structure Done (E : Env) (ops : Array Oper) (S : Nat → Prop) : Prop where
  lt : ∀ i, S i → i < ops.size
  cl : ∀ i j, S i → tBf (tabOf E.P ops) i j = true → S j

theorem hasSlot_false {l : List Nat} {t : Nat} {o : Option Nat} (h : hasSlot l o = false) (ho : o = some t) (ht : t ∈ l) : False := by
  subst ho; simp [hasSlot] at h; exact h ht
theorem sameSlot_false {a b : Option Nat} {t : Nat} (h : sameSlot a b = false) (ha : a = some t) (hb : b = some t) : False := by
  subst ha; subst hb; simp only [sameSlot, Nat.beq_refl] at h; cases h
theorem tDst_lt {P : Program} {k t : Nat} (h : tDst (tabOf P ops) k = some t) : k < ops.size := by
  simp only [tDst] at h
  split at h
  · rename_i x hx; have := (List.getElem?_eq_some_iff.1 hx).1; rwa [tab_len] at this
  · cases h
theorem tKd_lt {P : Program} {k : Nat} (h : 1 ≤ tKd (tabOf P ops) k) : k < ops.size := by
  simp only [tKd] at h
  split at h
  · rename_i x hx; have := (List.getElem?_eq_some_iff.1 hx).1; rwa [tab_len] at this
  · omega
theorem clash_22 {a b : Nat} (ha : 2 ≤ a) (hb : 2 ≤ b) : clash a b = true := by
  simp only [clash, Nat.ble_eq_true_of_le ha, Nat.ble_eq_true_of_le hb]; rfl
theorem clash_13 {a b : Nat} (ha : 1 ≤ a) (hb : b = 3) : clash a b = true := by
  subst hb; simp only [clash, Nat.ble_eq_true_of_le ha]; simp [Nat.beq]
theorem clash_31 {a b : Nat} (ha : 1 ≤ a) (hb : b = 3) : clash b a = true := by
  subst hb; simp only [clash, Nat.ble_eq_true_of_le ha]; simp [Nat.beq]
theorem kindOp_le (op : Op) : kindOp op ≤ 4 := by
  unfold kindOp
  split <;> (try split) <;> omega
theorem kindOf_le (P : Program) (op : Op) : kindOf P op ≤ 3 := by
  have h := kindOp_le op
  unfold kindOf
  generalize kindOp op = k at h
  match k, h with
  | 0, _ => simp
  | 1, _ => simp
  | 2, _ => simp
  | 3, _ => simp
  | 4, _ =>
    simp only
    split
    · split <;> omega
    · omega


theorem later {S : Nat → Prop} (hD : Done E ops S) (hT : tabsOk [] (tabOf E.P ops) = true) {i : Nat} (hi : i < ops.size) (hn : ¬ S i) (hb : ∀ j, tBf (tabOf E.P ops) i j = true → S j) {k : Nat} (hk : S k) (h : ¬ k < i) : i < k ∧ (hasSlot (tLk (tabOf E.P ops) k) (tDst (tabOf E.P ops) i) = false ∧ hasSlot (tLk (tabOf E.P ops) i) (tDst (tabOf E.P ops) k) = false ∧
      sameSlot (tDst (tabOf E.P ops) k) (tDst (tabOf E.P ops) i) = false ∧ clash (tKd (tabOf E.P ops) k) (tKd (tabOf E.P ops) i) = false) := by
  have hne : k ≠ i := fun e => hn (e ▸ hk)
  have hlt : i < k := by omega
  refine ⟨hlt, (tab_pair hT (hD.lt k hk) hlt).resolve_left fun h => hn (hD.cl k i hk h)⟩

theorem looks_same {S : Nat → Prop} (hD : Done E ops S) (hT : tabsOk [] (tabOf E.P ops) = true) {i : Nat} (hi : i < ops.size) (hn : ¬ S i) (hb : ∀ j, tBf (tabOf E.P ops) i j = true → S j) {t : Nat} (ht : t ∈ tLk (tabOf E.P ops) i) (k : Nat) (hk : tDst (tabOf E.P ops) k = some t) : S k ↔ k < i := by
  constructor
  · intro hs
    rcases Nat.lt_or_ge k i with h | h
    · exact h
    · exact (hasSlot_false (later hD hT hi hn hb hs (by omega)).2.2.1 hk ht).elim
  · intro hlt
    rcases tab_pair hT hi hlt with h | h
    · exact hb k h
    · exact (hasSlot_false h.1 hk ht).elim

theorem last_writer {S : Nat → Prop} (hD : Done E ops S) (hT : tabsOk [] (tabOf E.P ops) = true) {i : Nat} (hi : i < ops.size) (hn : ¬ S i) (hb : ∀ j, tBf (tabOf E.P ops) i j = true → S j) (k t : Nat) (hk : S k) (h1 : tDst (tabOf E.P ops) i = some t) (h2 : tDst (tabOf E.P ops) k = some t) : k ≤ i := by
  rcases Nat.lt_or_ge k i with h | h
  · omega
  · exact (sameSlot_false (later hD hT hi hn hb hk (by omega)).2.2.2.1 h2 h1).elim

theorem chg_same {S : Nat → Prop} (hD : Done E ops S) (hT : tabsOk [] (tabOf E.P ops) = true) {i : Nat} (hi : i < ops.size) (hn : ¬ S i) (hb : ∀ j, tBf (tabOf E.P ops) i j = true → S j) (hc : 2 ≤ tKd (tabOf E.P ops) i) (k : Nat) (hk : 2 ≤ tKd (tabOf E.P ops) k) : S k ↔ k < i ∧ tBf (tabOf E.P ops) i k = true := by
  constructor
  · intro hs
    rcases Nat.lt_or_ge k i with h | h
    · refine ⟨h, (tab_pair hT hi h).resolve_right fun hx => ?_⟩
      rw [clash_22 hc hk] at hx; cases hx.2.2.2
    · have := (later hD hT hi hn hb hs (by omega)).2.2.2.2
      rw [clash_22 hk hc] at this; cases this
  · exact fun h => hb k h.2

theorem turn_same {S : Nat → Prop} (hD : Done E ops S) (hT : tabsOk [] (tabOf E.P ops) = true) {i : Nat} (hi : i < ops.size) (hn : ¬ S i) (hb : ∀ j, tBf (tabOf E.P ops) i j = true → S j) (hc : 1 ≤ tKd (tabOf E.P ops) i) (k : Nat) (hs : S k) (hk : tKd (tabOf E.P ops) k = 3) : k < i ∧ tBf (tabOf E.P ops) i k = true := by
  rcases Nat.lt_or_ge k i with h | h
  · refine ⟨h, (tab_pair hT hi h).resolve_right fun hx => ?_⟩
    rw [clash_13 hc hk] at hx; cases hx.2.2.2
  · have := (later hD hT hi hn hb hs (by omega)).2.2.2.2
    rw [clash_31 hc hk] at this; cases this

theorem OpF.keep {all : List Oper} {o : Oper} {g : Fr} {τ : Sto} {d : D} {s : Sto} (h : OpF E all o g τ d s) (hk : kindOf E.P o.op = 2) : SLe τ s := by
  cases h with
  | run _ hl => exact grow_le hk hl
  | off => exact SLe.refl _
  | gone => exact SLe.refl _

/-- What was seen is still there, if what came since just made blocks. -/
theorem grown {S B : Nat → Prop} (hD : Done E ops S) (hT : tabsOk [] (tabOf E.P ops) = true) (hF : ∀ (j : Nat) (o : Oper), ops.toList[j]? = some o → Fact E C.fn.ntmps ops.toList (tabOf E.P ops) fr σ0 dv sv j o)
    (hBS : ∀ k, B k → S k) (h3 : ∀ k, S k → tKd (tabOf E.P ops) k = 3 → B k) {τ : Sto} (hτ : StOk (tKd (tabOf E.P ops)) sv σ0 B τ) (hσ : StOk (tKd (tabOf E.P ops)) sv σ0 S σ) : SLe τ σ := by
  have key : ∀ (p : Nat), S p → 2 ≤ tKd (tabOf E.P ops) p → (∀ k, B k → 2 ≤ tKd (tabOf E.P ops) k → k ≤ p) → SLe τ (sv p) := by
    intro p
    induction p using Nat.strongRecOn with
    | _ p ih =>
      intro hp hc hmax
      by_cases hBp : B p
      · rcases hτ with ⟨m, m1, m2, m3, rfl⟩ | ⟨m1, _⟩
        · have a := m3 p hBp hc
          have b := hmax m m1 m2
          have : m = p := by omega
          subst this
          exact SLe.refl _
        · exact absurd hc (m1 p hBp)
      · have hplt := hD.lt p hp
        obtain ⟨o, t, ho, ht⟩ := tab_some (P := E.P) hplt
        have hkd : tKd (tabOf E.P ops) p = kindOf E.P o.op := by simp only [tKd, ht]; exact (tab_get ho ht).2.2.1
        have hk2 : kindOf E.P o.op = 2 := by
          have h1 := kindOf_le E.P o.op
          have h2 : kindOf E.P o.op ≠ 3 := fun e => hBp (h3 p hp (by rw [hkd, e]))
          omega
        obtain ⟨g, τp, _, hst, hop⟩ := (hF p o ho).fact
        refine SLe.trans ?_ (hop.keep hk2)
        have hmB : ∀ m, B m → 2 ≤ tKd (tabOf E.P ops) m → m < p ∧ tBf (tabOf E.P ops) p m = true := fun m m1 m2 => by
          have h1 := hmax m m1 m2
          have h2 : m ≠ p := fun e => hBp (e ▸ m1)
          have h4 : m < p := by omega
          refine ⟨h4, (tab_pair hT hplt h4).resolve_right fun hx => ?_⟩
          rw [clash_22 hc m2] at hx; cases hx.2.2.2
        rcases hst with ⟨q, ⟨q1, q2⟩, q3, q4, rfl⟩ | ⟨q1, rfl⟩
        · exact ih q q1 (hD.cl p q hp q2) q3 fun k k1 k2 => q4 k (hmB k k1 k2) k2
        · rcases hτ with ⟨m, m1, m2, m3, rfl⟩ | ⟨_, rfl⟩
          · exact absurd m2 (q1 m (hmB m m1 m2))
          · exact SLe.refl _
  rcases hσ with ⟨p, p1, p2, p3, rfl⟩ | ⟨p1, rfl⟩
  · exact key p p1 p2 fun k k1 k2 => p3 k (hBS k k1) k2
  · rcases hτ with ⟨m, m1, m2, m3, rfl⟩ | ⟨_, rfl⟩
    · exact absurd m2 (p1 m (hBS m m1))
    · exact SLe.refl _

end
end Go.RX
