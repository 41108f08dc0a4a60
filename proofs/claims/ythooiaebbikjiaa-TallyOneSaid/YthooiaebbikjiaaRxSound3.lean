/-
  RX, soundness, third part: what is to be shown of a question ('FinQ'), of a state ('FinM'), of a function ('Sound'); calls.
-/
import Derived.Test.YthooiaebbikjiaaRxSound2
set_option linter.unusedSimpArgs false
set_option linter.unusedVariables false
namespace Go.RX
open Go

/-- A function, called on these data over these blocks, comes back, with a datum and blocks of which Q holds. -/
def Sound (E : Env) (f : FuncId) (args : List D) (σ : Sto) (Q : D → Sto → Prop) : Prop :=
  ∀ (w : World) (Im : Nat → Prop) (φ : Phi) (vs : Array Value), Inv w Im φ σ → ArgsRel w Im φ args vs.toList →
    Calls E.P f vs w fun e w' => ∃ v d σ' φ' Im', e = .returned v ∧ Tr σ.length w Im φ σ w' Im' φ' σ' ∧ Inv w' Im' φ' σ' ∧ Rel w' Im' φ' d v ∧ Q d σ'

/-- It answers just this. -/
def SoundTo (E : Env) (f : FuncId) (args : List D) (d : D) : Prop := Sound E f args [] fun d' s' => d' = d ∧ s' = []

theorem Sound.mono {E : Env} {f : FuncId} {args : List D} {σ : Sto} {Q Q' : D → Sto → Prop} (h : Sound E f args σ Q) (hq : ∀ d s, Q d s → Q' d s) : Sound E f args σ Q' :=
  fun w Im φ vs h1 h2 => (h w Im φ vs h1 h2).mono fun e w' ⟨v, d, σ', φ', Im', a, b, c, d', e'⟩ => ⟨v, d, σ', φ', Im', a, b, c, d', hq _ _ e'⟩

structure SRel (C : Cx) (w : World) (Im : Nat → Prop) (φ : Phi) (fr : Fr) (σ : Sto) (a : Act) : Prop where
  fr : ∀ t, Rel w Im φ (fget fr t) (a.tmps.getD t undef)
  inv : Inv w Im φ σ
  df : a.defers = []
  sz : a.tmps.size = C.fn.ntmps
  m : C.m ≤ φ.length

/-- Where a run of a function's body ends. -/
def DoneP (E : Env) (C : Cx) (Q : D → Sto → Prop) (w : World) (Im : Nat → Prop) (φ : Phi) (σ : Sto) (e : Exit) (a' : Act) (w' : World) : Prop :=
  (e = .normal ∨ e = .ret) ∧ a'.defers = [] ∧ ∃ v d σ' φ' Im', (results C.fn a'.tmps).run E.P w' = .ok v w' ∧ Tr C.m w Im φ σ w' Im' φ' σ' ∧ Inv w' Im' φ' σ' ∧ Rel w' Im' φ' d v ∧ Q d σ'

def LoopIn (P : Program) (c : Code) (Q : Exit → Act → World → Prop) (a : Act) (w : World) : Prop :=
  ∀ (b : Frame) (k : List Item) (cs : List Frame), ∃ e a' w', Q e a' w' ∧ Arrives P (lone (b.at a (.code c :: .inLoop c :: k)) cs w) b k cs e a' w'

/-- What is left to do. -/
def sem (P : Program) (Q : Exit → Act → World → Prop) : List It → Exit → Act → World → Prop
  | [] => Q
  | .blk id :: t => Exit.inBlock id (sem P Q t)
  | .code c :: t => Exit.then (c.wp P (sem P Q t)) (sem P Q t)
  | .lp c _ :: t => Exit.then (LoopIn P c (sem P Q t)) (sem P Q t)
  | .lpc c _ :: t => Exit.then (LoopIn P c (sem P Q t)) (sem P Q t)
  | .ops all l :: t => Exit.then (wpList P all.toArray (sem P Q t) l) (sem P Q t)

def FinM (E : Env) (C : Cx) (Q : D → Sto → Prop) (M : M) : Prop :=
  ∀ (a : Act) (w : World) (Im : Nat → Prop) (φ : Phi), SRel C w Im φ M.fr M.st a → ∀ R : Exit → Act → World → Prop, (∀ e a' w', DoneP E C Q w Im φ M.st e a' w' → R e a' w') → sem E.P R M.td .normal a w

def FinQ (E : Env) (C : Cx) (Q : D → Sto → Prop) : Qy → Prop
  | .go m => FinM E C Q m
  | .need b q => b = true ∧ FinQ E C Q q
  | .split b k => FinQ E C Q (k b)
  | .row r k => ∃ x, r = some x ∧ FinQ E C Q (k x)
  | .str r k => ∃ x, r = some x ∧ FinQ E C Q (k x)
  | .call f args sub k => ∃ Qc, Sound E f args sub Qc ∧ ∀ d s, Qc d s → FinQ E C Q (k d s)
  | .callD f args k => ∃ d, SoundTo E f args d ∧ FinQ E C Q (k d)
  | .ret d σ => Q d σ
  | .bad => False

/-- From a state to a later one. -/
structure Nx (w : World) (Im : Nat → Prop) (φ : Phi) (σ : Sto) (w' : World) (Im' : Nat → Prop) (φ' : Phi) (σ' : Sto) : Prop where
  le : PhiLe φ φ'
  len : φ.length ≤ φ'.length
  tr : Tr φ.length w Im φ σ w' Im' φ' σ'
  inv : Inv w' Im' φ' σ'

section
variable {E : Env} {C : Cx} {Q : D → Sto → Prop} {w w' : World} {Im Im' : Nat → Prop} {φ φ' : Phi} {σ σ' : Sto}

theorem Good.nx {d : D} {v : Value} (g : Good w Im φ σ w' φ' σ' d v) (hlen : φ.length ≤ φ'.length) : Nx w Im φ σ w' Im φ' σ' := ⟨g.le, hlen, g.tr, g.inv⟩

theorem PhiLe.length {a b : Phi} (h : PhiLe a b) : a.length ≤ b.length := by
  rcases Nat.lt_or_ge b.length a.length with hlt | hge
  · have h1 : a[b.length]? = some (a[b.length]) := by simp [hlt]
    have := h _ _ h1
    simp at this
  · exact hge

theorem DoneP.of_tr {e : Exit} {a' : Act} {w2 : World} (h : Tr C.m w Im φ σ w' Im' φ' σ') (hd : DoneP E C Q w' Im' φ' σ' e a' w2) : DoneP E C Q w Im φ σ e a' w2 := by
  obtain ⟨h1, h2, v, d, s, p, I, h3, h4, h5⟩ := hd
  exact ⟨h1, h2, v, d, s, p, I, h3, h.trans h4, h5⟩

theorem evalD_rel {fr : Fr} {a : Act} (h : ∀ t, Rel w Im φ (fget fr t) (a.tmps.getD t undef)) (x : Operand) : Rel w Im φ (evalD fr x) (a.eval x) := by
  cases x with
  | tmp t => exact h t
  | const v => exact rel_ofConst v
  | global g => exact .undef _
  | func f => exact .fn f [] [] #[] #[] rfl rfl (fun i d v a => by simp at a) (fun i d v a => by simp at a)

theorem put_rel {fr : Fr} {a : Act} (h : ∀ t, Rel w Im φ (fget fr t) (a.tmps.getD t undef)) {dst : Option Nat} {n : Nat} (hsz : a.tmps.size = n) (hd : dstOk n dst = true) {d : D} {v : Value} (hr : Rel w Im φ d v) :
    ∀ t, Rel w Im φ (fget (put fr dst d) t) ((a.put dst v).tmps.getD t undef) := by
  intro t
  cases dst with
  | none => exact h t
  | some s =>
    have hs : s < a.tmps.size := by rw [hsz]; exact Nat.lt_of_succ_le (Nat.le_of_ble_eq_true hd)
    simp only [put, fset, fget, Act.put, Bool.cond_eq_ite]
    split
    · rename_i he
      have he' := Nat.eq_of_beq_eq_true he
      subst he'
      rw [show (a.tmps.setIfInBounds s v).getD s undef = v by simp [hs]]
      exact hr
    · rename_i he
      have hne : s ≠ t := fun e => he (by rw [e]; exact Nat.beq_refl t)
      have : (a.tmps.setIfInBounds s v).getD t undef = a.tmps.getD t undef := by
        simp [Array.getElem?_setIfInBounds_ne hne]
      rw [this]
      exact h t

theorem put_size (a : Act) (dst : Option Nat) (v : Value) : (a.put dst v).tmps.size = a.tmps.size := by
  cases dst <;> simp [Act.put]
theorem put_df (a : Act) (dst : Option Nat) (v : Value) : (a.put dst v).defers = a.defers := by
  cases dst <;> rfl

/-! ### calls -/
theorem plain_rel : ∀ (n : Nat) (d : D) (v : Value), plainD n d = true → Rel w Im φ d v → Rel w' Im' φ' d v
  | 0, _, _, h, _ => by simp [plainD] at h
  | n + 1, d, v, h, hr => by
    have IH := plain_rel n
    cases hr <;> simp [plainD] at h
    case bool => exact .bool _
    case int => exact .int _ _
    case str e => exact .str _ _ e
    case agg cs vs e1 e2 => exact .agg _ _ e1 (fun i d v a b => IH d v (h d (List.mem_of_getElem? a)) (e2 i d v a b))
    case tup cs vs e1 e2 => exact .tup _ _ e1 (fun i d v a b => IH d v (h d (List.mem_of_getElem? a)) (e2 i d v a b))

theorem no_own (c : Nat) : ¬ Own [] [] c := fun ⟨b, B, l, h, _⟩ => by simp at h

/-- Behind a call that was handed no block: the caller's blocks are as they were. -/
theorem Inv.past (hi : Inv w Im φ σ) {I2 : Nat → Prop} {φ2 : Phi} {σ2 : Sto} {J : Nat → Prop} (ht : Tr 0 w J [] [] w' I2 φ2 σ2) (h2 : Inv w' I2 φ2 σ2) (hIm : ∀ c, Im c → I2 c) (hN : ∀ c, I2 c → Im c ∨ w.heap.size ≤ c) :
    Inv w' I2 φ σ ∧ Tr φ.length w Im φ σ w' I2 φ σ := by
  have hsame : ∀ c, c < w.heap.size → w'.heap[c]? = w.heap[c]? := fun c hc => ht.ext.same c hc (no_own c)
  refine ⟨⟨hi.len, fun b B l a1 a2 => ?_, hi.inj, fun c hc ho => ?_, h2.im⟩, ⟨⟨ht.ext.size, fun c hc _ => hsame c hc, ht.ext.io⟩, fun c hc => .inl hc, fun _ _ => rfl, hIm, fun c hc => ?_⟩⟩
  · have hk := hi.blk b B l a1 a2
    exact hk.of_heap (hsame _ hk.lt) ht.ext.size hIm (fun c hc => hsame c (hi.im c hc)) (PhiLe.refl _)
  · rcases hN c hc with h | h
    · exact hi.sep c h ho
    · have := hi.own_lt ho; omega
  · rcases hN c hc with h | h
    · exact .inl h
    · exact .inr (.inr h)

theorem args_map {f : D → Option D} {args args' : List D} {vs : List Value} {ψ : Phi} (h : mapO f args = some args') (hr : ArgsRel w Im φ args vs) (hf : ∀ d d' v, Rel w Im φ d v → f d = some d' → Rel w Im' ψ d' v) : ArgsRel w Im' ψ args' vs := by
  obtain ⟨h1, h2⟩ := mapO_some h
  refine ⟨by rw [h1]; exact hr.1, fun i d v a b => ?_⟩
  obtain ⟨d0, hd0⟩ := get_of_len h1.symm a
  exact hf d0 d v (hr.2 i d0 v hd0 b) (h2 i d0 d hd0 a)

/-- Behind a call that handed over blocks of its own. -/
theorem Inv.join (hi : Inv w' Im φ σ) {φ2 : Phi} {σ2 s' : Sto} (h2 : Inv w' Im φ2 σ2) (hdis : ∀ c, Own φ2 σ2 c → ¬ Own φ σ c) (hs : mapSto (tr (renH fun j => some (σ.length + j)) trFuel) σ2 = some s') :
    Inv w' Im (φ ++ φ2) (σ ++ s') ∧ (∀ c, Own (φ ++ φ2) (σ ++ s') c → Own φ σ c ∨ Own φ2 σ2 c) ∧ ∀ d d' v, Rel w' Im φ2 d v → tr (renH fun j => some (σ.length + j)) trFuel d = some d' → Rel w' Im (φ ++ φ2) d' v := by
  obtain ⟨h3, h4⟩ := mapSto_some hs
  have hren : ∀ d d' v, Rel w' Im φ2 d v → tr (renH fun j => some (σ.length + j)) trFuel d = some d' → Rel w' Im (φ ++ φ2) d' v := fun d d' v a b =>
    ren_rel (fun _ h => h) (fun b c l e1 e2 => by
      obtain rfl := Option.some.inj e1
      rw [← hi.len, List.getElem?_append_right (by omega), show φ.length + b - φ.length = b by omega]; exact e2) trFuel d d' v a b
  have hlen : s'.length = φ2.length := by rw [h3, h2.len]
  have hget : ∀ b B l, sget (σ ++ s') b = some B → (φ ++ φ2)[b]? = some l → (b < σ.length ∧ sget σ b = some B ∧ φ[b]? = some l) ∨ (σ.length ≤ b ∧ ∃ B2, sget σ2 (b - σ.length) = some B2 ∧ φ2[b - σ.length]? = some l ∧ BlkOk w' Im (φ ++ φ2) B l) := fun b B l a1 a2 => by
    by_cases hb : b < σ.length
    · rw [sget_append_left hb] at a1
      rw [List.getElem?_append_left (by rw [hi.len]; exact hb)] at a2
      exact .inl ⟨hb, a1, a2⟩
    · have a1' : sget s' (b - σ.length) = some B := by
        rw [sget_some] at a1 ⊢
        rwa [List.getElem?_append_right (by omega)] at a1
      rw [List.getElem?_append_right (by rw [hi.len]; omega), hi.len] at a2
      obtain ⟨B2, hB2, h5⟩ := h4 _ _ a1'
      exact .inr ⟨by omega, B2, hB2, a2, mapBlk_ok (fun _ h => h) hren (tr_scal (renH_scal _) trFuel) h5 (h2.blk _ _ _ hB2 a2)⟩
  have hown : ∀ c, Own (φ ++ φ2) (σ ++ s') c → Own φ σ c ∨ Own φ2 σ2 c := by
    rintro c ⟨b, B, l, a1, a2, rfl⟩
    rcases hget b B l a2 a1 with ⟨_, h6, h7⟩ | ⟨_, B2, h6, h7, _⟩
    · exact .inl ⟨b, B, l, h7, h6, rfl⟩
    · exact .inr ⟨_, B2, l, h7, h6, rfl⟩
  refine ⟨⟨by simp [hi.len, hlen], fun b B l a1 a2 => ?_, fun b b' B B' l l' hne a1 a2 a3 a4 => ?_, fun c hc ho => ?_, hi.im⟩, hown, hren⟩
  · rcases hget b B l a1 a2 with ⟨_, h6, h7⟩ | ⟨_, B2, h6, h7, hk⟩
    · exact (hi.blk b B l h6 h7).of_heap rfl (Nat.le_refl _) (fun _ h => h) (fun _ _ => rfl) (PhiLe.append _ _)
    · exact hk
  · rcases hget b B l a3 a1 with ⟨_, h6, h7⟩ | ⟨hge, B2, h6, h7, _⟩ <;> rcases hget b' B' l' a4 a2 with ⟨_, g6, g7⟩ | ⟨gge, C2, g6, g7, _⟩
    · exact hi.inj b b' B B' l l' hne h7 g7 h6 g6
    · exact fun e => hdis l'.blk ⟨_, C2, l', g7, g6, rfl⟩ ⟨b, B, l, h7, h6, e⟩
    · exact fun e => hdis l.blk ⟨_, B2, l, h7, h6, rfl⟩ ⟨b', B', l', g7, g6, e.symm⟩
    · exact h2.inj (b - σ.length) (b' - σ.length) B2 C2 l l' (by omega) h7 g7 h6 g6
  · rcases hown c ho with h | h
    · exact hi.sep c hc h
    · exact h2.sep c hc h

end
end Go.RX
