/-
  RX, the operations, second part: numbers, structs, slices, builtins; all of them together.
-/
import Derived.Test.YthooiaebbikjiaaRxOps
import Derived.Laws.StructEq
import Derived.Laws.Slices
set_option linter.unusedSimpArgs false
set_option linter.unusedVariables false
namespace Go.RX
open Go
section
variable {P : Program} {w : World} {Im : Nat → Prop} {φ : Phi} {σ : Sto}

theorem SatV.pure (hi : Inv w Im φ σ) {s : Sem Value} {d : D} (h : ∃ v, s.run P w = .ok v w ∧ Rel w Im φ d v) : SatV P w Im φ σ s (.ok d σ) :=
  let ⟨v, h1, h2⟩ := h; ⟨v, w, φ, h1, Good.refl hi h2⟩

/-! ### integers -/
theorem iop_run {t : TypeId} {op : BinOp} {k : IntKind} {x y : Int} {d : D} (h : iop op k x y = some d) (hop : op ≠ .shl ∧ op ≠ .shr ∧ op ≠ .quo ∧ op ≠ .rem) :
    ∃ v, (binOp op t (.int k x) (.int k y)).run P w = .ok v w ∧ Rel w Im φ d v := by
  obtain ⟨h1, h2, h3, h4⟩ := hop
  cases op <;> simp_all [iop] <;> subst h <;>
    first
      | exact ⟨_, by simp [binOp, Op.intArith, Op.intBits, Op.intCmp], .int _ _⟩
      | exact ⟨_, by simp [binOp, Op.intArith, Op.intBits, Op.intCmp], .bool _⟩

theorem intBin_sat (hi : Inv w Im φ σ) (op : BinOp) (t : TypeId) (k k' : IntKind) (x y : Int) : SatV P w Im φ σ (binOp op t (.int k x) (.int k' y)) (intBin op k k' x y σ) := by
  have hgen : (op ≠ .shl ∧ op ≠ .shr ∧ op ≠ .quo ∧ op ≠ .rem) → SatV P w Im φ σ (binOp op t (.int k x) (.int k' y)) (if k = k' then ARes.opt (iop op k x y) σ else .bad) := by
    intro hop
    split
    · rename_i hk
      subst hk
      exact SatV.opt hi fun d hd => iop_run hd hop
    · trivial
  unfold intBin
  split
  · intro hb
    have hy : ¬ y < 0 := by simpa using hb
    exact SatV.pure hi ⟨_, by simp [binOp, Op.shift, hy], .int _ _⟩
  · intro hb
    have hy : ¬ y < 0 := by simpa using hb
    exact SatV.pure hi ⟨_, by simp [binOp, Op.shift, hy], .int _ _⟩
  · split
    · rename_i hk
      subst hk
      intro hb
      have hy : ¬ y = 0 := by simpa using hb
      exact SatV.pure hi ⟨_, by simp [binOp, Op.intDiv, hy], .int _ _⟩
    · trivial
  · split
    · rename_i hk
      subst hk
      intro hb
      have hy : ¬ y = 0 := by simpa using hb
      exact SatV.pure hi ⟨_, by simp [binOp, Op.intDiv, hy], .int _ _⟩
    · trivial
  · rename_i h1 h2 h3 h4
    exact hgen ⟨fun h => h1 h, fun h => h2 h, fun h => h3 h, fun h => h4 h⟩

theorem un_sat (hi : Inv w Im φ σ) (op : UnOp) {x : D} {v : Value} (hx : Rel w Im φ x v) : SatV P w Im φ σ (Op.unary op v) (ARes.opt (unD op x) σ) := by
  refine SatV.opt hi fun d hd => ?_
  unfold unD at hd
  split at hd
  · obtain rfl := hx.bool_inv
    obtain rfl := Option.some.inj hd
    exact ⟨_, by simp [Op.unary], .bool _⟩
  · obtain rfl := hx.int_inv
    obtain rfl := Option.some.inj hd
    exact ⟨_, by simp [Op.unary, Op.intArith], .int _ _⟩
  · rename_i k n
    obtain rfl := hx.int_inv
    simp [iop] at hd
    subst hd
    exact ⟨_, by simp [Op.unary, Op.intBits], .int _ _⟩
  · cases hd

/-! ### parts, equality -/
theorem part_run {t : TypeId} {cs : List D} {vs : Array Value} {off : Nat} {d : D} (hl : cs.length = vs.size) (hr : ∀ (i : Nat) (d : D) (v : Value), cs[i]? = some d → vs[i]? = some v → Rel w Im φ d v)
    (h : partD P t cs off = some d) : ∃ v, (part t vs off).run P w = .ok v w ∧ Rel w Im φ d v := by
  unfold partD at h
  split at h
  · rename_i n ag ht
    obtain ⟨h1, h2⟩ := tyOf_some ht w
    split at h
    · rename_i hag
      subst hag
      obtain rfl := Option.some.inj h
      refine ⟨.agg (vs.extract off (off + n)), by simp [part, h1, h2], .agg _ _ (by simp; omega) (fun i d v h3 h4 => ?_)⟩
      rw [List.getElem?_take] at h3
      split at h3
      · rw [List.getElem?_drop] at h3
        rw [Array.getElem?_extract] at h4
        split at h4
        · exact hr _ _ _ h3 h4
        · cases h4
      · cases h3
    · rename_i hag
      have hag' : ag = false := by cases ag <;> simp_all
      subst hag'
      have hlt := (List.getElem?_eq_some_iff.1 h).1
      rw [hl] at hlt
      refine ⟨vs[off], by simp [part, h1, hlt], hr _ _ _ h (by simp [hlt])⟩
  · cases h

theorem field_run {s : TypeId} {x : D} {v : Value} (hx : Rel w Im φ x v) {f : Nat} {d : D} (h : fieldD P s x f = some d) : ∃ u, (Instr.field s v f).run P w = .ok u w ∧ Rel w Im φ d u := by
  unfold fieldD at h
  split at h
  · rename_i fields cs hu
    obtain ⟨vs, rfl, h1, h2⟩ := hx.agg_inv
    split at h
    · rename_i fd hf
      obtain ⟨u, h3, h4⟩ := part_run (P := P) h1 h2 h
      exact ⟨u, by simp [Instr.field, run_underlying hu, hf, asAgg, h3], h4⟩
    · cases h
  · cases h

theorem allB_cons {o : Option Bool} {r : List (Option Bool)} {b : Bool} (h : allB (o :: r) = some b) : ∃ x y, o = some x ∧ allB r = some y ∧ b = (x && y) := by
  cases o with
  | none => cases h
  | some x =>
    simp only [allB] at h
    cases hr : allB r with
    | none => simp [hr] at h
    | some y => simp [hr] at h; exact ⟨x, y, rfl, rfl, h.symm⟩

theorem toList_data (s : ByteArray) : s.toList = s.data.toList := ByteArray.toList_eq s

theorem deq_run : ∀ (n d : Nat) (t : TypeId) (x y : D) (vx vy : Value) (b : Bool), Rel w Im φ x vx → Rel w Im φ y vy → deq P n t x y = some b → n ≤ d → (Op.equalIn d t vx vy).run P w = .ok b w
  | 0, _, _, _, _, _, _, _, _, _, h, _ => by simp [deq] at h
  | n + 1, d, t, x, y, vx, vy, b, hx, hy, h, hd => by
    obtain ⟨d, rfl⟩ : ∃ e, d = e + 1 := ⟨d - 1, by omega⟩
    have IH := deq_run n d
    unfold deq at h
    split at h
    · rename_i a c hu
      obtain rfl := hx.bool_inv
      obtain rfl := hy.bool_inv
      obtain rfl := Option.some.inj h
      exact run_equalIn_bool' w d t a c hu
    · rename_i k' k a k2 c hu
      obtain rfl := hx.int_inv
      obtain rfl := hy.int_inv
      split at h
      · rename_i hk
        subst hk
        obtain rfl := Option.some.inj h
        exact run_equalIn_int w d t k _ a c hu
      · cases h
    · rename_i a c hu
      obtain ⟨s1, rfl, rfl⟩ := hx.str_inv
      obtain ⟨s2, rfl, rfl⟩ := hy.str_inv
      obtain rfl := Option.some.inj h
      rw [run_equalIn_string w d t s1 s2 hu, toList_data, toList_data]
    · rename_i fields xs ys hu
      obtain ⟨vs1, rfl, h1, h2⟩ := hx.agg_inv
      obtain ⟨vs2, rfl, h3, h4⟩ := hy.agg_inv
      split at h
      · cases h
      · rename_i hst
        have hff : P.fieldsOf t = fields := by simp [Program.fieldsOf, hu]
        rw [run_equalIn_struct w d t vs1 vs2 (by rw [hff]; exact hu) (by simpa using hst), hff]
        generalize fields.toList = fs at h
        clear hff hu hst
        induction fs generalizing b with
        | nil => simp [allB] at h; subst h; simp [Op.eqFields]
        | cons f fs ih =>
          simp only [List.map_cons] at h
          obtain ⟨r, c, g1, g2, rfl⟩ := allB_cons h
          have IHf := ih c g2
          simp only [Op.eqFields]
          split at g1
          · rename_i hn
            rw [if_pos hn]
            split at g1
            · rename_i a e g3 g4
              obtain ⟨va, g5, g6⟩ := part_run (P := P) (w := w) (Im := Im) (φ := φ) h1 h2 g3
              obtain ⟨ve, g7, g8⟩ := part_run (P := P) (w := w) (Im := Im) (φ := φ) h3 h4 g4
              have g9 := IH f.type a e va ve r g6 g8 g1 (by omega)
              simp only [Sem.run_bind, g5, g7, g9, Result.andThen_ok]
              cases r <;> simp [IHf]
            · cases g1
          · rename_i hn
            rw [if_neg hn]
            obtain rfl := Option.some.inj g1
            simpa using IHf
    · rename_i len e xs ys hu
      obtain ⟨vs1, rfl, h1, h2⟩ := hx.agg_inv
      obtain ⟨vs2, rfl, h3, h4⟩ := hy.agg_inv
      split at h
      · rename_i m hm
        rw [Op.equalIn]
        simp only [Sem.run_bind, run_underlying hu, Result.andThen_ok, szOf_some hm]
        simp only [Std.Legacy.Range.forIn_eq_forIn_range', Std.Legacy.Range.size, Nat.sub_zero, Nat.add_one_sub_one, Nat.div_one]
        rw [List.range_eq_range'] at h
        generalize List.range' 0 len = is at h
        induction is generalizing b with
        | nil => simp [allB] at h; subst h; simp
        | cons i is ih =>
          simp only [List.map_cons] at h
          obtain ⟨r, c, g1, g2, rfl⟩ := allB_cons h
          have IHf := ih c g2
          split at g1
          · rename_i a f g3 g4
            obtain ⟨va, g5, g6⟩ := part_run (P := P) (w := w) (Im := Im) (φ := φ) h1 h2 g3
            obtain ⟨vf, g7, g8⟩ := part_run (P := P) (w := w) (Im := Im) (φ := φ) h3 h4 g4
            have g9 := IH e a f va vf r g6 g8 g1 (by omega)
            simp only [List.forIn_cons, Sem.run_bind, g5, g7, g9, Result.andThen_ok]
            cases r
            · simp
            · simpa using IHf
          · cases g1
      · cases h
    · cases h

theorem eqGuard_run {op : BinOp} {t : TypeId} {x y : Operand} {vx vy : Value} (h1 : ∀ a, vx = .agg a → P.eqGuardType P.depth t = false) (h2 : vx = .nilIface → vy ≠ .nilIface) : (eqGuard op t x y vx vy).run P w = .ok () w := by
  cases vx with
  | agg a =>
    cases vy with
    | agg b => exact run_eqGuard_agg w op t x y a b (h1 _ rfl)
    | _ => cases op <;> simp [eqGuard]
  | nilIface =>
    cases vy with
    | nilIface => exact absurd rfl (h2 rfl)
    | _ => cases op <;> simp [eqGuard]
  | _ => cases op <;> simp [eqGuard]

def IsEq (P : Program) (w : World) (t : TypeId) (vx vy : Value) (b : Bool) : Prop :=
  (binOp .eql t vx vy).run P w = .ok (.bool b) w ∧ (binOp .neq t vx vy).run P w = .ok (.bool (!b)) w ∧ (∀ a, vx = .agg a → P.eqGuardType P.depth t = false) ∧ (vx = .nilIface → vy ≠ .nilIface)

theorem isEq_of {t : TypeId} {vx vy : Value} {b : Bool} (h : (Op.equalIn 10000 t vx vy).run P w = .ok b w) (h0 : (binOp .eql t vx vy).run P w = ((Op.equalIn 10000 t vx vy).run P w).andThen fun b w' => .ok (.bool b) w')
    (h1 : (binOp .neq t vx vy).run P w = ((Op.equalIn 10000 t vx vy).run P w).andThen fun b w' => .ok (.bool (!b)) w') (h2 : ∀ a, vx = .agg a → P.eqGuardType P.depth t = false) (h3 : vx = .nilIface → vy ≠ .nilIface) : IsEq P w t vx vy b :=
  ⟨by rw [h0, h]; rfl, by rw [h1, h]; rfl, h2, h3⟩

section
variable (d : Nat) {t : TypeId}
theorem eqIn_nilsl {e : TypeId} (hu : P.underlying t = some (.slice e)) (b : Option Addr) (n c : Nat) : (Op.equalIn (d + 1) t (.slice none 0 0) (.slice b n c)).run P w = .ok b.isNone w := by simp [Op.equalIn, run_underlying hu]
theorem eqIn_slnil {e : TypeId} (hu : P.underlying t = some (.slice e)) (a : Addr) (n c : Nat) : (Op.equalIn (d + 1) t (.slice (some a) n c) (.slice none 0 0)).run P w = .ok false w := by simp [Op.equalIn, run_underlying hu]
theorem eqIn_nilp {e : TypeId} (hu : P.underlying t = some (.pointer e)) : (Op.equalIn (d + 1) t (.pointer none) (.pointer none)).run P w = .ok true w := by simp [Op.equalIn, run_underlying hu]
theorem eqIn_pnil {e : TypeId} (hu : P.underlying t = some (.pointer e)) (a : Addr) : (Op.equalIn (d + 1) t (.pointer (some a)) (.pointer none)).run P w = .ok false w := by simp [Op.equalIn, run_underlying hu]
theorem eqIn_nilf {p1 p2 : Array TypeId} {p3 : Bool} (hu : P.underlying t = some (.func p1 p2 p3)) : (Op.equalIn (d + 1) t .nilFunc .nilFunc).run P w = .ok true w := by simp [Op.equalIn, run_underlying hu]
theorem eqIn_fnil {p1 p2 : Array TypeId} {p3 : Bool} (hu : P.underlying t = some (.func p1 p2 p3)) (f : Fn) (a b : Array Value) : (Op.equalIn (d + 1) t (.func f a b) .nilFunc).run P w = .ok false w := by simp [Op.equalIn, run_underlying hu]
theorem eqIn_inil {ms : Array (String × TypeId)} (hu : P.underlying t = some (.interface ms)) (u : TypeId) (v : Value) : (Op.equalIn (d + 1) t (.iface u v) .nilIface).run P w = .ok false w := by simp [Op.equalIn, run_underlying hu]
end

/-- Neither side's shape has an operator of its own. -/
def plainEq : Value → Bool
  | .int .. | .float .. | .complex .. | .string _ => false
  | _ => true
theorem binEq_run {t : TypeId} {vx vy : Value} (h : plainEq vx = true) : (binOp .eql t vx vy).run P w = ((Op.equalIn 10000 t vx vy).run P w).andThen fun b w' => .ok (.bool b) w' := by
  cases vx <;> first | (simp [plainEq] at h; done) | (simp only [binOp, Op.equal, Op.maxDepth]; simp only [Sem.run_bind, Sem.run_pure])
theorem binNe_run {t : TypeId} {vx vy : Value} (h : plainEq vx = true) : (binOp .neq t vx vy).run P w = ((Op.equalIn 10000 t vx vy).run P w).andThen fun b w' => .ok (.bool (!b)) w' := by
  cases vx <;> first | (simp [plainEq] at h; done) | (simp only [binOp, Op.equal, Op.maxDepth]; simp only [Sem.run_bind, Sem.run_pure])
theorem isEq_mk {t : TypeId} {vx vy : Value} {b : Bool} (h : (Op.equalIn (9999 + 1) t vx vy).run P w = .ok b w) (hp : plainEq vx = true) (h2 : ∀ a, vx = .agg a → P.eqGuardType P.depth t = false) (h3 : vx = .nilIface → vy ≠ .nilIface) : IsEq P w t vx vy b :=
  isEq_of h (binEq_run hp) (binNe_run hp) h2 h3

theorem eql_run {t : TypeId} {x y : D} {vx vy : Value} (hx : Rel w Im φ x vx) (hy : Rel w Im φ y vy) {b : Bool} (h : eqlD P t x y = some b)
    (hint : ∀ k n k' m, ¬ (x = .int k n ∧ y = .int k' m)) (hstr : ∀ l m, ¬ (x = .str l ∧ y = .str m)) : IsEq P w t vx vy b := by
  unfold eqlD at h
  split at h
  · rename_i sz rows
    obtain ⟨rfl, -⟩ := hy.nilsl_inv
    split at h
    · rename_i n sz' rows' e hu
      obtain rfl := Option.some.inj h
      cases n with
      | true =>
        obtain ⟨rfl, -⟩ := hx.nilsl_inv
        exact isEq_mk (eqIn_nilsl 9999 hu none 0 0) rfl (fun a ha => by cases ha) (fun ha => by cases ha)
      | false =>
        obtain ⟨c, base, cap, rfl, -⟩ := hx.sl_inv
        exact isEq_mk (eqIn_slnil 9999 hu _ _ _) rfl (fun a ha => by cases ha) (fun ha => by cases ha)
    · rename_i e hu
      obtain rfl := Option.some.inj h
      obtain ⟨l, cap, ad, -, rfl, -⟩ := hx.msl_inv
      exact isEq_mk (eqIn_slnil 9999 hu _ _ _) rfl (fun a ha => by cases ha) (fun ha => by cases ha)
    · cases h
  · obtain rfl : vy = .pointer none := by cases hy; rfl
    split at h
    · rename_i e hu
      obtain rfl := Option.some.inj h
      obtain rfl : vx = .pointer none := by cases hx; rfl
      exact isEq_mk (eqIn_nilp 9999 hu) rfl (fun a ha => by cases ha) (fun ha => by cases ha)
    · rename_i e hu
      obtain rfl := Option.some.inj h
      obtain ⟨l, -, rfl⟩ := hx.ptr_inv
      exact isEq_mk (eqIn_pnil 9999 hu _) rfl (fun a ha => by cases ha) (fun ha => by cases ha)
    · rename_i e hu
      obtain rfl := Option.some.inj h
      obtain ⟨c, base, rfl, -⟩ := hx.iptr_inv
      exact isEq_mk (eqIn_pnil 9999 hu _) rfl (fun a ha => by cases ha) (fun ha => by cases ha)
    · cases h
  · obtain rfl : vy = .nilFunc := by cases hy; rfl
    split at h
    · rename_i p1 p2 p3 hu
      obtain rfl := Option.some.inj h
      obtain rfl : vx = .nilFunc := by cases hx; rfl
      exact isEq_mk (eqIn_nilf 9999 hu) rfl (fun a ha => by cases ha) (fun ha => by cases ha)
    · rename_i p1 p2 p3 hu
      obtain rfl := Option.some.inj h
      obtain ⟨a1, a2, a3, rfl⟩ : ∃ a1 a2 a3, vx = .func a1 a2 a3 := by cases hx; exact ⟨_, _, _, rfl⟩
      exact isEq_mk (eqIn_fnil 9999 hu _ _ _) rfl (fun a ha => by cases ha) (fun ha => by cases ha)
    · cases h
  · obtain rfl : vy = .nilIface := by cases hy; rfl
    split at h
    · rename_i ms hu
      obtain rfl := Option.some.inj h
      obtain ⟨a1, a2, rfl⟩ : ∃ a1 a2, vx = .iface a1 a2 := by cases hx; exact ⟨_, _, rfl⟩
      exact isEq_mk (eqIn_inil 9999 hu _ _) rfl (fun a ha => by cases ha) (fun ha => by cases ha)
    · cases h
  · cases hg : aggGuard P t x with
    | true => simp [hg] at h
    | false =>
      simp only [hg, cond_false] at h
      have hr := deq_run (P := P) (w := w) (Im := Im) (φ := φ) 8 10000 t x y vx vy b hx hy h (by omega)
      unfold deq at h
      split at h
      · obtain rfl := hx.bool_inv
        obtain rfl := hy.bool_inv
        exact isEq_mk hr rfl (fun a ha => by cases ha) (fun ha => by cases ha)
      · exact absurd ⟨rfl, rfl⟩ (hint _ _ _ _)
      · exact absurd ⟨rfl, rfl⟩ (hstr _ _)
      · obtain ⟨vs1, rfl, h1, h2⟩ := hx.agg_inv
        obtain ⟨vs2, rfl, h3, h4⟩ := hy.agg_inv
        exact isEq_mk hr rfl (fun a ha => by simpa [aggGuard] using hg) (fun ha => by cases ha)
      · obtain ⟨vs1, rfl, h1, h2⟩ := hx.agg_inv
        obtain ⟨vs2, rfl, h3, h4⟩ := hy.agg_inv
        exact isEq_mk hr rfl (fun a ha => by simpa [aggGuard] using hg) (fun ha => by cases ha)
      · cases h

theorem bin_sat (hi : Inv w Im φ σ) (op : BinOp) (t : TypeId) (ox oy : Operand) {x y : D} {vx vy : Value} (hx : Rel w Im φ x vx) (hy : Rel w Im φ y vy) :
    SatV P w Im φ σ (do eqGuard op t ox oy vx vy; binOp op t vx vy) (binD P op t x y σ) := by
  have lift : ∀ (r : ARes), (∀ a, vx = .agg a → P.eqGuardType P.depth t = false) → (vx = .nilIface → vy ≠ .nilIface) → SatV P w Im φ σ (binOp op t vx vy) r → SatV P w Im φ σ (do eqGuard op t ox oy vx vy; binOp op t vx vy) r := by
    intro r h1 h2
    have hg := eqGuard_run (P := P) (w := w) (op := op) (t := t) (x := ox) (y := oy) h1 h2
    have key : ∀ {u : World} , (do eqGuard op t ox oy vx vy; binOp op t vx vy : Sem Value).run P w = (binOp op t vx vy).run P w := by simp [hg]
    induction r with
    | ok d s => rintro ⟨v, w', φ', h3, h4⟩; exact ⟨v, w', φ', by rw [key (u := w)]; exact h3, h4⟩
    | need b k ih => exact fun h hb => ih (h hb)
    | split b k ih => exact fun h => ih _ h
    | row r k ih => exact fun h x hx => ih x (h x hx)
    | str r k ih => exact fun h x hx => ih x (h x hx)
    | call => exact fun h => h
    | bad => exact fun h => h
  have hEq0 : (∀ k n k' m, ¬ (x = .int k n ∧ y = .int k' m)) → (∀ l m, ¬ (x = .str l ∧ y = .str m)) → ∀ op', op' = op →
      SatV P w Im φ σ (do eqGuard op t ox oy vx vy; binOp op t vx vy) (match op' with | .eql => .opt ((eqlD P t x y).map .bool) σ | .neq => .opt ((eqlD P t x y).map fun b => .bool (!b)) σ | _ => .bad) := by
    intro h1 h2 op' hop
    cases op' <;> first | trivial | skip
    · subst hop
      cases hq : eqlD P t x y with
      | none => trivial
      | some b =>
        obtain ⟨g1, g2, g3, g4⟩ := eql_run hx hy hq h1 h2
        exact lift _ g3 g4 (SatV.pure hi ⟨_, g1, .bool _⟩)
    · subst hop
      cases hq : eqlD P t x y with
      | none => trivial
      | some b =>
        obtain ⟨g1, g2, g3, g4⟩ := eql_run hx hy hq h1 h2
        exact lift _ g3 g4 (SatV.pure hi ⟨_, g2, .bool _⟩)
  unfold binD
  split
  · rename_i k a k' b
    obtain rfl := hx.int_inv
    obtain rfl := hy.int_inv
    exact lift _ (fun a ha => by cases ha) (fun ha => by cases ha) (intBin_sat hi op t k k' a b)
  · rename_i a b
    obtain ⟨s1, rfl, rfl⟩ := hx.str_inv
    obtain ⟨s2, rfl, rfl⟩ := hy.str_inv
    refine lift _ (fun a ha => by cases ha) (fun ha => by cases ha) ?_
    split
    · exact SatV.pure hi ⟨_, by simp [binOp, Op.stringOp, toList_data], .bool _⟩
    · exact SatV.pure hi ⟨_, by simp [binOp, Op.stringOp, toList_data], .bool _⟩
    · exact SatV.pure hi ⟨_, by simp [binOp, Op.stringOp, toList_data], .bool _⟩
    · intro hb
      have hb' : ¬ (((s1.size + s2.size : Nat) : Int) > IntKind.i64.max) := by
        have := of_decide_eq_true hb
        simp only [Array.length_toList] at this
        have e1 : s1.data.size = s1.size := rfl
        have e2 : s2.data.size = s2.size := rfl
        rw [e1, e2] at this
        omega
      refine SatV.pure hi ⟨_, by simp only [binOp, Op.stringOp, if_neg hb']; rfl, .str _ _ (by simp)⟩
    · trivial
  · rename_i h1 h2
    exact hEq0 (fun k n k' m ⟨e1, e2⟩ => h1 _ _ _ _ e1 e2) (fun l m ⟨e1, e2⟩ => h2 _ _ e1 e2) op rfl

end
end Go.RX
