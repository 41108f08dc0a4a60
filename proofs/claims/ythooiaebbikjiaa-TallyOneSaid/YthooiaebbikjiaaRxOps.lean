/-
  RX, the operations: what 'aop' answers is what the model's 'execOp' does. First part: values, allocation, loads, stores.
-/
import Derived.Test.YthooiaebbikjiaaRxRel
namespace Go.RX
open Go

structure Good (w : World) (Im : Nat → Prop) (φ : Phi) (σ : Sto) (w' : World) (φ' : Phi) (σ' : Sto) (d : D) (v : Value) : Prop where
  le : PhiLe φ φ'
  tr : Tr φ.length w Im φ σ w' Im φ' σ'
  inv : Inv w' Im φ' σ'
  rel : Rel w' Im φ' d v

section
variable {P : Program} {w : World} {Im : Nat → Prop} {φ : Phi} {σ : Sto}

theorem Good.refl (hi : Inv w Im φ σ) {d : D} {v : Value} (h : Rel w Im φ d v) : Good w Im φ σ w φ σ d v :=
  ⟨PhiLe.refl _, Tr.refl _ _ _ _ _, hi, h⟩

variable (P w Im φ σ) in
def SatV (s : Sem Value) : ARes → Prop
  | .ok d σ' => ∃ v w' φ', s.run P w = .ok v w' ∧ Good w Im φ σ w' φ' σ' d v
  | .need b k => b = true → SatV s k
  | .split b k => SatV s (k b)
  | .row r k => ∀ x, r = some x → SatV s (k x)
  | .str r k => ∀ x, r = some x → SatV s (k x)
  | .call _ _ => False
  | .bad => True

variable (P w Im φ σ) in
def SatA (s : Sem Next) : ARes → Prop
  | .ok d σ' => ∃ v w' φ', (s.run P w = .ok (.value v) w' ∨ (s.run P w = .ok .skip w' ∧ v = undef)) ∧ Good w Im φ σ w' φ' σ' d v
  | .need b k => b = true → SatA s k
  | .split b k => SatA s (k b)
  | .row r k => ∀ x, r = some x → SatA s (k x)
  | .str r k => ∀ x, r = some x → SatA s (k x)
  | .call f args => ∃ vs : Array Value, s.run P w = .ok (.enter f vs) w ∧ args.length = vs.size ∧ ∀ (i : Nat) (d : D) (v : Value), args[i]? = some d → vs[i]? = some v → Rel w Im φ d v
  | .bad => True

variable (P w Im φ) in
/-- Only looked at: neither world nor blocks turn. -/
def SatP (s : Sem Value) : ARes → Prop
  | .ok d _ => ∃ v, s.run P w = .ok v w ∧ Rel w Im φ d v
  | .need b k => b = true → SatP s k
  | .split b k => SatP s (k b)
  | .row r k => ∀ x, r = some x → SatP s (k x)
  | .str r k => ∀ x, r = some x → SatP s (k x)
  | .call _ _ => False
  | .bad => True

/-- The store that is handed on is this one. -/
def Keeps (σ : Sto) : ARes → Prop
  | .ok _ σ' => σ' = σ
  | .need _ k => Keeps σ k
  | .split _ k => ∀ b, Keeps σ (k b)
  | .row _ k => ∀ x, Keeps σ (k x)
  | .str _ k => ∀ x, Keeps σ (k x)
  | .call _ _ => True
  | .bad => True

theorem SatP.toV (hi : Inv w Im φ σ) {s : Sem Value} : ∀ {r : ARes}, SatP P w Im φ s r → Keeps σ r → SatV P w Im φ σ s r
  | .ok d σ', ⟨v, h1, h2⟩, hk => by
    have hk' : σ' = σ := hk
    subst hk'
    exact ⟨v, w, φ, h1, Good.refl hi h2⟩
  | .need b k, h, hk => fun hb => SatP.toV hi (h hb) hk
  | .split b k, h, hk => SatP.toV hi (r := k b) h (hk b)
  | .row r k, h, hk => fun x hx => SatP.toV hi (h x hx) (hk x)
  | .str r k, h, hk => fun x hx => SatP.toV hi (h x hx) (hk x)
  | .call _ _, h, _ => h.elim
  | .bad, _, _ => trivial

theorem SatP.opt {s : Sem Value} {o : Option D} (h : ∀ d, o = some d → ∃ v, s.run P w = .ok v w ∧ Rel w Im φ d v) : SatP P w Im φ s (ARes.opt o σ) := by
  cases o with
  | none => trivial
  | some d => exact h d rfl
theorem Keeps.opt (o : Option D) : Keeps σ (ARes.opt o σ) := by
  cases o with
  | none => trivial
  | some d => exact rfl

theorem SatV.toA {s : Sem Value} : ∀ {r : ARes}, SatV P w Im φ σ s r → SatA P w Im φ σ (do pure (.value (← s))) r
  | .ok d σ', ⟨v, w', φ', h1, h2⟩ => ⟨v, w', φ', .inl (by simp [h1]), h2⟩
  | .need b k, h => fun hb => SatV.toA (h hb)
  | .split b k, h => SatV.toA (r := k b) h
  | .row r k, h => fun x hx => SatV.toA (h x hx)
  | .str r k, h => fun x hx => SatV.toA (h x hx)
  | .call _ _, h => h.elim
  | .bad, _ => trivial

theorem SatV.opt {s : Sem Value} {o : Option D} (hi : Inv w Im φ σ) (h : ∀ d, o = some d → ∃ v, s.run P w = .ok v w ∧ Rel w Im φ d v) : SatV P w Im φ σ s (ARes.opt o σ) := by
  cases o with
  | none => trivial
  | some d => obtain ⟨v, h1, h2⟩ := h d rfl; exact ⟨v, w, φ, h1, Good.refl hi h2⟩

theorem rel_ofScal (v : Value) : Rel w Im φ (ofScal v) v := by
  unfold ofScal
  split
  · exact .bool _
  · exact .int _ _
  · exact .str _ _ rfl
  · exact .nilp
  · exact .nilsl _
  · split
    · rename_i h
      exact .fn _ _ _ _ _ h.1.symm h.2.symm (fun i d v a => by simp at a) (fun i d v a => by simp at a)
    · exact .undef _
  · exact .nilfn
  · exact .nili
  · exact .undef _

theorem rel_ofConst (v : Value) : Rel w Im φ (ofConst v) v := by
  unfold ofConst
  split
  · rename_i cs
    refine .agg _ _ (by simp) (fun i d v h1 h2 => ?_)
    simp only [List.getElem?_map, Array.getElem?_toList, h2, Option.map_some, Option.some.injEq] at h1
    rw [← h1]; exact rel_ofScal v
  · exact rel_ofScal _

theorem cells_one {v : Value} (h : v.oneCell' = true) : v.cells = #[v] := by
  cases v <;> first | rfl | simp [Value.oneCell'] at h

/-- A datum's cells. -/
theorem rel_cells {d : D} {v : Value} (h : Rel w Im φ d v) {cs : List D} (hc : cellsD d = some cs) :
    cs.length = v.cells.size ∧ ∀ (i : Nat) (d' : D) (v' : Value), cs[i]? = some d' → v.cells[i]? = some v' → Rel w Im φ d' v' := by
  by_cases hs : scal d = true
  · have h1 : cs = [d] := by cases d <;> simp_all [cellsD, scal]
    subst h1
    rw [cells_one (h.one hs)]
    refine ⟨by simp, fun i d' v' h1 h2 => ?_⟩
    cases i with
    | zero => simp at h1 h2; subst h1; subst h2; exact h
    | succ i => simp at h1
  · cases h <;> simp [scal] at hs
    · simp [cellsD] at hc
    · rename_i cs' vs h1 h2
      simp [cellsD] at hc
      subst hc
      exact ⟨h1, h2⟩
    · simp [cellsD] at hc

theorem chunk_length (sz : Nat) : ∀ (n : Nat) (cs : List D), (chunk sz n cs).length = n
  | 0, _ => rfl
  | n + 1, cs => by simp [chunk, chunk_length sz n]

theorem chunk_rows (sz : Nat) : ∀ (n : Nat) (cs : List D), n * sz ≤ cs.length → ∀ r ∈ chunk sz n cs, r.length = sz
  | 0, _, _, r, hr => by simp [chunk] at hr
  | n + 1, cs, h, r, hr => by
    have h1 : sz + n * sz ≤ cs.length := by rw [Nat.add_mul] at h; omega
    simp only [chunk, List.mem_cons] at hr
    rcases hr with rfl | hr
    · simp; omega
    · exact chunk_rows sz n (cs.drop sz) (by simp; omega) r hr

theorem chunk_get (sz : Nat) : ∀ (n : Nat) (cs : List D) (i j : Nat) (r : List D) (d : D), (chunk sz n cs)[i]? = some r → r[j]? = some d → cs[i * sz + j]? = some d ∧ j < sz
  | 0, _, i, j, r, d, h, _ => by simp [chunk] at h
  | n + 1, cs, 0, j, r, d, h, h2 => by
    simp only [chunk, List.getElem?_cons_zero, Option.some.injEq] at h
    subst h
    rw [List.getElem?_take] at h2
    split at h2
    · rename_i hj; simp only [Nat.zero_mul, Nat.zero_add]; exact ⟨h2, hj⟩
    · cases h2
  | n + 1, cs, i + 1, j, r, d, h, h2 => by
    simp only [chunk, List.getElem?_cons_succ] at h
    obtain ⟨h3, h4⟩ := chunk_get sz n (cs.drop sz) i j r d h h2
    rw [List.getElem?_drop] at h3
    rw [show (i + 1) * sz + j = sz + (i * sz + j) by rw [Nat.add_mul]; omega]
    exact ⟨h3, h4⟩

theorem chunk_ok {sz n : Nat} {cs : List D} (h : n * sz ≤ cs.length) (hs : cs.all scal = true) : ∀ r ∈ chunk sz n cs, RowOk sz r := fun r hr => by
  refine ⟨chunk_rows sz n cs h r hr, List.all_eq_true.2 fun d hd => ?_⟩
  obtain ⟨i, hi⟩ := List.getElem?_of_mem hr
  obtain ⟨j, hj⟩ := List.getElem?_of_mem hd
  exact List.all_eq_true.1 hs d (List.mem_of_getElem? (chunk_get sz n cs i j r d hi hj).1)

theorem any_false {cs : List D} (h : cs.any hasRef1 = false) {i : Nat} {d : D} (hd : cs[i]? = some d) : hasRef1 d = false := by
  rw [List.any_eq_false] at h
  simpa using h d (List.mem_of_getElem? hd)
theorem all_scal {cs : List D} (h : cs.all scal = true) {i : Nat} {d : D} (hd : cs[i]? = some d) : scal d = true :=
  List.all_eq_true.1 h d (List.mem_of_getElem? hd)

/-- Related cells, where a block's cells are asked for. -/
theorem rel_flag {b : Bool} {cs : List D} (hs : cs.all scal = true) (hb : cs.any hasRef1 = true → b = true) {i : Nat} {d : D} {v : Value} (hd : cs[i]? = some d) (h : Rel w Im φ d v) : Rel w Im (if b then φ else []) d v := by
  cases b with
  | true => exact h
  | false =>
    have hf : cs.any hasRef1 = false := by cases hh : cs.any hasRef1 with | false => rfl | true => exact absurd (hb hh) (by simp)
    exact h.closed (all_scal hs hd) (any_false hf hd)

theorem szOf_some {t : TypeId} {n : Nat} (h : szOf P t = some n) (w : World) : (sizeOf t).run P w = .ok n w := by
  unfold szOf at h
  cases hi : P.info? t with
  | none => simp [hi] at h
  | some i => simp [hi] at h; subst h; simp [sizeOf, typeInfo, hi]

theorem zeroD_some {t : TypeId} {z : D} (h : zeroD P t = some z) : ∃ i v, P.info? t = some i ∧ i.zero = some v ∧ z = ofConst v := by
  unfold zeroD at h
  cases hi : P.info? t with
  | none => simp [hi] at h
  | some i =>
    cases hz : i.zero with
    | none => simp [hi, hz] at h
    | some v => simp [hi, hz] at h; exact ⟨i, v, rfl, hz, h.symm⟩

theorem tyOf_some {t : TypeId} {n : Nat} {ag : Bool} (h : tyOf P t = some (n, ag)) (w : World) : (isAgg t).run P w = .ok ag w ∧ (sizeOf t).run P w = .ok n w := by
  unfold tyOf at h
  cases hs : szOf P t with
  | none => simp [hs] at h
  | some m =>
    cases hd : P.underlying t with
    | none => simp [hs, hd] at h
    | some d =>
      simp only [hs, hd, Option.some.injEq, Prod.mk.injEq] at h
      obtain ⟨rfl, rfl⟩ := h
      refine ⟨?_, szOf_some hs w⟩
      unfold isAgg
      rw [Sem.run_bind, run_underlying hd w]
      cases d <;> simp [rowT]


theorem phi_self (h : φ.length = σ.length) (l : Loc) : (φ ++ [l])[σ.length]? = some l := by rw [← h]; simp

theorem alloc_sat (hi : Inv w Im φ σ) {t : TypeId} {d : D} {v : Value} (hr : Rel w Im φ d v) {s : Sem Value}
    (hs : s.run P w = .ok (.pointer (some ⟨w.heap.size, 0, none⟩)) (w.alloc (.cells v.cells t))) : SatV P w Im φ σ s (allocD P t d σ) := by
  unfold allocD
  cases hB : newBlk P t d with
  | none => trivial
  | some B =>
    unfold newBlk at hB
    split at hB
    · rename_i cs n sz h1 h2 h3
      split at hB
      · rename_i hc
        obtain ⟨hc1, hc2, hc3, hc4⟩ := hc
        obtain rfl := Option.some.inj hB
        obtain ⟨hl, hcell⟩ := rel_cells hr h1
        have hfit : (chunk sz (n / sz) cs).length * sz ≤ v.cells.size := by rw [chunk_length, ← hc4, ← hc1, hl]; exact Nat.le_refl _
        obtain ⟨a1, a2⟩ := hi.alloc v.cells t (0, 0) ⟨sz, cs.any hasRef1, chunk sz (n / sz) cs⟩ (fun o _ => by omega)
          (chunk_ok (by rw [← hc4, hc1]; exact Nat.le_refl _) hc2) hfit
          (fun i j r d hi' hj' => by
            obtain ⟨g1, g2⟩ := chunk_get sz (n / sz) cs i j r d hi' hj'
            have hlt := (List.getElem?_eq_some_iff.1 g1).1
            rw [hl] at hlt
            refine ⟨v.cells[i * sz + j], by simp [hlt], ?_⟩
            exact rel_flag hc2 (fun h => h) g1 (hcell _ _ _ g1 (by simp [hlt])))
        refine ⟨_, _, _, hs, PhiLe.append _ _, a2, a1, ?_⟩
        have := Rel.ptr (w := w.alloc (.cells v.cells t)) (Im := Im) σ.length 0 0 _ (phi_self hi.len ⟨w.heap.size, 0, sz, v.cells.size⟩)
        simpa using this
      · cases hB
    · cases hB

theorem box_sat (hi : Inv w Im φ σ) {t : TypeId} {d : D} {v : Value} (hr : Rel w Im φ d v) : SatV P w Im φ σ (Instr.box t v) (allocD P t d σ) :=
  alloc_sat hi hr (by simp [Instr.box, newVar, newRow])

theorem allocOp_sat (hi : Inv w Im φ σ) {t : TypeId} : SatV P w Im φ σ (Instr.alloc t true (.tuple #[])) (match zeroD P t with | some z => allocD P t z σ | none => .bad) := by
  cases hz : zeroD P t with
  | none => trivial
  | some z =>
    obtain ⟨i, v, h1, h2, rfl⟩ := zeroD_some hz
    exact alloc_sat hi (rel_ofConst v) (by simp [Instr.alloc, zeroValue, typeInfo, h1, h2, newVar, newRow])

/-! ### loads -/
variable (w Im) in
/-- Rows in memory. -/
def RowsAt (ψ : Phi) (c base sz : Nat) (rows : List (List D)) : Prop :=
  (∀ r ∈ rows, RowOk sz r) ∧ ∀ (i j : Nat) (r : List D) (d : D), rows[i]? = some r → r[j]? = some d → ∃ v, w.cell? ⟨c, base + i * sz + j, none⟩ = some v ∧ Rel w Im ψ d v

theorem BlkOk.rowsAt {B : Blk} {l : Loc} (h : BlkOk w Im φ B l) : RowsAt w Im (if B.deep then φ else []) l.blk l.base B.sz B.rows := ⟨h.len, h.rel⟩

theorem BlkOk.rowsAt' {B : Blk} {l : Loc} (h : BlkOk w Im φ B l) : RowsAt w Im φ l.blk l.base B.sz B.rows :=
  ⟨h.len, fun i j r d h1 h2 => by
    obtain ⟨v, hv, hr⟩ := h.rel i j r d h1 h2
    exact ⟨v, hv, hr.mono (fun _ h => h) (fun _ _ => rfl) (by split; exact PhiLe.refl _; exact PhiLe.nil _)⟩⟩

theorem RowsAt.mono {ψ ψ' : Phi} {c base sz : Nat} {rows : List (List D)} (h : RowsAt w Im ψ c base sz rows) (hp : PhiLe ψ ψ') : RowsAt w Im ψ' c base sz rows :=
  ⟨h.1, fun i j r d h1 h2 => let ⟨v, hv, hr⟩ := h.2 i j r d h1 h2; ⟨v, hv, hr.mono (fun _ h => h) (fun _ _ => rfl) hp⟩⟩

theorem Rel.ptr_inv {b i o : Nat} {v : Value} (h : Rel w Im φ (.ptr b i o) v) : ∃ l, φ[b]? = some l ∧ v = .pointer (some ⟨l.blk, l.base + i * l.sz + o, none⟩) := by
  cases h with | ptr b i o l h => exact ⟨l, h, rfl⟩
theorem Rel.iptr_inv {sz i o : Nat} {rows : List (List D)} {v : Value} (h : Rel w Im φ (.iptr sz rows i o) v) :
    ∃ c base, v = .pointer (some ⟨c, base + i * sz + o, none⟩) ∧ Im c ∧ RowsAt w Im [] c base sz rows := by
  cases h with | iptr sz rows i o c base vf h1 h2 h3 h4 => exact ⟨c, base, rfl, h1, h2, fun i j r d a b => ⟨_, h3 i j r d a b, h4 i j r d a b⟩⟩
theorem Rel.sl_inv {sz : Nat} {rows : List (List D)} {v : Value} (h : Rel w Im φ (.sl false sz rows) v) :
    ∃ c base cap, v = .slice (some ⟨c, base, none⟩) rows.length cap ∧ rows.length ≤ cap ∧ (rows ≠ [] → Im c) ∧ RowsAt w Im [] c base sz rows := by
  cases h with | sl sz rows c base cap vf h1 h2 h3 h4 h5 => exact ⟨c, base, cap, rfl, h3, h1, h2, fun i j r d a b => ⟨_, h4 i j r d a b, h5 i j r d a b⟩⟩
theorem Rel.nilsl_inv {sz : Nat} {rows : List (List D)} {v : Value} (h : Rel w Im φ (.sl true sz rows) v) : v = .slice none 0 0 ∧ rows = [] := by
  cases h with | nilsl => exact ⟨rfl, rfl⟩
theorem Rel.msl_inv {b i len lo : Nat} {ex : Bool} {v : Value} (h : Rel w Im φ (.msl b i len lo ex) v) :
    ∃ l cap a, φ[b]? = some l ∧ v = .slice (some a) len cap ∧ len ≤ lo ∧ lo ≤ cap ∧ (ex = true → cap = lo) ∧ l.base + (i + cap) * l.sz ≤ l.size ∧ a.spot = none ∧ (cap ≠ 0 → a = ⟨l.blk, l.base + i * l.sz, none⟩) := by
  cases h with | msl b i len lo ex l cap a h h1 h2 h3 h4 h5 h6 => exact ⟨l, cap, a, h, rfl, h1, h2, h3, h4, h5, h6⟩
theorem Rel.int_inv {k : IntKind} {n : Int} {v : Value} (h : Rel w Im φ (.int k n) v) : v = .int k n := by cases h; rfl
theorem Rel.bool_inv {b : Bool} {v : Value} (h : Rel w Im φ (.bool b) v) : v = .bool b := by cases h; rfl
theorem Rel.str_inv {l : List UInt8} {v : Value} (h : Rel w Im φ (.str l) v) : ∃ s : ByteArray, v = .string s ∧ s.data.toList = l := by cases h with | str s l h => exact ⟨s, rfl, h⟩
theorem Rel.agg_inv {cs : List D} {v : Value} (h : Rel w Im φ (.agg cs) v) : ∃ vs : Array Value, v = .agg vs ∧ cs.length = vs.size ∧ ∀ (i : Nat) (d : D) (v : Value), cs[i]? = some d → vs[i]? = some v → Rel w Im φ d v := by
  cases h with | agg cs vs h1 h2 => exact ⟨vs, rfl, h1, h2⟩
theorem Rel.tup_inv {cs : List D} {v : Value} (h : Rel w Im φ (.tup cs) v) : ∃ vs : Array Value, v = .tuple vs ∧ cs.length = vs.size ∧ ∀ (i : Nat) (d : D) (v : Value), cs[i]? = some d → vs[i]? = some v → Rel w Im φ d v := by
  cases h with | tup cs vs h1 h2 => exact ⟨vs, rfl, h1, h2⟩

theorem flatten_get (sz : Nat) : ∀ (rows : List (List D)), (∀ r ∈ rows, r.length = sz) → ∀ (p : Nat) (d : D), rows.flatten[p]? = some d → ∃ i j r, i * sz + j = p ∧ rows[i]? = some r ∧ r[j]? = some d
  | [], _, p, d, h => by simp at h
  | r :: rows, hr, p, d, h => by
    rw [List.flatten_cons] at h
    have hl := hr r (by simp)
    by_cases hp : p < r.length
    · rw [List.getElem?_append_left hp] at h
      exact ⟨0, p, r, by simp, rfl, h⟩
    · rw [List.getElem?_append_right (by omega)] at h
      obtain ⟨i, j, r', h1, h2, h3⟩ := flatten_get sz rows (fun x hx => hr x (by simp [hx])) _ _ h
      exact ⟨i + 1, j, r', by rw [Nat.add_mul]; omega, by simpa using h2, h3⟩

theorem flatten_len (sz : Nat) : ∀ (rows : List (List D)), (∀ r ∈ rows, r.length = sz) → rows.flatten.length = rows.length * sz
  | [], _ => by simp
  | r :: rows, hr => by
    rw [List.flatten_cons, List.length_append, flatten_len sz rows (fun x hx => hr x (by simp [hx])), hr r (by simp), List.length_cons, Nat.add_mul]
    omega

theorem addr_add (c o j : Nat) : (⟨c, o, none⟩ : Addr).add j = ⟨c, o + j, none⟩ := by
  unfold Addr.add; split <;> simp_all

theorem loadCells_rel {ψ : Phi} {c o n : Nat} {ds : List D} (hl : ds.length = n) (h : ∀ (j : Nat) (d : D), ds[j]? = some d → ∃ v, w.cell? ⟨c, o + j, none⟩ = some v ∧ Rel w Im ψ d v) :
    ∃ vs : Array Value, (loadCells ⟨c, o, none⟩ n).run P w = .ok vs w ∧ Rel w Im ψ (.agg ds) (.agg vs) := by
  refine ⟨_, run_loadCells w ⟨c, o, none⟩ n (fun j => (w.cell? ⟨c, o + j, none⟩).getD undef) (fun j hj => ?_), .agg _ _ (by simp [hl]) (fun j d v h1 h2 => ?_)⟩
  · obtain ⟨v, hv, _⟩ := h j ds[j] (by simp [hl, hj])
    rw [addr_add, hv]; rfl
  · obtain ⟨v', hv, hr⟩ := h j d h1
    have hj := (List.getElem?_eq_some_iff.1 h1).1
    rw [hl] at hj
    simp [hj, hv] at h2
    rw [← h2]; exact hr

theorem readRow_satP {t : TypeId} {n : Nat} {ag : Bool} (ht : tyOf P t = some (n, ag)) {c base sz : Nat} {rows : List (List D)} (hrows : RowsAt w Im φ c base sz rows) (i o : Nat) :
    SatP P w Im φ (loadVar t ⟨c, base + i * sz + o, none⟩) (readRow rows sz i o n ag σ) := by
  obtain ⟨ha, hsz⟩ := tyOf_some ht w
  have hagg : ∀ ds : List D, ag = true → ds.length = n → (∀ (j : Nat) (d : D), ds[j]? = some d → ∃ v, w.cell? ⟨c, base + i * sz + o + j, none⟩ = some v ∧ Rel w Im φ d v) →
      ∃ v, (loadVar t ⟨c, base + i * sz + o, none⟩).run P w = .ok v w ∧ Rel w Im φ (.agg ds) v := by
    intro ds h1 h2 h3
    obtain ⟨vs, h4, h5⟩ := loadCells_rel (P := P) h2 h3
    refine ⟨.agg vs, ?_, h5⟩
    subst h1
    simp only [loadVar, Sem.run_bind, ha, Result.andThen_ok, if_true, hsz, h4, Sem.run_pure]
  unfold readRow
  split
  · rename_i hle
    intro r hr
    have hrl := (hrows.1 r (List.mem_of_getElem? hr)).1
    split
    · rename_i hag
      dsimp only
      rw [if_pos hrl]
      · refine hagg _ hag (by simp; omega) (fun j d hj => ?_)
        rw [List.getElem?_take] at hj
        split at hj
        · rw [List.getElem?_drop] at hj
          obtain ⟨v, hv, h5⟩ := hrows.2 i (o + j) r d hr hj
          exact ⟨v, by rw [show base + i * sz + o + j = base + i * sz + (o + j) by omega]; exact hv, h5⟩
        · cases hj
    · rename_i hag
      split
      · rename_i hn
        refine SatP.opt (fun d hd => ?_)
        obtain ⟨v, hv, h5⟩ := hrows.2 i o r d hr hd
        have hag' : ag = false := by cases ag <;> simp_all
        subst hag'
        refine ⟨v, ?_, h5⟩
        simp [loadVar, ha, hv]
      · trivial
  · split
    · rename_i hc
      obtain ⟨h1, h2, h3, h4⟩ := hc
      intro hb
      have hb' := Nat.le_of_ble_eq_true hb
      subst h1
      have hall : ∀ r ∈ (rows.drop i).take (n / sz), r.length = sz := fun r hr => (hrows.1 r (List.mem_of_mem_drop (List.mem_of_mem_take hr))).1
      refine hagg _ h2 ?_ (fun p d hp => ?_)
      · rw [flatten_len sz _ hall, List.length_take, List.length_drop, Nat.min_eq_left (by omega)]; exact h4.symm
      · obtain ⟨i', j, r, g1, g2, g3⟩ := flatten_get sz _ hall p d hp
        rw [List.getElem?_take] at g2
        split at g2
        · rw [List.getElem?_drop] at g2
          obtain ⟨v, hv, h5⟩ := hrows.2 (i + i') j r d g2 g3
          refine ⟨v, ?_, h5⟩
          rw [show base + i * sz + 0 + p = base + (i + i') * sz + j by rw [Nat.add_mul]; omega]; exact hv
        · cases g2
    · trivial

theorem load_satP (hi : Inv w Im φ σ) {t : TypeId} {p : D} {pv : Value} (hp : Rel w Im φ p pv) : SatP P w Im φ (Instr.loadAt t pv) (loadD P t p σ) := by
  unfold loadD
  split
  · trivial
  · rename_i n ag ht
    split
    · rename_i b i o
      split
      · rename_i B hB
        obtain ⟨l, hl, hk⟩ := hi.loc hB
        obtain ⟨l', hl', rfl⟩ := hp.ptr_inv
        obtain rfl := Option.some.inj (hl.symm.trans hl')
        have := readRow_satP (P := P) (σ := σ) ht hk.rowsAt' i o
        rw [hk.sz]
        simpa [Instr.loadAt, Instr.sureAddr] using this
      · trivial
    · rename_i sz rows i o
      obtain ⟨c, base, rfl, _, h2⟩ := hp.iptr_inv
      have := readRow_satP (P := P) (σ := σ) ht (h2.mono (PhiLe.nil φ)) i o
      simpa [Instr.loadAt, Instr.sureAddr] using this
    · trivial

theorem readRow_keeps (rows : List (List D)) (sz i o n : Nat) (ag : Bool) : Keeps σ (readRow rows sz i o n ag σ) := by
  unfold readRow
  split
  · intro x
    dsimp only
    by_cases h1 : ag = true
    · rw [if_pos h1]
      by_cases h2 : x.length = sz
      · rw [if_pos h2]; exact rfl
      · rw [if_neg h2]; trivial
    · rw [if_neg h1]
      by_cases h2 : n = 1
      · rw [if_pos h2]; cases x[o]? <;> exact (by first | exact rfl | trivial)
      · rw [if_neg h2]; trivial
  · split
    · exact rfl
    · trivial

theorem load_keeps (t : TypeId) (p : D) : Keeps σ (loadD P t p σ) := by
  unfold loadD
  split
  · trivial
  · split
    · split
      · exact readRow_keeps _ _ _ _ _ _
      · trivial
    · exact readRow_keeps _ _ _ _ _ _
    · trivial

theorem load_sat (hi : Inv w Im φ σ) {t : TypeId} {p : D} {pv : Value} (hp : Rel w Im φ p pv) : SatV P w Im φ σ (Instr.loadAt t pv) (loadD P t p σ) := (load_satP hi hp).toV hi (load_keeps t p)

/-! ### stores -/
theorem andThen_ok {α β : Type} {r : Result α} {f : α → World → Result β} {b : β} {w' : World} (h : r.andThen f = .ok b w') : ∃ a w1, r = .ok a w1 ∧ f a w1 = .ok b w' := by
  cases r with
  | ok a w1 => exact ⟨a, w1, rfl, h⟩
  | halt x w1 => cases h
theorem SatU {s : Sem Unit} : ∀ {r : ARes}, (SatV P w Im φ σ (do s; pure undef) r) → SatA P w Im φ σ (do s; pure .skip) r
  | .ok d σ', ⟨v, w', φ', h1, h2⟩ => by
    refine ⟨v, w', φ', .inr ?_, h2⟩
    simp only [Sem.run_bind] at h1 ⊢
    obtain ⟨a, w1, h3, h4⟩ := andThen_ok h1
    simp only [Sem.run_pure, Result.ok.injEq] at h4
    obtain ⟨rfl, rfl⟩ := h4
    exact ⟨by rw [h3]; rfl, rfl⟩
  | .need b k, h => fun hb => SatU (h hb)
  | .split b k, h => SatU (r := k b) h
  | .row r k, h => fun x hx => SatU (h x hx)
  | .str r k, h => fun x hx => SatU (h x hx)
  | .call _ _, h => h.elim
  | .bad, _ => trivial

/-- Some cells of a local block are overwritten. -/
theorem write_good (hi : Inv w Im φ σ) {b : Nat} {B B' : Blk} {l : Loc} (hb : sget σ b = some B) (hl : φ[b]? = some l) (o : Nat) (vs : List Value)
    (ho : l.base + o + vs.length ≤ l.size) (hsz : B'.sz = B.sz) (hlen : ∀ r ∈ B'.rows, RowOk B.sz r) (hfit : l.base + B'.rows.length * B.sz ≤ l.size)
    (hrel : ∀ (i j : Nat) (r : List D) (d : D), B'.rows[i]? = some r → r[j]? = some d →
      (o ≤ i * B.sz + j ∧ i * B.sz + j < o + vs.length ∧ ∃ v, vs[i * B.sz + j - o]? = some v ∧ Rel w Im (if B'.deep then φ else []) d v) ∨
      ((i * B.sz + j < o ∨ o + vs.length ≤ i * B.sz + j) ∧ ∃ r', B.rows[i]? = some r' ∧ r'[j]? = some d))
    (hdeep : B.deep = true → B'.deep = true) :
    Inv (w.setCells l.blk (l.base + o) vs) Im φ (σ.set b (some B')) ∧ Tr φ.length w Im φ σ (w.setCells l.blk (l.base + o) vs) Im φ (σ.set b (some B')) := by
  refine hi.write hb hl (l.base + o) vs ho hsz hlen hfit (fun i j r d h1 h2 => ?_) hdeep
  rcases hrel i j r d h1 h2 with ⟨h3, h4, v, h5, h6⟩ | ⟨h3, h4⟩
  · exact .inl ⟨by omega, by omega, v, by rw [show l.base + i * B.sz + j - (l.base + o) = i * B.sz + j - o by omega]; exact h5, h6⟩
  · exact .inr ⟨by omega, h4⟩

theorem storeVar_run {t : TypeId} {n : Nat} (ht : szOf P t = some n) {v : Value} (hn : v.cells.size = n) (h1 : ∀ u ∈ v.cells.toList, u.oneCell' = true) {c o : Nat}
    (hm : ∀ j, j < n → (w.cell? ⟨c, o + j, none⟩).isSome = true ∧ w.frozen? ⟨c, o + j, none⟩ = false) :
    (storeVar t ⟨c, o, none⟩ v).run P w = .ok () (w.setCells c o v.cells.toList) := by
  have := run_storeCells_cells (P := P) c o v.cells.toList 0 w (fun j hj => by simpa using (hm j (by simpa [hn] using hj)).1) (fun j hj => by simpa using (hm j (by simpa [hn] using hj)).2) h1
  simp only [Nat.add_zero] at this
  simp [storeVar, szOf_some ht, hn, this]

theorem splice_get {r cs : List D} {o n sz : Nat} (hr : r.length = sz) (hn : cs.length = n) (ho : o + n ≤ sz) {j : Nat} {d : D} (h : (r.take o ++ cs ++ r.drop (o + n))[j]? = some d) :
    (o ≤ j ∧ j < o + n ∧ cs[j - o]? = some d) ∨ ((j < o ∨ o + n ≤ j) ∧ r[j]? = some d) := by
  rw [List.append_assoc] at h
  by_cases h1 : j < o
  · rw [List.getElem?_append_left (by simp; omega), List.getElem?_take, if_pos h1] at h
    exact .inr ⟨.inl h1, h⟩
  · rw [List.getElem?_append_right (by simp; omega)] at h
    have ht : (r.take o).length = o := by simp; omega
    rw [ht] at h
    by_cases h2 : j < o + n
    · rw [List.getElem?_append_left (by omega)] at h
      exact .inl ⟨by omega, h2, h⟩
    · rw [List.getElem?_append_right (by omega), List.getElem?_drop] at h
      rw [show o + n + (j - o - cs.length) = j by omega] at h
      exact .inr ⟨.inr (by omega), h⟩

theorem splice_scal {r cs : List D} {o n : Nat} (hr : r.all scal = true) (hc : cs.all scal = true) : (r.take o ++ cs ++ r.drop n).all scal = true := by
  rw [List.all_eq_true] at hr hc ⊢
  intro d hd
  simp only [List.mem_append] at hd
  rcases hd with (hd | hd) | hd
  · exact hr d (List.mem_of_mem_take hd)
  · exact hc d hd
  · exact hr d (List.mem_of_mem_drop hd)

theorem one_cells {d : D} {v : Value} (h : Rel w Im φ d v) {cs : List D} (hc : cellsD d = some cs) (hs : cs.all scal = true) : ∀ u ∈ v.cells.toList, u.oneCell' = true := by
  obtain ⟨h1, h2⟩ := rel_cells h hc
  intro u hu
  obtain ⟨i, hlt, rfl⟩ := List.getElem_of_mem hu
  have hlt' : i < cs.length := by simp at hlt; omega
  exact (h2 i cs[i] _ (by simp [hlt']) (by simp at hlt; simp [hlt])).one (all_scal hs (by simp [hlt'] : cs[i]? = some cs[i]))

theorem index_split {a b sz i j : Nat} (hb : b < sz) (hj : j < sz) (h : i * sz + j = a * sz + b) : i = a ∧ j = b := by
  have h1 : (i * sz + j) / sz = i := by rw [Nat.add_comm, Nat.add_mul_div_right _ _ (by omega), Nat.div_eq_of_lt hj]; omega
  have h2 : (a * sz + b) / sz = a := by rw [Nat.add_comm, Nat.add_mul_div_right _ _ (by omega), Nat.div_eq_of_lt hb]; omega
  have : i = a := by rw [← h1, h, h2]
  subst this
  exact ⟨rfl, by omega⟩

theorem row_lt {sz i a j : Nat} (h : i < a) (hj : j < sz) : i * sz + j < a * sz := by
  have := Nat.mul_le_mul_right sz (show i + 1 ≤ a from h)
  rw [Nat.add_mul] at this
  omega

theorem store_sat (hi : Inv w Im φ σ) {t : TypeId} {p d : D} {pv v : Value} (hp : Rel w Im φ p pv) (hv : Rel w Im φ d v) :
    SatV P w Im φ σ (do Instr.storeAt t pv v; pure undef) (storeD P t p d σ) := by
  unfold storeD
  split
  · rename_i n cs b i o hn hcs
    split
    · rename_i B hB
      split
      · rename_i hc
        obtain ⟨hc1, hc2⟩ := hc
        obtain ⟨l, hl, hk⟩ := hi.loc hB
        obtain ⟨l', hl', rfl⟩ := hp.ptr_inv
        obtain rfl := Option.some.inj (hl.symm.trans hl')
        obtain ⟨hcl, hcr⟩ := rel_cells hv hcs
        have hvn : v.cells.size = n := by omega
        have h1 := one_cells hv hcs hc2
        have hfl : ∀ (k : Nat) (e : D) (u : Value), cs[k]? = some e → v.cells.toList[k]? = some u → Rel w Im (if B.deep || cs.any hasRef1 then φ else []) e u := fun k e u h2 h3 =>
          rel_flag hc2 (fun h => by simp [h]) h2 (hcr k e u h2 (by simpa using h3))
        have hcv : ∀ (k : Nat) (e : D), cs[k]? = some e → ∃ u, v.cells.toList[k]? = some u ∧ Rel w Im (if B.deep || cs.any hasRef1 then φ else []) e u := fun k e h2 => by
          have := (List.getElem?_eq_some_iff.1 h2).1
          exact ⟨v.cells.toList[k]'(by simp; omega), by simp, hfl k e _ h2 (by simp)⟩
        split
        · rename_i hle
          intro r hr
          have hrl := (hk.len r (List.mem_of_getElem? hr)).1
          have hrs := (hk.len r (List.mem_of_getElem? hr)).2
          have hilt := (List.getElem?_eq_some_iff.1 hr).1
          have hin : i * B.sz + o + n ≤ B.rows.length * B.sz := by
            have := Nat.mul_le_mul_right B.sz (show i + 1 ≤ B.rows.length from hilt)
            rw [Nat.add_mul] at this
            omega
          have hfit := hk.fit
          have hrun := storeVar_run (P := P) (w := w) (c := l.blk) (o := l.base + i * l.sz + o) hn hvn h1 (fun j hj => hk.mem _ (by rw [hk.sz]; omega))
          obtain ⟨a1, a2⟩ := write_good hi (B' := ⟨B.sz, B.deep || cs.any hasRef1, B.rows.set i (r.take o ++ cs ++ r.drop (o + n))⟩) hB hl (i * B.sz + o) v.cells.toList
            (by simp [hvn]; omega) rfl (fun x hx => by
              rcases List.mem_or_eq_of_mem_set hx with hx | rfl
              · exact hk.len x hx
              · exact ⟨by simp; omega, splice_scal hrs hc2⟩) (by simpa using hfit) (fun i' j x e g1 g2 => by
              simp only [Array.length_toList, hvn]
              simp only [List.getElem?_set] at g1
              by_cases hii : i = i'
              · subst hii
                simp only [if_true, hilt, Option.some.injEq] at g1
                subst g1
                rcases splice_get hrl hc1 hle g2 with ⟨g3, g4, g5⟩ | ⟨g3, g4⟩
                · obtain ⟨u, hu, hur⟩ := hcv _ _ g5
                  exact .inl ⟨by omega, by omega, u, by rw [show i * B.sz + j - (i * B.sz + o) = j - o by omega]; exact hu, hur⟩
                · exact .inr ⟨by omega, r, hr, g4⟩
              · simp only [if_neg hii] at g1
                refine .inr ⟨?_, x, g1, g2⟩
                have hxl := (hk.len x (List.mem_of_getElem? g1)).1
                have hj := (List.getElem?_eq_some_iff.1 g2).1
                rcases Nat.lt_or_ge i' i with hlt | hge
                · have := row_lt (sz := B.sz) (j := j) hlt (by omega); omega
                · have := Nat.mul_le_mul_right B.sz (show i + 1 ≤ i' by omega)
                  rw [Nat.add_mul] at this
                  omega) (fun h => by simp [h])
          refine ⟨undef, _, φ, ?_, PhiLe.refl _, a2, a1, .undef _⟩
          rw [hk.sz] at hrun ⊢
          simp only [Nat.add_assoc] at hrun
          simp [Instr.storeAt, Instr.sureAddr, hrun, Nat.add_assoc]
        · split
          · rename_i hc'
            obtain ⟨rfl, h2, h3⟩ := hc'
            intro hb
            have hb' := Nat.le_of_ble_eq_true hb
            have hfit := hk.fit
            have hin : i * B.sz + n ≤ B.rows.length * B.sz := by
              have := Nat.mul_le_mul_right B.sz hb'
              rw [Nat.add_mul] at this
              omega
            have hrun := storeVar_run (P := P) (w := w) (c := l.blk) (o := l.base + i * l.sz + 0) hn hvn h1 (fun j hj => hk.mem _ (by rw [hk.sz]; omega))
            have hcl' := chunk_length B.sz (n / B.sz) cs
            obtain ⟨a1, a2⟩ := write_good hi (B' := ⟨B.sz, B.deep || cs.any hasRef1, B.rows.take i ++ chunk B.sz (n / B.sz) cs ++ B.rows.drop (i + n / B.sz)⟩) hB hl (i * B.sz) v.cells.toList
              (by simp [hvn]; omega) rfl (fun x hx => by
                simp only [List.mem_append] at hx
                rcases hx with (hx | hx) | hx
                · exact hk.len x (List.mem_of_mem_take hx)
                · exact chunk_ok (by omega) hc2 x hx
                · exact hk.len x (List.mem_of_mem_drop hx)) (by
                  simp only [List.length_append, List.length_take, List.length_drop, hcl']
                  rw [show min i B.rows.length + n / B.sz + (B.rows.length - (i + n / B.sz)) = B.rows.length by omega]
                  exact hfit) (fun i' j x e g1 g2 => by
                simp only [Array.length_toList, hvn]
                rw [List.append_assoc] at g1
                by_cases q1 : i' < i
                · rw [List.getElem?_append_left (by simp; omega), List.getElem?_take, if_pos q1] at g1
                  have hj := (List.getElem?_eq_some_iff.1 g2).1
                  have hxl := (hk.len x (List.mem_of_getElem? g1)).1
                  have := row_lt (sz := B.sz) (j := j) q1 (by omega)
                  exact .inr ⟨by omega, x, g1, g2⟩
                · rw [List.getElem?_append_right (by simp; omega)] at g1
                  have ht : (B.rows.take i).length = i := by simp; omega
                  rw [ht] at g1
                  by_cases q2 : i' < i + n / B.sz
                  · rw [List.getElem?_append_left (by omega)] at g1
                    obtain ⟨g3, g4⟩ := chunk_get _ _ _ _ _ _ _ g1 g2
                    have g5 := (List.getElem?_eq_some_iff.1 g3).1
                    obtain ⟨u, hu, hur⟩ := hcv _ _ g3
                    have e1 : i' * B.sz = i * B.sz + (i' - i) * B.sz := by rw [← Nat.add_mul]; congr 1; omega
                    exact .inl ⟨by omega, by omega, u, by rw [show i' * B.sz + j - i * B.sz = (i' - i) * B.sz + j by omega]; exact hu, hur⟩
                  · rw [List.getElem?_append_right (by omega), List.getElem?_drop] at g1
                    rw [hcl', show i + n / B.sz + (i' - i - n / B.sz) = i' by omega] at g1
                    have := Nat.mul_le_mul_right B.sz (show i + n / B.sz ≤ i' by omega)
                    rw [Nat.add_mul] at this
                    exact .inr ⟨by omega, x, g1, g2⟩) (fun h => by simp [h])
            refine ⟨undef, _, φ, ?_, PhiLe.refl _, a2, a1, .undef _⟩
            rw [hk.sz] at hrun ⊢
            simp [Instr.storeAt, Instr.sureAddr] at hrun ⊢
            simp [hrun]
          · trivial
      · trivial
    · trivial
  · trivial

end
end Go.RX
