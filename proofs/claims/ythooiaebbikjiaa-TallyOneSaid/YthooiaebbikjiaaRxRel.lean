/-
  RX, the relation between abstract and concrete: values, stores, steps.
-/
import Derived.Test.YthooiaebbikjiaaRxRun
import Derived.Laws.IdiomCopy
import Derived.Laws.NewBlocks
import Derived.Deep.AppendSrc
import Derived.Room.Entries
import Derived.Deep.MidRow
namespace Go.RX

structure Loc where
  blk : Nat
  base : Nat
  sz : Nat
  size : Nat

abbrev Phi := List Loc

/-- A row of scalars. -/
def RowOk (sz : Nat) (r : List D) : Prop := r.length = sz ∧ r.all scal = true

/-- A datum stands for a value: 'Im' the blocks that nobody writes to, 'φ' where the local blocks lie. -/
inductive Rel (w : World) (Im : Nat → Prop) : Phi → D → Value → Prop
  | undef {φ} (v : Value) : Rel w Im φ .undef v
  | bool {φ} (b : Bool) : Rel w Im φ (.bool b) (.bool b)
  | int {φ} (k : IntKind) (n : Int) : Rel w Im φ (.int k n) (.int k n)
  | str {φ} (s : ByteArray) (l : List UInt8) : s.data.toList = l → Rel w Im φ (.str l) (.string s)
  | nilp {φ} : Rel w Im φ .nilp (.pointer none)
  | ptr {φ} (b i o : Nat) (l : Loc) : φ[b]? = some l → Rel w Im φ (.ptr b i o) (.pointer (some ⟨l.blk, l.base + i * l.sz + o, none⟩))
  | iptr {φ} (sz : Nat) (rows : List (List D)) (i o c base : Nat) (vf : Nat → Nat → Value) : Im c → (∀ r ∈ rows, RowOk sz r) →
      (∀ (i j : Nat) (r : List D) (d : D), rows[i]? = some r → r[j]? = some d → w.cell? ⟨c, base + i * sz + j, none⟩ = some (vf i j)) →
      (∀ (i j : Nat) (r : List D) (d : D), rows[i]? = some r → r[j]? = some d → Rel w Im [] d (vf i j)) →
      Rel w Im φ (.iptr sz rows i o) (.pointer (some ⟨c, base + i * sz + o, none⟩))
  | nilsl {φ} (sz : Nat) : Rel w Im φ (.sl true sz []) (.slice none 0 0)
  | sl {φ} (sz : Nat) (rows : List (List D)) (c base cap : Nat) (vf : Nat → Nat → Value) : (rows ≠ [] → Im c) → (∀ r ∈ rows, RowOk sz r) → rows.length ≤ cap →
      (∀ (i j : Nat) (r : List D) (d : D), rows[i]? = some r → r[j]? = some d → w.cell? ⟨c, base + i * sz + j, none⟩ = some (vf i j)) →
      (∀ (i j : Nat) (r : List D) (d : D), rows[i]? = some r → r[j]? = some d → Rel w Im [] d (vf i j)) →
      Rel w Im φ (.sl false sz rows) (.slice (some ⟨c, base, none⟩) rows.length cap)
  | msl {φ} (b i len lo : Nat) (ex : Bool) (l : Loc) (cap : Nat) (a : Addr) : φ[b]? = some l → len ≤ lo → lo ≤ cap → (ex = true → cap = lo) → l.base + (i + cap) * l.sz ≤ l.size → a.spot = none →
      (cap ≠ 0 → a = ⟨l.blk, l.base + i * l.sz, none⟩) → Rel w Im φ (.msl b i len lo ex) (.slice (some a) len cap)
  | fn {φ} (f : FuncId) (first caps : List D) (vf vc : Array Value) : first.length = vf.size → caps.length = vc.size →
      (∀ (i : Nat) (d : D) (v : Value), first[i]? = some d → vf[i]? = some v → Rel w Im φ d v) → (∀ (i : Nat) (d : D) (v : Value), caps[i]? = some d → vc[i]? = some v → Rel w Im φ d v) →
      Rel w Im φ (.fn f first caps) (.func (.func f) vf vc)
  | nilfn {φ} : Rel w Im φ .nilfn .nilFunc
  | agg {φ} (cs : List D) (vs : Array Value) : cs.length = vs.size → (∀ (i : Nat) (d : D) (v : Value), cs[i]? = some d → vs[i]? = some v → Rel w Im φ d v) → Rel w Im φ (.agg cs) (.agg vs)
  | tup {φ} (cs : List D) (vs : Array Value) : cs.length = vs.size → (∀ (i : Nat) (d : D) (v : Value), cs[i]? = some d → vs[i]? = some v → Rel w Im φ d v) → Rel w Im φ (.tup cs) (.tuple vs)
  | iface {φ} (t : TypeId) (d : D) (v : Value) : Rel w Im φ d v → Rel w Im φ (.iface t d) (.iface t v)
  | nili {φ} : Rel w Im φ .nili .nilIface

/-- φ' knows what φ knows. -/
def PhiLe (φ φ' : Phi) : Prop := ∀ (b : Nat) (l : Loc), φ[b]? = some l → φ'[b]? = some l

theorem PhiLe.refl (φ : Phi) : PhiLe φ φ := fun _ _ h => h
theorem PhiLe.trans {a b c : Phi} (h : PhiLe a b) (h' : PhiLe b c) : PhiLe a c := fun _ _ x => h' _ _ (h _ _ x)
theorem PhiLe.nil (φ : Phi) : PhiLe [] φ := fun b l h => by simp at h
theorem PhiLe.append (φ ψ : Phi) : PhiLe φ (φ ++ ψ) := fun b l h => by
  have := (List.getElem?_eq_some_iff.1 h).1
  rw [List.getElem?_append_left this]; exact h

theorem cell_of_heap {w w' : World} {a : Addr} (h : w'.heap[a.block]? = w.heap[a.block]?) : w'.cell? a = w.cell? a := by
  simp only [World.cell?, h]
theorem frozen_of_heap {w w' : World} {a : Addr} (h : w'.heap[a.block]? = w.heap[a.block]?) : w'.frozen? a = w.frozen? a := by
  simp only [World.frozen?, h]

theorem Rel.mono {w w' : World} {Im Im' : Nat → Prop} {φ φ' : Phi} {d : D} {v : Value} (h : Rel w Im φ d v)
    (hIm : ∀ c, Im c → Im' c) (hw : ∀ c, Im c → w'.heap[c]? = w.heap[c]?) (hφ : PhiLe φ φ') : Rel w' Im' φ' d v := by
  induction h generalizing φ' with
  | undef v => exact .undef v
  | bool b => exact .bool b
  | int k n => exact .int k n
  | str s l h => exact .str s l h
  | nilp => exact .nilp
  | ptr b i o l h => exact .ptr b i o l (hφ _ _ h)
  | iptr sz rows i o c base vf hc hr hcell _ ih =>
    exact .iptr sz rows i o c base vf (hIm _ hc) hr (fun i j r d h1 h2 => by rw [cell_of_heap (hw _ hc)]; exact hcell i j r d h1 h2) (fun i j r d h1 h2 => ih i j r d h1 h2 (PhiLe.refl _))
  | nilsl sz => exact .nilsl sz
  | sl sz rows c base cap vf hc hr hl hcell _ ih =>
    exact .sl sz rows c base cap vf (fun h => hIm _ (hc h)) hr hl (fun i j r d h1 h2 => by rw [cell_of_heap (hw _ (hc (fun e => by rw [e] at h1; simp at h1)))]; exact hcell i j r d h1 h2) (fun i j r d h1 h2 => ih i j r d h1 h2 (PhiLe.refl _))
  | msl b i len lo ex l cap a h h1 h2 h3 h4 h5 h6 => exact .msl b i len lo ex l cap a (hφ _ _ h) h1 h2 h3 h4 h5 h6
  | fn f first caps vf vc h1 h2 _ _ ih1 ih2 => exact .fn f first caps vf vc h1 h2 (fun i d v a b => ih1 i d v a b hφ) (fun i d v a b => ih2 i d v a b hφ)
  | nilfn => exact .nilfn
  | agg cs vs h _ ih => exact .agg cs vs h (fun i d v a b => ih i d v a b hφ)
  | tup cs vs h _ ih => exact .tup cs vs h (fun i d v a b => ih i d v a b hφ)
  | iface t d v _ ih => exact .iface t d v (ih hφ)
  | nili => exact .nili

theorem Rel.one {w : World} {Im : Nat → Prop} {φ : Phi} {d : D} {v : Value} (h : Rel w Im φ d v) (hs : scal d = true) : v.oneCell' = true := by
  cases h <;> first | rfl | simp [scal] at hs

/-- What holds no name of a local block stands for the same without them. -/
theorem Rel.closed {w : World} {Im : Nat → Prop} {φ : Phi} {d : D} {v : Value} (h : Rel w Im φ d v) (hs : scal d = true) (hr : hasRef1 d = false) : Rel w Im [] d v := by
  cases h with
  | undef => simp [scal] at hs
  | bool b => exact .bool b
  | int k n => exact .int k n
  | str s l h => exact .str s l h
  | nilp => exact .nilp
  | ptr b i o l h => simp [hasRef1] at hr
  | iptr sz rows i o c base vf hc hq hcell ih => exact .iptr sz rows i o c base vf hc hq hcell ih
  | nilsl sz => exact .nilsl sz
  | sl sz rows c base cap vf hc hq hl hcell ih => exact .sl sz rows c base cap vf hc hq hl hcell ih
  | msl => simp [hasRef1] at hr
  | fn f first caps vf vc h1 h2 h3 h4 =>
    simp [hasRef1] at hr
    obtain ⟨rfl, rfl⟩ := hr
    exact .fn f [] [] vf vc h1 h2 (fun i d v a => by simp at a) (fun i d v a => by simp at a)
  | nilfn => exact .nilfn
  | agg => simp [scal] at hs
  | tup => simp [scal] at hs
  | iface => simp [hasRef1] at hr
  | nili => exact .nili

/-! ### stores -/
structure BlkOk (w : World) (Im : Nat → Prop) (φ : Phi) (B : Blk) (l : Loc) : Prop where
  sz : l.sz = B.sz
  len : ∀ r ∈ B.rows, RowOk B.sz r
  fit : l.base + B.rows.length * B.sz ≤ l.size
  mem : ∀ o, o < l.size → (w.cell? ⟨l.blk, o, none⟩).isSome = true ∧ w.frozen? ⟨l.blk, o, none⟩ = false
  lt : l.blk < w.heap.size
  rel : ∀ (i j : Nat) (r : List D) (d : D), B.rows[i]? = some r → r[j]? = some d → ∃ v, w.cell? ⟨l.blk, l.base + i * B.sz + j, none⟩ = some v ∧ Rel w Im (if B.deep then φ else []) d v

theorem sget_some {σ : Sto} {b : Nat} {B : Blk} : sget σ b = some B ↔ σ[b]? = some (some B) := by
  unfold sget; split <;> simp_all
theorem sget_lt {σ : Sto} {b : Nat} {B : Blk} (h : sget σ b = some B) : b < σ.length := (List.getElem?_eq_some_iff.1 (sget_some.1 h)).1

def Own (φ : Phi) (σ : Sto) (c : Nat) : Prop := ∃ (b : Nat) (B : Blk) (l : Loc), φ[b]? = some l ∧ sget σ b = some B ∧ l.blk = c

structure Inv (w : World) (Im : Nat → Prop) (φ : Phi) (σ : Sto) : Prop where
  len : φ.length = σ.length
  blk : ∀ (b : Nat) (B : Blk) (l : Loc), sget σ b = some B → φ[b]? = some l → BlkOk w Im φ B l
  inj : ∀ (b b' : Nat) (B B' : Blk) (l l' : Loc), b ≠ b' → φ[b]? = some l → φ[b']? = some l' → sget σ b = some B → sget σ b' = some B' → l.blk ≠ l'.blk
  sep : ∀ c, Im c → ¬ Own φ σ c
  im : ∀ c, Im c → c < w.heap.size

theorem Inv.loc {w : World} {Im : Nat → Prop} {φ : Phi} {σ : Sto} (h : Inv w Im φ σ) {b : Nat} {B : Blk} (hb : sget σ b = some B) : ∃ l, φ[b]? = some l ∧ BlkOk w Im φ B l := by
  have := sget_lt hb
  rw [← h.len] at this
  exact ⟨φ[b], List.getElem?_eq_getElem this, h.blk b B _ hb (List.getElem?_eq_getElem this)⟩

theorem Inv.own_lt {w : World} {Im : Nat → Prop} {φ : Phi} {σ : Sto} (h : Inv w Im φ σ) {c : Nat} (hc : Own φ σ c) : c < w.heap.size := by
  obtain ⟨b, B, l, h1, h2, rfl⟩ := hc
  exact (h.blk b B l h2 h1).lt

theorem Inv.nil {w : World} {Im : Nat → Prop} (h : ∀ c, Im c → c < w.heap.size) : Inv w Im [] [] where
  len := rfl
  blk := fun b B l h => by simp [sget] at h
  inj := fun b b' B B' l l' _ h => by simp at h
  sep := fun c _ ⟨b, B, l, h, _⟩ => by simp at h
  im := h

/-- What is outside the heap is as it was. -/
def Io (w w' : World) : Prop := w'.os = w.os ∧ w'.tape = w.tape ∧ w'.output = w.output
theorem Io.refl (w : World) : Io w w := ⟨rfl, rfl, rfl⟩
theorem Io.trans {a b c : World} (h : Io a b) (k : Io b c) : Io a c := ⟨k.1.trans h.1, k.2.1.trans h.2.1, k.2.2.trans h.2.2⟩

structure Ext (w w' : World) (O : Nat → Prop) : Prop where
  size : w.heap.size ≤ w'.heap.size
  same : ∀ c, c < w.heap.size → ¬ O c → w'.heap[c]? = w.heap[c]?
  io : Io w w'

/-- From one state to a later one: the first m blocks keep their places. -/
structure Tr (m : Nat) (w : World) (Im : Nat → Prop) (φ : Phi) (σ : Sto) (w' : World) (Im' : Nat → Prop) (φ' : Phi) (σ' : Sto) : Prop where
  ext : Ext w w' (Own φ σ)
  own : ∀ c, Own φ' σ' c → Own φ σ c ∨ w.heap.size ≤ c
  pre : ∀ (b : Nat), b < m → φ'[b]? = φ[b]?
  im : ∀ c, Im c → Im' c
  imN : ∀ c, Im' c → Im c ∨ Own φ σ c ∨ w.heap.size ≤ c

theorem Tr.refl (m : Nat) (w : World) (Im : Nat → Prop) (φ : Phi) (σ : Sto) : Tr m w Im φ σ w Im φ σ :=
  ⟨⟨Nat.le_refl _, fun _ _ _ => rfl, ⟨rfl, rfl, rfl⟩⟩, fun _ h => .inl h, fun _ _ => rfl, fun _ h => h, fun _ h => .inl h⟩

theorem Tr.trans {m : Nat} {w1 w2 w3 : World} {I1 I2 I3 : Nat → Prop} {φ1 φ2 φ3 : Phi} {σ1 σ2 σ3 : Sto}
    (a : Tr m w1 I1 φ1 σ1 w2 I2 φ2 σ2) (b : Tr m w2 I2 φ2 σ2 w3 I3 φ3 σ3) : Tr m w1 I1 φ1 σ1 w3 I3 φ3 σ3 where
  ext := ⟨Nat.le_trans a.ext.size b.ext.size, fun c hc ho => by
    rw [b.ext.same c (Nat.lt_of_lt_of_le hc a.ext.size) (fun h => by rcases a.own c h with h | h; exact ho h; omega)]
    exact a.ext.same c hc ho, a.ext.io.trans b.ext.io⟩
  own := fun c h => by
    rcases b.own c h with h | h
    · exact a.own c h
    · exact .inr (Nat.le_trans a.ext.size h)
  pre := fun i hi => by rw [b.pre i hi, a.pre i hi]
  im := fun c h => b.im c (a.im c h)
  imN := fun c h => by
    rcases b.imN c h with h | h | h
    · exact a.imN c h
    · rcases a.own c h with h | h
      · exact .inr (.inl h)
      · exact .inr (.inr h)
    · exact .inr (.inr (Nat.le_trans a.ext.size h))

theorem Tr.le {m n : Nat} {w w' : World} {I I' : Nat → Prop} {φ φ' : Phi} {σ σ' : Sto} (h : Tr m w I φ σ w' I' φ' σ') (hn : n ≤ m) : Tr n w I φ σ w' I' φ' σ' :=
  ⟨h.ext, h.own, fun b hb => h.pre b (by omega), h.im, h.imN⟩

/-- Immutable blocks stay as they are. -/
theorem Tr.keeps {m : Nat} {w w' : World} {I I' : Nat → Prop} {φ φ' : Phi} {σ σ' : Sto} (h : Tr m w I φ σ w' I' φ' σ') (hi : Inv w I φ σ) (c : Nat) (hc : I c) : w'.heap[c]? = w.heap[c]? :=
  h.ext.same c (hi.im c hc) (hi.sep c hc)

theorem Tr.rel {m : Nat} {w w' : World} {I I' : Nat → Prop} {φ φ' : Phi} {σ σ' : Sto} (h : Tr m w I φ σ w' I' φ' σ') (hi : Inv w I φ σ) (hφ : PhiLe φ φ') {d : D} {v : Value}
    (hr : Rel w I φ d v) : Rel w' I' φ' d v := hr.mono h.im (h.keeps hi) hφ

/-- What the tape drew is nothing. -/
theorem Tr.drew (m : Nat) (w : World) (Im : Nat → Prop) (φ : Phi) (σ : Sto) : Tr m w Im φ σ w.drew Im φ σ :=
  ⟨⟨Nat.le_refl _, fun _ _ _ => rfl, ⟨rfl, rfl, rfl⟩⟩, fun _ h => .inl h, fun _ _ => rfl, fun _ h => h, fun _ h => .inl h⟩

theorem BlkOk.of_heap {w w' : World} {Im Im' : Nat → Prop} {φ φ' : Phi} {B : Blk} {l : Loc} (h : BlkOk w Im φ B l) (hh : w'.heap[l.blk]? = w.heap[l.blk]?) (hsz : w.heap.size ≤ w'.heap.size)
    (hIm : ∀ c, Im c → Im' c) (hw : ∀ c, Im c → w'.heap[c]? = w.heap[c]?) (hφ : PhiLe φ φ') : BlkOk w' Im' φ' B l where
  sz := h.sz
  len := h.len
  fit := h.fit
  mem := fun o ho => by rw [cell_of_heap (a := ⟨l.blk, o, none⟩) hh, frozen_of_heap (a := ⟨l.blk, o, none⟩) hh]; exact h.mem o ho
  lt := Nat.lt_of_lt_of_le h.lt hsz
  rel := fun i j r d h1 h2 => by
    obtain ⟨v, hv, hr⟩ := h.rel i j r d h1 h2
    refine ⟨v, by rw [cell_of_heap (a := ⟨l.blk, _, none⟩) hh]; exact hv, hr.mono hIm hw ?_⟩
    split
    · exact hφ
    · exact PhiLe.refl _

theorem Inv.drew {w : World} {Im : Nat → Prop} {φ : Phi} {σ : Sto} (h : Inv w Im φ σ) : Inv w.drew Im φ σ :=
  ⟨h.len, fun b B l h1 h2 => (h.blk b B l h1 h2).of_heap rfl (Nat.le_refl _) (fun _ h => h) (fun _ _ => rfl) (PhiLe.refl _), h.inj, h.sep, h.im⟩

theorem sget_append_left {σ τ : Sto} {b : Nat} (h : b < σ.length) : sget (σ ++ τ) b = sget σ b := by
  unfold sget; rw [List.getElem?_append_left h]
theorem sget_append_self {σ : Sto} {B : Option Blk} : sget (σ ++ [B]) σ.length = B := by
  unfold sget; simp; cases B <;> rfl
theorem sget_append_cases {σ : Sto} {B : Option Blk} {b : Nat} {B' : Blk} (h : sget (σ ++ [B]) b = some B') : (b < σ.length ∧ sget σ b = some B') ∨ (b = σ.length ∧ B = some B') := by
  have hl := sget_lt h
  simp at hl
  by_cases hb : b < σ.length
  · rw [sget_append_left hb] at h; exact .inl ⟨hb, h⟩
  · have : b = σ.length := by omega
    subst this
    rw [sget_append_self] at h; exact .inr ⟨rfl, h⟩

theorem phi_append_cases {φ : Phi} {l l' : Loc} {b : Nat} (h : (φ ++ [l])[b]? = some l') : (b < φ.length ∧ φ[b]? = some l') ∨ (b = φ.length ∧ l' = l) := by
  have hl := (List.getElem?_eq_some_iff.1 h).1
  simp at hl
  by_cases hb : b < φ.length
  · rw [List.getElem?_append_left hb] at h; exact .inl ⟨hb, h⟩
  · have : b = φ.length := by omega
    subst this
    simp at h; exact .inr ⟨rfl, h.symm⟩

/-- A new block. -/
theorem Inv.alloc {w : World} {Im : Nat → Prop} {φ : Phi} {σ : Sto} (h : Inv w Im φ σ) (cs : Array Value) (e : TypeId) (fz : Nat × Nat) (B : Blk)
    (hfz : ∀ o, o < cs.size → ¬ (fz.1 ≤ o ∧ o < fz.2)) (hlen : ∀ r ∈ B.rows, RowOk B.sz r) (hfit : B.rows.length * B.sz ≤ cs.size)
    (hrel : ∀ (i j : Nat) (r : List D) (d : D), B.rows[i]? = some r → r[j]? = some d → ∃ v, cs[i * B.sz + j]? = some v ∧ Rel w Im (if B.deep then φ else []) d v) :
    Inv (w.alloc (.cells cs e fz)) Im (φ ++ [⟨w.heap.size, 0, B.sz, cs.size⟩]) (σ ++ [some B]) ∧
    Tr φ.length w Im φ σ (w.alloc (.cells cs e fz)) Im (φ ++ [⟨w.heap.size, 0, B.sz, cs.size⟩]) (σ ++ [some B]) := by
  have hsame : ∀ c, c < w.heap.size → (w.alloc (.cells cs e fz)).heap[c]? = w.heap[c]? := fun c hc => by
    rw [show (w.alloc (.cells cs e fz)).heap = w.heap.push (.cells cs e fz) from rfl, Array.getElem?_push]; simp [Nat.ne_of_lt hc]
  have hnew : (w.alloc (.cells cs e fz)).heap[w.heap.size]? = some (.cells cs e fz) := by rw [show (w.alloc (.cells cs e fz)).heap = w.heap.push (.cells cs e fz) from rfl]; simp
  have hφ : PhiLe φ (φ ++ [⟨w.heap.size, 0, B.sz, cs.size⟩]) := PhiLe.append _ _
  have hw : ∀ c, Im c → (w.alloc (.cells cs e fz)).heap[c]? = w.heap[c]? := fun c hc => hsame c (h.im c hc)
  have hown : ∀ c, Own (φ ++ [⟨w.heap.size, 0, B.sz, cs.size⟩]) (σ ++ [some B]) c → Own φ σ c ∨ w.heap.size ≤ c := by
    rintro c ⟨b, B', l, h1, h2, rfl⟩
    rcases sget_append_cases h2 with ⟨hb, h2⟩ | ⟨hb, _⟩
    · rcases phi_append_cases h1 with ⟨_, h1⟩ | ⟨hb', _⟩
      · exact .inl ⟨b, B', l, h1, h2, rfl⟩
      · have := h.len; omega
    · rcases phi_append_cases h1 with ⟨hb', _⟩ | ⟨_, rfl⟩
      · have := h.len; omega
      · exact .inr (Nat.le_refl _)
  refine ⟨⟨by simp [h.len], ?_, ?_, ?_, fun c hc => by have := h.im c hc; simp; omega⟩, ⟨⟨by simp, fun c hc _ => hsame c hc, ⟨rfl, rfl, rfl⟩⟩, hown, fun b hb => by rw [List.getElem?_append_left hb], fun _ h => h, fun _ h => .inl h⟩⟩
  · intro b B' l h1 h2
    rcases sget_append_cases h1 with ⟨hb, h1⟩ | ⟨hb, hB⟩
    · rcases phi_append_cases h2 with ⟨_, h2⟩ | ⟨hb', _⟩
      · have hk := h.blk b B' l h1 h2
        exact hk.of_heap (hsame _ hk.lt) (by simp) (fun _ h => h) hw hφ
      · have := h.len; omega
    · rcases phi_append_cases h2 with ⟨hb', _⟩ | ⟨_, rfl⟩
      · have := h.len; omega
      · obtain rfl := Option.some.inj hB
        refine ⟨rfl, hlen, by simpa using hfit, fun o ho => ?_, by simp, fun i j r d h3 h4 => ?_⟩
        · simp only at ho
          refine ⟨by simp only [World.cell?, hnew]; simp [ho], ?_⟩
          have := hfz o ho
          simp only [World.frozen?, hnew]
          rw [Bool.and_eq_false_iff]
          simp only [decide_eq_false_iff_not]
          by_cases h5 : fz.1 ≤ o
          · exact .inr (fun h6 => this ⟨h5, h6⟩)
          · exact .inl h5
        · obtain ⟨v, hv, hr⟩ := hrel i j r d h3 h4
          refine ⟨v, by simp only [World.cell?, hnew]; simpa using hv, hr.mono (fun _ h => h) hw ?_⟩
          split
          · exact hφ
          · exact PhiLe.refl _
  · intro b b' B1 B2 l l' hne h1 h2 h3 h4
    rcases sget_append_cases h3 with ⟨hb, h3⟩ | ⟨hb, _⟩ <;> rcases sget_append_cases h4 with ⟨hb', h4⟩ | ⟨hb', _⟩
    · rw [List.getElem?_append_left (by rw [h.len]; exact hb)] at h1
      rw [List.getElem?_append_left (by rw [h.len]; exact hb')] at h2
      exact h.inj b b' B1 B2 l l' hne h1 h2 h3 h4
    · rw [List.getElem?_append_left (by rw [h.len]; exact hb)] at h1
      rw [hb', ← h.len] at h2
      simp at h2
      have := (h.blk b B1 l h3 h1).lt
      rw [← h2]; simp; omega
    · rw [List.getElem?_append_left (by rw [h.len]; exact hb')] at h2
      rw [hb, ← h.len] at h1
      simp at h1
      have := (h.blk b' B2 l' h4 h2).lt
      rw [← h1]; simp; omega
    · omega
  · intro c hc ho
    rcases hown c ho with ho | ho
    · exact h.sep c hc ho
    · have := h.im c hc; omega

theorem heap_setCells (b : Nat) : ∀ (vs : List Value) (o : Nat) (w : World) (c : Nat), c ≠ b → (w.setCells b o vs).heap[c]? = w.heap[c]?
  | [], _, _, _, _ => rfl
  | v :: r, o, w, c, h => by
    rw [World.setCells, heap_setCells b r (o + 1) _ c h]
    simp [World.setCell, Array.getElem?_modify, Ne.symm h]
theorem size_setCells (b : Nat) : ∀ (vs : List Value) (o : Nat) (w : World), (w.setCells b o vs).heap.size = w.heap.size
  | [], _, _ => rfl
  | v :: r, o, w => by rw [World.setCells, size_setCells b r (o + 1)]; simp

theorem io_setCells (b : Nat) : ∀ (vs : List Value) (o : Nat) (w : World), Io w (w.setCells b o vs)
  | [], _, w => Io.refl w
  | v :: r, o, w => (show Io w (w.setCell ⟨b, o, none⟩ v) from ⟨rfl, rfl, rfl⟩).trans (io_setCells b r (o + 1) _)

theorem sget_set_self {σ : Sto} {b : Nat} {B : Option Blk} (h : b < σ.length) : sget (σ.set b B) b = B := by
  unfold sget; simp [h]; cases B <;> rfl
theorem sget_set_ne {σ : Sto} {b c : Nat} {B : Option Blk} (h : b ≠ c) : sget (σ.set b B) c = sget σ c := by
  unfold sget; rw [List.getElem?_set_ne h]

/-- A block is overwritten (as rows), its place stays. -/
theorem Inv.write {w : World} {Im : Nat → Prop} {φ : Phi} {σ : Sto} (h : Inv w Im φ σ) {b : Nat} {B B' : Blk} {l : Loc} (hb : sget σ b = some B) (hl : φ[b]? = some l)
    (o : Nat) (vs : List Value) (ho : o + vs.length ≤ l.size) (hsz : B'.sz = B.sz) (hlen : ∀ r ∈ B'.rows, RowOk B.sz r) (hfit : l.base + B'.rows.length * B.sz ≤ l.size)
    (hrel : ∀ (i j : Nat) (r : List D) (d : D), B'.rows[i]? = some r → r[j]? = some d →
      (o ≤ l.base + i * B.sz + j ∧ l.base + i * B.sz + j < o + vs.length ∧ ∃ v, vs[l.base + i * B.sz + j - o]? = some v ∧ Rel w Im (if B'.deep then φ else []) d v) ∨
      ((l.base + i * B.sz + j < o ∨ o + vs.length ≤ l.base + i * B.sz + j) ∧ ∃ r', B.rows[i]? = some r' ∧ r'[j]? = some d))
    (hdeep : B.deep = true → B'.deep = true) :
    Inv (w.setCells l.blk o vs) Im φ (σ.set b (some B')) ∧ Tr φ.length w Im φ σ (w.setCells l.blk o vs) Im φ (σ.set b (some B')) := by
  have hk := h.blk b B l hb hl
  have hblt := sget_lt hb
  have hsame : ∀ c, c ≠ l.blk → (w.setCells l.blk o vs).heap[c]? = w.heap[c]? := fun c hc => heap_setCells _ _ _ _ _ hc
  have hown0 : Own φ σ l.blk := ⟨b, B, l, hl, hb, rfl⟩
  have hw : ∀ c, Im c → (w.setCells l.blk o vs).heap[c]? = w.heap[c]? := fun c hc => hsame c (fun e => h.sep c hc (e ▸ hown0))
  have hown : ∀ c, Own φ (σ.set b (some B')) c → Own φ σ c := by
    rintro c ⟨b1, B1, l1, h1, h2, rfl⟩
    by_cases hbb : b = b1
    · subst hbb; exact ⟨b, B, l1, h1, hb, rfl⟩
    · rw [sget_set_ne hbb] at h2; exact ⟨b1, B1, l1, h1, h2, rfl⟩
  refine ⟨⟨by simp [h.len], ?_, ?_, fun c hc ho => h.sep c hc (hown c ho), fun c hc => by rw [size_setCells]; exact h.im c hc⟩,
    ⟨⟨by rw [size_setCells]; exact Nat.le_refl _, fun c _ hno => hsame c (fun e => hno (e ▸ hown0)), io_setCells _ _ _ _⟩, fun c hc => .inl (hown c hc), fun _ _ => rfl, fun _ h => h, fun _ h => .inl h⟩⟩
  · intro b1 B1 l1 h1 h2
    by_cases hbb : b = b1
    · subst hbb
      rw [sget_set_self hblt] at h1
      obtain rfl := Option.some.inj h1
      obtain rfl := Option.some.inj (hl.symm.trans h2)
      refine ⟨by rw [hk.sz, hsz], by rw [hsz]; exact hlen, by rw [hsz]; exact hfit, fun p hp => ?_, by rw [size_setCells]; exact hk.lt, fun i j r d h3 h4 => ?_⟩
      · rw [World.frozen?_setCells]
        refine ⟨?_, (hk.mem p hp).2⟩
        by_cases hin : o ≤ p ∧ p < o + vs.length
        · have := World.cell?_setCells_in l.blk vs o w (fun j hj => (hk.mem (o + j) (by omega)).1) (p - o) (by omega)
          rw [show o + (p - o) = p by omega] at this
          simp [this]
        · rw [World.cell?_setCells_out _ _ _ _ _ (fun _ _ => by simp only; omega)]
          exact (hk.mem p hp).1
      · rw [hsz]
        rcases hrel i j r d h3 h4 with ⟨h5, h6, v, hv, hr⟩ | ⟨h5, r', h6, h7⟩
        · refine ⟨v, ?_, hr.mono (fun _ h => h) hw (PhiLe.refl _)⟩
          have := World.cell?_setCells_in l.blk vs o w (fun j hj => (hk.mem (o + j) (by omega)).1) (l.base + i * B.sz + j - o) (by omega)
          rw [show o + (l.base + i * B.sz + j - o) = l.base + i * B.sz + j by omega] at this
          rw [this]
          rw [List.getElem?_eq_getElem (by omega)] at hv
          exact hv
        · obtain ⟨v, hv, hr⟩ := hk.rel i j r' d h6 h7
          refine ⟨v, ?_, ?_⟩
          · rw [World.cell?_setCells_out _ _ _ _ _ (fun _ _ => by simp only; exact h5)]; exact hv
          · refine hr.mono (fun _ h => h) hw ?_
            cases hd : B.deep
            · exact PhiLe.nil _
            · simp only [hdeep hd, if_true]; exact PhiLe.refl _
    · rw [sget_set_ne hbb] at h1
      have hk1 := h.blk b1 B1 l1 h1 h2
      have hne : l1.blk ≠ l.blk := h.inj b1 b B1 B l1 l (Ne.symm hbb) h2 hl h1 hb
      exact hk1.of_heap (hsame _ hne) (by rw [size_setCells]; exact Nat.le_refl _) (fun _ h => h) hw (PhiLe.refl _)
  · intro b1 b2 B1 B2 l1 l2 hne h1 h2 h3 h4
    obtain ⟨B1', h3'⟩ : ∃ B1', sget σ b1 = some B1' := by
      by_cases hbb : b = b1
      · subst hbb; exact ⟨B, hb⟩
      · rw [sget_set_ne hbb] at h3; exact ⟨B1, h3⟩
    obtain ⟨B2', h4'⟩ : ∃ B2', sget σ b2 = some B2' := by
      by_cases hbb : b = b2
      · subst hbb; exact ⟨B, hb⟩
      · rw [sget_set_ne hbb] at h4; exact ⟨B2, h4⟩
    exact h.inj b1 b2 B1' B2' l1 l2 hne h1 h2 h3' h4'

/-- A block is given up. -/
theorem Inv.drop {w : World} {Im : Nat → Prop} {φ : Phi} {σ : Sto} (h : Inv w Im φ σ) (b : Nat) : Inv w Im φ (σ.set b none) ∧ Tr φ.length w Im φ σ w Im φ (σ.set b none) := by
  have hg : ∀ c B, sget (σ.set b none) c = some B → sget σ c = some B := fun c B hc => by
    by_cases hbb : b = c
    · subst hbb
      have hl := sget_lt hc
      rw [sget_set_self (by simpa using hl)] at hc
      cases hc
    · rwa [sget_set_ne hbb] at hc
  have hown : ∀ c, Own φ (σ.set b none) c → Own φ σ c := fun c ⟨b1, B1, l1, h1, h2, h3⟩ => ⟨b1, B1, l1, h1, hg _ _ h2, h3⟩
  exact ⟨⟨by simp [h.len], fun c B l h1 h2 => h.blk c B l (hg _ _ h1) h2, fun b1 b2 B1 B2 l1 l2 hne h1 h2 h3 h4 => h.inj b1 b2 B1 B2 l1 l2 hne h1 h2 (hg _ _ h3) (hg _ _ h4),
      fun c hc ho => h.sep c hc (hown c ho), h.im⟩,
    ⟨⟨Nat.le_refl _, fun _ _ _ => rfl, ⟨rfl, rfl, rfl⟩⟩, fun c hc => .inl (hown c hc), fun _ _ => rfl, fun _ h => h, fun _ h => .inl h⟩⟩

end Go.RX
