/-
  RX, the bridge to the rows: plain arguments, read as data.
-/
import Derived.Test.YthooiaebbikjiaaRxSound7
import Derived.WalkKit
import Derived.ProofKit
import Derived.OpenShut
import Derived.ShutString
import Derived.ChangeOld
import Derived.Below
import Derived.SizedLaws
set_option linter.unusedSimpArgs false
set_option linter.unusedVariables false
namespace Go.RX
open Go Go.ChangeShapes Go.WideShapes Go.RowKit

/-! ### what plain data are -/
section
variable (P : Program)
/-- The types stand one behind the other. -/
def tiles (pf : TypeId → Bool) : Nat → List Field → Option Nat
  | off, [] => some off
  | off, f :: r => bif Nat.beq f.offset off && pf f.type then tiles pf (off + P.cellsOf f.type) r else none

/-- No pointers: numbers, strings, booleans, structs and arrays of these. -/
def flatB : Nat → TypeId → Bool
  | 0, _ => false
  | n + 1, t => match P.underlying t with
    | some .bool | some (.int _) | some .string => P.cellsOf t == 1
    | some (.struct fs) => tiles P (flatB n) 0 fs.toList == some (P.cellsOf t)
    | some (.array m e) => flatB n e && P.cellsOf t == m * P.cellsOf e
    | _ => false

def wtL (wt : TypeId → List D → Prop) : List TypeId → List D → Prop
  | [], ds => ds = []
  | t :: r, ds => ∃ a b, ds = a ++ b ∧ wt t a ∧ wtL wt r b

def wtF : Nat → TypeId → List D → Prop
  | 0, _, _ => False
  | n + 1, t, ds => match P.underlying t with
    | some .bool => ∃ b, ds = [.bool b]
    | some (.int k) => ∃ m, ds = [.int k m] ∧ k.min ≤ m ∧ m ≤ k.max
    | some .string => ∃ s, ds = [.str s] ∧ s.length ≤ reachBytes
    | some (.struct fs) => wtL (wtF n) (fs.toList.map (·.type)) ds
    | some (.array m e) => wtL (wtF n) (List.replicate m e) ds
    | _ => False

/-- A parameter: flat, or a slice of what is flat. -/
def parB (t : TypeId) : Bool := match P.underlying t with
  | some (.slice e) => flatB P 6 e
  | some .bool | some (.int _) | some .string | some (.struct _) | some (.array _ _) => flatB P 6 t
  | _ => false

def wtP (t : TypeId) (d : D) : Prop := match P.underlying t with
  | some (.slice e) => ∃ nl rows, d = .sl nl (P.cellsOf e) rows ∧ (nl = true → rows = []) ∧ rows.length * P.bytesOf e ≤ reachBytes ∧ ∀ r ∈ rows, wtF P 6 e r
  | some (.struct _) | some (.array _ _) => ∃ cs, d = .agg cs ∧ wtF P 6 t cs
  | _ => wtF P 6 t [d]

def wtA : List TypeId → List D → Prop
  | [], ds => ds = []
  | t :: r, ds => ∃ d ds', ds = d :: ds' ∧ wtP P t d ∧ wtA r ds'
end

section
variable {P : Program} {w : World} {Im : Nat → Prop} {H : Type} {enc : TypeId × Value → H} {base : Nat} {spare : Nat → Bool} {held : Bool}

/-- Cells, as data. -/
def CR (w : World) (Im : Nat → Prop) (ds : List D) (cs : List Value) : Prop :=
  ds.length = cs.length ∧ ds.all scal = true ∧ ∀ (i : Nat) (d : D) (v : Value), ds[i]? = some d → cs[i]? = some v → Rel w Im [] d v

theorem CR.nil : CR w Im [] [] := ⟨rfl, rfl, fun i d v h => by simp at h⟩
theorem CR.one {d : D} {v : Value} (h : Rel w Im [] d v) (hs : scal d = true) : CR w Im [d] [v] :=
  ⟨rfl, by simp [hs], fun i d' v' h1 h2 => by cases i <;> simp at h1 h2; subst h1; subst h2; exact h⟩
theorem CR.append {a b : List D} {cs es : List Value} (h : CR w Im a cs) (k : CR w Im b es) : CR w Im (a ++ b) (cs ++ es) := by
  refine ⟨by simp [h.1, k.1], by rw [List.all_append, h.2.1, k.2.1]; rfl, fun i d v h1 h2 => ?_⟩
  rcases Nat.lt_or_ge i a.length with hlt | hge
  · rw [List.getElem?_append_left hlt] at h1
    rw [List.getElem?_append_left (by rw [← h.1]; exact hlt)] at h2
    exact h.2.2 i d v h1 h2
  · rw [List.getElem?_append_right hge] at h1
    rw [List.getElem?_append_right (by rw [← h.1]; exact hge), ← h.1] at h2
    exact k.2.2 _ d v h1 h2

theorem weights_all {e : TypeId} : ∀ {l : List (DataW H)} {d : DataW H} {n : Nat}, d ∈ l → n ∈ d.weights P e → n ∈ DataW.weightsAll P e l
  | x :: l, d, n, hd, hn => by
    simp only [DataW.weightsAll, List.mem_append]
    rcases List.mem_cons.1 hd with rfl | hd
    · exact .inl hn
    · exact .inr (weights_all hd hn)

theorem wf_bounds {k : IntKind} {n : Int} (h : (Lit.int k n).wf = true) : k.min ≤ n ∧ n ≤ k.max := by
  simpa [Lit.wf] using h

theorem flat_open : ∀ (n : Nat) (fuel : Nat) (t : TypeId) (cs : List Value) (x : DataW H × List MemPlace), flatB P n t = true → DataW.trod enc P w base spare held fuel t cs = some x →
    (∀ m ∈ x.1.weights P t, m ≤ reachBytes) → ∃ ds, CR w Im ds cs ∧ wtF P n t ds ∧ cs.length = P.cellsOf t
  | 0, _, _, _, _, h, _, _ => by simp [flatB] at h
  | n + 1, fuel, t, cs, x, h, hx, hw => by
    simp only [flatB] at h
    simp only [wtF]
    split at h
    · rename_i hu
      obtain ⟨b, rfl, rfl⟩ := DataW.trod_bool hu hx
      exact ⟨[.bool b], .one (.bool b) rfl, ⟨b, rfl⟩, by simpa using (eq_of_beq h).symm⟩
    · rename_i k hu
      obtain ⟨m, rfl, rfl, hwf⟩ := DataW.trod_int hu hx
      exact ⟨[.int k m], .one (.int k m) rfl, ⟨m, rfl, wf_bounds hwf⟩, by simpa using (eq_of_beq h).symm⟩
    · rename_i hu
      obtain ⟨s, rfl, rfl, _⟩ := DataW.trod_string hu hx
      exact ⟨[.str s.data.toList], .one (.str s _ rfl) rfl, ⟨_, rfl, hw _ (by simp [DataW.weights])⟩, by simpa using (eq_of_beq h).symm⟩
    · rename_i fs hu
      obtain ⟨xs, m, rfl, rfl, hlen, hxl, hget⟩ := DataW.trod_struct hu hx
      simp only [DataW.weights, hu] at hw
      have key : ∀ (l : List Field) (k off : Nat), fs.toList.drop k = l → tiles P (flatB P n) off l = some cs.length →
          ∃ ds, CR w Im ds (cs.drop off) ∧ wtL (wtF P n) (l.map (·.type)) ds := by
        intro l
        induction l with
        | nil =>
          intro k off _ ht
          simp only [tiles, Option.some.injEq] at ht
          subst ht
          exact ⟨[], by simpa using CR.nil, rfl⟩
        | cons f l ih =>
          intro k off hk ht
          simp only [tiles, Bool.cond_eq_ite] at ht
          split at ht
          · rename_i hc
            simp only [Bool.and_eq_true] at hc
            have hoff := Nat.eq_of_beq_eq_true hc.1
            have hfk : fs[k]? = some f := by
              have : (fs.toList.drop k)[0]? = some f := by rw [hk]; rfl
              simpa using this
            have hg := hget k f hfk
            have hklt : k < xs.length := by rw [hxl]; exact (Array.getElem?_eq_some_iff.1 hfk).1
            have hxk : xs[k]? = some xs[k] := by simp [hklt]
            rw [hxk, hoff] at hg
            obtain ⟨a, h1, h2, h3⟩ := flat_open n m f.type _ _ hc.2 hg (fun q hq => hw q (DataW.weights_mem_each (j := k) (t := f.type) (d := xs[k].1) (by simp [hfk]) (by simp [hxk]) q hq))
            obtain ⟨b, k1, k2⟩ := ih (k + 1) (off + P.cellsOf f.type) (by rw [← List.drop_drop, hk]; rfl) ht
            refine ⟨a ++ b, ?_, a, b, rfl, h2, k2⟩
            have := h1.append k1
            rwa [← List.drop_drop, List.take_append_drop] at this
          · cases ht
      have ht : tiles P (flatB P n) 0 fs.toList = some cs.length := by rw [hlen]; exact eq_of_beq h
      obtain ⟨ds, h1, h2⟩ := key fs.toList 0 0 rfl ht
      exact ⟨ds, by simpa using h1, h2, hlen⟩
    · rename_i m e hu
      simp only [Bool.and_eq_true] at h
      obtain ⟨xs, m', rfl, rfl, hlen, hxl, hget⟩ := DataW.trod_array hu hx
      simp only [DataW.weights, hu] at hw
      have hsz := eq_of_beq h.2
      have key : ∀ (r k : Nat), k + r = m → ∃ ds, CR w Im ds (cs.drop (k * P.cellsOf e)) ∧ wtL (wtF P n) (List.replicate r e) ds := by
        intro r
        induction r with
        | zero =>
          intro k hk
          refine ⟨[], ?_, rfl⟩
          rw [List.drop_eq_nil_of_le (by rw [hlen, hsz, ← hk]; simp)]
          exact CR.nil
        | succ r ih =>
          intro k hk
          have hg := hget k (by omega)
          have hklt : k < xs.length := by omega
          have hxk : xs[k]? = some xs[k] := by simp [hklt]
          rw [hxk] at hg
          obtain ⟨a, h1, h2, h3⟩ := flat_open n m' e _ _ h.1 hg (fun q hq => hw q (weights_all (List.mem_map.2 ⟨xs[k], List.getElem_mem hklt, rfl⟩) hq))
          obtain ⟨b, k1, k2⟩ := ih (k + 1) (by omega)
          refine ⟨a ++ b, ?_, a, b, rfl, h2, k2⟩
          have := h1.append k1
          rwa [Nat.add_mul, Nat.one_mul, ← List.drop_drop, List.take_append_drop] at this
      obtain ⟨ds, h1, h2⟩ := key m 0 (by omega)
      exact ⟨ds, by simpa using h1, h2, hlen⟩
    · cases h

theorem list_of {α : Type} {p : Nat → α → Prop} : ∀ (n : Nat), (∀ i, i < n → ∃ x, p i x) → ∃ l : List α, l.length = n ∧ ∀ i x, l[i]? = some x → p i x
  | 0, _ => ⟨[], rfl, fun i x h => by simp at h⟩
  | n + 1, h => by
    obtain ⟨l, h1, h2⟩ := list_of n fun i hi => h i (by omega)
    obtain ⟨x, hx⟩ := h n (by omega)
    refine ⟨l ++ [x], by simp [h1], fun i y hy => ?_⟩
    rcases Nat.lt_or_ge i l.length with hlt | hge
    · rw [List.getElem?_append_left hlt] at hy; exact h2 i y hy
    · rw [List.getElem?_append_right hge] at hy
      have : i - l.length = 0 := by have := (List.getElem?_eq_some_iff.1 hy).1; simpa using this
      rw [this] at hy
      simp at hy
      subst hy
      have : i = n := by omega
      rw [this]; exact hx

/-- Every block that is there is left alone. -/
def Old (w : World) (c : Nat) : Prop := c < w.heap.size

theorem par_open {t : TypeId} {v : Value} {d : DataW H} {ps : List MemPlace} {b0 : Nat} (hp : parB P t = true) (hok : Value.okWide P w .any b0 t v) (h : DataW.Trod enc P w 0 (fun _ => true) true t v d ps)
    (hw : ∀ m ∈ d.weights P t, m ≤ reachBytes) : ∃ x, Rel w (Old w) [] x v ∧ wtP P t x := by
  obtain ⟨fuel, h⟩ := h
  simp only [parB] at hp
  split at hp
  · rename_i e hu
    have hz : P.underlying t = some (.slice e) := hu
    simp only [wtP, hu]
    obtain ⟨a0, len, cap, rfl⟩ := okWide_slice hu hok
    rcases DataW.trod_slice hu h with ⟨h1, h2⟩ | ⟨a, len', cap', elems, rest, n, rfl, hcs, hx, _, hl, hm, hel, hget, hsp, _⟩
    · simp [Value.cells] at h1
      obtain ⟨rfl, rfl, rfl⟩ := h1
      exact ⟨.sl true _ [], .nilsl _, true, [], rfl, fun _ => rfl, by simp, fun r hr => by simp at hr⟩
    · simp [Value.cells] at hcs
      obtain ⟨rfl, rfl, rfl⟩ := hcs
      simp only [Prod.mk.injEq] at hx
      obtain ⟨rfl, rfl⟩ := hx
      simp only [DataW.weights, hz] at hw
      have hspot : a.spot = none := by
        simp only [Value.okWide, hz, Cell.okWide, Cell.ok, World.has] at hok
        exact hok.2.2.2.1
      obtain ⟨ab, ao, asp⟩ := a
      simp only at hspot
      subst hspot
      have each : ∀ i, i < elems.length → ∃ r : List D, (∃ cs, w.cells? 0 (Addr.add ⟨ab, ao, none⟩ (i * P.cellsOf e)) (P.cellsOf e) = some cs ∧ CR w (Old w) r cs) ∧ wtF P 6 e r ∧ r.length = P.cellsOf e := by
        intro i hi
        have hg := hget i (by omega)
        have hxi : elems[i]? = some elems[i] := by simp [hi]
        rw [hxi, Option.bind_eq_some_iff] at hg
        obtain ⟨cs, h1, h2⟩ := hg
        obtain ⟨r, k1, k2, k3⟩ := flat_open (Im := Old w) 6 n e cs _ hp h2 (fun m hm => hw m (by
          simp only [List.mem_cons, List.mem_append]
          exact .inr (.inl (weights_all (List.mem_map.2 ⟨elems[i], List.getElem_mem hi, rfl⟩) hm))))
        exact ⟨r, ⟨cs, h1, k1⟩, k2, by rw [k1.1, k3]⟩
      obtain ⟨rows, r1, r2⟩ := list_of elems.length each
      have hrow : RowsAt w (Old w) [] ab ao (P.cellsOf e) rows := by
        refine ⟨fun r hr => ?_, fun i j r x e1 e2 => ?_⟩
        · obtain ⟨i, hi⟩ := List.mem_iff_getElem?.1 hr
          obtain ⟨⟨cs, c1, c2⟩, _, c3⟩ := r2 i r hi
          exact ⟨c3, c2.2.1⟩
        · obtain ⟨⟨cs, c1, c2⟩, _, c3⟩ := r2 i r e1
          obtain ⟨_, s1, s2⟩ := World.cells?_some c1
          have hj : j < P.cellsOf e := by have := (List.getElem?_eq_some_iff.1 e2).1; omega
          have hv : cs[j]? = some (cs[j]'(by omega)) := by simp
          have := s2 j hj
          rw [hv] at this
          refine ⟨cs[j]'(by omega), ?_, c2.2.2 j x _ e2 hv⟩
          rw [← this]
          congr 1
          unfold Addr.add
          split <;> split <;> simp_all <;> omega
      refine ⟨.sl false (P.cellsOf e) rows, ?_, false, rows, rfl, (fun h => by cases h), ?_, fun r hr => ?_⟩
      · have := hrow.sl (φ := []) (fun hne => ?_) (cap := cap) (by omega)
        · rw [r1, hel] at this; exact this
        · cases hrs : rows with
          | nil => exact absurd hrs hne
          | cons r0 rs =>
            have h0 : rows[0]? = some r0 := by rw [hrs]; rfl
            obtain ⟨⟨cs, c1, c2⟩, c4, c3⟩ := r2 0 r0 h0
            rcases Nat.eq_zero_or_pos (P.cellsOf e) with hz0 | hpos
            · exact (by
                have hhas := hok
                simp only [Value.okWide, hz, Cell.okWide, Cell.ok, World.has] at hhas
                obtain ⟨_, _, _, _, row, cells, hsh, _⟩ := hhas
                unfold World.shape? at hsh
                cases hh : w.heap[ab]? with
                | none => rw [hh] at hsh; simp at hsh
                | some o => exact (Array.getElem?_eq_some_iff.1 hh).1)
            · have := World.cells?_block c1 hpos
              simp only [Addr.add] at this
              split at this <;> exact this
      · have := hw ((elems.map (·.1)).length * P.bytesOf e + (rest.map (·.1)).length * P.bytesOf e) (by simp [Nat.add_mul])
        rw [r1]
        simp at this
        exact Nat.le_trans (Nat.le_add_right _ _) this
      · obtain ⟨i, hi⟩ := List.mem_iff_getElem?.1 hr
        exact (r2 i r hi).2.1
  rotate_right
  · cases hp
  all_goals
    rename_i hu
    simp only [wtP, hu]
  · obtain ⟨b, rfl⟩ := okWide_bool hu hok
    obtain ⟨ds, h1, h2, _⟩ := flat_open (Im := Old w) 6 fuel t _ _ hp h hw
    have : ds = [.bool b] := by
      simp only [wtF, hu] at h2
      obtain ⟨b', rfl⟩ := h2
      have := h1.2.2 0 _ _ rfl (show (Value.cells _).toList[0]? = some _ from rfl)
      cases this; rfl
    subst this
    exact ⟨.bool b, .bool b, h2⟩
  · rename_i k
    obtain ⟨b, rfl⟩ := okWide_int hu hok
    obtain ⟨ds, h1, h2, _⟩ := flat_open (Im := Old w) 6 fuel t _ _ hp h hw
    have : ds = [.int k b] := by
      simp only [wtF, hu] at h2
      obtain ⟨b', rfl, _⟩ := h2
      have := h1.2.2 0 _ _ rfl (show (Value.cells _).toList[0]? = some _ from rfl)
      cases this; rfl
    subst this
    exact ⟨.int k b, .int k b, h2⟩
  · obtain ⟨b, rfl⟩ := okWide_string hu hok
    obtain ⟨ds, h1, h2, _⟩ := flat_open (Im := Old w) 6 fuel t _ _ hp h hw
    have : ds = [.str b.data.toList] := by
      simp only [wtF, hu] at h2
      obtain ⟨b', rfl, _⟩ := h2
      have := h1.2.2 0 _ _ rfl (show (Value.cells _).toList[0]? = some _ from rfl)
      cases this with | str s l e => rw [e]
    subst this
    exact ⟨.str _, .str b _ rfl, h2⟩
  · obtain ⟨cs, rfl, _⟩ := okWide_struct hu hok
    obtain ⟨ds, h1, h2, _⟩ := flat_open (Im := Old w) 6 fuel t _ _ hp h hw
    exact ⟨.agg ds, .agg ds cs (by simpa [Value.cells] using h1.1) (fun i d v a b => h1.2.2 i d v a (by simpa [Value.cells] using b)), ds, rfl, h2⟩
  · simp only [Value.okWide, hu] at hok
    obtain ⟨cs, rfl, _, _⟩ := hok
    obtain ⟨ds, h1, h2, _⟩ := flat_open (Im := Old w) 6 fuel t _ _ hp h hw
    exact ⟨.agg ds, .agg ds cs (by simpa [Value.cells] using h1.1) (fun i d v a b => h1.2.2 i d v a (by simpa [Value.cells] using b)), ds, rfl, h2⟩

theorem pars_open : ∀ {ts : List TypeId} {vs : List Value} {ds : List (DataW H)} {ps : List MemPlace} {b0 : Nat}, ts.all (parB P) = true → (∀ (j : Nat) t v, ts[j]? = some t → vs[j]? = some v → Value.okWide P w .any b0 t v) →
    DataW.TrodAll enc P w 0 (fun _ => true) true ts vs ds ps → (∀ m ∈ DataW.weightsEach P ts ds, m ≤ reachBytes) → ∃ xs, ArgsRel w (Old w) [] xs vs ∧ wtA P ts xs
  | [], vs, ds, ps, b0, _, _, h, _ => by
    obtain ⟨rfl, rfl, rfl⟩ := trodAll_nil h
    exact ⟨[], ⟨rfl, fun i d v h => by simp at h⟩, rfl⟩
  | t :: ts, vs, ds, ps, b0, hp, hok, h, hw => by
    obtain ⟨v, vs', d, ds', p, q, rfl, rfl, rfl, h1, h2⟩ := trodAll_cons h
    simp only [List.all_cons, Bool.and_eq_true] at hp
    simp only [DataW.weightsEach, List.mem_append] at hw
    obtain ⟨x, x1, x2⟩ := par_open hp.1 (hok 0 t v rfl rfl) h1 fun m hm => hw m (.inl hm)
    obtain ⟨xs, y1, y2⟩ := pars_open hp.2 (fun j t' v' a b => hok (j + 1) t' v' a b) h2 fun m hm => hw m (.inr hm)
    refine ⟨x :: xs, ⟨by simp [y1.1], fun i d' v' a b => ?_⟩, x, xs, rfl, x2, y2⟩
    cases i with
    | zero => simp at a b; subst a; subst b; exact x1
    | succ i => exact y1.2 i d' v' (by simpa using a) (by simpa using b)

theorem trods_stay (hl : laidOutB P = true) {W W' : World} (hb : Below W.heap.size W W') : ∀ {ts : List TypeId} {vs : List Value} {ds : List (DataW H)} {ps : List MemPlace}, (ts.all fun t => P.readableRec t && decide (t < P.types.size)) = true →
    DataW.TrodAll enc P W 0 (fun _ => true) true ts vs ds ps → DataW.TrodAll enc P W' 0 (fun b => decide (b < W.heap.size)) true ts vs ds ps
  | [], vs, ds, ps, _, h => by
    obtain ⟨rfl, rfl, rfl⟩ := trodAll_nil h
    exact trodAll_mk0
  | t :: ts, vs, ds, ps, hr, h => by
    obtain ⟨v, vs', d, ds', p, q, rfl, rfl, rfl, h1, h2⟩ := trodAll_cons h
    simp only [List.all_cons, Bool.and_eq_true, decide_eq_true_eq] at hr
    have lt : ∀ x ∈ p, x.block < W.heap.size := by obtain ⟨m, hm⟩ := h1; exact DataW.trod_lt m _ _ _ hm
    exact trodAll_cons_mk (Below.trod hl hr.1.1 hr.1.2 h1 hb lt) (trods_stay hl hb hr.2 h2)

/-- A law of plain arguments: what the data say, the program says. -/
theorem law_calls {E : Env} {f : FuncId} {ts : List TypeId} {W : World} {vs : Array Value} {ds : List (DataW H)} {ps : List MemPlace} {b0 : Nat} (hl : laidOutB E.P = true) (hr : (ts.all fun t => E.P.readableRec t && decide (t < E.P.types.size)) = true)
    (hp : ts.all (parB E.P) = true) (hok : ∀ (j : Nat) t v, ts[j]? = some t → vs.toList[j]? = some v → Value.okWide E.P W .any b0 t v)
    (hA : DataW.TrodAll enc E.P W 0 (fun _ => true) true ts vs.toList ds ps) (hw : (DataW.weightsEach E.P ts ds).all (· ≤ reachBytes) = true)
    (hs : ∀ xs, wtA E.P ts xs → Sound E f xs [] fun d _ => d = .bool true) :
    Calls E.P f vs W fun e W' => e = .returned (.bool true) ∧ Below W.heap.size W W' ∧ DataW.TrodAll enc E.P W' 0 (fun b => decide (b < W.heap.size)) true ts vs.toList ds ps := by
  obtain ⟨xs, h1, h2⟩ := pars_open hp hok hA (fun m hm => by simpa using List.all_eq_true.1 hw m hm)
  refine (hs xs h2 W (Old W) [] vs (Inv.nil fun c hc => hc) h1).mono ?_
  rintro e W' ⟨v, d, σ', φ', Im', rfl, ht, _, hr', rfl⟩
  have hv := hr'.bool_inv
  subst hv
  have hb : Below W.heap.size W W' := ⟨ht.ext.io.1, ht.ext.io.2.1, ht.ext.io.2.2, ht.ext.size, fun k hk => ht.ext.same k hk (no_own k)⟩
  exact ⟨rfl, hb, trods_stay hl hb hr hA⟩

end
end Go.RX
