/-
  RX, the operations, fourth part: literals, making slices, conversions.
-/
import Derived.Test.YthooiaebbikjiaaRxOps3
import Derived.Laws.Tables
import Derived.IntWalk
set_option linter.unusedSimpArgs false
set_option linter.unusedVariables false
namespace Go.RX
open Go
section
variable {P : Program} {w : World} {Im : Nat → Prop} {φ : Phi} {σ : Sto}

theorem foldl_set (off : Nat) : ∀ (l : List Value) (k : Nat) (cs : Array Value), off + k + l.length ≤ cs.size →
    ((l.zipIdx k).foldl (fun cs (x : Value × Nat) => cs.setIfInBounds (off + x.2) x.1) cs).size = cs.size ∧
    ∀ p, ((l.zipIdx k).foldl (fun cs (x : Value × Nat) => cs.setIfInBounds (off + x.2) x.1) cs)[p]? = if off + k ≤ p ∧ p < off + k + l.length then l[p - off - k]? else cs[p]?
  | [], k, cs, h => ⟨rfl, fun p => by simp; intro h1 h2; omega⟩
  | v :: l, k, cs, h => by
    simp only [List.length_cons] at h
    obtain ⟨h1, h2⟩ := foldl_set off l (k + 1) (cs.setIfInBounds (off + k) v) (by rw [Array.size_setIfInBounds]; omega)
    simp only [List.zipIdx_cons, List.foldl_cons, List.length_cons]
    refine ⟨by rw [h1]; simp, fun p => ?_⟩
    rw [h2]
    by_cases hp : p = off + k
    · subst hp
      rw [if_neg (by omega), if_pos (by omega)]
      rw [show off + k - off - k = 0 by omega]
      simp [show off + k < cs.size by omega]
    · by_cases hq : off + k ≤ p ∧ p < off + k + (l.length + 1)
      · rw [if_pos (by omega), if_pos hq, show p - off - k = (p - off - (k + 1)) + 1 by omega]
        simp
      · rw [if_neg (by omega), if_neg hq]
        rw [Array.getElem?_setIfInBounds_ne (by omega)]

theorem fold_cells (off : Nat) (v cs : Array Value) (h : off + v.size ≤ cs.size) :
    (v.zipIdx.foldl (fun cs (x : Value × Nat) => cs.setIfInBounds (off + x.2) x.1) cs).size = cs.size ∧
    ∀ p, (v.zipIdx.foldl (fun cs (x : Value × Nat) => cs.setIfInBounds (off + x.2) x.1) cs)[p]? = if off ≤ p ∧ p < off + v.size then v[p - off]? else cs[p]? := by
  have := foldl_set off v.toList 0 cs (by simpa using h)
  rw [← Array.foldl_toList]
  simpa using this

variable (w Im φ) in
def CellsRel (ds : List D) (vs : Array Value) : Prop := ds.length = vs.size ∧ ∀ (i : Nat) (d : D) (v : Value), ds[i]? = some d → vs[i]? = some v → Rel w Im φ d v

theorem fill_run (place : Nat → Option (Nat × Nat)) :
    ∀ (parts : List (Nat × D)) (vparts : List (Nat × Value)) (ds : List D) (vs : Array Value) (ds' : List D), parts.length = vparts.length →
      (∀ (i : Nat) (x : Nat × D) (y : Nat × Value), parts[i]? = some x → vparts[i]? = some y → x.1 = y.1 ∧ Rel w Im φ x.2 y.2) → CellsRel w Im φ ds vs → fillD place ds parts = some ds' →
      ∃ vs', Instr.fill place vs vparts = some vs' ∧ CellsRel w Im φ ds' vs'
  | [], [], ds, vs, ds', _, _, hc, h => by simp [fillD] at h; subst h; exact ⟨vs, rfl, hc⟩
  | (i, d) :: parts, (i', v) :: vparts, ds, vs, ds', hl, hr, hc, h => by
    obtain ⟨h0, hdv⟩ := hr 0 (i, d) (i', v) rfl rfl
    simp only at h0 hdv
    subst h0
    simp only [fillD] at h
    split at h
    · rename_i cs off size h1 h2
      split at h
      · rename_i hcond
        obtain ⟨hc1, hc2⟩ := hcond
        obtain ⟨g1, g2⟩ := rel_cells hdv h1
        have hvs : v.cells.size = size := by omega
        have hds := hc.1
        obtain ⟨g3, g4⟩ := fold_cells off v.cells vs (by omega)
        have hrec := fill_run place parts vparts (ds.take off ++ cs ++ ds.drop (off + size)) (v.cells.zipIdx.foldl (fun cs (x : Value × Nat) => cs.setIfInBounds (off + x.2) x.1) vs) ds'
          (by simpa using hl) (fun k x y a b => hr (k + 1) x y (by simpa using a) (by simpa using b)) ⟨by rw [g3]; simp; omega, fun k e u a b => by
            rw [g4] at b
            rcases splice_get rfl hc1 hc2 a with ⟨q1, q2, q3⟩ | ⟨q1, q2⟩
            · rw [if_pos (by omega)] at b
              exact g2 _ _ _ q3 b
            · rw [if_neg (by omega)] at b
              exact hc.2 _ _ _ q2 b⟩ h
        obtain ⟨vs', q1, q2⟩ := hrec
        refine ⟨vs', ?_, q2⟩
        simp only [Instr.fill, h2]
        rw [if_neg (by simp; omega)]
        exact q1
      · cases h
    · cases h
  | [], _ :: _, _, _, _, hl, _, _, _ => by simp at hl
  | _ :: _, [], _, _, _, hl, _, _, _ => by simp at hl

theorem zero_rel {t : TypeId} {z : D} (h : zeroD P t = some z) : ∃ i v, P.info? t = some i ∧ i.zero = some v ∧ Rel w Im φ z v := by
  obtain ⟨i, v, h1, h2, rfl⟩ := zeroD_some h
  exact ⟨i, v, h1, h2, rel_ofConst v⟩

theorem parts_rel {ρ : Operand → D} {ρc : Operand → Value} (hρ : ∀ x, Rel w Im φ (ρ x) (ρc x)) (parts : Array (Nat × Operand)) :
    (parts.toList.map fun p => (p.1, ρ p.2)).length = (parts.map fun (i, x) => (i, ρc x)).toList.length ∧
    ∀ (i : Nat) (x : Nat × D) (y : Nat × Value), (parts.toList.map fun p => (p.1, ρ p.2))[i]? = some x → (parts.map fun (i, x) => (i, ρc x)).toList[i]? = some y → x.1 = y.1 ∧ Rel w Im φ x.2 y.2 := by
  refine ⟨by simp, fun i x y h1 h2 => ?_⟩
  simp only [Array.toList_map, List.getElem?_map, Option.map_eq_some_iff] at h1 h2
  obtain ⟨p, hp, rfl⟩ := h1
  obtain ⟨q, hq, rfl⟩ := h2
  obtain rfl := Option.some.inj (hp.symm.trans hq)
  exact ⟨rfl, hρ _⟩

theorem build_sat (hi : Inv w Im φ σ) {t : TypeId} {parts : List (Nat × D)} {vparts : Array (Nat × Value)} (hl : parts.length = vparts.toList.length)
    (hr : ∀ (i : Nat) (x : Nat × D) (y : Nat × Value), parts[i]? = some x → vparts.toList[i]? = some y → x.1 = y.1 ∧ Rel w Im φ x.2 y.2) :
    SatV P w Im φ σ (Instr.build t vparts) (ARes.opt (buildD P t parts) σ) := by
  refine SatV.opt hi fun d hd => ?_
  unfold buildD at hd
  split at hd
  · rename_i it n e h1 h2
    split at hd
    · rename_i z ie h3 h4
      split at hd
      · rename_i zc h5
        simp only [Option.map_eq_some_iff] at hd
        obtain ⟨ds', hf, rfl⟩ := hd
        obtain ⟨vs', q1, q2⟩ := fill_run _ parts vparts.toList zc z.cells ds' hl hr (rel_cells (rel_ofConst z) h5) hf
        exact ⟨.agg vs', run_build w t vparts vs' (by simp [Program.built, h1, h2, h3, h4, q1]), .agg _ _ q2.1 q2.2⟩
      · cases hd
    · cases hd
  · rename_i it fields h1 h2
    split at hd
    · rename_i z places h3 h4
      split at hd
      · rename_i zc h5
        simp only [Option.map_eq_some_iff] at hd
        obtain ⟨ds', hf, rfl⟩ := hd
        obtain ⟨vs', q1, q2⟩ := fill_run _ parts vparts.toList zc z.cells ds' hl hr (rel_cells (rel_ofConst z) h5) hf
        refine ⟨.agg vs', run_build w t vparts vs' ?_, .agg _ _ q2.1 q2.2⟩
        unfold Program.built
        simp only [h1, h2, h3, h4]
        exact q1
      · cases hd
    · cases hd
  · cases hd

/-! ### buildSlice, makeSlice -/
variable (w Im φ) in
def RowsRel (n : Nat) (rows : List (List D)) (cs : Array Value) : Prop :=
  (∀ r ∈ rows, r.length = n) ∧ cs.size = rows.length * n ∧ ∀ (i j : Nat) (r : List D) (d : D), rows[i]? = some r → r[j]? = some d → ∃ v, cs[i * n + j]? = some v ∧ Rel w Im φ d v

theorem repl_rows (n len : Nat) (zs : List D) (z : Array Value) (hz : CellsRel w Im φ zs z) (hn : zs.length = n) (hpos : 0 < n) :
    RowsRel w Im φ n (List.replicate len zs) ((Array.range (len * n)).map (z[· % z.size]!)) := by
  have hzs : z.size = n := by rw [← hz.1, hn]
  refine ⟨fun r hr => by rw [(List.mem_replicate.1 hr).2, hn], by simp, fun i j r d h1 h2 => ?_⟩
  rw [List.getElem?_replicate] at h1
  split at h1
  · rename_i hi
    obtain rfl := Option.some.inj h1
    have hj := (List.getElem?_eq_some_iff.1 h2).1
    rw [hn] at hj
    have hlt : i * n + j < len * n := row_lt hi hj
    have hm : (i * n + j) % n = j := by rw [Nat.add_comm, Nat.add_mul_mod_self_right, Nat.mod_eq_of_lt hj]
    refine ⟨z[j]'(by omega), ?_, hz.2 j d _ h2 (by simp)⟩
    rw [Array.getElem?_map, Array.getElem?_range, if_pos hlt]
    simp only [Option.map_some, hzs, hm, Option.some.injEq]
    exact getElem!_pos z j (by omega)
  · cases h1

theorem setParts_run (n : Nat) (hpos : 0 < n) : ∀ (parts : List (Nat × D)) (vparts : List (Nat × Value)) (rows : List (List D)) (vs : Array Value) (rows' : List (List D)), parts.length = vparts.length →
      (∀ (i : Nat) (x : Nat × D) (y : Nat × Value), parts[i]? = some x → vparts[i]? = some y → x.1 = y.1 ∧ Rel w Im φ x.2 y.2) → RowsRel w Im φ n rows vs → (∀ r ∈ rows, r.all scal = true) → setParts rows n parts = some rows' →
      (∃ vs', Instr.fill (fun i => some (i * n, n)) vs vparts = some vs' ∧ RowsRel w Im φ n rows' vs') ∧ rows'.length = rows.length ∧ ∀ r ∈ rows', r.all scal = true
  | [], [], rows, vs, rows', _, _, hc, hsc, h => by simp [setParts] at h; subst h; exact ⟨⟨vs, rfl, hc⟩, rfl, hsc⟩
  | (i, d) :: parts, (i', v) :: vparts, rows, vs, rows', hl, hr, hc, hsc, h => by
    obtain ⟨h0, hdv⟩ := hr 0 (i, d) (i', v) rfl rfl
    simp only at h0 hdv
    subst h0
    simp only [setParts] at h
    split at h
    · rename_i cs h1
      split at h
      · rename_i hcond
        obtain ⟨hc1, hc2, hc3⟩ := hcond
        obtain ⟨g1, g2⟩ := rel_cells hdv h1
        have hin : i * n + n ≤ rows.length * n := by
          have := Nat.mul_le_mul_right n (show i + 1 ≤ rows.length from hc2)
          rw [Nat.add_mul] at this; omega
        have hsz := hc.2.1
        obtain ⟨g3, g4⟩ := fold_cells (i * n) v.cells vs (by omega)
        have hrec := setParts_run n hpos parts vparts (rows.set i cs) (v.cells.zipIdx.foldl (fun cs (x : Value × Nat) => cs.setIfInBounds (i * n + x.2) x.1) vs) rows'
          (by simpa using hl) (fun k x y a b => hr (k + 1) x y (by simpa using a) (by simpa using b)) ⟨fun r hr => by
              rcases List.mem_or_eq_of_mem_set hr with hr | rfl
              · exact hc.1 r hr
              · exact hc1, by rw [g3]; simp; omega, fun k j r e a b => by
            rw [g4]
            rw [List.getElem?_set] at a
            have hj := (List.getElem?_eq_some_iff.1 b).1
            by_cases hik : i = k
            · subst hik
              rw [if_pos rfl, if_pos hc2] at a
              obtain rfl := Option.some.inj a
              refine ⟨v.cells[j]'(by omega), ?_, g2 j e _ b (by simp)⟩
              rw [if_pos (by omega), show i * n + j - i * n = j by omega]
              simp
            · rw [if_neg hik] at a
              have hrl := hc.1 r (List.mem_of_getElem? a)
              obtain ⟨u, hu, hur⟩ := hc.2.2 k j r e a b
              refine ⟨u, ?_, hur⟩
              rw [if_neg ?_]
              · exact hu
              · rintro ⟨q1, q2⟩
                rcases Nat.lt_or_ge k i with hlt | hge
                · have := row_lt (sz := n) (j := j) hlt (by omega); omega
                · have := Nat.mul_le_mul_right n (show i + 1 ≤ k by omega)
                  rw [Nat.add_mul] at this; omega⟩ (fun r hr => by
              rcases List.mem_or_eq_of_mem_set hr with hr | rfl
              · exact hsc r hr
              · exact hc3) h
        obtain ⟨⟨vs', q1, q2⟩, q3, q4⟩ := hrec
        refine ⟨⟨vs', ?_, q2⟩, by rw [q3]; simp, q4⟩
        simp only [Instr.fill]
        rw [if_neg (by simp; omega)]
        exact q1
      · cases h
    · cases h
  | [], _ :: _, _, _, _, hl, _, _, _, _ => by simp at hl
  | _ :: _, [], _, _, _, hl, _, _, _, _ => by simp at hl

/-- A new row: a slice of all of it. -/
theorem newRow_good (hi : Inv w Im φ σ) {n : Nat} {rows : List (List D)} {cs : Array Value} {e : TypeId} (fz : Nat × Nat) (hfz : ∀ o, o < cs.size → ¬ (fz.1 ≤ o ∧ o < fz.2))
    (hlen : ∀ r ∈ rows, r.length = n) (hfit : rows.length * n ≤ cs.size)
    (hrel : ∀ (i j : Nat) (r : List D) (d : D), rows[i]? = some r → r[j]? = some d → ∃ v, cs[i * n + j]? = some v ∧ Rel w Im φ d v)
    (hsc : ∀ r ∈ rows, r.all scal = true) (dp : Bool) (hdp : ∀ r ∈ rows, r.any hasRef1 = true → dp = true) (len cap lo : Nat) (ex : Bool) (h1 : len ≤ lo) (h2 : lo ≤ cap) (h3 : ex = true → cap = lo) (h4 : cap * n ≤ cs.size) :
    Good w Im φ σ (w.alloc (.cells cs e fz)) (φ ++ [⟨w.heap.size, 0, n, cs.size⟩]) (σ ++ [some ⟨n, dp, rows⟩]) (.msl σ.length 0 len lo ex) (.slice (some ⟨w.heap.size, 0, none⟩) len cap) := by
  obtain ⟨a1, a2⟩ := hi.alloc cs e fz ⟨n, dp, rows⟩ hfz (fun r hr => ⟨hlen r hr, hsc r hr⟩) hfit (fun i j r d h5 h6 => by
    obtain ⟨v, hv, hr⟩ := hrel i j r d h5 h6
    have hm := List.mem_of_getElem? h5
    exact ⟨v, hv, rel_flag (hsc r hm) (hdp r hm) h6 hr⟩)
  exact ⟨PhiLe.append _ _, a2, a1, .msl _ _ _ _ _ _ _ _ (phi_self hi.len _) h1 h2 h3 (by simpa using h4) rfl (fun _ => by simp)⟩

theorem buildSlice_sat (hi : Inv w Im φ σ) {t : TypeId} {len : Nat} {parts : List (Nat × D)} {vparts : Array (Nat × Value)} (hl : parts.length = vparts.toList.length)
    (hr : ∀ (i : Nat) (x : Nat × D) (y : Nat × Value), parts[i]? = some x → vparts.toList[i]? = some y → x.1 = y.1 ∧ Rel w Im φ x.2 y.2) :
    SatV P w Im φ σ (Instr.buildSlice t len vparts) (buildSliceD P t len parts σ) := by
  unfold buildSliceD
  split
  · rename_i e hu
    split
    · rename_i n zs hn hzs
      split
      · rename_i hc
        obtain ⟨hc1, hc2, hc3, hc4⟩ := hc
        cases hz : zeroD P e with
        | none => simp [hz] at hzs
        | some z =>
          obtain ⟨ie, zv, g1, g2, g3⟩ := zero_rel (w := w) (Im := Im) (φ := φ) hz
          simp only [hz, Option.bind_some] at hzs
          have hzr := rel_cells g3 hzs
          have hien : ie.size = n := by unfold szOf at hn; simpa [g1] using hn
          split
          · rename_i rows hrows
            have hrep : ∀ r ∈ List.replicate len zs, r.all scal = true := fun r hr => by rw [(List.mem_replicate.1 hr).2]; exact hc3
            obtain ⟨⟨vs', q1, q2⟩, q3, q4⟩ := setParts_run n hc2 parts vparts.toList (List.replicate len zs) _ rows hl hr (repl_rows n len zs zv.cells hzr hc1 hc2) hrep hrows
            have hrl : rows.length = len := by rw [q3]; simp
            have hvs : vs'.size = len * n := by rw [q2.2.1, hrl]
            refine ⟨_, _, _, ?_, newRow_good (e := e) hi (0, 0) (fun o _ => by omega) q2.1 (by rw [q2.2.1]; exact Nat.le_refl _) q2.2.2 q4 _ (fun r hr h => List.any_eq_true.2 ⟨r, hr, h⟩) len len len true (Nat.le_refl _) (Nat.le_refl _) (fun _ => rfl) (by rw [hvs]; exact Nat.le_refl _)⟩
            · by_cases h0 : len = 0
              · subst h0
                have : vs' = #[] := by
                  apply Array.eq_empty_of_size_eq_zero
                  rw [hvs]; simp
                subst this
                have q1' : Instr.fill (fun i => some (i * n, n)) #[] vparts.toList = some #[] := by simpa [show Array.range 0 = #[] from rfl] using q1
                simp [Instr.buildSlice, run_underlying hu, szOf_some hn, newRow, q1', show Array.range 0 = #[] from rfl]
              · exact run_buildSlice w t e len vparts vs' ie zv hu g1 g2 (by rw [hien]; omega) (by rw [hien]; exact Nat.mul_ne_zero h0 (by omega)) (by rw [hien]; exact q1)
          · trivial
      · trivial
    · trivial
  · trivial

theorem wrap_nat {n : Int} (h0 : 0 ≤ n) (h1 : n ≤ 9223372036854775807) : IntKind.i64.wrap n = n := IntWalk.i64_in n (by omega)

theorem byOf_some {t : TypeId} {n : Nat} (h : byOf P t = some n) : ∃ i, P.info? t = some i ∧ i.bytes = n := by
  unfold byOf at h
  cases hi : P.info? t with
  | none => simp [hi] at h
  | some i => simp [hi] at h; exact ⟨i, rfl, h⟩

theorem makeSlice_sat (hi : Inv w Im φ σ) {t : TypeId} {k k' : IntKind} {len cap : Int} : SatV P w Im φ σ (Instr.makeSlice t (.int k len) (.int k' cap)) (makeSliceD P t len cap σ) := by
  unfold makeSliceD
  split
  · rename_i e hu
    split
    · rename_i n by_ zs hn hb hzs
      split
      · rename_i hc
        obtain ⟨hc1, hc2, hc3⟩ := hc
        intro hcond
        simp only [Bool.and_eq_true, decide_eq_true_eq] at hcond
        obtain ⟨p1, p2, p3, p4⟩ := hcond
        have p4 : cap.toNat * by_ ≤ 140737488355328 := p4
        cases hz : zeroD P e with
        | none => simp [hz] at hzs
        | some z =>
          obtain ⟨ie, zv, g1, g2, g3⟩ := zero_rel (w := w) (Im := Im) (φ := φ) hz
          simp only [hz, Option.bind_some] at hzs
          have hzr := rel_cells g3 hzs
          obtain ⟨ie', g4, g5⟩ := byOf_some hb
          obtain rfl := Option.some.inj (g1.symm.trans g4)
          have hrows := repl_rows (w := w) (Im := Im) (φ := φ) n cap.toNat zs zv.cells hzr hc1 hc2
          have hsize : ((Array.range (cap.toNat * n)).map (zv.cells[· % zv.cells.size]!)).size = cap.toNat * n := by simp
          have hien : ie.size = n := by unfold szOf at hn; simpa [g1] using hn
          have hbb : (ie.bytes : Int) * cap ≤ 140737488355328 := by
            have e1 : (ie.bytes : Int) * cap = ((cap.toNat * by_ : Nat) : Int) := by
              rw [g5, Int.natCast_mul, Int.toNat_of_nonneg (by omega : 0 ≤ cap), Int.mul_comm]
            rw [e1]; omega
          refine ⟨_, _, _, ?_, newRow_good (e := e) hi (0, 0) (fun o _ => by omega) hrows.1 (by rw [hsize]; simp) hrows.2.2 (fun r hr => by rw [(List.mem_replicate.1 hr).2]; exact hc3) (zs.any hasRef1)
            (fun r hr h => by rw [(List.mem_replicate.1 hr).2] at h; exact h) len.toNat cap.toNat cap.toNat true (by omega) (Nat.le_refl _) (fun _ => rfl) (by rw [hsize]; exact Nat.le_refl _)⟩
          have hw1 := wrap_nat p1 (by omega : len ≤ 9223372036854775807)
          have hw2 := wrap_nat (by omega : 0 ≤ cap) p3
          have hbl : (ie.bytes : Int) * len ≤ 140737488355328 := Int.le_trans (Int.mul_le_mul_of_nonneg_left p2 (by omega)) hbb
          have t1 : ¬ (ie.bytes : Int) * cap > 281474976710656 := by omega
          have t3 : ¬ cap.toNat * ie.bytes > 140737488355328 := by rw [g5]; omega
          have c1 : ¬ cap < 0 := by omega
          have c2 : ¬ len < 0 := by omega
          have c3 : ¬ len > cap := by omega
          simp only [Instr.makeSlice, Sem.run_bind, run_underlying hu, Result.andThen_ok, asInt, asIntOf, Sem.run_pure, typeInfo, g1, run_program, hw1, hw2]
          by_cases h0 : cap.toNat * n = 0
          · simp [t1, t3, c1, c2, c3, askRoom, roomBytes, sizeOf, typeInfo, g1, hien, h0, newRow, show Array.range 0 = #[] from rfl]
          · simp [t1, t3, c1, c2, c3, askRoom, roomBytes, sizeOf, typeInfo, g1, hien, h0, newRow, zeroValue, g2]
      · trivial
    · trivial
  · trivial

end
end Go.RX
