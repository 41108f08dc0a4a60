/-
  RX, the operations, third part: addresses, slices, making.
-/
import Derived.Test.YthooiaebbikjiaaRxOps2
import Derived.Great.BuildSlice
set_option linter.unusedSimpArgs false
set_option linter.unusedVariables false
namespace Go.RX
open Go
section
variable {P : Program} {w : World} {Im : Nat → Prop} {φ : Phi} {σ : Sto}

theorem SatV.congr {s s' : Sem Value} (h : s.run P w = s'.run P w) : ∀ {r : ARes}, SatV P w Im φ σ s r → SatV P w Im φ σ s' r
  | .ok d σ', ⟨v, w', φ', h1, h2⟩ => ⟨v, w', φ', by rw [← h]; exact h1, h2⟩
  | .need b k, h' => fun hb => SatV.congr h (h' hb)
  | .split b k, h' => SatV.congr h (r := k b) h'
  | .row r k, h' => fun x hx => SatV.congr h (h' x hx)
  | .str r k, h' => fun x hx => SatV.congr h (h' x hx)
  | .call _ _, h' => h'.elim
  | .bad, _ => trivial

theorem addr_mul (c o n sz : Nat) : (⟨c, o, none⟩ : Addr).add (n * sz) = ⟨c, o + n * sz, none⟩ := addr_add _ _ _

theorem fieldAddr_sat (hi : Inv w Im φ σ) {s : TypeId} {p : D} {pv : Value} (hp : Rel w Im φ p pv) (f : Nat) : SatV P w Im φ σ (Instr.fieldAt s pv f) (ARes.opt (fieldAddrD P s p f) σ) := by
  refine SatV.opt hi fun d hd => ?_
  unfold fieldAddrD at hd
  split at hd
  · rename_i fields hu
    split at hd
    · rename_i fd hf
      split at hd
      · rename_i n hn
        split at hd
        · cases hd
        · rename_i hn0
          split at hd
          · rename_i b i o
            obtain ⟨l, hl, rfl⟩ := hp.ptr_inv
            obtain rfl := Option.some.inj hd
            refine ⟨_, by simp [Instr.fieldAt, run_underlying hu, hf, Instr.sureAddr, fieldPlace, szOf_some hn, hn0, addr_add]; rfl, ?_⟩
            have := Rel.ptr (w := w) (Im := Im) b i (o + fd.offset) l hl
            simpa [Nat.add_assoc] using this
          · rename_i sz rows i o
            obtain rfl := Option.some.inj hd
            cases hp with
            | iptr _ _ _ _ c base vf h1 h2 h3 h4 =>
              refine ⟨_, by simp [Instr.fieldAt, run_underlying hu, hf, Instr.sureAddr, fieldPlace, szOf_some hn, hn0, addr_add]; rfl, ?_⟩
              have := Rel.iptr (w := w) (Im := Im) (φ := φ) sz rows i (o + fd.offset) c base vf h1 h2 h3 h4
              simpa [Nat.add_assoc] using this
          · cases hd
      · cases hd
    · cases hd
  · cases hd

theorem inRange {i : Int} {n : Nat} (h : (decide (0 ≤ i) && decide (i < (n : Int))) = true) : 0 ≤ i ∧ i < (n : Int) := by simpa using h

theorem indexAddr_sat (hi : Inv w Im φ σ) {t : TypeId} {x : D} {xv : Value} (hx : Rel w Im φ x xv) (k : IntKind) (i : Int) : SatV P w Im φ σ (Instr.indexAt t xv (.int k i)) (indexAddrD P t x i σ) := by
  unfold indexAddrD
  split
  · rename_i e hu
    split
    · trivial
    · rename_i n hn
      split
      · rename_i sz rows
        split
        · rename_i hc
          obtain ⟨rfl, hpos⟩ := hc
          intro hb
          obtain ⟨h0, h1⟩ := inRange hb
          cases hx with
          | sl _ _ c base cap vf a1 a2 a3 a4 a5 =>
            refine SatV.pure hi ⟨.pointer (some ⟨c, base + i.toNat * sz, none⟩), ?_, ?_⟩
            · simp [Instr.indexAt, asIntOf, run_underlying hu, h0, h1, szOf_some hn, addr_mul]
            · have := Rel.iptr (w := w) (Im := Im) (φ := φ) sz rows i.toNat 0 c base vf (a1 (fun e => by rw [e] at h1; simp at h1; omega)) a2 a4 a5
              simpa using this
        · trivial
      · trivial
      · rename_i b j len lo ex
        split
        · rename_i B hB
          split
          · rename_i hc
            obtain ⟨rfl, hpos⟩ := hc
            intro hb
            obtain ⟨h0, h1⟩ := inRange hb
            obtain ⟨l, cap, ad, hl, rfl, a1, a2, a3, a4, a6, a5⟩ := hx.msl_inv
            obtain rfl := a5 (by omega)
            obtain ⟨l', hl', hk⟩ := hi.loc hB
            obtain rfl := Option.some.inj (hl.symm.trans hl')
            refine SatV.pure hi ⟨.pointer (some ⟨l.blk, l.base + j * l.sz + i.toNat * B.sz, none⟩), ?_, ?_⟩
            · simp [Instr.indexAt, asIntOf, run_underlying hu, h0, h1, szOf_some hn, addr_mul]
            · have := Rel.ptr (w := w) (Im := Im) b (j + i.toNat) 0 l hl
              rw [hk.sz] at this ⊢
              rw [Nat.add_mul] at this
              simpa [Nat.add_assoc] using this
          · trivial
        · trivial
      · trivial
  · rename_i len e hu
    split
    · rename_i n b j o hn
      split
      · rename_i B hB
        split
        · rename_i hc
          obtain ⟨rfl, hpos, rfl⟩ := hc
          intro hb
          obtain ⟨h0, h1⟩ := inRange hb
          obtain ⟨l, hl, rfl⟩ := hx.ptr_inv
          obtain ⟨l', hl', hk⟩ := hi.loc hB
          obtain rfl := Option.some.inj (hl.symm.trans hl')
          refine SatV.pure hi ⟨.pointer (some ⟨l.blk, l.base + j * l.sz + 0 + i.toNat * B.sz, none⟩), ?_, ?_⟩
          · simp [Instr.indexAt, asIntOf, run_underlying hu, h0, h1, szOf_some hn, addr_mul, Instr.sureAddr]
          · have := Rel.ptr (w := w) (Im := Im) b (j + i.toNat) 0 l hl
            rw [hk.sz] at this ⊢
            rw [Nat.add_mul] at this
            simpa [Nat.add_assoc] using this
        · trivial
      · trivial
    · trivial
  · trivial

theorem index_sat (hi : Inv w Im φ σ) {t : TypeId} {x : D} {xv : Value} (hx : Rel w Im φ x xv) (k : IntKind) (i : Int) : SatV P w Im φ σ (Instr.index t xv (.int k i)) (indexD P t x i σ) := by
  unfold indexD
  split
  · rename_i len e cs hu
    split
    · rename_i n hn
      intro hb
      obtain ⟨h0, h1⟩ := inRange hb
      obtain ⟨vs, rfl, h2, h3⟩ := hx.agg_inv
      have fin : ∀ d, partD P e cs (i.toNat * n) = some d → ∃ v, (Instr.index t (.agg vs) (.int k i)).run P w = .ok v w ∧ Rel w Im φ d v := fun d hd => by
        obtain ⟨v, h4, h5⟩ := part_run (P := P) h2 h3 hd
        exact ⟨v, by simp [Instr.index, asIntOf, run_underlying hu, h0, h1, szOf_some hn, h4], h5⟩
      unfold partA
      split
      · rename_i m ag hty
        split
        · rename_i hag
          exact SatV.pure hi (fin _ (by unfold partD; rw [hty]; simp [hag]))
        · rename_i hag
          intro r hr
          simp only [Option.map_eq_some_iff] at hr
          obtain ⟨d0, hd0, rfl⟩ := hr
          refine SatV.opt hi fun d hd => fin d ?_
          simp only [List.getElem?_cons_zero] at hd
          unfold partD
          rw [hty]
          simp only
          rw [if_neg hag, hd0, hd]
      · trivial
    · trivial
  · rename_i s hu
    intro hb r hr
    obtain ⟨h0, h1⟩ := inRange hb
    obtain ⟨b, rfl, rfl⟩ := hx.str_inv
    refine SatV.opt hi fun d hd => ?_
    simp only [Option.map_eq_some_iff] at hr
    obtain ⟨c, hc, rfl⟩ := hr
    simp at hd
    subst hd
    refine ⟨.int .u8 c.toNat, ?_, .int _ _⟩
    have hc' : b[i.toNat]? = some c := by
      rw [← hc]
      simp only [Array.getElem?_toList]
      rfl
    simp [Instr.index, asIntOf, run_underlying hu, h0, hc']
  · trivial

/-! ### slicing -/
def ArgIs (x : Option Int) (v : Option Value) : Prop := match x with
  | none => v = none
  | some n => ∃ k, v = some (.int k n)

theorem argIs_of {o : Option Operand} {ρ : Operand → D} {ρc : Operand → Value} (hρ : ∀ x, Rel w Im φ (ρ x) (ρc x)) {x : Option Int} (h : intArg (o.map ρ) = some x) : ArgIs x (o.map ρc) := by
  cases o with
  | none => simp [intArg] at h; subst h; rfl
  | some y =>
    have := hρ y
    simp only [Option.map_some] at h ⊢
    cases hd : ρ y <;> rw [hd] at h this <;> simp [intArg] at h
    subst h
    rw [this.int_inv]
    exact ⟨_, rfl⟩

theorem inB_iff {lo hi : Nat} {x : Int} : inB lo hi x = true ↔ (lo : Int) ≤ x ∧ x ≤ (hi : Int) := by simp [inB]

/-- The bounds that the model reckons are those that 'sliceB' hands on; 'c' may be less than what the model lets. -/
theorem sliceB_sat {isSlice : Bool} {n c cap : Nat} (hc : c ≤ cap) (hn : n ≤ c) {lo hi mx : Option Int} {vl vh vm : Option Value} (h1 : ArgIs lo vl) (h2 : ArgIs hi vh) (h3 : ArgIs mx vm)
    {K : Nat → Nat → Option Nat → ARes} {s : Sem Value}
    (h : ∀ l h m, l ≤ h → h ≤ c → (∀ x, m = some x → h ≤ x ∧ x ≤ c) → (m = none ↔ mx = none) → ((Instr.sliceBounds isSlice n cap vl vh vm).run P w = .ok (l, h, m.getD cap) w) → SatV P w Im φ σ s (K l h m)) :
    SatV P w Im φ σ s (sliceB n c lo hi mx K) := by
  unfold sliceB
  split
  · simp only [ArgIs] at h1 h2 h3
    subst h1; subst h2; subst h3
    exact h 0 n none (by omega) (by omega) (fun x hx => by cases hx) (by simp) (by simp [Instr.sliceBounds])
  · simp only [ArgIs] at h1 h2 h3
    obtain ⟨k1, rfl⟩ := h1; subst h2; subst h3
    intro hb
    rw [inB_iff] at hb
    exact h _ n none (by omega) (by omega) (fun x hx => by cases hx) (by simp) (by simp [Instr.sliceBounds]; rw [run_sliceBound _ _ _ _ _ (by omega) (by omega)]; simp)
  · simp only [ArgIs] at h1 h2 h3
    subst h1; obtain ⟨k2, rfl⟩ := h2; subst h3
    intro hb
    rw [inB_iff] at hb
    exact h 0 _ none (by omega) (by omega) (fun x hx => by cases hx) (by simp) (by simp [Instr.sliceBounds]; rw [run_sliceBound _ _ _ _ _ (by omega) (by omega)]; simp)
  · simp only [ArgIs] at h1 h2 h3
    obtain ⟨k1, rfl⟩ := h1; obtain ⟨k2, rfl⟩ := h2; subst h3
    intro hb hb2
    rw [inB_iff] at hb hb2
    exact h _ _ none (by omega) (by omega) (fun x hx => by cases hx) (by simp) (by simp [Instr.sliceBounds]; rw [run_sliceBound _ _ _ _ _ (by omega) (by omega)]; simp; rw [run_sliceBound _ _ _ _ _ (by omega) (by omega)]; simp)
  · simp only [ArgIs] at h1 h2 h3
    subst h1; obtain ⟨k2, rfl⟩ := h2; obtain ⟨k3, rfl⟩ := h3
    intro hb hb2
    rw [inB_iff] at hb hb2
    exact h 0 _ (some _) (by omega) (by omega) (fun x hx => by cases hx; omega) (by simp) (by simp [Instr.sliceBounds]; rw [run_sliceBound _ _ _ _ _ (by omega) (by omega)]; simp; rw [run_sliceBound _ _ _ _ _ (by omega) (by omega)]; simp)
  · simp only [ArgIs] at h1 h2 h3
    obtain ⟨k1, rfl⟩ := h1; obtain ⟨k2, rfl⟩ := h2; obtain ⟨k3, rfl⟩ := h3
    intro hb hb2 hb3
    rw [inB_iff] at hb hb2 hb3
    exact h _ _ (some _) (by omega) (by omega) (fun x hx => by cases hx; omega) (by simp) (by simp [Instr.sliceBounds]; rw [run_sliceBound _ _ _ _ _ (by omega) (by omega)]; simp; rw [run_sliceBound _ _ _ _ _ (by omega) (by omega)]; simp; rw [run_sliceBound _ _ _ _ _ (by omega) (by omega)]; simp)
  · trivial

theorem data_extract (s : ByteArray) (l h : Nat) : (s.extract l h).data.toList = (s.data.toList.take h).drop l := by
  rw [ByteArray.data_extract, Array.toList_extract, List.extract_eq_take_drop, List.drop_take]

theorem slice_sat (hi : Inv w Im φ σ) {t : TypeId} {x : D} {xv : Value} (hx : Rel w Im φ x xv) {lo hh mx : Option Int} {vl vh vm : Option Value} (h1 : ArgIs lo vl) (h2 : ArgIs hh vh) (h3 : ArgIs mx vm) :
    SatV P w Im φ σ (Instr.sliceAt t xv vl vh vm) (sliceD P t x lo hh mx σ) := by
  unfold sliceD
  split
  · rename_i s hu
    obtain ⟨b, rfl, rfl⟩ := hx.str_inv
    split
    · simp only [ArgIs] at h3
      subst h3
      refine sliceB_sat (P := P) (isSlice := false) (cap := b.data.toList.length) (mx := none) (vm := none) (Nat.le_refl _) (Nat.le_refl _) h1 h2 rfl (fun l h m g1 g2 g3 g4 g5 => ?_)
      obtain rfl : m = none := g4.2 rfl
      have hs : b.data.toList.length = b.size := by simp
      rw [hs] at g5
      exact SatV.pure hi ⟨.string (b.extract l h), by simp [Instr.sliceAt, Instr.slice, run_underlying hu, g5], .str _ _ (data_extract b l h)⟩
    · trivial
  · rename_i e sz rows hu
    obtain ⟨rfl, rfl⟩ := hx.nilsl_inv
    split
    · rename_i n hn
      refine sliceB_sat (P := P) (isSlice := true) (cap := 0) (Nat.le_refl _) (Nat.le_refl _) h1 h2 h3 (fun l h m g1 g2 g3 g4 g5 => ?_)
      obtain rfl : h = 0 := by omega
      obtain rfl : l = 0 := by omega
      have hm : m.getD 0 = 0 := by cases m with | none => rfl | some x => have := g3 x rfl; simp; omega
      rw [hm] at g5
      exact SatV.pure hi ⟨.slice none 0 0, by simp [Instr.sliceAt, Instr.slice, run_underlying hu, g5, szOf_some hn], .nilsl _⟩
    · trivial
  · rename_i e sz rows hu
    split
    · rename_i n hn
      split
      · rename_i hsz
        subst hsz
        cases hx with
        | sl _ _ c base cap vf a1 a2 a3 a4 a5 =>
          refine sliceB_sat (P := P) (isSlice := true) (cap := cap) a3 (Nat.le_refl _) h1 h2 h3 (fun l h m g1 g2 g3 g4 g5 => ?_)
          have hlen : ((rows.take h).drop l).length = h - l := by simp; omega
          have hm : h ≤ m.getD cap := by cases m with | none => simp; omega | some x => have := g3 x rfl; simp; omega
          refine SatV.pure hi ⟨.slice (some ⟨c, if m.getD cap = l then base else base + l * sz, none⟩) ((rows.take h).drop l).length (m.getD cap - l), ?_, ?_⟩
          · rw [hlen]
            by_cases hq : m.getD cap = l
            · simp [Instr.sliceAt, Instr.slice, run_underlying hu, g5, szOf_some hn, hq]
            · simp [Instr.sliceAt, Instr.slice, run_underlying hu, g5, szOf_some hn, hq, addr_mul]
          · have hget : ∀ (i : Nat) (r : List D), ((rows.take h).drop l)[i]? = some r → m.getD cap ≠ l ∧ rows[l + i]? = some r := fun i r hr => by
              have hlt := (List.getElem?_eq_some_iff.1 hr).1
              rw [hlen] at hlt
              rw [List.getElem?_drop, List.getElem?_take, if_pos (by omega)] at hr
              exact ⟨by omega, hr⟩
            refine .sl sz _ c _ _ (fun i j => vf (l + i) j) (fun hne => a1 (fun e => hne (by rw [e]; simp))) (fun r hr => a2 r (List.mem_of_mem_take (List.mem_of_mem_drop hr))) (by rw [hlen]; omega) (fun i j r d b1 b2 => ?_) (fun i j r d b1 b2 => ?_)
            · obtain ⟨c1, c2⟩ := hget i r b1
              rw [if_neg c1]
              have := a4 (l + i) j r d c2 b2
              rw [Nat.add_mul] at this
              rw [show base + l * sz + i * sz + j = base + (l * sz + i * sz) + j by omega]; exact this
            · obtain ⟨c1, c2⟩ := hget i r b1
              exact a5 (l + i) j r d c2 b2
      · trivial
    · trivial
  · rename_i e b i len lob ex hu
    split
    · rename_i n B hn hB
      split
      · rename_i hsz
        obtain ⟨l, cap, ad, hl, rfl, a1, a2, a3, a4, a6, a5⟩ := hx.msl_inv
        obtain ⟨l', hl', hk⟩ := hi.loc hB
        obtain rfl := Option.some.inj (hl.symm.trans hl')
        have hls : l.sz = n := by rw [hk.sz, hsz]
        refine sliceB_sat (P := P) (isSlice := true) (cap := cap) a2 a1 h1 h2 h3 (fun lo' h m g1 g2 g3 g4 g5 => ?_)
        have hm : h ≤ m.getD cap ∧ m.getD cap ≤ cap := by cases m with | none => simp; omega | some x => have := g3 x rfl; simp; omega
        refine SatV.pure hi ⟨.slice (some (if m.getD cap = lo' then ad else ad.add (lo' * n))) (h - lo') (m.getD cap - lo'), ?_, ?_⟩
        · by_cases hq : m.getD cap = lo'
          · simp [Instr.sliceAt, Instr.slice, run_underlying hu, g5, szOf_some hn, hq]
          · simp [Instr.sliceAt, Instr.slice, run_underlying hu, g5, szOf_some hn, hq]
        · have hspot : (if m.getD cap = lo' then ad else ad.add (lo' * n)).spot = none := by split; exact a6; unfold Addr.add; split; exact a6; rfl
          have had : m.getD cap - lo' ≠ 0 → (if m.getD cap = lo' then ad else ad.add (lo' * n)) = ⟨l.blk, l.base + (i + lo') * l.sz, none⟩ := fun hne => by
            rw [if_neg (by omega), a5 (by omega), addr_mul, hls, Nat.add_mul, Nat.add_assoc]
          cases m with
          | none =>
            refine .msl b (i + lo') (h - lo') (lob - lo') ex l _ _ hl (by omega) (by simp; omega) (fun he => by have := a3 he; simp; omega) ?_ ?_ had
            simp only [Option.getD_none]
            rw [show i + lo' + (cap - lo') = i + cap by simp at hm; omega]; exact a4
            exact hspot
          | some x =>
            have := g3 x rfl
            refine .msl b (i + lo') (h - lo') (x - lo') true l _ _ hl (by omega) (by simp) (fun he => by simp) ?_ hspot had
            simp only [Option.getD_some] at hm ⊢
            have h9 := Nat.mul_le_mul_right l.sz (show i + lo' + (x - lo') ≤ i + cap by omega)
            omega
      · trivial
    · trivial
  · rename_i n e b i o hu
    split
    · rename_i sz B hn hB
      split
      · rename_i hc
        obtain ⟨hsz, rfl, hin⟩ := hc
        obtain ⟨l, hl, rfl⟩ := hx.ptr_inv
        obtain ⟨l', hl', hk⟩ := hi.loc hB
        obtain rfl := Option.some.inj (hl.symm.trans hl')
        have hls : l.sz = sz := by rw [hk.sz, hsz]
        refine sliceB_sat (P := P) (isSlice := false) (cap := n) (Nat.le_refl _) (Nat.le_refl _) h1 h2 h3 (fun lo' h m g1 g2 g3 g4 g5 => ?_)
        have hm : h ≤ m.getD n ∧ m.getD n ≤ n := by cases m with | none => simp; omega | some x => have := g3 x rfl; simp; omega
        refine SatV.pure hi ⟨.slice (some (if m.getD n = lo' then ⟨l.blk, l.base + i * l.sz + 0, none⟩ else (⟨l.blk, l.base + i * l.sz + 0, none⟩ : Addr).add (lo' * sz))) (h - lo') (m.getD n - lo'), ?_, ?_⟩
        · by_cases hq : m.getD n = lo'
          · simp [Instr.sliceAt, Instr.sureAddr, run_underlying hu, g5, szOf_some hn, hq]
          · simp [Instr.sliceAt, Instr.sureAddr, run_underlying hu, g5, szOf_some hn, hq]
        · refine .msl b (i + lo') (h - lo') (m.getD n - lo') true l _ _ hl (by omega) (Nat.le_refl _) (fun _ => rfl) ?_ (by split; rfl; rw [addr_mul]) (fun hne => ?_)
          · have h8 := hk.fit
            have h9 := Nat.mul_le_mul_right l.sz (show i + lo' + (m.getD n - lo') ≤ B.rows.length by omega)
            rw [hk.sz] at h9 ⊢
            omega
          · rw [if_neg (by omega), addr_mul, hls, Nat.add_mul, Nat.add_zero, Nat.add_assoc]
      · trivial
    · trivial
  · trivial

end
end Go.RX
