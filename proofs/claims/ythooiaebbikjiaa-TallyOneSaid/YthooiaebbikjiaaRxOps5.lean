/-
  RX, the operations, fifth part: append, copy, clear, conversions, calls; all operations together.
-/
import Derived.Test.YthooiaebbikjiaaRxOps4
import Derived.Laws.BytesString
import Derived.Laws.Small
set_option linter.unusedSimpArgs false
set_option linter.unusedVariables false
namespace Go.RX
open Go
section
variable {P : Program} {w : World} {Im : Nat → Prop} {φ : Phi} {σ : Sto}

variable (w Im φ) in
structure SrcOk (xv : Value) (size : Nat) (dp : Bool) (new : List (List D)) (news : List Value) : Prop where
  len : news.length = new.length * size
  rows : ∀ r ∈ new, RowOk size r
  rel : ∀ (i j : Nat) (r : List D) (d : D), new[i]? = some r → r[j]? = some d → ∃ u, news[i * size + j]? = some u ∧ Rel w Im (if dp then φ else []) d u
  one : ∀ u ∈ news, u.oneCell' = true
  kind : (∃ a c, xv = .slice (some a) new.length c ∧ ∀ (j : Nat) (u : Value), news[j]? = some u → w.cell? (a.add j) = some u) ∨ (xv = .slice none 0 0 ∧ new = [] ∧ news = []) ∨
    (∃ s, xv = .string s ∧ size = 1 ∧ news = byteCells s ∧ new.length = s.size)

/-- The values of rows in memory. -/
theorem mem_cells {ψ : Phi} {c base sz : Nat} {rows : List (List D)} (h : RowsAt w Im ψ c base sz rows) (hs : 0 < sz) :
    ∃ news : List Value, news.length = rows.length * sz ∧ (∀ (i j : Nat) (r : List D) (d : D), rows[i]? = some r → r[j]? = some d → ∃ u, news[i * sz + j]? = some u ∧ Rel w Im ψ d u) ∧
      (∀ u ∈ news, u.oneCell' = true) ∧ ∀ (p : Nat) (u : Value), news[p]? = some u → w.cell? ⟨c, base + p, none⟩ = some u := by
  have hat : ∀ p, p < rows.length * sz → ∃ r d, rows[p / sz]? = some r ∧ r[p % sz]? = some d ∧ scal d = true ∧ p / sz * sz + p % sz = p := fun p hp => by
    have h1 : p / sz < rows.length := (Nat.div_lt_iff_lt_mul hs).2 hp
    have h2 : p % sz < sz := Nat.mod_lt _ hs
    have h3 := h.1 rows[p / sz] (List.getElem_mem h1)
    have h4 : p % sz < (rows[p / sz]).length := by rw [h3.1]; exact h2
    refine ⟨rows[p / sz], (rows[p / sz])[p % sz], by simp [h1], by simp [h4], List.all_eq_true.1 h3.2 _ (List.getElem_mem h4), ?_⟩
    rw [Nat.mul_comm]; exact Nat.div_add_mod p sz
  refine ⟨(List.range (rows.length * sz)).map fun p => (w.cell? ⟨c, base + p, none⟩).getD undef, by simp, fun i j r d h1 h2 => ?_, fun u hu => ?_, fun p u hp => ?_⟩
  · obtain ⟨v, hv, hr⟩ := h.2 i j r d h1 h2
    have hj := (List.getElem?_eq_some_iff.1 h2).1
    rw [(h.1 r (List.mem_of_getElem? h1)).1] at hj
    have hlt := row_lt (sz := sz) (j := j) (List.getElem?_eq_some_iff.1 h1).1 hj
    rw [Nat.add_assoc] at hv
    refine ⟨v, by simp [hlt, hv], hr⟩
  · simp only [List.mem_map, List.mem_range] at hu
    obtain ⟨p, hp, rfl⟩ := hu
    obtain ⟨r, d, h1, h2, h3, h4⟩ := hat p hp
    obtain ⟨v, hv, hr⟩ := h.2 _ _ r d h1 h2
    rw [Nat.add_assoc, h4] at hv
    rw [hv]
    exact hr.one h3
  · have hlt := (List.getElem?_eq_some_iff.1 hp).1
    simp at hlt
    obtain ⟨r, d, h1, h2, h3, h4⟩ := hat p hlt
    obtain ⟨v, hv, hr⟩ := h.2 _ _ r d h1 h2
    rw [Nat.add_assoc, h4] at hv
    simp [hlt, hv] at hp
    rw [← hp]; exact hv

theorem RowsAt.sub {ψ : Phi} {c base sz : Nat} {rows : List (List D)} (h : RowsAt w Im ψ c base sz rows) (i n : Nat) : RowsAt w Im ψ c (base + i * sz) sz ((rows.drop i).take n) := by
  refine ⟨fun r hr => h.1 r (List.mem_of_mem_drop (List.mem_of_mem_take hr)), fun k j r d h1 h2 => ?_⟩
  rw [List.getElem?_take] at h1
  split at h1
  · rw [List.getElem?_drop] at h1
    obtain ⟨v, hv, hr⟩ := h.2 _ _ r d h1 h2
    rw [Nat.add_mul] at hv
    exact ⟨v, by rw [show base + i * sz + k * sz + j = base + (i * sz + k * sz) + j by omega]; exact hv, hr⟩
  · cases h1

theorem byteCells_get (s : ByteArray) {i : Nat} {u : Value} (h : (byteCells s)[i]? = some u) : ∃ c, s.data.toList[i]? = some c ∧ u = .int .u8 c.toNat := by
  unfold byteCells at h
  simp only [List.getElem?_map, Option.map_eq_some_iff] at h
  obtain ⟨c, hc, rfl⟩ := h
  exact ⟨c, hc, rfl⟩

theorem rows_src (hi : Inv w Im φ σ) {x : D} {xv : Value} (hx : Rel w Im φ x xv) {sz n : Nat} {dp : Bool} {cnt : Option Nat} {new : List (List D)} (h : rowsD σ x = some (sz, dp, cnt, new))
    (hsz : sz = n ∨ (new.isEmpty = true ∧ isStr x = false)) (hn : 0 < n) (hcnt : ∀ m, cnt = some m → new.length = m) : ∃ news, SrcOk w Im φ xv n dp new news := by
  unfold rowsD at h
  split at h
  · rename_i nl sz' rows
    simp only [Option.some.injEq, Prod.mk.injEq] at h
    obtain ⟨rfl, rfl, rfl, rfl⟩ := h
    cases nl with
    | true =>
      obtain ⟨rfl, rfl⟩ := hx.nilsl_inv
      exact ⟨[], by simp, by simp, by simp, by simp, .inr (.inl ⟨rfl, rfl, rfl⟩)⟩
    | false =>
      obtain ⟨c, base, cap, rfl, hcap, him, hrows⟩ := hx.sl_inv
      by_cases he : rows = []
      · subst he
        exact ⟨[], by simp, by simp, by simp, by simp, .inl ⟨_, _, rfl, by simp⟩⟩
      · have : sz' = n := hsz.resolve_right (fun h => he (by simpa using h.1))
        subst this
        obtain ⟨news, h1, h2, h3, h4⟩ := mem_cells hrows hn
        exact ⟨news, h1, hrows.1, h2, h3, .inl ⟨_, _, rfl, fun j u hj => by rw [addr_add]; exact h4 j u hj⟩⟩
  · rename_i b i len lo ex
    split at h
    · rename_i B hB
      simp only [Option.some.injEq, Prod.mk.injEq] at h
      obtain ⟨rfl, rfl, rfl, rfl⟩ := h
      have hlen := hcnt _ rfl
      obtain ⟨l, cap, ad, hl, rfl, a1, a2, a3, a4, a5, a6⟩ := hx.msl_inv
      obtain ⟨l', hl', hk⟩ := hi.loc hB
      obtain rfl := Option.some.inj (hl.symm.trans hl')
      by_cases he : (B.rows.drop i).take len = []
      · rw [he] at hlen ⊢
        simp at hlen
        subst hlen
        exact ⟨[], by simp, by simp, by simp, by simp, .inl ⟨_, _, rfl, by simp⟩⟩
      · have : B.sz = n := hsz.resolve_right (fun h => he (by simpa using h.1))
        subst this
        have hpos : 0 < len := by
          rcases Nat.eq_zero_or_pos len with h0 | h0
          · rw [h0] at he; simp at he
          · exact h0
        obtain rfl := a6 (by omega)
        have hrows := hk.rowsAt.sub i len
        obtain ⟨news, h1, h2, h3, h4⟩ := mem_cells hrows hn
        exact ⟨news, h1, hrows.1, h2, h3, .inl ⟨_, cap, by rw [hlen], fun j u hj => by rw [addr_add, hk.sz]; exact h4 j u hj⟩⟩
    · cases h
  · rename_i s
    simp only [Option.some.injEq, Prod.mk.injEq] at h
    obtain ⟨rfl, rfl, rfl, rfl⟩ := h
    obtain ⟨b, rfl, rfl⟩ := hx.str_inv
    · have : 1 = n := hsz.resolve_right (fun h => by simp [isStr] at h)
      subst this
      refine ⟨byteCells b, by simp [byteCells], fun r hr => ?_, fun i j r d h1 h2 => ?_, fun u hu => ?_, .inr (.inr ⟨b, rfl, rfl, rfl, by simp⟩)⟩
      · simp only [List.mem_map] at hr
        obtain ⟨c, _, rfl⟩ := hr
        exact ⟨rfl, rfl⟩
      · simp only [List.getElem?_map, Option.map_eq_some_iff] at h1
        obtain ⟨c, hc, rfl⟩ := h1
        cases j with
        | zero =>
          simp at h2
          subst h2
          exact ⟨.int .u8 c.toNat, by simp [byteCells, hc], .int _ _⟩
        | succ j => simp at h2
      · unfold byteCells at hu
        simp only [List.mem_map] at hu
        obtain ⟨c, _, rfl⟩ := hu
        rfl
  · cases h

theorem SrcOk.src {xv : Value} {size : Nat} {dp : Bool} {new : List (List D)} {news : List Value} (h : SrcOk w Im φ xv size dp new news) {tx : TypeId} {d : TypeDesc} (ht : P.underlying tx = some d)
    (hd : (∃ e, d = .slice e) ∨ d = .string) (hs : ∀ s, xv = .string s → d = .string) (hl : ∀ a n c, xv = .slice a n c → ∃ e, d = .slice e) : Src P size tx xv new.length news w := by
  rcases h.kind with ⟨a, c, rfl, hc⟩ | ⟨rfl, rfl, rfl⟩ | ⟨s, rfl, rfl, rfl, hn⟩
  · obtain ⟨e, rfl⟩ := hl _ _ _ rfl
    exact Src.ofSlice w ht a _ c news h.len hc h.one
  · obtain ⟨e, rfl⟩ := hl _ _ _ rfl
    exact Src.ofNil w ht 0
  · obtain rfl := hs _ rfl
    rw [hn]; exact Src.ofString w ht s

theorem info_of_szOf {t : TypeId} {n : Nat} (h : szOf P t = some n) : ∃ i, P.info? t = some i ∧ i.size = n := by
  unfold szOf at h
  cases hi : P.info? t with
  | none => simp [hi] at h
  | some i => simp [hi] at h; exact ⟨i, rfl, h⟩

theorem needN_sat {s : Sem Value} {n : Option Nat} {k : Nat} {r : ARes} (h : (∀ m, n = some m → k = m) → SatV P w Im φ σ s r) : SatV P w Im φ σ s (needN n k r) := by
  cases n with
  | none => exact h (fun m hm => by cases hm)
  | some m => exact fun hb => h (fun m' hm => by cases hm; exact Nat.eq_of_beq_eq_true hb)

/-- A block under another name: from row i on. -/
theorem Inv.move (h : Inv w Im φ σ) {b : Nat} {B : Blk} {l : Loc} (hb : sget σ b = some B) (hl : φ[b]? = some l) (i : Nat) (hin : i ≤ B.rows.length) :
    Inv w Im (φ ++ [⟨l.blk, l.base + i * l.sz, l.sz, l.size⟩]) (σ.set b none ++ [some ⟨B.sz, B.deep, B.rows.drop i⟩]) ∧
    Tr φ.length w Im φ σ w Im (φ ++ [⟨l.blk, l.base + i * l.sz, l.sz, l.size⟩]) (σ.set b none ++ [some ⟨B.sz, B.deep, B.rows.drop i⟩]) := by
  have hk := h.blk b B l hb hl
  obtain ⟨hd, td⟩ := h.drop b
  have hlen : (σ.set b none).length = σ.length := by simp
  have hg : ∀ c B', sget (σ.set b none) c = some B' → sget σ c = some B' ∧ c ≠ b := fun c B' hc => by
    by_cases hbb : b = c
    · subst hbb
      have hl := sget_lt hc
      rw [sget_set_self (by simpa using hl)] at hc
      cases hc
    · rw [sget_set_ne hbb] at hc; exact ⟨hc, Ne.symm hbb⟩
  have hφ : PhiLe φ (φ ++ [⟨l.blk, l.base + i * l.sz, l.sz, l.size⟩]) := PhiLe.append _ _
  have hown : ∀ c, Own (φ ++ [⟨l.blk, l.base + i * l.sz, l.sz, l.size⟩]) (σ.set b none ++ [some ⟨B.sz, B.deep, B.rows.drop i⟩]) c → Own φ σ c := by
    rintro c ⟨b1, B1, l1, h1, h2, rfl⟩
    rcases sget_append_cases h2 with ⟨hb1, h2⟩ | ⟨hb1, _⟩
    · rw [hlen, ← h.len] at hb1
      rw [List.getElem?_append_left hb1] at h1
      exact ⟨b1, B1, l1, h1, (hg _ _ h2).1, rfl⟩
    · rw [hb1, hlen, ← h.len] at h1
      simp at h1
      exact ⟨b, B, l, hl, hb, by rw [← h1]⟩
  have e1 : ∀ b1 B1 l1, sget (σ.set b none ++ [some ⟨B.sz, B.deep, B.rows.drop i⟩]) b1 = some B1 → (φ ++ [⟨l.blk, l.base + i * l.sz, l.sz, l.size⟩])[b1]? = some l1 →
      (b1 < σ.length ∧ b1 ≠ b ∧ sget σ b1 = some B1 ∧ φ[b1]? = some l1) ∨ (b1 = σ.length ∧ B1 = ⟨B.sz, B.deep, B.rows.drop i⟩ ∧ l1 = ⟨l.blk, l.base + i * l.sz, l.sz, l.size⟩) := fun b1 B1 l1 h1 h2 => by
    rcases sget_append_cases h1 with ⟨hb1, h1⟩ | ⟨hb1, hB⟩
    · rw [hlen] at hb1
      rw [List.getElem?_append_left (by rw [h.len]; exact hb1)] at h2
      exact .inl ⟨hb1, (hg _ _ h1).2, (hg _ _ h1).1, h2⟩
    · rw [hlen] at hb1
      rw [hb1, ← h.len] at h2
      simp at h2
      exact .inr ⟨hb1, (Option.some.inj hB).symm, h2.symm⟩
  refine ⟨⟨by simp [h.len], fun b1 B1 l1 h1 h2 => ?_, fun b1 b2 B1 B2 l1 l2 hne h1 h2 h3 h4 => ?_, fun c hc ho => h.sep c hc (hown c ho), h.im⟩,
    ⟨⟨Nat.le_refl _, fun _ _ _ => rfl, ⟨rfl, rfl, rfl⟩⟩, fun c hc => .inl (hown c hc), fun c hc => by rw [List.getElem?_append_left hc], fun _ h => h, fun _ h => .inl h⟩⟩
  · rcases e1 b1 B1 l1 h1 h2 with ⟨_, _, h3, h4⟩ | ⟨_, rfl, rfl⟩
    · exact (h.blk b1 B1 l1 h3 h4).of_heap rfl (Nat.le_refl _) (fun _ h => h) (fun _ _ => rfl) hφ
    · refine ⟨hk.sz, fun r hr => hk.len r (List.mem_of_mem_drop hr), ?_, hk.mem, hk.lt, fun k j r d h5 h6 => ?_⟩
      · have := hk.fit
        simp only [List.length_drop]
        rw [hk.sz]
        have e2 : B.rows.length * B.sz = i * B.sz + (B.rows.length - i) * B.sz := by rw [← Nat.add_mul]; congr 1; omega
        omega
      · simp only [List.getElem?_drop] at h5
        obtain ⟨v, hv, hr⟩ := hk.rel _ _ r d h5 h6
        refine ⟨v, ?_, hr.mono (fun _ h => h) (fun _ _ => rfl) (by split; exact hφ; exact PhiLe.refl _)⟩
        rw [hk.sz]
        rw [Nat.add_mul] at hv
        rw [show l.base + i * B.sz + k * B.sz + j = l.base + (i * B.sz + k * B.sz) + j by omega]; exact hv
  · rcases e1 b1 B1 l1 h3 h1 with ⟨c1, c2, c3, c4⟩ | ⟨c1, rfl, rfl⟩ <;> rcases e1 b2 B2 l2 h4 h2 with ⟨d1, d2, d3, d4⟩ | ⟨d1, rfl, rfl⟩
    · exact h.inj b1 b2 B1 B2 l1 l2 hne c4 d4 c3 d3
    · exact h.inj b1 b B1 B l1 l c2 c4 hl c3 hb
    · exact h.inj b b2 B B2 l l2 (Ne.symm d2) hl d4 hb d3
    · omega

end
end Go.RX
