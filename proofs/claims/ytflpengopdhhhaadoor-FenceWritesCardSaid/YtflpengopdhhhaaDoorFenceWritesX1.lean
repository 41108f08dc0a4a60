/-
  Words and walks for FenceWrites. No condition.
-/
import Derived.Laws.BytesString
import Derived.Laws.Small
import Derived.Deep.Upon
import Derived.Scope
import Derived.ControlIn
import Derived.CallsIn
import Derived.TacticsIn
import Derived.OrdersIn
import Derived.RangeFuncRecord
import Derived.Test.YtflpengopdhhhaaDoorFenceWritesX0
set_option linter.unusedSectionVars false
set_option linter.unnecessarySimpa false
set_option linter.unusedSimpArgs false
set_option linter.unusedVariables false
namespace Go.RX
open Go
section
variable {P : Program} {w : World} {Im : Nat → Prop} {φ : Phi} {σ : Sto}
variable (w Im φ) in
structure SrcOk (xv : Value) (size : Nat) (dp : Bool) (new : List (List D)) (news : List Value) : Prop where
  len : news.length = new.length * size
  rows : ∀ r ∈ new, RowOk size r
  rel : ∀ (i j : Nat) (r : List D) (d : D), new[i]? = some r → r[j]? = some d → ∃ u, news[i * size + j]? = some u ∧ Rel w Im (if dp then φ else []) d u
  one : ∀ u ∈ news, u.oneCell' = true
  kind : (∃ a c, xv = .slice (some a) new.length c ∧ ∀ (j : Nat) (u : Value), news[j]? = some u → w.cell? (a.add j) = some u) ∨ (xv = .slice none 0 0 ∧ new = [] ∧ news = []) ∨
    (∃ s, xv = .string s ∧ size = 1 ∧ news = byteCells s ∧ new.length = s.size)
theorem mem_cells {ψ : Phi} {c base sz : Nat} {rows : List (List D)} (h : RowsAt w Im ψ c base sz rows) (hs : 0 < sz) :
    ∃ news : List Value, news.length = rows.length * sz ∧ (∀ (i j : Nat) (r : List D) (d : D), rows[i]? = some r → r[j]? = some d → ∃ u, news[i * sz + j]? = some u ∧ Rel w Im ψ d u) ∧
      (∀ u ∈ news, u.oneCell' = true) ∧ ∀ (p : Nat) (u : Value), news[p]? = some u → w.cell? ⟨c, base + p, none⟩ = some u := by
  have hat : ∀ p, p < rows.length * sz → ∃ r d, rows[p / sz]? = some r ∧ r[p % sz]? = some d ∧ scal d = true ∧ p / sz * sz + p % sz = p := fun p hp => by
    have h1 : p / sz < rows.length := (Nat.div_lt_iff_lt_mul hs).2 hp
    have h2 : p % sz < sz := Nat.mod_lt _ hs
    have h3 := h.1 rows[p / sz] (List.getElem_mem h1)
    have h4 : p % sz < (rows[p / sz]).length := by rw [h3.1]; exact h2
    refine ⟨rows[p / sz], (rows[p / sz])[p % sz], by simp [h1], by simp [h4], List.all_eq_true.1 h3.2 _ (List.getElem_mem h4), ?_⟩
    rw [Nat.mul_comm]; exact Nat.div_add_mod p sz
  refine ⟨(List.range (rows.length * sz)).map fun p => (w.cell? ⟨c, base + p, none⟩).getD undef, by simp, fun i j r d h1 h2 => ?_, fun u hu => ?_, fun p u hp => ?_⟩
  · obtain ⟨v, hv, hr⟩ := h.2 i j r d h1 h2
    have hj := (List.getElem?_eq_some_iff.1 h2).1
    rw [(h.1 r (List.mem_of_getElem? h1)).1] at hj
    have hlt := row_lt (sz := sz) (j := j) (List.getElem?_eq_some_iff.1 h1).1 hj
    rw [Nat.add_assoc] at hv
    refine ⟨v, by simp [hlt, hv], hr⟩
  · simp only [List.mem_map, List.mem_range] at hu
    obtain ⟨p, hp, rfl⟩ := hu
    obtain ⟨r, d, h1, h2, h3, h4⟩ := hat p hp
    obtain ⟨v, hv, hr⟩ := h.2 _ _ r d h1 h2
    rw [Nat.add_assoc, h4] at hv
    rw [hv]
    exact hr.one h3
  · have hlt := (List.getElem?_eq_some_iff.1 hp).1
    simp at hlt
    obtain ⟨r, d, h1, h2, h3, h4⟩ := hat p hlt
    obtain ⟨v, hv, hr⟩ := h.2 _ _ r d h1 h2
    rw [Nat.add_assoc, h4] at hv
    simp [hlt, hv] at hp
    rw [← hp]; exact hv
theorem RowsAt.sub {ψ : Phi} {c base sz : Nat} {rows : List (List D)} (h : RowsAt w Im ψ c base sz rows) (i n : Nat) : RowsAt w Im ψ c (base + i * sz) sz ((rows.drop i).take n) := by
  refine ⟨fun r hr => h.1 r (List.mem_of_mem_drop (List.mem_of_mem_take hr)), fun k j r d h1 h2 => ?_⟩
  rw [List.getElem?_take] at h1
  split at h1
  · rw [List.getElem?_drop] at h1
    obtain ⟨v, hv, hr⟩ := h.2 _ _ r d h1 h2
    rw [Nat.add_mul] at hv
    exact ⟨v, by rw [show base + i * sz + k * sz + j = base + (i * sz + k * sz) + j by omega]; exact hv, hr⟩
  · cases h1
theorem rows_src (hi : Inv w Im φ σ) {x : D} {xv : Value} (hx : Rel w Im φ x xv) {sz n : Nat} {dp : Bool} {cnt : Option Nat} {new : List (List D)} (h : rowsD σ x = some (sz, dp, cnt, new))
    (hsz : sz = n ∨ (new.isEmpty = true ∧ isStr x = false)) (hn : 0 < n) (hcnt : ∀ m, cnt = some m → new.length = m) : ∃ news, SrcOk w Im φ xv n dp new news := by
  unfold rowsD at h
  split at h
  · rename_i nl sz' rows
    simp only [Option.some.injEq, Prod.mk.injEq] at h
    obtain ⟨rfl, rfl, rfl, rfl⟩ := h
    cases nl with
    | true =>
      obtain ⟨rfl, rfl⟩ := hx.nilsl_inv
      exact ⟨[], by simp, by simp, by simp, by simp, .inr (.inl ⟨rfl, rfl, rfl⟩)⟩
    | false =>
      rcases hx.sl_inv with ⟨rfl, rfl⟩ | ⟨c, base, cap, a, rfl, ha, hcap, him, hrows⟩
      · exact ⟨[], by simp, by simp, by simp, by simp, .inr (.inl ⟨rfl, rfl, rfl⟩)⟩
      by_cases he : rows = []
      · subst he
        exact ⟨[], by simp, by simp, by simp, by simp, .inl ⟨_, _, rfl, by simp⟩⟩
      · have : sz' = n := hsz.resolve_right (fun h => he (by simpa using h.1))
        subst this
        obtain rfl := ha he
        obtain ⟨news, h1, h2, h3, h4⟩ := mem_cells hrows hn
        exact ⟨news, h1, hrows.1, h2, h3, .inl ⟨_, _, rfl, fun j u hj => by rw [addr_add]; exact h4 j u hj⟩⟩
  · rename_i b i len lo ex
    split at h
    · rename_i B hB
      simp only [Option.some.injEq, Prod.mk.injEq] at h
      obtain ⟨rfl, rfl, rfl, rfl⟩ := h
      have hlen := hcnt _ rfl
      obtain ⟨l, hl, ⟨rfl, rfl, rfl⟩ | ⟨cap, ad, rfl, a1, a2, a3, a4, a5, a6⟩⟩ := hx.msl_inv
      · have h0 : (B.rows.drop i).take 0 = [] := by simp
        rw [h0]
        exact ⟨[], by simp, by simp, by simp, by simp, .inr (.inl ⟨rfl, rfl, rfl⟩)⟩
      obtain ⟨l', hl', hk⟩ := hi.loc hB
      obtain rfl := Option.some.inj (hl.symm.trans hl')
      by_cases he : (B.rows.drop i).take len = []
      · rw [he] at hlen ⊢
        simp at hlen
        subst hlen
        exact ⟨[], by simp, by simp, by simp, by simp, .inl ⟨_, _, rfl, by simp⟩⟩
      · have : B.sz = n := hsz.resolve_right (fun h => he (by simpa using h.1))
        subst this
        have hpos : 0 < len := by
          rcases Nat.eq_zero_or_pos len with h0 | h0
          · rw [h0] at he; simp at he
          · exact h0
        obtain rfl := a6 (by omega)
        have hrows := hk.rowsAt.sub i len
        obtain ⟨news, h1, h2, h3, h4⟩ := mem_cells hrows hn
        exact ⟨news, h1, hrows.1, h2, h3, .inl ⟨_, cap, by rw [hlen], fun j u hj => by rw [addr_add, hk.sz]; exact h4 j u hj⟩⟩
    · cases h
  · rename_i s
    simp only [Option.some.injEq, Prod.mk.injEq] at h
    obtain ⟨rfl, rfl, rfl, rfl⟩ := h
    obtain ⟨b, rfl, rfl⟩ := hx.str_inv
    · have : 1 = n := hsz.resolve_right (fun h => by simp [isStr] at h)
      subst this
      refine ⟨byteCells b, by simp [byteCells], fun r hr => ?_, fun i j r d h1 h2 => ?_, fun u hu => ?_, .inr (.inr ⟨b, rfl, rfl, rfl, by simp⟩)⟩
      · simp only [List.mem_map] at hr
        obtain ⟨c, _, rfl⟩ := hr
        exact ⟨rfl, rfl⟩
      · simp only [List.getElem?_map, Option.map_eq_some_iff] at h1
        obtain ⟨c, hc, rfl⟩ := h1
        cases j with
        | zero =>
          simp at h2
          subst h2
          exact ⟨.int .u8 c.toNat, by simp [byteCells, hc], .int _ _⟩
        | succ j => simp at h2
      · unfold byteCells at hu
        simp only [List.mem_map] at hu
        obtain ⟨c, _, rfl⟩ := hu
        rfl
  · cases h
theorem SrcOk.src {xv : Value} {size : Nat} {dp : Bool} {new : List (List D)} {news : List Value} (h : SrcOk w Im φ xv size dp new news) {tx : TypeId} {d : TypeDesc} (ht : P.underlying tx = some d)
    (hd : (∃ e, d = .slice e) ∨ d = .string) (hs : ∀ s, xv = .string s → d = .string) (hl : ∀ a n c, xv = .slice a n c → ∃ e, d = .slice e) : Src P size tx xv new.length news w := by
  rcases h.kind with ⟨a, c, rfl, hc⟩ | ⟨rfl, rfl, rfl⟩ | ⟨s, rfl, rfl, rfl, hn⟩
  · obtain ⟨e, rfl⟩ := hl _ _ _ rfl
    exact Src.ofSlice w ht a _ c news h.len hc h.one
  · obtain ⟨e, rfl⟩ := hl _ _ _ rfl
    exact Src.ofNil w ht 0
  · obtain rfl := hs _ rfl
    rw [hn]; exact Src.ofString w ht s
theorem info_of_szOf {t : TypeId} {n : Nat} (h : szOf P t = some n) : ∃ i, P.info? t = some i ∧ i.size = n := by
  unfold szOf at h
  cases hi : P.info? t with
  | none => simp [hi] at h
  | some i => simp [hi] at h; exact ⟨i, rfl, h⟩
theorem needN_sat {s : Sem Value} {n : Option Nat} {k : Nat} {r : ARes} (h : (∀ m, n = some m → k = m) → SatV P w Im φ σ s r) : SatV P w Im φ σ s (needN n k r) := by
  cases n with
  | none => exact h (fun m hm => by cases hm)
  | some m => exact fun hb => h (fun m' hm => by cases hm; exact Nat.eq_of_beq_eq_true hb)
theorem Inv.move (h : Inv w Im φ σ) {b : Nat} {B : Blk} {l : Loc} (hb : sget σ b = some B) (hl : φ[b]? = some l) (i : Nat) (hin : i ≤ B.rows.length) :
    Inv w Im (φ ++ [⟨l.blk, l.base + i * l.sz, l.sz, l.size⟩]) (σ.set b none ++ [some ⟨B.sz, B.deep, B.rows.drop i⟩]) ∧
    Tr φ.length w Im φ σ w Im (φ ++ [⟨l.blk, l.base + i * l.sz, l.sz, l.size⟩]) (σ.set b none ++ [some ⟨B.sz, B.deep, B.rows.drop i⟩]) := by
  have hk := h.blk b B l hb hl
  obtain ⟨hd, td⟩ := h.drop b
  have hlen : (σ.set b none).length = σ.length := by simp
  have hg : ∀ c B', sget (σ.set b none) c = some B' → sget σ c = some B' ∧ c ≠ b := fun c B' hc => by
    by_cases hbb : b = c
    · subst hbb
      have hl := sget_lt hc
      rw [sget_set_self (by simpa using hl)] at hc
      cases hc
    · rw [sget_set_ne hbb] at hc; exact ⟨hc, Ne.symm hbb⟩
  have hφ : PhiLe φ (φ ++ [⟨l.blk, l.base + i * l.sz, l.sz, l.size⟩]) := PhiLe.append _ _
  have hown : ∀ c, Own (φ ++ [⟨l.blk, l.base + i * l.sz, l.sz, l.size⟩]) (σ.set b none ++ [some ⟨B.sz, B.deep, B.rows.drop i⟩]) c → Own φ σ c := by
    rintro c ⟨b1, B1, l1, h1, h2, rfl, hp⟩
    rcases sget_append_cases h2 with ⟨hb1, h2⟩ | ⟨hb1, _⟩
    · rw [hlen, ← h.len] at hb1
      rw [List.getElem?_append_left hb1] at h1
      exact ⟨b1, B1, l1, h1, (hg _ _ h2).1, rfl, hp⟩
    · rw [hb1, hlen, ← h.len] at h1
      simp at h1
      subst h1
      exact ⟨b, B, l, hl, hb, rfl, hp⟩
  have e1 : ∀ b1 B1 l1, sget (σ.set b none ++ [some ⟨B.sz, B.deep, B.rows.drop i⟩]) b1 = some B1 → (φ ++ [⟨l.blk, l.base + i * l.sz, l.sz, l.size⟩])[b1]? = some l1 →
      (b1 < σ.length ∧ b1 ≠ b ∧ sget σ b1 = some B1 ∧ φ[b1]? = some l1) ∨ (b1 = σ.length ∧ B1 = ⟨B.sz, B.deep, B.rows.drop i⟩ ∧ l1 = ⟨l.blk, l.base + i * l.sz, l.sz, l.size⟩) := fun b1 B1 l1 h1 h2 => by
    rcases sget_append_cases h1 with ⟨hb1, h1⟩ | ⟨hb1, hB⟩
    · rw [hlen] at hb1
      rw [List.getElem?_append_left (by rw [h.len]; exact hb1)] at h2
      exact .inl ⟨hb1, (hg _ _ h1).2, (hg _ _ h1).1, h2⟩
    · rw [hlen] at hb1
      rw [hb1, ← h.len] at h2
      simp at h2
      exact .inr ⟨hb1, (Option.some.inj hB).symm, h2.symm⟩
  refine ⟨⟨by simp [h.len], fun b1 B1 l1 h1 h2 => ?_, fun b1 b2 B1 B2 l1 l2 hne h1 h2 h3 h4 p1 p2 => ?_, fun c hc ho => h.sep c hc (hown c ho), h.im⟩,
    ⟨⟨Nat.le_refl _, fun _ _ _ => rfl, ⟨rfl, rfl, rfl⟩⟩, fun c hc => .inl (hown c hc), fun c hc => by rw [List.getElem?_append_left hc], fun _ h => h, fun _ h => .inl h⟩⟩
  · rcases e1 b1 B1 l1 h1 h2 with ⟨_, _, h3, h4⟩ | ⟨_, rfl, rfl⟩
    · exact (h.blk b1 B1 l1 h3 h4).of_heap (fun _ => rfl) (Nat.le_refl _) (fun _ h => h) (fun _ _ => rfl) hφ
    · refine ⟨hk.pos, hk.sz, fun r hr => hk.len r (List.mem_of_mem_drop hr), ?_, hk.mem, hk.lt, hk.fz, fun k j r d h5 h6 => ?_⟩
      · have := hk.fit
        simp only [List.length_drop]
        rw [hk.sz]
        have e2 : B.rows.length * B.sz = i * B.sz + (B.rows.length - i) * B.sz := by rw [← Nat.add_mul]; congr 1; omega
        omega
      · simp only [List.getElem?_drop] at h5
        obtain ⟨v, hv, hr⟩ := hk.rel _ _ r d h5 h6
        refine ⟨v, ?_, hr.mono (fun _ h => h) (fun _ _ => rfl) (by split; exact hφ; exact PhiLe.refl _)⟩
        rw [hk.sz]
        rw [Nat.add_mul] at hv
        rw [show l.base + i * B.sz + k * B.sz + j = l.base + (i * B.sz + k * B.sz) + j by omega]; exact hv
  · rcases e1 b1 B1 l1 h3 h1 with ⟨c1, c2, c3, c4⟩ | ⟨c1, rfl, rfl⟩ <;> rcases e1 b2 B2 l2 h4 h2 with ⟨d1, d2, d3, d4⟩ | ⟨d1, rfl, rfl⟩
    · exact h.inj b1 b2 B1 B2 l1 l2 hne c4 d4 c3 d3 p1 p2
    · exact h.inj b1 b B1 B l1 l c2 c4 hl c3 hb p1 p2
    · exact h.inj b b2 B B2 l l2 (Ne.symm d2) hl d4 hb d3 p1 p2
    · omega
end
end Go.RX

namespace Go.RX
open Go
section
variable {P : Program} {w : World} {Im : Nat → Prop} {φ : Phi} {σ : Sto}
theorem Good.after {w1 w2 : World} {φ1 φ2 : Phi} {σ1 σ2 : Sto} {d : D} {v : Value} (h0 : PhiLe φ φ1) (hl : φ.length ≤ φ1.length) (h : Tr φ.length w Im φ σ w1 Im φ1 σ1) (g : Good w1 Im φ1 σ1 w2 φ2 σ2 d v) : Good w Im φ σ w2 φ2 σ2 d v :=
  ⟨h0.trans g.le, h.trans (g.tr.le hl), g.inv, g.rel⟩
theorem rel_or {a b : Bool} {d : D} {v : Value} (h : Rel w Im (if b then φ else []) d v) : Rel w Im (if a || b then φ else []) d v := by
  cases b with
  | true => simpa using h
  | false =>
    cases a with
    | false => simpa using h
    | true => simp only [Bool.or_false, if_true]; exact h.mono (fun _ h => h) (fun _ _ => rfl) (PhiLe.nil _)
theorem rel_or' {a b : Bool} {d : D} {v : Value} (h : Rel w Im (if a then φ else []) d v) : Rel w Im (if a || b then φ else []) d v := by
  rw [Bool.or_comm]; exact rel_or h
theorem writeRows (hi : Inv w Im φ σ) {b : Nat} {B : Blk} {l : Loc} (hb : sget σ b = some B) (hl : φ[b]? = some l) (p : Nat) (hp : p ≤ B.rows.length) {new : List (List D)} {news : List Value} {dp : Bool}
    (hlen : news.length = new.length * B.sz) (hrows : ∀ r ∈ new, RowOk B.sz r)
    (hrel : ∀ (i j : Nat) (r : List D) (d : D), new[i]? = some r → r[j]? = some d → ∃ u, news[i * B.sz + j]? = some u ∧ Rel w Im (if dp then φ else []) d u)
    (hfit : l.base + (p + new.length) * B.sz ≤ l.size) (tl : Bool) :
    Inv (w.setCells l.blk (l.base + p * B.sz) news) Im φ (σ.set b (some ⟨B.sz, B.deep || dp, B.rows.take p ++ new ++ (if tl then B.rows.drop (p + new.length) else [])⟩)) ∧
    Tr φ.length w Im φ σ (w.setCells l.blk (l.base + p * B.sz) news) Im φ (σ.set b (some ⟨B.sz, B.deep || dp, B.rows.take p ++ new ++ (if tl then B.rows.drop (p + new.length) else [])⟩)) := by
  have hk := hi.blk b B l hb hl
  have htake : (B.rows.take p).length = p := by simp; omega
  refine write_good hi (B' := ⟨B.sz, B.deep || dp, B.rows.take p ++ new ++ (if tl then B.rows.drop (p + new.length) else [])⟩) hb hl (p * B.sz) news ?_ rfl (fun r hr => ?_) ?_ (fun i j r d h1 h2 => ?_) (fun h => by simp [h])
  · rw [hlen]; rw [Nat.add_mul] at hfit; omega
  · simp only [List.mem_append] at hr
    rcases hr with (hr | hr) | hr
    · exact hk.len r (List.mem_of_mem_take hr)
    · exact hrows r hr
    · split at hr
      · exact hk.len r (List.mem_of_mem_drop hr)
      · simp at hr
  · have h3 : (B.rows.take p ++ new ++ (if tl then B.rows.drop (p + new.length) else [])).length ≤ max B.rows.length (p + new.length) := by
      split <;> simp <;> omega
    rcases Nat.le_total B.rows.length (p + new.length) with h4 | h4
    · rw [Nat.max_eq_right h4] at h3
      have := Nat.mul_le_mul_right B.sz h3
      simp only at this ⊢
      omega
    · rw [Nat.max_eq_left h4] at h3
      have := Nat.mul_le_mul_right B.sz h3
      have := hk.fit
      simp only at this ⊢
      omega
  · simp only at h1 ⊢
    rw [List.append_assoc] at h1
    by_cases q1 : i < p
    · rw [List.getElem?_append_left (by omega), List.getElem?_take, if_pos q1] at h1
      have hj := (List.getElem?_eq_some_iff.1 h2).1
      have hrl := (hk.len r (List.mem_of_getElem? h1)).1
      have := row_lt (sz := B.sz) (j := j) q1 (by omega)
      exact .inr ⟨by omega, r, h1, h2⟩
    · rw [List.getElem?_append_right (by omega), htake] at h1
      by_cases q2 : i < p + new.length
      · rw [List.getElem?_append_left (by omega)] at h1
        obtain ⟨u, hu, hur⟩ := hrel _ _ r d h1 h2
        have hj := (List.getElem?_eq_some_iff.1 h2).1
        have hrl := (hrows r (List.mem_of_getElem? h1)).1
        have e1 : i * B.sz = p * B.sz + (i - p) * B.sz := by rw [← Nat.add_mul]; congr 1; omega
        have hlt := row_lt (sz := B.sz) (j := j) (show i - p < new.length by omega) (by omega)
        refine .inl ⟨by omega, by omega, u, ?_, rel_or hur⟩
        rw [show i * B.sz + j - p * B.sz = (i - p) * B.sz + j by omega]; exact hu
      · rw [List.getElem?_append_right (by omega)] at h1
        split at h1
        · rw [List.getElem?_drop, show p + new.length + (i - p - new.length) = i by omega] at h1
          have := Nat.mul_le_mul_right B.sz (show p + new.length ≤ i by omega)
          rw [Nat.add_mul] at this
          exact .inr ⟨by omega, r, h1, h2⟩
        · simp at h1
theorem zeroCells_size (z : Array Value) (n : Nat) : (Builtin.zeroCells z n).size = n * z.size := by simp [Builtin.zeroCells]
theorem grow_good (hi : Inv w Im φ σ) {n : Nat} {olds new : List (List D)} {ovs nvs : List Value} {z : Array Value} {e : TypeId} {dp dq : Bool} (hz : z.size = n) (hn : 0 < n)
    (ho : ovs.length = olds.length * n) (hor : ∀ r ∈ olds, RowOk n r) (horel : ∀ (i j : Nat) (r : List D) (d : D), olds[i]? = some r → r[j]? = some d → ∃ u, ovs[i * n + j]? = some u ∧ Rel w Im (if dp then φ else []) d u)
    (hl : nvs.length = new.length * n) (hnr : ∀ r ∈ new, RowOk n r) (hnrel : ∀ (i j : Nat) (r : List D) (d : D), new[i]? = some r → r[j]? = some d → ∃ u, nvs[i * n + j]? = some u ∧ Rel w Im (if dq then φ else []) d u)
    (cap : Nat) (hcap : olds.length + new.length ≤ cap) :
    Good w Im φ σ (w.drew.alloc (.cells ((ovs ++ nvs).toArray ++ Builtin.zeroCells z (cap - (olds.length + new.length))) e)) (φ ++ [⟨w.heap.size, 0, n, ((ovs ++ nvs).toArray ++ Builtin.zeroCells z (cap - (olds.length + new.length))).size⟩])
      (σ ++ [some ⟨n, dp || dq, olds ++ new⟩]) (.msl σ.length 0 (olds.length + new.length) (olds.length + new.length) false) (.slice (some ⟨w.heap.size, 0, none⟩) (olds.length + new.length) cap) := by
  have hsize : ((ovs ++ nvs).toArray ++ Builtin.zeroCells z (cap - (olds.length + new.length))).size = cap * n := by
    rw [Array.size_append, zeroCells_size, hz, List.size_toArray, List.length_append, ho, hl, ← Nat.add_mul, ← Nat.add_mul]
    congr 1; omega
  have hget : ∀ p u, (ovs ++ nvs)[p]? = some u → ((ovs ++ nvs).toArray ++ Builtin.zeroCells z (cap - (olds.length + new.length)))[p]? = some u := fun p u hp => by
    have := (List.getElem?_eq_some_iff.1 hp).1
    rw [Array.getElem?_append_left (by simpa using this)]
    simpa using hp
  have hok : ∀ r ∈ olds ++ new, RowOk n r := fun r hr => (List.mem_append.1 hr).elim (hor r) (hnr r)
  have hrel : ∀ (i j : Nat) (r : List D) (d : D), (olds ++ new)[i]? = some r → r[j]? = some d → ∃ u, (ovs ++ nvs)[i * n + j]? = some u ∧ Rel w Im (if dp || dq then φ else []) d u := fun i j r d h1 h2 => by
    have hj := (List.getElem?_eq_some_iff.1 h2).1
    have hrl := (hok r (List.mem_of_getElem? h1)).1
    by_cases q : i < olds.length
    · rw [List.getElem?_append_left q] at h1
      obtain ⟨u, hu, hur⟩ := horel i j r d h1 h2
      have := row_lt (sz := n) (j := j) q (by omega)
      exact ⟨u, by rw [List.getElem?_append_left (by omega)]; exact hu, rel_or' hur⟩
    · rw [List.getElem?_append_right (by omega)] at h1
      obtain ⟨u, hu, hur⟩ := hnrel _ j r d h1 h2
      have e1 : i * n = olds.length * n + (i - olds.length) * n := by rw [← Nat.add_mul]; congr 1; omega
      exact ⟨u, by rw [List.getElem?_append_right (by omega), show i * n + j - ovs.length = (i - olds.length) * n + j by omega]; exact hu, rel_or hur⟩
  obtain ⟨a1, a2⟩ := hi.drew.alloc ((ovs ++ nvs).toArray ++ Builtin.zeroCells z (cap - (olds.length + new.length))) e (0, 0) ⟨n, dp || dq, olds ++ new⟩ hn (.inl rfl) hok
    (by rw [hsize, List.length_append]; exact Nat.mul_le_mul_right n hcap) (fun i j r d h1 h2 => by
      obtain ⟨u, hu, hur⟩ := hrel i j r d h1 h2
      exact ⟨u, hget _ _ hu, hur.mono (fun _ h => h) (fun _ _ => rfl) (PhiLe.refl _)⟩)
  refine ⟨PhiLe.append _ _, (Tr.drew _ _ _ _ _).trans a2, a1, .msl _ _ _ _ _ _ _ _ (phi_self hi.len _) (Nat.le_refl _) hcap (fun h => by cases h) (by simp only; rw [hsize]; simp) rfl (fun _ => by simp)⟩
theorem grownCap_ge (w : World) (need old : Nat) (e : TypeId) : need ≤ grownCap w need old e := by
  unfold grownCap; simp [Question.cut]
theorem append_sat (hi : Inv w Im φ σ) {t tx ty : TypeId} {dx : TypeDesc} {s x : D} {sv xv : Value} (hs : Rel w Im φ s sv) (hx : Rel w Im φ x xv) (htx : P.underlying tx = some dx)
    (hdx : (∃ e, dx = .slice e) ∨ dx = .string) (h1 : ∀ b, xv = .string b → dx = .string) (h2 : ∀ a n c, xv = .slice a n c → ∃ e, dx = .slice e) :
    SatV P w Im φ σ (Builtin.append_ #[t, tx] ty #[sv, xv]) (appendD P t s x σ) := by
  unfold appendD
  split
  · rename_i e hu
    split
    · rename_i n by_ zs sz dp cnt new hn hby hzs hrows
      split
      · rename_i hc
        obtain ⟨hc1, hc2, hc3, hc4⟩ := hc
        refine needN_sat fun hcnt => ?_
        obtain ⟨news, hsrc⟩ := rows_src hi hx hrows hc1 hc2 hcnt
        obtain ⟨ie, g1, g2⟩ := info_of_szOf hn
        obtain ⟨ie', g3, g4⟩ := byOf_some hby
        obtain rfl := Option.some.inj (g1.symm.trans g3)
        obtain ⟨z, zv, hz1, hz2⟩ : ∃ z zv, zeroD P e = some z ∧ ie.zero = some zv := by
          cases hz : zeroD P e with
          | none => simp [hz] at hzs
          | some z =>
            obtain ⟨i2, v2, q1, q2, _⟩ := zeroD_some hz
            obtain rfl := Option.some.inj (g1.symm.trans q1)
            exact ⟨z, v2, rfl, q2⟩
        have hzsize : zv.cells.size = n := by
          simp only [hz1, Option.bind_some] at hzs
          obtain ⟨i2, v2, q1, q2, q3⟩ := zero_rel (w := w) (Im := Im) (φ := φ) hz1
          obtain rfl := Option.some.inj (g1.symm.trans q1)
          obtain rfl := Option.some.inj (hz2.symm.trans q2)
          rw [← (rel_cells q3 hzs).1, hc4]
        have hsrcP : Src P ie.size tx xv new.length news w := by rw [g2]; exact hsrc.src htx hdx h1 h2
        have hlim : ∀ need sCap, sCap < need → need * by_ ≤ bytesLim → ((need : Nat) : Int) ≤ 9223372036854775807 ∧ Builtin.nextslicecap need sCap * ie.bytes ≤ 281474976710656 := fun need sCap q1 q2 => by
          have q2 : need * by_ ≤ 140737488355328 := q2
          have q3 := Nat.le_mul_of_pos_right need hc3
          have q4 := Nat.mul_le_mul_right by_ (Room.nextslicecap_le' q1)
          rw [Nat.mul_assoc] at q4
          rw [g4]
          exact ⟨by omega, by omega⟩
        split
        · rename_i sz' rows'
          obtain ⟨rfl, rfl⟩ := hs.nilsl_inv
          intro hb
          have hb' : new.length * by_ ≤ bytesLim := of_decide_eq_true hb
          show SatV P w Im φ σ _ (.ok _ _)
          rcases Nat.eq_zero_or_pos new.length with h0 | hpos
          · have he' : new = [] := List.eq_nil_of_length_eq_zero h0
            subst he'
            have hr := run_append_nothing w t tx ty e ie hu g1 none 0 0 (Nat.le_refl _) xv (by have := hsrc.len; simp at this; subst this; simpa using hsrcP)
            obtain ⟨n1, n2⟩ := hi.nothing hc2 dp
            simp only [List.length_nil]
            exact ⟨_, _, _, hr, PhiLe.append _ _, n2, n1, .mnil _ _ _ _ (phi_self hi.len _)⟩
          · obtain ⟨q1, q2⟩ := hlim (0 + new.length) 0 (by omega) (by rw [Nat.zero_add]; exact hb')
            have hr := run_append_grow_src w t tx ty e ie zv hu g1 hz2 none 0 0 [] (by simp [Builtin.firstCells]) xv new.length news hsrcP (by omega) q1 q2
            have hg := grow_good (e := e) hi (olds := []) (ovs := []) (dp := false) (n := n) hzsize hc2 (by simp) (by simp) (by simp) hsrc.len hsrc.rows hsrc.rel (grownCap w (0 + new.length) 0 e) (by simpa using grownCap_ge w (0 + new.length) 0 e)
            simp only [List.length_nil, Nat.zero_add, List.nil_append, Bool.false_or] at hg hr
            exact ⟨_, _, _, hr, hg⟩
        · rename_i b i len lo ex
          split
          · rename_i B hB
            split
            · rename_i hBz
              subst hBz
              obtain ⟨l, hl, ⟨rfl, rfl, rfl⟩ | ⟨cap, ad, rfl, a1, a2, a3, a4, a5, a6⟩⟩ := hs.msl_inv
              · intro hb hb2
                have hb' : new.length * by_ ≤ bytesLim := by simpa using of_decide_eq_true hb
                show SatV P w Im φ σ _ (.ok _ _)
                obtain ⟨d1, d2⟩ := hi.drop b
                have h00 : (B.rows.drop i).take 0 = [] := by simp
                rw [h00, List.nil_append]
                rcases Nat.eq_zero_or_pos new.length with h0 | hpos
                · have he' : new = [] := List.eq_nil_of_length_eq_zero h0
                  subst he'
                  have hr := run_append_nothing w t tx ty e ie hu g1 none 0 0 (Nat.le_refl _) xv (by have := hsrc.len; simp at this; subst this; simpa using hsrcP)
                  obtain ⟨n1, n2⟩ := d1.nothing hc2 (B.deep || dp)
                  simp only [List.length_nil]
                  exact ⟨_, _, _, hr, PhiLe.append _ _, d2.trans n2, n1, .mnil _ _ _ _ (by have := phi_self (φ := φ) (σ := σ) hi.len ⟨0, 0, B.sz, 0⟩; exact this)⟩
                · obtain ⟨q1, q2⟩ := hlim (0 + new.length) 0 (by omega) (by rw [Nat.zero_add]; exact hb')
                  have hr := run_append_grow_src w t tx ty e ie zv hu g1 hz2 none 0 0 [] (by simp [Builtin.firstCells]) xv new.length news hsrcP (by omega) q1 q2
                  have hg := grow_good (e := e) d1 (olds := []) (ovs := []) (dp := B.deep) (n := B.sz) hzsize hc2 (by simp) (by simp) (by simp) hsrc.len hsrc.rows hsrc.rel (grownCap w (0 + new.length) 0 e) (by simpa using grownCap_ge w (0 + new.length) 0 e)
                  simp only [List.length_nil, Nat.zero_add, List.nil_append, List.length_set] at hg hr
                  exact ⟨_, _, _, hr, hg.le, d2.trans hg.tr, hg.inv, hg.rel⟩
              obtain ⟨l', hl', hk⟩ := hi.loc hB
              obtain rfl := Option.some.inj (hl.symm.trans hl')
              have hadd : ad = ⟨ad.block, ad.off, none⟩ := by cases ad; simp_all
              -- in place
              have hroom : len + new.length ≤ cap → (Builtin.append_ #[t, tx] ty #[.slice (some ad) len cap, xv]).run P w = .ok (.slice (some ad) (len + new.length) cap) (w.setCells l.blk (l.base + (i + len) * B.sz) news) := fun hle => by
                by_cases hcap : cap = 0
                · have h0 : new = [] := List.eq_nil_of_length_eq_zero (by omega)
                  subst h0
                  have hnews : news = [] := List.eq_nil_of_length_eq_zero (by simpa using hsrc.len)
                  subst hnews
                  exact run_append_nothing w t tx ty e ie hu g1 (some ad) len cap (by omega) xv (by simpa using hsrcP)
                · obtain rfl := a6 hcap
                  have e1 : l.base + i * l.sz + len * ie.size = l.base + (i + len) * B.sz := by rw [g2, hk.sz, Nat.add_mul]; omega
                  have hm : ∀ j, j < news.length → l.base + (i + len) * B.sz + j < l.size := fun j hj => by
                    rw [hsrc.len] at hj
                    have := Nat.mul_le_mul_right B.sz (show i + len + new.length ≤ i + cap by omega)
                    rw [Nat.add_mul (i + len)] at this
                    rw [hk.sz] at a4
                    omega
                  have := run_append_room_src w t tx ty e ie hu g1 l.blk (l.base + i * l.sz) len cap xv new.length news hsrcP hle (fun j hj => by rw [e1]; exact (hk.mem _ (hm j hj)).1) (fun j hj => by rw [e1]; exact (hk.mem _ (hm j hj)).2)
                  rw [e1] at this
                  exact this
              -- a new row
              have hgrow : cap < len + new.length → (len + new.length) * by_ ≤ bytesLim → i + len ≤ B.rows.length → ∀ (σ' : Sto), Inv w Im φ σ' → Tr φ.length w Im φ σ w Im φ σ' → σ'.length = σ.length →
                  ∃ v w' φ', (Builtin.append_ #[t, tx] ty #[.slice (some ad) len cap, xv]).run P w = .ok v w' ∧ Good w Im φ σ w' φ' (σ' ++ [some ⟨B.sz, B.deep || dp, (B.rows.drop i).take len ++ new⟩]) (.msl σ.length 0 (len + new.length) (len + new.length) false) v := by
                intro hlt hby' hin σ' hi' htr hl'
                obtain ⟨q1, q2⟩ := hlim _ _ hlt hby'
                have hsub := hk.rowsAt.sub i len
                obtain ⟨ovs, o1, o2, o3, o4⟩ := mem_cells hsub hc2
                have hol : ((B.rows.drop i).take len).length = len := by simp; omega
                have hold : (Builtin.firstCells ie.size len (.slice (some ad) len cap)).run P w.drew = .ok ovs.toArray w.drew := by
                  refine run_firstCells_some w.drew ie.size len ad len cap ovs (by rw [o1, hol, g2]) (fun j u hj => ?_)
                  have hj' := (List.getElem?_eq_some_iff.1 hj).1
                  rw [o1, hol] at hj'
                  have : cap ≠ 0 := by
                    intro h0
                    have : len = 0 := by omega
                    rw [this] at hj'; simp at hj'
                  rw [a6 this, addr_add, hk.sz]
                  exact o4 j u hj
                have hr := run_append_grow_src w t tx ty e ie zv hu g1 hz2 (some ad) len cap ovs hold xv new.length news hsrcP hlt q1 q2
                have hg := grow_good (e := e) hi' (olds := (B.rows.drop i).take len) (ovs := ovs) (dp := B.deep) (dq := dp) hzsize hc2 o1 hsub.1 o2 hsrc.len hsrc.rows hsrc.rel (grownCap w (len + new.length) cap e) (by rw [hol]; exact grownCap_ge w _ _ e)
                rw [hol, hl'] at hg
                exact ⟨_, _, _, hr, hg.le, htr.trans hg.tr, hg.inv, hg.rel⟩
              intro hb hb2
              have hb' : (len + new.length) * by_ ≤ bytesLim := of_decide_eq_true hb
              have hb2' := Nat.le_of_ble_eq_true hb2
              show SatV P w Im φ σ _ (.ok _ _)
              have hrl : ((B.rows.drop i).take len ++ new).length = len + new.length := by simp; omega
              rw [hrl]
              by_cases hle : len + new.length ≤ cap
              · have hfit' : l.base + (i + len + new.length) * B.sz ≤ l.size := by
                  have := Nat.mul_le_mul_right B.sz (show i + len + new.length ≤ i + cap by omega)
                  rw [hk.sz] at a4
                  omega
                obtain ⟨b1, b2⟩ := writeRows hi hB hl (i + len) hb2' hsrc.len hsrc.rows hsrc.rel hfit' false
                simp only [Bool.false_eq_true, if_false, List.append_nil] at b1 b2
                have hlb := sget_lt hB
                obtain ⟨c1, c2⟩ := b1.move (sget_set_self hlb) hl i (by simp; omega)
                have e2 : (B.rows.take (i + len) ++ new).drop i = (B.rows.drop i).take len ++ new := by
                  rw [List.drop_append_of_le_length (by simp; omega), List.drop_take, show i + len - i = len by omega]
                rw [e2, List.set_set] at c1 c2
                refine ⟨_, _, _, hroom hle, PhiLe.append _ _, b2.trans c2, c1, .msl _ _ _ _ _ _ cap ad (phi_self hi.len _) (Nat.le_refl _) hle (fun h => by cases h) (by simp only; rw [Nat.zero_add, Nat.add_assoc, ← Nat.add_mul]; exact a4) a5 (fun hc => by simpa using a6 hc)⟩
              · obtain ⟨d1, d2⟩ := hi.drop b
                exact hgrow (by omega) hb' hb2' _ d1 d2 (by simp)
            · trivial
          · trivial
        · trivial
      · trivial
    · trivial
  · trivial
end
end Go.RX

namespace Go.RX
open Go
section
variable {P : Program} {w : World} {Im : Nat → Prop} {φ : Phi} {σ : Sto}
theorem take_cells {n k : Nat} {new : List (List D)} {news : List Value} {dp : Bool} (hlen : news.length = new.length * n) (hk : k ≤ new.length)
    (hrel : ∀ (i j : Nat) (r : List D) (d : D), new[i]? = some r → r[j]? = some d → ∃ u, news[i * n + j]? = some u ∧ Rel w Im (if dp then φ else []) d u) (hrows : ∀ r ∈ new, RowOk n r) :
    (news.take (k * n)).length = (new.take k).length * n ∧ ∀ (i j : Nat) (r : List D) (d : D), (new.take k)[i]? = some r → r[j]? = some d → ∃ u, (news.take (k * n))[i * n + j]? = some u ∧ Rel w Im (if dp then φ else []) d u := by
  have := Nat.mul_le_mul_right n hk
  refine ⟨by simp; rw [Nat.min_eq_left hk]; omega, fun i j r d h1 h2 => ?_⟩
  rw [List.getElem?_take] at h1
  split at h1
  · rename_i hi
    obtain ⟨u, hu, hur⟩ := hrel i j r d h1 h2
    have hj := (List.getElem?_eq_some_iff.1 h2).1
    rw [(hrows r (List.mem_of_getElem? h1)).1] at hj
    exact ⟨u, by rw [List.getElem?_take, if_pos (row_lt hi hj)]; exact hu, hur⟩
  · cases h1
theorem copy_sat (hi : Inv w Im φ σ) {t tx ty : TypeId} {d s : D} {dv sv : Value} (hd : Rel w Im φ d dv) (hs : Rel w Im φ s sv) : SatV P w Im φ σ (Builtin.copy_ #[t, tx] ty #[dv, sv]) (copyD P t d s σ) := by
  unfold copyD
  split
  · rename_i e hu
    split
    · rename_i n sz dp cnt rows b i len lo ex hn hrows
      split
      · rename_i B hB
        split
        · rename_i hc
          obtain ⟨hc1, hc2, hc3⟩ := hc
          subst hc2
          refine needN_sat fun hcnt => ?_
          obtain ⟨news, hsrc⟩ := rows_src hi hs hrows hc1 hc3 hcnt
          obtain ⟨ie, g1, g2⟩ := info_of_szOf hn
          obtain ⟨l, hl, hdv⟩ := hd.msl_inv
          obtain ⟨l', hl', hk⟩ := hi.loc hB
          obtain rfl := Option.some.inj (hl.symm.trans hl')
          intro hb
          show SatV P w Im φ σ _ (.ok _ _)
          have hb' := Nat.le_of_ble_eq_true hb
          have hm : min rows.length len ≤ rows.length := Nat.min_le_left _ _
          have hm2 : min rows.length len ≤ len := Nat.min_le_right _ _
          obtain ⟨t1, t2⟩ := take_cells hsrc.len hm hsrc.rel hsrc.rows
          have hfit := hk.fit
          have hin : l.base + (i + min rows.length len) * B.sz ≤ l.size := by
            have := Nat.mul_le_mul_right B.sz (show i + min rows.length len ≤ B.rows.length by omega)
            omega
          have htl : (rows.take (min rows.length len)).length = min rows.length len := by simp
          obtain ⟨b1, b2⟩ := writeRows hi hB hl i (by omega) t1 (fun r hr => hsrc.rows r (List.mem_of_mem_take hr)) t2 (by rw [htl]; exact hin) true
          simp only [if_true, htl] at b1 b2
          refine ⟨.int .i64 ((min rows.length len : Nat) : Int), _, φ, ?_, PhiLe.refl _, b2, b1, .int _ _⟩
          -- the run
          rcases hdv with ⟨rfl, rfl, rfl⟩ | ⟨cap, ad, rfl, a1, a2, a3, a4, a5, a6⟩
          · have hlen : ∀ w' : World, (Builtin.lenOf sv).run P w' = .ok rows.length w' := by
              rcases hsrc.kind with ⟨a, c, rfl, _⟩ | ⟨rfl, h0, _⟩ | ⟨s', rfl, _, _, h0⟩
              · intro; rfl
              · intro; rw [h0]; rfl
              · intro; rw [h0]; rfl
            have hcells : (Builtin.firstCells B.sz 0 sv).run P w = .ok #[] w := by
              rcases hsrc.kind with ⟨a, c, rfl, hcell⟩ | ⟨rfl, h0, h1⟩ | ⟨s', rfl, hs1, hs2, h0⟩
              · exact run_firstCells_some w B.sz 0 a _ c [] (by simp) (fun j u hj => by simp at hj)
              · simpa using run_firstCells_none w B.sz 0 0 0
              · simp [Builtin.firstCells, byteCells]
            have h00 : min rows.length 0 = 0 := by simp
            simp [Builtin.copy_, run_underlying hu, hlen, szOf_some hn, hcells, goInt, World.setCells]
          have hlen : ∀ w' : World, (Builtin.lenOf sv).run P w' = .ok rows.length w' := by
            rcases hsrc.kind with ⟨a, c, rfl, _⟩ | ⟨rfl, h0, _⟩ | ⟨s', rfl, _, _, h0⟩
            · intro; rfl
            · intro; rw [h0]; rfl
            · intro; rw [h0]; rfl
          have hcells : (Builtin.firstCells ie.size (min rows.length len) sv).run P w = .ok (news.take (min rows.length len * B.sz)).toArray w := by
            rw [g2]
            rcases hsrc.kind with ⟨a, c, rfl, hcell⟩ | ⟨rfl, h0, h1⟩ | ⟨s', rfl, hs1, hs2, h0⟩
            · exact run_firstCells_some w B.sz (min rows.length len) a _ c _ (by rw [t1, htl]) (fun j u hj => hcell j u (by rw [List.getElem?_take] at hj; split at hj; exact hj; cases hj))
            · subst h0; subst h1; simpa using run_firstCells_none w B.sz 0 0 0
            · rw [hs1] at *
              simp only [Builtin.firstCells, Sem.run_pure, hs2, Nat.mul_one]
              congr 1
              apply Array.ext'
              simp [byteCells, ByteArray.data_extract, List.extract_eq_take_drop]
          have hst : (match (some ad : Option Addr) with | some a => storeCells a (news.take (min rows.length len * B.sz)) | none => pure ()).run P w = .ok () (w.setCells l.blk (l.base + i * B.sz) (news.take (min rows.length len * B.sz))) := by
            by_cases hcap : cap = 0
            · have h0 : min rows.length len = 0 := by omega
              rw [h0]; simp [storeCells, World.setCells]
            · obtain rfl := a6 hcap
              have hone : ∀ v ∈ news.take (min rows.length len * B.sz), v.oneCell' = true := fun v hv => hsrc.one v (List.mem_of_mem_take hv)
              have hmem : ∀ j, j < (news.take (min rows.length len * B.sz)).length → l.base + i * B.sz + j < l.size := fun j hj => by
                rw [t1, htl] at hj
                rw [Nat.add_mul] at hin
                omega
              have := run_storeCells_cells (P := P) l.blk (l.base + i * B.sz) _ 0 w (fun j hj => by simpa using (hk.mem _ (hmem j hj)).1) (fun j hj => by simpa using (hk.mem _ (hmem j hj)).2) hone
              rw [hk.sz]
              simpa using this
          have hmin : Nat.min rows.length len = min rows.length len := rfl
          rw [g2] at hcells
          have hst' : (storeCells ad (news.take (min rows.length len * B.sz))).run P w = .ok () (w.setCells l.blk (l.base + i * B.sz) (news.take (min rows.length len * B.sz))) := hst
          simp [Builtin.copy_, run_underlying hu, hlen, szOf_some hn, hmin, hcells, hst', goInt]
        · trivial
      · trivial
    · trivial
  · trivial
theorem clear_sat (hi : Inv w Im φ σ) {t ty : TypeId} {s : D} {sv : Value} (hs : Rel w Im φ s sv) : SatV P w Im φ σ (Builtin.clear_ #[t] ty #[sv]) (clearD P t s σ) := by
  unfold clearD
  split
  · rename_i e nsz rows hu
    obtain ⟨rfl, -⟩ := hs.nilsl_inv
    exact SatV.pure hi ⟨.tuple #[], by simp [Builtin.clear_, run_underlying hu], .tup _ _ (by simp) (fun i d v h => by simp at h)⟩
  · rename_i e b i len lo ex hu
    split
    · rename_i n zs B hn hzs hB
      split
      · rename_i hc
        obtain ⟨hc1, hc2, hc3, hc4⟩ := hc
        subst hc3
        intro hb
        have hb' := Nat.le_of_ble_eq_true hb
        cases hz : zrow P e with
        | none => rw [hz] at hzs; cases hzs
        | some z =>
          obtain ⟨ie, zv, g1, g2, hzr⟩ := zrow_rel (w := w) (Im := Im) (φ := φ) hz
          have hzz : zs = z := Option.some.inj (hzs.symm.trans hz)
          subst hzz
          have hien : ie.size = B.sz := by unfold szOf at hn; simpa [g1] using hn
          have hzsz : zv.cells.size = B.sz := by rw [← hzr.1, hc1]
          obtain ⟨l, hl, hsv⟩ := hs.msl_inv
          obtain ⟨l', hl', hk⟩ := hi.loc hB
          obtain rfl := Option.some.inj (hl.symm.trans hl')
          show SatV P w Im φ σ _ (.ok _ _)
          have hrr := repl_rows (w := w) (Im := Im) (φ := φ) B.sz len zs zv.cells hzr hc1 hc2
          have hzc : Builtin.zeroCells zv.cells len = (Array.range (len * B.sz)).map (zv.cells[· % zv.cells.size]!) := by simp [Builtin.zeroCells, hzsz]
          have hsz : (Builtin.zeroCells zv.cells len).toList.length = len * B.sz := by rw [hzc]; simp
          have hrows : ∀ r ∈ List.replicate len zs, RowOk B.sz r := fun r hr => by rw [(List.mem_replicate.1 hr).2]; exact ⟨hc1, hc4⟩
          have hfit := hk.fit
          have hin : l.base + (i + len) * B.sz ≤ l.size := by
            have := Nat.mul_le_mul_right B.sz hb'
            omega
          have hrel : ∀ (i j : Nat) (r : List D) (d : D), (List.replicate len zs)[i]? = some r → r[j]? = some d → ∃ u, (Builtin.zeroCells zv.cells len).toList[i * B.sz + j]? = some u ∧ Rel w Im (if zs.any hasRef1 then φ else []) d u := fun i j r d h1 h2 => by
            obtain ⟨u, hu, hur⟩ := hrr.2.2 i j r d h1 h2
            have hrz := (List.mem_replicate.1 (List.mem_of_getElem? h1)).2
            refine ⟨u, by rw [hzc, Array.getElem?_toList]; exact hu, ?_⟩
            rw [hrz] at h2
            exact rel_flag hc4 (fun h => h) h2 hur
          obtain ⟨b1, b2⟩ := writeRows hi hB hl i (by omega) (new := List.replicate len zs) (by rw [hsz]; simp) hrows hrel (by simpa using hin) true
          simp only [if_true, List.length_replicate] at b1 b2
          refine ⟨.tuple #[], _, φ, ?_, PhiLe.refl _, b2, b1, .tup _ _ (by simp) (fun i d v h => by simp at h)⟩
          rcases hsv with ⟨rfl, rfl, rfl⟩ | ⟨cap, ad, rfl, a1, a2, a3, a4, a5, a6⟩
          · have : (Builtin.zeroCells zv.cells 0).toList = [] := List.eq_nil_of_length_eq_zero (by rw [hsz]; simp)
            rw [this]
            simp [Builtin.clear_, run_underlying hu, World.setCells]
          by_cases h0 : len = 0
          · subst h0
            have : (Builtin.zeroCells zv.cells 0).toList = [] := List.eq_nil_of_length_eq_zero (by rw [hsz]; simp)
            rw [this]
            simp [Builtin.clear_, run_underlying hu, World.setCells]
          · obtain rfl := a6 (by omega)
            have hone : ∀ v ∈ (Builtin.zeroCells zv.cells len).toList, v.oneCell' = true := fun v hv => by
              obtain ⟨p, hp, rfl⟩ := List.getElem_of_mem hv
              have hp' := hp
              rw [hsz] at hp'
              have h1 : p / B.sz < len := (Nat.div_lt_iff_lt_mul hc2).2 hp'
              have h2 : p % B.sz < B.sz := Nat.mod_lt _ hc2
              have h3 : p / B.sz * B.sz + p % B.sz = p := by rw [Nat.mul_comm]; exact Nat.div_add_mod p B.sz
              obtain ⟨u, hu', hur⟩ := hrel (p / B.sz) (p % B.sz) zs (zs[p % B.sz]'(by omega)) (by simp [List.getElem?_replicate, h1]) (by simp)
              rw [h3, List.getElem?_eq_getElem hp] at hu'
              rw [Option.some.inj hu']
              exact hur.one (List.all_eq_true.1 hc4 _ (List.getElem_mem _))
            have hmem : ∀ j, j < (Builtin.zeroCells zv.cells len).toList.length → l.base + i * B.sz + j < l.size := fun j hj => by
              rw [hsz] at hj
              rw [Nat.add_mul] at hin
              omega
            have := run_storeCells_cells (P := P) l.blk (l.base + i * B.sz) _ 0 w (fun j hj => by simpa using (hk.mem _ (hmem j hj)).1) (fun j hj => by simpa using (hk.mem _ (hmem j hj)).2) hone
            simp only [Nat.add_zero] at this
            rw [hk.sz]
            obtain ⟨m, rfl⟩ : ∃ m, len = m + 1 := ⟨len - 1, by omega⟩
            simp only [Builtin.clear_]
            simp [run_underlying hu, zeroValue, typeInfo, g1, g2, this]
      · trivial
    · trivial
  · trivial
theorem freeze_alloc (w : World) (cs : Array Value) (e : TypeId) : (w.alloc (.cells cs e (0, 0))).freeze ⟨w.heap.size, cs.size, none⟩ 1 = w.alloc (.cells cs e (cs.size, cs.size + 1)) := by
  simp only [World.freeze]
  rw [if_neg (by omega)]
  show ({ w with heap := (w.heap.push (.cells cs e (0, 0))).modify w.heap.size _ } : World) = { w with heap := w.heap.push (.cells cs e (cs.size, cs.size + 1)) }
  congr 1
  apply Array.ext
  · simp
  · intro i h1 h2
    simp only [Array.getElem_modify, Array.getElem_push]
    by_cases hi : w.heap.size = i
    · subst hi; simp
    · simp only [if_neg hi]
      split
      · rfl
      · exfalso; simp at h2; omega
theorem rowsStr_ints {xv : Value} {dp : Bool} {rows : List (List D)} {news : List Value} {bs : List UInt8} (h : SrcOk w Im φ xv 1 dp rows news) (hb : rowsStr rows = some bs) :
    ∃ ns : List Int, news = ns.map (Value.int .u8) ∧ (ns.map fun n => UInt8.ofNat n.toNat) = bs := by
  have hl := h.len
  have hr := h.rel
  clear h
  rw [Nat.mul_one] at hl
  induction rows generalizing news bs with
  | nil => simp [rowsStr] at hb; subst hb; simp at hl; subst hl; exact ⟨[], rfl, rfl⟩
  | cons r rows ih =>
    cases news with
    | nil => simp at hl
    | cons v news =>
      simp only [rowsStr] at hb
      split at hb
      · rename_i n
        split at hb
        · rename_i s hs
          obtain rfl := Option.some.inj hb
          obtain ⟨ns, h1, h2⟩ := ih (news := news) hs (by simpa using hl) (fun i j r d a b => by
            obtain ⟨u, hu, hur⟩ := hr (i + 1) j r d (by simpa using a) b
            refine ⟨u, ?_, hur⟩
            rw [show (i + 1) * 1 + j = (i * 1 + j) + 1 by omega] at hu
            simpa using hu)
          obtain ⟨u, hu, hur⟩ := hr 0 0 [.int .u8 n] (.int .u8 n) rfl rfl
          simp at hu
          subst hu
          have := hur.int_inv
          subst this
          exact ⟨n :: ns, by simp [h1], by simp [h2]⟩
        · cases hb
      · cases hb
theorem conv_sat (hi : Inv w Im φ σ) {s d : TypeId} {x : D} {xv : Value} (hx : Rel w Im φ x xv) : SatV P w Im φ σ (convert s d xv) (convD P s d x σ) := by
  unfold convD
  split
  · rename_i k1 k k2 n h1 h2
    obtain rfl := hx.int_inv
    exact SatV.pure hi ⟨_, by simp [convert, run_underlying h1, run_underlying h2, Conv.intToInt], .int _ _⟩
  · rename_i b h1 h2
    obtain ⟨s', rfl, rfl⟩ := hx.str_inv
    exact SatV.pure hi ⟨_, by simp [convert, run_underlying h1, run_underlying h2], .str _ _ rfl⟩
  · rename_i e l h1 h2
    obtain ⟨b, rfl, rfl⟩ := hx.str_inv
    split
    · rename_i h3
      generalize hcap : (Question.appendCap b.size 0 e).cut (w.tape w.drawn (.appendCap b.size 0 e)) = cap
      have hge : b.size ≤ cap := by rw [← hcap]; simp [Question.cut]
      have hbs : b.data.toList.length = b.size := by simp
      have harr : ((b.data.map fun (c : UInt8) => Value.int .u8 c.toNat) ++ Array.replicate (cap - b.size) (Value.int .u8 0)).size = cap := by
        simp
        have : b.data.size = b.size := rfl
        omega
      have hget : ∀ (i : Nat) (c : UInt8), b.data.toList[i]? = some c → ((b.data.map fun (c : UInt8) => Value.int .u8 c.toNat) ++ Array.replicate (cap - b.size) (Value.int .u8 0))[i * 1 + 0]? = some (.int .u8 c.toNat) := fun i c hc => by
        have hlt := (List.getElem?_eq_some_iff.1 hc).1
        rw [Nat.mul_one, Nat.add_zero, Array.getElem?_append_left (by simpa using hlt)]
        simp at hc ⊢
        exact ⟨c, hc, rfl⟩
      have hg := newRow_good (e := e) (w := w.drew) hi.drew (n := 1) (by omega) (rows := b.data.toList.map fun c => [.int .u8 (c.toNat : Int)]) (cs := (b.data.map fun (c : UInt8) => Value.int .u8 c.toNat) ++ Array.replicate (cap - b.size) (Value.int .u8 0)) (cap, cap + 1)
        (.inr (by rw [harr]; exact Nat.le_refl _)) (fun r hr => by
          simp only [List.mem_map] at hr
          obtain ⟨c, _, rfl⟩ := hr
          rfl) (by rw [harr]; simp; have : b.data.size = b.size := rfl; omega) (fun i j r d g1 g2 => by
          simp only [List.getElem?_map, Option.map_eq_some_iff] at g1
          obtain ⟨c, hc, rfl⟩ := g1
          cases j with
          | zero => simp at g2; subst g2; exact ⟨_, hget i c hc, .int _ _⟩
          | succ j => simp at g2) (fun r hr => by
          simp only [List.mem_map] at hr
          obtain ⟨c, _, rfl⟩ := hr
          rfl) false (fun r hr h => by
          simp only [List.mem_map] at hr
          obtain ⟨c, _, rfl⟩ := hr
          simp [hasRef1] at h) b.data.toList.length cap b.data.toList.length false (Nat.le_refl _) (by rw [hbs]; exact hge) (fun h => by cases h) (by rw [harr]; omega)
      have hrl : (b.data.toList.map fun c => [D.int .u8 (c.toNat : Int)]).length = b.data.toList.length := by simp
      show SatV P w Im φ σ _ (.ok (.msl σ.length 0 (b.data.toList.map fun c => [D.int .u8 (c.toNat : Int)]).length (b.data.toList.map fun c => [D.int .u8 (c.toNat : Int)]).length false) _)
      rw [hrl]
      refine ⟨_, _, _, ?_, Good.after (PhiLe.refl _) (Nat.le_refl _) (Tr.drew _ _ _ _ _) hg⟩
      have hfr := freeze_alloc w.drew ((b.data.map fun (c : UInt8) => Value.int .u8 c.toNat) ++ Array.replicate (cap - b.size) (Value.int .u8 0)) e
      rw [harr] at hfr
      have hsz : w.drew.heap.size = w.heap.size := rfl
      have hshape : (w.drew.alloc (.cells ((b.data.map fun (c : UInt8) => Value.int .u8 c.toNat) ++ Array.replicate (cap - b.size) (Value.int .u8 0)) e)).shape? w.heap.size = some (e, cap) := by
        have : (w.drew.alloc (.cells ((b.data.map fun (c : UInt8) => Value.int .u8 c.toNat) ++ Array.replicate (cap - b.size) (Value.int .u8 0)) e)).heap[w.heap.size]? = some (.cells ((b.data.map fun (c : UInt8) => Value.int .u8 c.toNat) ++ Array.replicate (cap - b.size) (Value.int .u8 0)) e) := by
          rw [show (w.drew.alloc (.cells ((b.data.map fun (c : UInt8) => Value.int .u8 c.toNat) ++ Array.replicate (cap - b.size) (Value.int .u8 0)) e)).heap = w.heap.push _ from rfl]; simp
        simp only [World.shape?, this, harr]
      rw [hsz] at hfr hg
      rw [← hfr, hbs]
      have hf : (Question.appendCap b.size 0 e).forced = false := rfl
      have hdr : ({ w with drawn := w.drawn + 1 } : World) = w.drew := rfl
      simp only [convert, run_underlying h1, run_underlying h2, run_underlying h3, Sem.run_bind, Result.andThen_ok, Conv.stringToBytes, choose, Sem.run, hf, Bool.false_eq_true, if_false, hcap, hdr, newRow, newObj, markStringish, shape]
      show ((Sem.run P (Pure.pure _) (w.drew.alloc _)).andThen _) = _
      simp only [Sem.run_pure, Result.andThen_ok, hshape]
      simp [freeze, Sem.run]
    · trivial
  · rename_i e0 e b i len lo ex h1 h2
    split
    · rename_i B h3 hB
      split
      · rename_i hsd
        obtain ⟨rfl, hsz⟩ := hsd
        intro hlen
        have hlen' : 0 < len := Nat.le_of_ble_eq_true hlen
        cases hx with
        | mnil => omega
        | msl b i len lo ex l cap a g1 g2 g3 g4 g5 g6 g7 =>
          have hk := hi.blk b B l hB g1
          have hcap : 0 < cap := by omega
          have hp : 0 < l.size := by
            have := hk.pos
            have h9 := hk.sz
            have : l.sz ≤ (i + cap) * l.sz := Nat.le_mul_of_pos_left _ (by omega)
            omega
          have ha := g7 (by omega)
          obtain ⟨cs, ce, cf, hobj⟩ : ∃ cs ce cf, w.heap[l.blk]? = some (.cells cs ce cf) := by
            have := (hk.mem 0 hp).1
            simp only [World.cell?] at this
            split at this
            · rename_i cs ce cf hh; exact ⟨cs, ce, cf, hh⟩
            · simp at this
          have hn : l.size ≤ cs.size := by
            have := (hk.mem (l.size - 1) (by omega)).1
            simp only [World.cell?, hobj] at this
            simp at this
            omega
          obtain ⟨i1, i2⟩ := hi.mark hB g1 hp hn
          refine ⟨_, _, φ, ?_, PhiLe.refl _, i2, i1, .msl b i len lo ex l cap a g1 g2 g3 g4 g5 g6 g7⟩
          have hshape : w.shape? l.blk = some (ce, cs.size) := by
            simp only [World.shape?, hobj]
          rw [h1] at h2
          obtain rfl : e0 = e := by simpa using h2
          simp only [convert, run_underlying h1, run_underlying h3, markStringish, shape, Sem.run, freeze, ha, Sem.run_bind, Result.andThen_ok, hshape, beq_self_eq_true]
          rfl
      · trivial
    · trivial
  · rename_i x' e h1 h2
    split
    · rename_i sz dq cnt rows h3 h4 h5
      split
      · rename_i hsz
        obtain ⟨hsz, hnstr⟩ := hsz
        refine needN_sat fun hcnt => ?_
        intro bs hbs
        obtain ⟨news, hsrc⟩ := rows_src hi hx h5 hsz (by omega) hcnt
        refine SatV.pure hi ?_
        obtain ⟨ns, hns1, hns2⟩ := rowsStr_ints hsrc hbs
        rcases hsrc.kind with ⟨a, c, rfl, hcell⟩ | ⟨rfl, h0, h00⟩ | ⟨s', rfl, _, _, _⟩
        · refine ⟨.string (ns.foldl (fun r n => r.push (UInt8.ofNat n.toNat)) ByteArray.empty), ?_, .str _ _ ?_⟩
          · rw [run_convert_bytes_string w s d e _ _ _ h1 h3 h2]
            refine run_bytesToString w a _ c ns ?_
            rw [← hns1]
            have := run_loadCells_list (P := P) w a news hcell
            rw [hsrc.len, Nat.mul_one] at this
            exact this
          · rw [← hns2]
            have key : ∀ (l : List Int) (b : ByteArray), (l.foldl (fun r (n : Int) => r.push (UInt8.ofNat n.toNat)) b).data.toList = b.data.toList ++ l.map fun n => UInt8.ofNat n.toNat := by
              intro l
              induction l with
              | nil => intro b; simp
              | cons x l ih => intro b; simp only [List.foldl_cons, List.map_cons]; rw [ih]; simp
            rw [key]; simp
        · subst h0
          simp [rowsStr] at hbs
          subst hbs
          exact ⟨.string .empty, by rw [run_convert_bytes_string w s d e _ _ _ h1 h3 h2]; simp [Conv.bytesToString], .str _ _ rfl⟩
        · cases hx with
          | undef => simp [rowsD] at h5
          | str => simp [isStr] at hnstr
      · trivial
    · trivial
  · trivial
theorem appendZ_sat (hi : Inv w Im φ σ) {t tx ty : TypeId} {k : IntKind} {s x : D} {sv xv : Value} (hs : Rel w Im φ s sv) (hx : Rel w Im φ x xv) (htx : P.underlying tx = some (.int k)) :
    SatV P w Im φ σ (Builtin.append_ #[t, tx] ty #[sv, xv]) (appendZ P t s x σ) := by
  unfold appendZ
  split
  · rename_i e hu
    split
    · rename_i n by_ zs sz rows k' m hn hby hzs
      obtain ⟨rfl, rfl⟩ := hs.nilsl_inv
      obtain rfl := hx.int_inv
      split
      · rename_i hc
        obtain ⟨hc1, hc2, hc3, hc4⟩ := hc
        intro hcond
        simp only [Bool.and_eq_true, decide_eq_true_eq] at hcond
        obtain ⟨p1, p2⟩ := hcond
        have p2 : m.toNat * by_ ≤ 140737488355328 := p2
        obtain ⟨len, rfl⟩ := Int.eq_ofNat_of_zero_le (show 0 ≤ m by omega)
        rw [Int.toNat_natCast] at p2 ⊢
        have hpos : 0 < len := by omega
        cases hz : zrow P e with
        | none => rw [hz] at hzs; cases hzs
        | some z =>
          obtain ⟨ie, zv, g1, g2, hzr⟩ := zrow_rel (w := w) (Im := Im) (φ := φ) hz
          have hzz : zs = z := Option.some.inj (hzs.symm.trans hz)
          subst hzz
          have hien : ie.size = n := by unfold szOf at hn; simpa [g1] using hn
          have hzsz : zv.cells.size = n := by rw [← hzr.1, hc1]
          obtain ⟨ie', g4, g5⟩ := byOf_some hby
          obtain rfl := Option.some.inj (g1.symm.trans g4)
          have hrr := repl_rows (w := w) (Im := Im) (φ := φ) n len zs zv.cells hzr hc1 hc2
          have hzc : Builtin.zeroCells zv.cells len = (Array.range (len * n)).map (zv.cells[· % zv.cells.size]!) := by simp [Builtin.zeroCells, hzsz]
          have hsz : (Builtin.zeroCells zv.cells len).toList.length = (List.replicate len zs).length * n := by rw [hzc]; simp
          have hrel : ∀ (i j : Nat) (r : List D) (d : D), (List.replicate len zs)[i]? = some r → r[j]? = some d → ∃ u, (Builtin.zeroCells zv.cells len).toList[i * n + j]? = some u ∧ Rel w Im (if zs.any hasRef1 then φ else []) d u := fun i j r d h1 h2 => by
            obtain ⟨u, hu, hur⟩ := hrr.2.2 i j r d h1 h2
            have hrz := (List.mem_replicate.1 (List.mem_of_getElem? h1)).2
            refine ⟨u, by rw [hzc, Array.getElem?_toList]; exact hu, ?_⟩
            rw [hrz] at h2
            exact rel_flag hc4 (fun h => h) h2 hur
          show SatV P w Im φ σ _ (.ok _ _)
          have hg := grow_good (e := e) hi (olds := []) (ovs := []) (dp := false) (dq := zs.any hasRef1) (n := n) (z := zv.cells) hzsz hc2 (by simp) (by simp) (by simp) hsz (fun r hr => by rw [(List.mem_replicate.1 hr).2]; exact ⟨hc1, hc4⟩) hrel (grownCap w (0 + len) 0 e) (by simpa using grownCap_ge w (0 + len) 0 e)
          simp only [List.length_nil, Nat.zero_add, List.nil_append, Bool.false_or] at hg
          have q3 := Nat.le_mul_of_pos_right len hc3
          have q4 := Nat.mul_le_mul_right by_ (Room.nextslicecap_le' (need := len) (old := 0) hpos)
          rw [Nat.mul_assoc] at q4
          refine ⟨_, _, _, ?_, hg⟩
          have hw := wrap_nat (n := (len : Int)) (by omega) (by omega)
          have h63' : ¬ (9223372036854775807 < (len : Int)) := by omega
          have h48' : ¬ (281474976710656 < Builtin.nextslicecap len 0 * ie.bytes) := by rw [g5]; omega
          have hb48 : ¬ ((len : Int) * (ie.bytes : Int) > 281474976710656) := by
            have e1 : (len : Int) * (ie.bytes : Int) = ((len * by_ : Nat) : Int) := by rw [g5]; simp
            rw [e1]; omega
          have hn0 : ¬ (len * n = 0) := by
            have := Nat.mul_pos hpos hc2
            omega
          have hne : ¬ len = 0 := by omega
          have hnn : ¬ n = 0 := by omega
          simp [Builtin.append_, run_underlying hu, run_underlying htx, sizeOf, typeInfo, zeroValue, g1, g2, asInt, asIntOf, hw, hb48, hien, hne, hnn, h63', h48', Question.forced, newRow, grownCap, Builtin.firstCells]
          rw [if_neg (show ¬ ((len : Int) < 0) by omega), if_neg hn0]
      · trivial
    · trivial
  · trivial
end
end Go.RX

namespace Go.RX
open Go
section
variable {P : Program} {w : World} {Im : Nat → Prop} {φ : Phi} {σ : Sto}
theorem len_sat (hi : Inv w Im φ σ) {t ty : TypeId} {x : D} {xv : Value} (hx : Rel w Im φ x xv) :
    SatV P w Im φ σ (Builtin.len_ #[t] ty #[xv]) (lenOp P t x σ) := by
  unfold lenOp
  split
  · rename_i n e hu
    exact SatV.pure hi ⟨_, by simp [Builtin.len_, run_underlying hu, goInt], .int _ _⟩
  · rename_i e nl sz rows hu
    cases nl with
    | true => obtain ⟨rfl, rfl⟩ := hx.nilsl_inv; exact SatV.pure hi ⟨_, by simp [Builtin.len_, run_underlying hu, goInt], .int _ _⟩
    | false =>
      rcases hx.sl_inv with ⟨rfl, rfl⟩ | ⟨c, base, cap, a, rfl, -⟩
      · exact SatV.pure hi ⟨_, by simp [Builtin.len_, run_underlying hu, goInt], .int _ _⟩
      · exact SatV.pure hi ⟨_, by simp [Builtin.len_, run_underlying hu, goInt], .int _ _⟩
  · rename_i e b i len lo ex hu
    obtain ⟨l, -, ⟨rfl, rfl, -⟩ | ⟨cap, a, rfl, -⟩⟩ := hx.msl_inv
    · exact SatV.pure hi ⟨_, by simp [Builtin.len_, run_underlying hu, goInt], .int _ _⟩
    · exact SatV.pure hi ⟨_, by simp [Builtin.len_, run_underlying hu, goInt], .int _ _⟩
  · rename_i s hu
    obtain ⟨b, rfl, rfl⟩ := hx.str_inv
    refine SatV.pure hi ⟨.int .i64 (b.data.toList.length : Int), ?_, .int _ _⟩
    simp [Builtin.len_, run_underlying hu, goInt]
  · trivial
theorem cap_sat (hi : Inv w Im φ σ) {t ty : TypeId} {x : D} {xv : Value} (hx : Rel w Im φ x xv) :
    SatV P w Im φ σ (Builtin.cap_ #[t] ty #[xv]) (capOp P t x σ) := by
  unfold capOp
  split
  · rename_i e sz rows hu
    obtain ⟨rfl, rfl⟩ := hx.nilsl_inv; exact SatV.pure hi ⟨_, by simp [Builtin.cap_, run_underlying hu, goInt], .int _ _⟩
  · rename_i e b i len lo hu
    obtain ⟨l, -, ⟨rfl, -, rfl⟩ | ⟨cap, a, rfl, -, -, h, -⟩⟩ := hx.msl_inv
    · exact SatV.pure hi ⟨_, by simp [Builtin.cap_, run_underlying hu, goInt], .int _ _⟩
    obtain rfl := h rfl
    exact SatV.pure hi ⟨_, by simp [Builtin.cap_, run_underlying hu, goInt], .int _ _⟩
  · trivial
theorem mn_run : ∀ (ds : List D) (vs : List Value) (k : IntKind) (x : Int) (d : D), ds.length = vs.length → (∀ (i : Nat) (d : D) (v : Value), ds[i]? = some d → vs[i]? = some v → Rel w Im φ d v) →
    ds.foldl mnStep (some (.int k x)) = some d →
    ∃ k' y, d = .int k' y ∧ (vs.foldlM Builtin.min2 (.int k x)).run P w = .ok (.int k' y) w
  | [], [], k, x, d, _, _, h => by simp at h; exact ⟨k, x, h.symm, by simp⟩
  | e :: ds, v :: vs, k, x, d, hl, hr, h => by
    have hev := hr 0 e v rfl rfl
    have hnone : ∀ (l : List D), l.foldl mnStep (none : Option D) = none := by
      intro l; induction l with
      | nil => rfl
      | cons a l ih => exact ih
    rw [List.foldl_cons] at h
    obtain ⟨k2, y, rfl⟩ : ∃ k2 y, e = .int k2 y := by
      cases e <;> first | exact ⟨_, _, rfl⟩ | (simp only [mnStep] at h; rw [hnone] at h; cases h)
    obtain rfl := hev.int_inv
    obtain ⟨k', z, h1, h2⟩ := mn_run ds vs k _ d (by simpa using hl) (fun i d v a b => hr (i + 1) d v (by simpa using a) (by simpa using b)) h
    exact ⟨k', z, h1, by simp only [List.foldlM_cons, Sem.run_bind, Builtin.min2, Sem.run_pure, Result.andThen_ok]; exact h2⟩
  | [], _ :: _, _, _, _, hl, _, _ => by simp at hl
  | _ :: _, [], _, _, _, hl, _, _ => by simp at hl
theorem mx_run : ∀ (ds : List D) (vs : List Value) (k : IntKind) (x : Int) (d : D), ds.length = vs.length → (∀ (i : Nat) (d : D) (v : Value), ds[i]? = some d → vs[i]? = some v → Rel w Im φ d v) →
    ds.foldl mxStep (some (.int k x)) = some d →
    ∃ k' y, d = .int k' y ∧ (vs.foldlM Builtin.max2 (.int k x)).run P w = .ok (.int k' y) w
  | [], [], k, x, d, _, _, h => by simp at h; exact ⟨k, x, h.symm, by simp⟩
  | e :: ds, v :: vs, k, x, d, hl, hr, h => by
    have hev := hr 0 e v rfl rfl
    have hnone : ∀ (l : List D), l.foldl mxStep (none : Option D) = none := by
      intro l; induction l with
      | nil => rfl
      | cons a l ih => exact ih
    rw [List.foldl_cons] at h
    obtain ⟨k2, y, rfl⟩ : ∃ k2 y, e = .int k2 y := by
      cases e <;> first | exact ⟨_, _, rfl⟩ | (simp only [mxStep] at h; rw [hnone] at h; cases h)
    obtain rfl := hev.int_inv
    obtain ⟨k', z, h1, h2⟩ := mx_run ds vs k _ d (by simpa using hl) (fun i d v a b => hr (i + 1) d v (by simpa using a) (by simpa using b)) h
    exact ⟨k', z, h1, by simp only [List.foldlM_cons, Sem.run_bind, Builtin.max2, Sem.run_pure, Result.andThen_ok]; exact h2⟩
  | [], _ :: _, _, _, _, hl, _, _ => by simp at hl
  | _ :: _, [], _, _, _, hl, _, _ => by simp at hl
variable (w Im φ) in
def ArgsRel (ds : List D) (vs : List Value) : Prop := ds.length = vs.length ∧ ∀ (i : Nat) (d : D) (v : Value), ds[i]? = some d → vs[i]? = some v → Rel w Im φ d v
theorem args_rel {ρ : Operand → D} {ρc : Operand → Value} (hρ : ∀ x, Rel w Im φ (ρ x) (ρc x)) (args : List Operand) : ArgsRel w Im φ (args.map ρ) (args.map ρc) :=
  ⟨by simp, fun i d v h1 h2 => by
    simp only [List.getElem?_map, Option.map_eq_some_iff] at h1 h2
    obtain ⟨x, hx, rfl⟩ := h1
    obtain ⟨y, hy, rfl⟩ := h2
    obtain rfl := Option.some.inj (hx.symm.trans hy)
    exact hρ _⟩
theorem ArgsRel.one {x : D} {vs : List Value} (h : ArgsRel w Im φ [x] vs) : ∃ v, vs = [v] ∧ Rel w Im φ x v := by
  obtain ⟨h1, h2⟩ := h
  match vs, h1 with
  | [v], _ => exact ⟨v, rfl, h2 0 x v rfl rfl⟩
theorem ArgsRel.two {x y : D} {vs : List Value} (h : ArgsRel w Im φ [x, y] vs) : ∃ v u, vs = [v, u] ∧ Rel w Im φ x v ∧ Rel w Im φ y u := by
  obtain ⟨h1, h2⟩ := h
  match vs, h1 with
  | [v, u], _ => exact ⟨v, u, rfl, h2 0 x v rfl rfl, h2 1 y u rfl rfl⟩
theorem builtin_sat (hi : Inv w Im φ σ) {b : Builtin} {ts : Array TypeId} {ty : TypeId} {consts : Array Bool} {ds : List D} {vs : Array Value} (h : ArgsRel w Im φ ds vs.toList) :
    SatA P w Im φ σ (builtin b ts ty consts vs) (builtinD P b ts.toList ds σ) := by
  have harr : ∀ l : List Value, vs.toList = l → vs = l.toArray := fun l hl => by rw [← hl]
  have hts : ∀ l : List TypeId, ts.toList = l → ts = l.toArray := fun l hl => by rw [← hl]
  unfold builtinD
  split
  · rename_i x t h1
    obtain ⟨v, hv, hx⟩ := h.one
    obtain rfl := harr _ hv
    obtain rfl := hts _ h1
    exact SatV.toA (len_sat hi hx)
  · rename_i x t h1
    obtain ⟨v, hv, hx⟩ := h.one
    obtain rfl := harr _ hv
    obtain rfl := hts _ h1
    exact SatV.toA (cap_sat hi hx)
  · rename_i s x t t' h1
    obtain ⟨v, u, hv, hs, hx⟩ := h.two
    obtain rfl := harr _ hv
    obtain rfl := hts _ h1
    split
    · rename_i e hd hk
      refine SatV.toA (append_sat hi hs hx hd (.inl ⟨_, rfl⟩) (fun b hb => ?_) (fun a n c _ => ⟨_, rfl⟩))
      subst hb
      cases hx <;> simp [srcKind] at hk
    · rename_i hd hk
      refine SatV.toA (append_sat hi hs hx hd (.inr rfl) (fun b hb => rfl) (fun a n c hb => ?_))
      subst hb
      cases hx <;> simp [srcKind] at hk
    · rename_i k hd hk
      exact SatV.toA (appendZ_sat hi hs hx hd)
    · trivial
  · rename_i d s t t' h1
    obtain ⟨v, u, hv, hd, hs⟩ := h.two
    obtain rfl := harr _ hv
    obtain rfl := hts _ h1
    exact SatV.toA (copy_sat hi hd hs)
  · rename_i s t h1
    obtain ⟨v, hv, hs⟩ := h.one
    obtain rfl := harr _ hv
    obtain rfl := hts _ h1
    exact SatV.toA (clear_sat hi hs)
  · refine SatV.toA (SatV.opt hi fun d hd => ?_)
    unfold mnD at hd
    split at hd
    · rename_i k x r
      obtain ⟨h1, h2⟩ := h
      cases hvs : vs.toList with
      | nil => rw [hvs] at h1; simp at h1
      | cons v rest =>
        rw [hvs] at h1 h2
        obtain rfl := (h2 0 _ v rfl rfl).int_inv
        obtain ⟨k', y, rfl, h3⟩ := mn_run r rest k x d (by simpa using h1) (fun i d v a b => h2 (i + 1) d v (by simpa using a) (by simpa using b)) hd
        exact ⟨_, by simp only [Builtin.min_, hvs]; exact h3, .int _ _⟩
    · cases hd
  · refine SatV.toA (SatV.opt hi fun d hd => ?_)
    unfold mxD at hd
    split at hd
    · rename_i k x r
      obtain ⟨h1, h2⟩ := h
      cases hvs : vs.toList with
      | nil => rw [hvs] at h1; simp at h1
      | cons v rest =>
        rw [hvs] at h1 h2
        obtain rfl := (h2 0 _ v rfl rfl).int_inv
        obtain ⟨k', y, rfl, h3⟩ := mx_run r rest k x d (by simpa using h1) (fun i d v a b => h2 (i + 1) d v (by simpa using a) (by simpa using b)) hd
        exact ⟨_, by simp only [Builtin.max_, hvs]; exact h3, .int _ _⟩
    · cases hd
  · trivial
theorem callFunc_run {g : FuncId} (h : callable P g = true) (vs : Array Value) : (callFunc g vs).run P w = .ok (.enter g vs) w := by
  unfold callable at h
  cases hf : P.funcs[g]? with
  | none => simp [hf] at h
  | some fn =>
    simp only [hf, Bool.and_eq_true, Bool.not_eq_true'] at h
    have h2 : fn.body.isNone = false := by cases hb : fn.body <;> simp_all
    have h3 : ¬ fn.name = "runtime.NumGoroutine" := by simpa using h.2
    have h4 : ¬ fn.body = none := fun e => by rw [e] at h2; simp at h2
    simp [callFunc, hf, h3, h4]
theorem call_sat (hi : Inv w Im φ σ) {ρ : Operand → D} {ρc : Operand → Value} (hρ : ∀ x, Rel w Im φ (ρ x) (ρc x)) (c : Call) (ty : TypeId) :
    SatA P w Im φ σ (do let d ← resolve ρc c ty; invoke d.target d.args) (callD P c ρ σ) := by
  have hargs := args_rel hρ c.args.toList
  unfold callD
  split
  · rename_i b hb
    have hr : (do let d ← resolve ρc c ty; invoke d.target d.args : Sem Next) = builtin b c.argTypes ty (c.args.map fun | .const _ => true | _ => false) (c.args.map ρc) := by
      simp only [resolve, hb]; rfl
    rw [hr]
    exact builtin_sat hi (by simpa using hargs)
  · rename_i f hf
    have hfr := hρ f
    split
    · rename_i g first caps hg
      rw [hg] at hfr
      split
      · rename_i hc
        cases hv : ρc f with
        | func fn vf vc =>
          rw [hv] at hfr
          cases hfr with
          | fn _ _ _ _ _ h1 h2 h3 h4 =>
            refine ⟨vf ++ c.args.map ρc ++ vc, ?_, by simp [h1, h2], fun i d v a b => ?_⟩
            · simp [resolve, hf, Deferred.ofValue, hv, invoke, callFunc_run hc]
            · rw [List.append_assoc] at a
              rw [Array.append_assoc] at b
              by_cases q1 : i < first.length
              · rw [List.getElem?_append_left q1] at a
                rw [Array.getElem?_append_left (by omega)] at b
                exact h3 i d v a b
              · rw [List.getElem?_append_right (by omega)] at a
                rw [Array.getElem?_append_right (by omega)] at b
                by_cases q2 : i - first.length < c.args.size
                · rw [List.getElem?_append_left (by simpa using q2)] at a
                  rw [Array.getElem?_append_left (by simp; omega), ← h1] at b
                  exact hargs.2 _ d v a (by simpa using b)
                · rw [List.getElem?_append_right (by simp; omega)] at a
                  rw [Array.getElem?_append_right (by simp; omega), ← h1] at b
                  exact h4 _ d v a (by simpa using b)
        | _ => rw [hv] at hfr; cases hfr
      · trivial
    · rename_i l hg
      rw [hg] at hfr
      cases hv : ρc f with
      | func fn vf vc =>
        rw [hv] at hfr
        cases hfr with
        | yld l =>
          refine ⟨c.args.map ρc, ?_, by simp, fun i d v a b => hargs.2 i d v a (by simpa using b)⟩
          simp [resolve, hf, Deferred.ofValue, hv, invoke]
      | _ => rw [hv] at hfr; cases hfr
    · trivial
  · trivial
theorem aop_sat (hi : Inv w Im φ σ) {ρ : Operand → D} {ρc : Operand → Value} (hρ : ∀ x, Rel w Im φ (ρ x) (ρc x)) (o : Oper) : SatA P w Im φ σ (execOp ρc o) (aop P ρ o σ) := by
  unfold aop execOp
  cases hop : o.op
  case move x =>
    simp only []
    exact ⟨_, w, φ, .inl rfl, Good.refl hi (hρ x)⟩
  case assign x =>
    simp only []
    exact ⟨_, w, φ, .inl rfl, Good.refl hi (hρ x)⟩
  case pick c a b =>
    simp only []
    split
    · rename_i x hx
      have hc := hρ c
      rw [hx] at hc
      have hcv := hc.bool_inv
      show SatA P w Im φ σ _ (.ok (if x then ρ a else ρ b) σ)
      refine ⟨_, w, φ, .inl (by simp [hcv, asBool]; rfl), Good.refl hi ?_⟩
      cases x
      · exact hρ b
      · exact hρ a
    · trivial
  case alloc t =>
    simp only []
    exact SatV.toA (allocOp_sat hi)
  case box t x =>
    simp only []
    exact SatV.toA (box_sat hi (hρ x))
  case build t parts =>
    simp only []
    obtain ⟨h1, h2⟩ := parts_rel hρ parts
    exact SatV.toA (build_sat hi h1 h2)
  case buildSlice t len parts =>
    simp only []
    obtain ⟨h1, h2⟩ := parts_rel hρ parts
    exact SatV.toA (buildSlice_sat hi h1 h2)
  case load t a =>
    simp only []
    exact SatV.toA (load_sat hi (hρ a))
  case store t a x =>
    simp only []
    exact SatU (store_sat hi (hρ a) (hρ x))
  case nilCheck x =>
    simp only []
    have hx := hρ x
    generalize ρ x = d at hx ⊢
    generalize ρc x = v at hx ⊢
    cases d <;> first | exact True.intro | skip
    · obtain ⟨l, hl, rfl⟩ := hx.ptr_inv
      exact ⟨_, w, φ, .inl rfl, Good.refl hi hx⟩
    · obtain ⟨c, base, rfl, -⟩ := hx.iptr_inv
      exact ⟨_, w, φ, .inl rfl, Good.refl hi hx⟩
    · obtain ⟨f, va, vb, rfl⟩ : ∃ f va vb, v = .func (.func f) va vb := by cases hx; exact ⟨_, _, _, rfl⟩
      exact ⟨_, w, φ, .inl rfl, Good.refl hi hx⟩
    · obtain ⟨t, va, rfl⟩ : ∃ t va, v = .iface t va := by cases hx; exact ⟨_, _, rfl⟩
      exact ⟨_, w, φ, .inl rfl, Good.refl hi hx⟩
  case binOp op t x y yt =>
    simp only []
    exact SatV.toA (bin_sat hi op t x y (hρ x) (hρ y))
  case unOp op t x =>
    simp only []
    exact SatV.toA (un_sat hi op (hρ x))
  case convert s d x =>
    simp only []
    exact SatV.toA (conv_sat hi (hρ x))
  case makeFunc fn first caps =>
    cases fn <;> first | trivial | skip
    rename_i f
    simp only []
    refine ⟨_, w, φ, .inl (by simp [Instr.makeFunc]; rfl), Good.refl hi ?_⟩
    obtain ⟨h1, h2⟩ := args_rel hρ first.toList
    obtain ⟨h3, h4⟩ := args_rel hρ caps.toList
    exact .fn _ _ _ _ _ (by simp) (by simp) (fun i d v a b => h2 i d v a (by simpa using b)) (fun i d v a b => h4 i d v a (by simpa using b))
  case makeSlice t l c =>
    simp only []
    have hl := hρ l
    have hc := hρ c
    split
    · rename_i k a k' b h1 h2
      rw [h1] at hl
      rw [h2] at hc
      rw [hl.int_inv, hc.int_inv]
      refine SatV.toA (makeSlice_sat hi fun hs => ?_)
      obtain rfl : l = c := by
        cases l <;> cases c <;> simp [sameOp] at hs
        rw [hs]
      rw [h1] at h2
      cases h2
      rfl
    · trivial
  case slice t x lo hh mx =>
    simp only []
    split
    · rename_i l h' m h1 h2 h3
      exact SatV.toA (slice_sat hi (hρ x) (argIs_of hρ h1) (argIs_of hρ h2) (argIs_of hρ h3))
    · trivial
  case fieldAddr t x f =>
    simp only []
    exact SatV.toA (fieldAddr_sat hi (hρ x) f)
  case field t x f =>
    simp only []
    exact SatV.toA (SatV.opt hi fun d hd => field_run (hρ x) hd)
  case indexAddr t x i =>
    simp only []
    have hr := hρ i
    split
    · rename_i k n h1
      rw [h1] at hr
      rw [hr.int_inv]
      exact SatV.toA (indexAddr_sat hi (hρ x) k n)
    · trivial
  case index t x i =>
    simp only []
    have hr := hρ i
    split
    · rename_i k n h1
      rw [h1] at hr
      rw [hr.int_inv]
      exact SatV.toA (index_sat hi (hρ x) k n)
    · trivial
  case extract x i =>
    simp only []
    have hr := hρ x
    split
    · rename_i vs h1
      rw [h1] at hr
      obtain ⟨us, hv, h2, h3⟩ := hr.tup_inv
      refine SatV.toA (SatV.opt hi fun d hd => ?_)
      have hlt := (List.getElem?_eq_some_iff.1 hd).1
      exact ⟨us[i]'(by omega), by simp [Instr.extract, hv, show i < us.size by omega], h3 i d _ hd (by simp)⟩
    · trivial
  case makeInterface t x =>
    simp only []
    split
    · trivial
    · rename_i d hni hd
      have hr := hρ x
      have key : ∀ d', ρ x = d' → SatA P w Im φ σ (do pure (.value (← Instr.makeInterface t (ρc x)))) (.ok (.iface t d') σ) := fun d' hd' => by
        rw [hd'] at hr
        refine ⟨.iface t (ρc x), w, φ, .inl ?_, Good.refl hi (.iface t _ _ hr)⟩
        cases d <;> first | exact absurd rfl (hni _) | simp [Instr.makeInterface, run_underlying hd]
      split
      · trivial
      · trivial
      · exact key _ rfl
    · trivial
  case call c =>
    simp only []
    exact call_sat hi hρ c _
  all_goals trivial
end
end Go.RX

namespace Go.RX
open Go
section
variable {w : World} {Im Im' : Nat → Prop} {φ φ' : Phi} {σ : Sto}
theorem mapO_some {f : D → Option D} : ∀ {ds ds' : List D}, mapO f ds = some ds' → ds'.length = ds.length ∧ ∀ (i : Nat) (d d' : D), ds[i]? = some d → ds'[i]? = some d' → f d = some d'
  | [], ds', h => by simp [mapO] at h; subst h; exact ⟨rfl, fun i d d' h => by simp at h⟩
  | d :: r, ds', h => by
    simp only [mapO] at h
    split at h
    · rename_i e s h1 h2
      obtain rfl := Option.some.inj h
      obtain ⟨h3, h4⟩ := mapO_some h2
      refine ⟨by simp [h3], fun i d d' a b => ?_⟩
      cases i with
      | zero => simp at a b; subst a; subst b; exact h1
      | succ i => exact h4 i d d' (by simpa using a) (by simpa using b)
    · cases h
theorem mapR_some {f : D → Option D} : ∀ {rs rs' : List (List D)}, mapR f rs = some rs' → rs'.length = rs.length ∧ ∀ (i : Nat) (r r' : List D), rs[i]? = some r → rs'[i]? = some r' → mapO f r = some r'
  | [], rs', h => by simp [mapR] at h; subst h; exact ⟨rfl, fun i d d' h => by simp at h⟩
  | d :: r, rs', h => by
    simp only [mapR] at h
    split at h
    · rename_i e s h1 h2
      obtain rfl := Option.some.inj h
      obtain ⟨h3, h4⟩ := mapR_some h2
      refine ⟨by simp [h3], fun i d d' a b => ?_⟩
      cases i with
      | zero => simp at a b; subst a; subst b; exact h1
      | succ i => exact h4 i d d' (by simpa using a) (by simpa using b)
    · cases h
theorem get_of_len {α β : Type} {l : List α} {m : List β} (h : l.length = m.length) {i : Nat} {y : β} (hy : m[i]? = some y) : ∃ x, l[i]? = some x := by
  have := (List.getElem?_eq_some_iff.1 hy).1
  exact ⟨l[i]'(by omega), by simp⟩
theorem tr_rel {h : D → Option D} (hIm : ∀ c, Im c → Im' c)
    (hp : ∀ b i o d' v, Rel w Im φ (.ptr b i o) v → h (.ptr b i o) = some d' → Rel w Im' φ' d' v)
    (hm : ∀ b i len lo ex d' v, Rel w Im φ (.msl b i len lo ex) v → h (.msl b i len lo ex) = some d' → Rel w Im' φ' d' v) :
    ∀ (n : Nat) (d d' : D) (v : Value), Rel w Im φ d v → tr h n d = some d' → Rel w Im' φ' d' v
  | 0, _, _, _, _, hd => by simp [tr] at hd
  | n + 1, d, d', v, hr, hd => by
    have IH := tr_rel hIm hp hm n
    have lst : ∀ (ds ds' : List D) (vs : Array Value), mapO (tr h n) ds = some ds' → ds.length = vs.size → (∀ (i : Nat) (d : D) (v : Value), ds[i]? = some d → vs[i]? = some v → Rel w Im φ d v) →
        ds'.length = vs.size ∧ ∀ (i : Nat) (d : D) (v : Value), ds'[i]? = some d → vs[i]? = some v → Rel w Im' φ' d v := fun ds ds' vs h1 h2 h3 => by
      obtain ⟨h4, h5⟩ := mapO_some h1
      refine ⟨by omega, fun i d v a b => ?_⟩
      obtain ⟨d0, hd0⟩ := get_of_len h4.symm a
      exact IH d0 d v (h3 i d0 v hd0 b) (h5 i d0 d hd0 a)
    cases hr with
    | undef v => simp [tr] at hd; subst hd; exact .undef _
    | bool b => simp [tr] at hd; subst hd; exact .bool _
    | int k n => simp [tr] at hd; subst hd; exact .int _ _
    | str s l e => simp [tr] at hd; subst hd; exact .str _ _ e
    | nilp => simp [tr] at hd; subst hd; exact .nilp
    | ptr b i o l e => exact hp _ _ _ _ _ (.ptr b i o l e) (by simpa [tr] using hd)
    | iptr sz rows i o c base vf e1 e2 e3 e4 =>
      simp [tr] at hd; subst hd
      exact .iptr _ _ _ _ _ _ vf (fun h => hIm _ (e1 h)) e2 e3 (fun i j r d a b => (e4 i j r d a b).mono hIm (fun _ _ => rfl) (PhiLe.refl _))
    | nilsl sz => simp [tr] at hd; subst hd; exact .nilsl _
    | nilsl2 sz => simp [tr] at hd; subst hd; exact .nilsl2 _
    | mnil b i ex l e => exact hm _ _ _ _ _ _ _ (.mnil b i ex l e) (by simpa [tr] using hd)
    | sl sz rows c base cap vf a ha e1 e2 e3 e4 e5 =>
      simp [tr] at hd; subst hd
      exact .sl _ _ _ _ _ vf a ha (fun h => hIm _ (e1 h)) e2 e3 e4 (fun i j r d a b => (e5 i j r d a b).mono hIm (fun _ _ => rfl) (PhiLe.refl _))
    | msl b i len lo ex l cap a e1 e2 e3 e4 e5 e6 e7 => exact hm _ _ _ _ _ _ _ (.msl b i len lo ex l cap a e1 e2 e3 e4 e5 e6 e7) (by simpa [tr] using hd)
    | fn f first caps vf vc e1 e2 e3 e4 =>
      simp only [tr] at hd
      split at hd
      · rename_i a c h1 h2
        obtain rfl := Option.some.inj hd
        obtain ⟨g1, g2⟩ := lst _ _ _ h1 e1 e3
        obtain ⟨g3, g4⟩ := lst _ _ _ h2 e2 e4
        exact .fn _ _ _ _ _ g1 g3 g2 g4
      · cases hd
    | nilfn => simp [tr] at hd; subst hd; exact .nilfn
    | agg cs vs e1 e2 =>
      simp only [tr, Option.map_eq_some_iff] at hd
      obtain ⟨cs', h1, rfl⟩ := hd
      obtain ⟨g1, g2⟩ := lst _ _ _ h1 e1 e2
      exact .agg _ _ g1 g2
    | tup cs vs e1 e2 =>
      simp only [tr, Option.map_eq_some_iff] at hd
      obtain ⟨cs', h1, rfl⟩ := hd
      obtain ⟨g1, g2⟩ := lst _ _ _ h1 e1 e2
      exact .tup _ _ g1 g2
    | iface t d v e =>
      simp only [tr, Option.map_eq_some_iff] at hd
      obtain ⟨d2, h1, rfl⟩ := hd
      exact .iface _ _ _ (IH _ _ _ e h1)
    | nili => simp [tr] at hd; subst hd; exact .nili
    | yld l => simp [tr] at hd; subst hd; exact .yld l
theorem tr_scal {h : D → Option D} (hs : ∀ d d', scal d = true → h d = some d' → scal d' = true) : ∀ (n : Nat) (d d' : D), scal d = true → tr h n d = some d' → scal d' = true
  | 0, _, _, _, hd => by simp [tr] at hd
  | n + 1, d, d', hsd, hd => by
    cases d <;> simp [scal] at hsd
    case ptr => exact hs _ _ rfl (by simpa [tr] using hd)
    case msl => exact hs _ _ rfl (by simpa [tr] using hd)
    case fn =>
      simp only [tr] at hd
      split at hd
      · obtain rfl := Option.some.inj hd; rfl
      · cases hd
    case iface =>
      simp only [tr, Option.map_eq_some_iff] at hd
      obtain ⟨d2, h1, rfl⟩ := hd
      rfl
    all_goals (simp [tr] at hd; subst hd; rfl)
theorem mapO_ok {f : D → Option D} (hf : ∀ d d', scal d = true → f d = some d' → scal d' = true) {sz : Nat} {r r' : List D} (h : mapO f r = some r') (hr : RowOk sz r) : RowOk sz r' := by
  obtain ⟨h1, h2⟩ := mapO_some h
  refine ⟨by rw [h1]; exact hr.1, List.all_eq_true.2 fun d hd => ?_⟩
  obtain ⟨i, hi⟩ := List.getElem?_of_mem hd
  obtain ⟨d0, hd0⟩ := get_of_len h1.symm hi
  exact hf d0 d (List.all_eq_true.1 hr.2 d0 (List.mem_of_getElem? hd0)) (h2 i d0 d hd0 hi)
theorem mapR_ok {f : D → Option D} (hf : ∀ d d', scal d = true → f d = some d' → scal d' = true) {sz : Nat} {rs rs' : List (List D)} (h : mapR f rs = some rs') (hr : ∀ r ∈ rs, RowOk sz r) : ∀ r ∈ rs', RowOk sz r := by
  obtain ⟨h1, h2⟩ := mapR_some h
  intro r hm
  obtain ⟨i, hi⟩ := List.getElem?_of_mem hm
  obtain ⟨r0, hr0⟩ := get_of_len h1.symm hi
  exact mapO_ok hf (h2 i r0 r hr0 hi) (hr r0 (List.mem_of_getElem? hr0))
theorem mapR_rows {f : D → Option D} {ψ ψ' : Phi} (hf : ∀ d d' v, Rel w Im ψ d v → f d = some d' → Rel w Im' ψ' d' v) (hs : ∀ d d', scal d = true → f d = some d' → scal d' = true)
    {c base sz : Nat} {rows rows' : List (List D)} (h : mapR f rows = some rows') (hr : RowsAt w Im ψ c base sz rows) : RowsAt w Im' ψ' c base sz rows' := by
  obtain ⟨h1, h2⟩ := mapR_some h
  refine ⟨mapR_ok hs h hr.1, fun i j r d a b => ?_⟩
  obtain ⟨r0, hr0⟩ := get_of_len h1.symm a
  obtain ⟨h3, h4⟩ := mapO_some (h2 i r0 r hr0 a)
  obtain ⟨d0, hd0⟩ := get_of_len h3.symm b
  obtain ⟨v, hv, hrel⟩ := hr.2 i j r0 d0 hr0 hd0
  exact ⟨v, hv, hf d0 d v hrel (h4 j d0 d hd0 b)⟩
theorem RowsAt.choose {ψ : Phi} {c base sz : Nat} {rows : List (List D)} (h : RowsAt w Im ψ c base sz rows) : ∃ vf : Nat → Nat → Value,
    (∀ (i j : Nat) (r : List D) (d : D), rows[i]? = some r → r[j]? = some d → w.cell? ⟨c, base + i * sz + j, none⟩ = some (vf i j)) ∧
    (∀ (i j : Nat) (r : List D) (d : D), rows[i]? = some r → r[j]? = some d → Rel w Im ψ d (vf i j)) := by
  refine ⟨fun i j => (w.cell? ⟨c, base + i * sz + j, none⟩).getD undef, fun i j r d a b => ?_, fun i j r d a b => ?_⟩
  · obtain ⟨v, hv, _⟩ := h.2 i j r d a b
    simp only [hv]; rfl
  · obtain ⟨v, hv, hr⟩ := h.2 i j r d a b
    simp only [hv]; exact hr
theorem RowsAt.iptr {c base sz : Nat} {rows : List (List D)} (h : RowsAt w Im [] c base sz rows) (hc : rows ≠ [] → Im c) (i o : Nat) : Rel w Im φ (.iptr sz rows i o) (.pointer (some ⟨c, base + i * sz + o, none⟩)) := by
  obtain ⟨vf, h1, h2⟩ := h.choose
  exact .iptr _ _ _ _ _ _ vf hc h.1 h1 h2
theorem RowsAt.sl {c base sz : Nat} {rows : List (List D)} (h : RowsAt w Im [] c base sz rows) (hc : rows ≠ [] → Im c) {cap : Nat} (hcap : rows.length ≤ cap) : Rel w Im φ (.sl false sz rows) (.slice (some ⟨c, base, none⟩) rows.length cap) := by
  obtain ⟨vf, h1, h2⟩ := h.choose
  exact .sl _ _ _ _ _ vf _ (fun _ => rfl) hc h.1 hcap h1 h2
theorem RowsAt.im {ψ : Phi} {c base sz : Nat} {rows : List (List D)} (h : RowsAt w Im ψ c base sz rows) (hIm : ∀ c, Im c → Im' c) : RowsAt w Im' ψ c base sz rows :=
  ⟨h.1, fun i j r d a b => let ⟨v, hv, hr⟩ := h.2 i j r d a b; ⟨v, hv, hr.mono hIm (fun _ _ => rfl) (PhiLe.refl _)⟩⟩
theorem renH_scal (ρ : Nat → Option Nat) : ∀ d d', scal d = true → renH ρ d = some d' → scal d' = true := fun d d' h1 h2 => by
  cases d <;> simp [scal] at h1 <;> simp only [renH, Option.map_eq_some_iff, Option.some.injEq] at h2
  all_goals first | (obtain ⟨c, _, rfl⟩ := h2; rfl) | (subst h2; rfl)
theorem ren_rel {ρ : Nat → Option Nat} (hIm : ∀ c, Im c → Im' c) (hρ : ∀ (b c : Nat) (l : Loc), ρ b = some c → φ[b]? = some l → φ'[c]? = some l) (n : Nat) (d d' : D) (v : Value) (hr : Rel w Im φ d v) (hd : tr (renH ρ) n d = some d') : Rel w Im' φ' d' v := by
  refine tr_rel hIm (fun b i o d' v hr hd => ?_) (fun b i len lo ex d' v hr hd => ?_) n d d' v hr hd
  · simp only [renH, Option.map_eq_some_iff] at hd
    obtain ⟨c, hc, rfl⟩ := hd
    obtain ⟨l, hl, rfl⟩ := hr.ptr_inv
    exact .ptr _ _ _ _ (hρ _ _ _ hc hl)
  · simp only [renH, Option.map_eq_some_iff] at hd
    obtain ⟨c, hc, rfl⟩ := hd
    obtain ⟨l, hl, ⟨rfl, rfl, rfl⟩ | ⟨cap, a, rfl, h1, h2, h3, h4, h5, h6⟩⟩ := hr.msl_inv
    · exact .mnil _ _ _ _ (hρ _ _ _ hc hl)
    exact .msl _ _ _ _ _ _ _ _ (hρ _ _ _ hc hl) h1 h2 h3 h4 h5 h6
theorem noRef_rel (n : Nat) (d d' : D) (v : Value) (hr : Rel w Im φ d v) (hd : tr noRef n d = some d') : Rel w Im [] d' v :=
  tr_rel (fun _ h => h) (fun b i o d' v hr hd => by simp [noRef] at hd) (fun b i len lo ex d' v hr hd => by simp [noRef] at hd) n d d' v hr hd
theorem frzH_scal {m : Nat} : ∀ (k : Nat) (st : Bool) (d d' : D), scal d = true → frzH σ m st k d = some d' → scal d' = true := fun k st d d' h1 h2 => by
  cases k with
  | zero => simp [frzH] at h2
  | succ k =>
    cases d <;> simp only [frzH, Bool.cond_eq_ite] at h2 <;> try (cases h2; done)
    all_goals
      (repeat' (first | split at h2))
      all_goals first | (cases h2; done) | (obtain rfl := Option.some.inj h2; rfl)
theorem frzH_rel (hi : Inv w Im φ σ) {m : Nat} (hIm : ∀ c, Im c → Im' c) (hown : ∀ (b : Nat) (B : Blk) (l : Loc), m ≤ b → sget σ b = some B → φ[b]? = some l → 0 < l.size → Im' l.blk) :
    ∀ (n : Nat) (strict : Bool) (φ' : Phi), (strict = false → ∀ (b : Nat) (l : Loc), b < m → φ[b]? = some l → φ'[b]? = some l) → ∀ (d d' : D) (v : Value), (∀ b i o, d = .ptr b i o → True) → Rel w Im φ d v → frzH σ m strict n d = some d' → Rel w Im' φ' d' v
  | 0, _, _, _, _, _, _, _, _, hd => by simp [frzH] at hd
  | n + 1, strict, φ', hφ', d, d', v, _, hr, hd => by
    have IH := frzH_rel hi hIm hown n true [] (fun h => by cases h)
    have htr : ∀ (d d' : D) (v : Value), Rel w Im φ d v → tr (frzH σ m true n) trFuel d = some d' → Rel w Im' [] d' v := fun d d' v h1 h2 =>
      tr_rel hIm (fun b i o d' v a b' => IH _ d' v (fun _ _ _ _ => trivial) a b') (fun b i len lo ex d' v a b' => IH _ d' v (fun _ _ _ _ => trivial) a b') trFuel d d' v h1 h2
    have hscal := fun k st => frzH_scal (σ := σ) (m := m) k st
    have hts : ∀ d d', scal d = true → tr (frzH σ m true n) trFuel d = some d' → scal d' = true := tr_scal (hscal n true) trFuel
    cases d with
    | ptr b i o =>
      obtain ⟨l, hl, rfl⟩ := hr.ptr_inv
      simp only [frzH, Bool.cond_eq_ite] at hd
      split at hd
      · rename_i hlt
        split at hd
        · cases hd
        · rename_i hst
          obtain rfl := Option.some.inj hd
          exact .ptr _ _ _ _ (hφ' (by simpa using hst) b l (Nat.lt_of_succ_le (Nat.le_of_ble_eq_true hlt)) hl)
      · rename_i hlt
        have hge : m ≤ b := by
          rcases Nat.lt_or_ge b m with h | h
          · exact absurd (Nat.ble_eq_true_of_le h) hlt
          · exact h
        split at hd
        · rename_i B hB
          obtain ⟨l', hl', hk⟩ := hi.loc hB
          obtain rfl := Option.some.inj (hl.symm.trans hl')
          have him := hown b B l hge hB hl
          split at hd
          · rename_i hdp
            split at hd
            · rename_i rows hrows
              obtain rfl := Option.some.inj hd
              rw [hk.sz]
              exact (mapR_rows htr hts hrows hk.rowsAt').iptr (fun hne => him (hk.size (fun e => hne (List.eq_nil_of_length_eq_zero (by rw [(mapR_some hrows).1, e]; rfl))))) i o
            · cases hd
          · rename_i hdp
            obtain rfl := Option.some.inj hd
            have h5 := hk.rowsAt
            simp only [hdp] at h5
            rw [hk.sz]
            exact (h5.im hIm).iptr (fun hne => him (hk.size hne)) i o
        · cases hd
    | msl b i len lo ex =>
      obtain ⟨l, hl, hv⟩ := hr.msl_inv
      simp only [frzH, Bool.cond_eq_ite] at hd
      split at hd
      · rename_i hlt
        split at hd
        · cases hd
        · rename_i hst
          obtain rfl := Option.some.inj hd
          rcases hv with ⟨rfl, rfl, rfl⟩ | ⟨cap, a, rfl, h1, h2, h3, h4, h5, h6⟩
          · exact .mnil _ _ _ _ (hφ' (by simpa using hst) b l (Nat.lt_of_succ_le (Nat.le_of_ble_eq_true hlt)) hl)
          exact .msl _ _ _ _ _ _ _ _ (hφ' (by simpa using hst) b l (Nat.lt_of_succ_le (Nat.le_of_ble_eq_true hlt)) hl) h1 h2 h3 h4 h5 h6
      · rename_i hlt
        have hge : m ≤ b := by
          rcases Nat.lt_or_ge b m with h | h
          · exact absurd (Nat.ble_eq_true_of_le h) hlt
          · exact h
        split at hd
        · rename_i B hB
          obtain ⟨l', hl', hk⟩ := hi.loc hB
          obtain rfl := Option.some.inj (hl.symm.trans hl')
          have him := hown b B l hge hB hl
          split at hd
          · rename_i hble
            have hble' := Nat.le_of_ble_eq_true hble
            have hlen : ((B.rows.drop i).take len).length = len := by simp; omega
            have key : ∀ rows, rows.length = len → RowsAt w Im' [] l.blk (l.base + i * B.sz) B.sz rows → Rel w Im' φ' (.sl false B.sz rows) v := fun rows q1 q2 => by
              rcases hv with ⟨rfl, rfl, rfl⟩ | ⟨cap, a, rfl, h1, h2, h3, h4, h5, h6⟩
              · have : rows = [] := List.eq_nil_of_length_eq_zero q1
                subst this
                exact .nilsl2 _
              by_cases hcap : cap = 0
              · have : rows = [] := List.eq_nil_of_length_eq_zero (by omega)
                subst this
                have : len = 0 := by simpa using q1.symm
                subst this
                exact .sl B.sz [] 0 0 cap (fun _ _ => undef) a (by simp) (by simp) (by simp) (by simp) (by simp) (by simp)
              · rw [h6 hcap, hk.sz, ← q1]
                exact q2.sl (fun hne => him (hk.size (fun e => hne (List.eq_nil_of_length_eq_zero (by rw [q1, ← hlen, e]; simp))))) (by omega)
            split at hd
            · rename_i hdp
              split at hd
              · rename_i rows hrows
                obtain rfl := Option.some.inj hd
                exact key rows (by rw [(mapR_some hrows).1, hlen]) (mapR_rows htr hts hrows (hk.rowsAt'.sub i len))
              · cases hd
            · rename_i hdp
              obtain rfl := Option.some.inj hd
              have h7 := (hk.rowsAt).sub i len
              simp only [hdp] at h7
              exact key _ hlen (h7.im hIm)
          · cases hd
        · cases hd
    | _ => simp [frzH] at hd
end
end Go.RX

namespace Go.RX
open Go
section
variable {w : World} {Im Im' : Nat → Prop} {φ φ' : Phi} {σ σ' : Sto}
theorem mapBlk_ok {f : D → Option D} (hIm : ∀ c, Im c → Im' c) (hf : ∀ d d' v, Rel w Im φ d v → f d = some d' → Rel w Im' φ' d' v) (hs : ∀ d d', scal d = true → f d = some d' → scal d' = true)
    {B B' : Blk} {l : Loc} (h : mapBlk f (some B) = some (some B')) (hk : BlkOk w Im φ B l) : BlkOk w Im' φ' B' l := by
  simp only [mapBlk] at h
  split at h
  · rename_i hd
    simp only [Option.map_eq_some_iff] at h
    obtain ⟨rows, hrows, h1⟩ := h
    obtain rfl := Option.some.inj h1
    have hr := mapR_rows hf hs hrows hk.rowsAt'
    exact ⟨hk.pos, hk.sz, hr.1, by simp only [(mapR_some hrows).1]; exact hk.fit, hk.mem, hk.lt, hk.fz, fun i j r d a b => by simpa using hr.2 i j r d a b⟩
  · rename_i hd
    obtain rfl := Option.some.inj (Option.some.inj h)
    refine ⟨hk.pos, hk.sz, hk.len, hk.fit, hk.mem, hk.lt, hk.fz, fun i j r d a b => ?_⟩
    obtain ⟨v, hv, hr⟩ := hk.rel i j r d a b
    refine ⟨v, hv, ?_⟩
    have hd' : B.deep = false := by simpa using hd
    simp only [hd', Bool.false_eq_true, if_false] at hr ⊢
    exact hr.mono hIm (fun _ _ => rfl) (PhiLe.refl _)
theorem mapSto_some {f : D → Option D} : ∀ {σ σ' : Sto}, mapSto f σ = some σ' → σ'.length = σ.length ∧ ∀ (i : Nat) (B' : Blk), sget σ' i = some B' → ∃ B, sget σ i = some B ∧ mapBlk f (some B) = some (some B')
  | [], σ', h => by simp [mapSto] at h; subst h; exact ⟨rfl, fun i B' h => by simp [sget] at h⟩
  | b :: r, σ', h => by
    simp only [mapSto] at h
    split at h
    · rename_i c s h1 h2
      obtain rfl := Option.some.inj h
      obtain ⟨h3, h4⟩ := mapSto_some h2
      refine ⟨by simp [h3], fun i B' a => ?_⟩
      rw [sget_some] at a
      cases i with
      | zero =>
        simp at a
        subst a
        cases b with
        | none => simp [mapBlk] at h1
        | some B => exact ⟨B, rfl, h1⟩
      | succ i =>
        obtain ⟨B, hB, h5⟩ := h4 i B' (by rw [sget_some]; simpa using a)
        exact ⟨B, by rw [sget_some] at hB ⊢; simpa using hB, h5⟩
    · cases h
theorem nodupB_spec : ∀ {ids : List Nat}, nodupB ids = true → ∀ (i j b : Nat), ids[i]? = some b → ids[j]? = some b → i = j
  | [], _, i, j, b, h, _ => by simp at h
  | x :: r, h, i, j, b, h1, h2 => by
    simp only [nodupB, Bool.and_eq_true, Bool.not_eq_true'] at h
    have hx : x ∉ r := by simpa using h.1
    cases i with
    | zero =>
      cases j with
      | zero => rfl
      | succ j =>
        simp at h1 h2
        subst h1
        exact absurd (List.mem_of_getElem? h2) hx
    | succ i =>
      cases j with
      | zero =>
        simp at h1 h2
        subst h2
        exact absurd (List.mem_of_getElem? h1) hx
      | succ j => rw [nodupB_spec h.2 i j b (by simpa using h1) (by simpa using h2)]
theorem idxOf_spec : ∀ {ids : List Nat} {b k c : Nat}, idxOf ids b k = some c → k ≤ c ∧ ids[c - k]? = some b
  | [], _, _, _, h => by simp [idxOf] at h
  | x :: r, b, k, c, h => by
    simp only [idxOf, Bool.cond_eq_ite] at h
    split at h
    · rename_i hb
      obtain rfl := Option.some.inj h
      exact ⟨Nat.le_refl _, by simp; exact Nat.eq_of_beq_eq_true hb⟩
    · obtain ⟨h1, h2⟩ := idxOf_spec h
      exact ⟨by omega, by rw [show c - k = (c - (k + 1)) + 1 by omega]; simpa using h2⟩
def locOf (φ : Phi) (b : Nat) : Loc := (φ[b]?).getD ⟨0, 0, 0, 0⟩
def phiOf (φ : Phi) (ids : List Nat) : Phi := ids.map (locOf φ)
theorem phiOf_get {ids : List Nat} {i b : Nat} (h : ids[i]? = some b) : (phiOf φ ids)[i]? = some (locOf φ b) := by simp [phiOf, h]
theorem idx_phi {ids : List Nat} : ∀ (b c : Nat) (l : Loc), idxOf ids b 0 = some c → φ[b]? = some l → (phiOf φ ids)[c]? = some l := fun b c l h1 h2 => by
  obtain ⟨_, h3⟩ := idxOf_spec h1
  rw [Nat.sub_zero] at h3
  rw [phiOf_get h3, locOf, h2]; rfl
theorem pickSto_get {ids : List Nat} {i : Nat} {B : Blk} (h : sget (pickSto σ ids) i = some B) : ∃ b, ids[i]? = some b ∧ sget σ b = some B := by
  rw [sget_some] at h
  simp only [pickSto, List.getElem?_map, Option.map_eq_some_iff] at h
  obtain ⟨b, hb, h1⟩ := h
  refine ⟨b, hb, ?_⟩
  rw [sget_some]
  split at h1
  · rename_i B' h2; rw [h2, h1]
  · cases h1
theorem Inv.pick (hi : Inv w Im φ σ) {ids : List Nat} (hnd : nodupB ids = true) {f : D → Option D} (hf : f = tr (renH fun b => idxOf ids b 0) trFuel) (h : mapSto f (pickSto σ ids) = some σ') :
    Inv w Im (phiOf φ ids) σ' ∧ ∀ c, Own (phiOf φ ids) σ' c → Own φ σ c := by
  subst hf
  obtain ⟨h1, h2⟩ := mapSto_some h
  have hget : ∀ i B' l, sget σ' i = some B' → (phiOf φ ids)[i]? = some l → ∃ b B, ids[i]? = some b ∧ sget σ b = some B ∧ φ[b]? = some l ∧ BlkOk w Im (phiOf φ ids) B' l := fun i B' l h3 h4 => by
    obtain ⟨B, hB, h5⟩ := h2 i B' h3
    obtain ⟨b, hb, hB'⟩ := pickSto_get hB
    obtain ⟨l', hl', hk⟩ := hi.loc hB'
    rw [phiOf_get hb, locOf, hl'] at h4
    obtain rfl : l' = l := by simpa using h4
    exact ⟨b, B, hb, hB', hl', mapBlk_ok (fun _ h => h) (fun d d' v a b => ren_rel (fun _ h => h) idx_phi trFuel d d' v a b) (tr_scal (renH_scal _) trFuel) h5 hk⟩
  have hown : ∀ c, Own (phiOf φ ids) σ' c → Own φ σ c := by
    rintro c ⟨i, B', l, h3, h4, rfl, hp⟩
    obtain ⟨b, B, _, hB, hl, _⟩ := hget i B' l h4 h3
    exact ⟨b, B, l, hl, hB, rfl, hp⟩
  refine ⟨⟨by rw [h1]; simp [phiOf, pickSto], fun i B' l h3 h4 => ?_, fun i j B1 B2 l1 l2 hne h3 h4 h5 h6 p1 p2 => ?_, fun c hc ho => hi.sep c hc (hown c ho), hi.im⟩, hown⟩
  · obtain ⟨_, _, _, _, _, hk⟩ := hget i B' l h3 h4
    exact hk
  · obtain ⟨b1, C1, e1, e2, e3, _⟩ := hget i B1 l1 h5 h3
    obtain ⟨b2, C2, g1, g2, g3, _⟩ := hget j B2 l2 h6 h4
    refine hi.inj b1 b2 C1 C2 l1 l2 (fun e => ?_) e3 g3 e2 g2 p1 p2
    subst e
    exact hne (nodupB_spec hnd i j b1 e1 g1)
theorem mapFr_get {f : D → Option D} : ∀ {fr fr' : Fr}, mapFr f fr = some fr' → ∀ t, (fget fr' t = .undef ∧ fget fr t = .undef) ∨ f (fget fr t) = some (fget fr' t)
  | [], fr', h, t => by simp [mapFr] at h; subst h; exact .inl ⟨rfl, rfl⟩
  | x :: r, fr', h, t => by
    simp only [mapFr] at h
    split at h
    · rename_i d s h1 h2
      obtain rfl := Option.some.inj h
      simp only [fget, Bool.cond_eq_ite]
      split
      · exact .inr h1
      · exact mapFr_get h2 t
    · cases h
theorem okIds_spec {m : Nat} {ids : List Nat} (h : okIds m ids = true) : nodupB ids = true ∧ ∀ b, b < m → ids[b]? = some b := by
  simp only [okIds, Bool.and_eq_true, beq_iff_eq] at h
  refine ⟨h.2, fun b hb => ?_⟩
  have := congrArg (fun l => l[b]?) h.1
  simp only [List.getElem?_take, if_pos hb] at this
  rw [this]; simp [hb]
theorem compact_ok (hi : Inv w Im φ σ) {m : Nat} {fr fr' : Fr} (hm : m ≤ φ.length) (h : compact m fr σ = some (fr', σ')) {a : Nat → Value} (hfr : ∀ t, Rel w Im φ (fget fr t) (a t)) :
    ∃ φ', Inv w Im φ' σ' ∧ Tr m w Im φ σ w Im φ' σ' ∧ ∀ t, Rel w Im φ' (fget fr' t) (a t) := by
  unfold compact at h
  simp only at h
  split at h
  · rename_i fr2 s h1 h2 h3
    simp only [Option.some.injEq, Prod.mk.injEq] at h
    obtain ⟨rfl, rfl⟩ := h
    obtain ⟨hnd, hfirst⟩ := okIds_spec h1
    obtain ⟨i1, i2⟩ := hi.pick hnd rfl h3
    refine ⟨_, i1, ⟨⟨Nat.le_refl _, fun _ _ _ => rfl, ⟨rfl, rfl, rfl⟩⟩, fun c hc => .inl (i2 c hc), fun b hb => ?_, fun _ h => h, fun _ h => .inl h⟩, fun t => ?_⟩
    · rw [phiOf_get (hfirst b hb), locOf]
      have : b < φ.length := by omega
      simp [this]
    · rcases mapFr_get h2 t with ⟨g1, g2⟩ | g
      · rw [g1]; exact .undef _
      · exact ren_rel (fun _ h => h) idx_phi trFuel _ _ _ (hfr t) g
  · cases h
theorem sget_take {m b : Nat} : sget (σ.take m) b = if b < m then sget σ b else none := by
  unfold sget
  rw [List.getElem?_take]
  split <;> simp_all
theorem seal_ok (hi : Inv w Im φ σ) {m : Nat} (hm : m ≤ φ.length) {d d' : D} {v : Value} (hd : Rel w Im φ d v) (h1 : frz σ m d = some d') (h2 : mapSto (frz σ m) (σ.take m) = some σ') :
    ∃ φ' Im', Inv w Im' φ' σ' ∧ Tr m w Im φ σ w Im' φ' σ' ∧ Rel w Im' φ' d' v := by
  let Im2 : Nat → Prop := fun c => Im c ∨ ∃ b B l, m ≤ b ∧ sget σ b = some B ∧ φ[b]? = some l ∧ l.blk = c ∧ 0 < l.size
  have hIm : ∀ c, Im c → Im2 c := fun c h => .inl h
  have hown : ∀ (b : Nat) (B : Blk) (l : Loc), m ≤ b → sget σ b = some B → φ[b]? = some l → 0 < l.size → Im2 l.blk := fun b B l a1 a2 a3 hp => .inr ⟨b, B, l, a1, a2, a3, rfl, hp⟩
  have htake : ∀ (b : Nat) (l : Loc), b < m → φ[b]? = some l → (φ.take m)[b]? = some l := fun b l a1 a2 => by rw [List.getElem?_take, if_pos a1]; exact a2
  have hfr : ∀ d d' v, Rel w Im φ d v → frz σ m d = some d' → Rel w Im2 (φ.take m) d' v := fun d d' v a b =>
    tr_rel hIm (fun b i o d' v a b' => frzH_rel hi hIm hown 6 false _ (fun _ => htake) _ d' v (fun _ _ _ _ => trivial) a b') (fun b i len lo ex d' v a b' => frzH_rel hi hIm hown 6 false _ (fun _ => htake) _ d' v (fun _ _ _ _ => trivial) a b') trFuel d d' v a b
  have hsc : ∀ d d', scal d = true → frz σ m d = some d' → scal d' = true := tr_scal (fun d d' a b => frzH_scal 6 false d d' a b) trFuel
  obtain ⟨g1, g2⟩ := mapSto_some h2
  have hget : ∀ i B' l, sget σ' i = some B' → (φ.take m)[i]? = some l → i < m ∧ ∃ B, sget σ i = some B ∧ φ[i]? = some l ∧ BlkOk w Im2 (φ.take m) B' l := fun i B' l a b => by
    obtain ⟨B, hB, h5⟩ := g2 i B' a
    rw [sget_take] at hB
    split at hB
    · rename_i him
      rw [List.getElem?_take, if_pos him] at b
      exact ⟨him, B, hB, b, mapBlk_ok hIm hfr hsc h5 (hi.blk i B l hB b)⟩
    · cases hB
  have hown2 : ∀ c, Own (φ.take m) σ' c → Own φ σ c := by
    rintro c ⟨i, B', l, a, b, rfl, hp⟩
    obtain ⟨_, B, hB, hl, _⟩ := hget i B' l b a
    exact ⟨i, B, l, hl, hB, rfl, hp⟩
  refine ⟨φ.take m, Im2, ⟨?_, fun i B' l a b => (hget i B' l a b).2.choose_spec.2.2, fun i j B1 B2 l1 l2 hne a1 a2 a3 a4 p1 p2 => ?_, fun c hc ho => ?_, fun c hc => ?_⟩, ⟨⟨Nat.le_refl _, fun _ _ _ => rfl, ⟨rfl, rfl, rfl⟩⟩, fun c hc => .inl (hown2 c hc), fun b hb => by rw [List.getElem?_take, if_pos hb], hIm, fun c hc => ?_⟩, hfr d d' v hd h1⟩
  · rw [g1, List.length_take, List.length_take, hi.len]
  · obtain ⟨_, C1, e1, e2, _⟩ := hget i B1 l1 a3 a1
    obtain ⟨_, C2, f1, f2, _⟩ := hget j B2 l2 a4 a2
    exact hi.inj i j C1 C2 l1 l2 hne e2 f2 e1 f1 p1 p2
  · rcases hc with hc | ⟨b, B, l, a1, a2, a3, a4, p1⟩
    · exact hi.sep c hc (hown2 c ho)
    · obtain ⟨i, B', l', b1, b2, b3, p2⟩ := ho
      obtain ⟨him, B2, c1, c2, _⟩ := hget i B' l' b2 b1
      exact hi.inj b i B B2 l l' (by omega) a3 c2 a2 c1 p1 p2 (by rw [a4, b3])
  · rcases hc with hc | ⟨b, B, l, a1, a2, a3, rfl, hp⟩
    · exact hi.im c hc
    · exact (hi.blk b B l a2 a3).lt hp
  · rcases hc with hc | ⟨b, B, l, a1, a2, a3, rfl, hp⟩
    · exact .inl hc
    · exact .inr (.inl ⟨b, B, l, a3, a2, rfl, hp⟩)
end
end Go.RX

namespace Go.RX
open Go
def GlOk (E : Env) (w : World) (Im : Nat → Prop) : Prop := ∀ g, Rel w Im [] (E.gl g) (.pointer (some ⟨g, 0, none⟩))
theorem GlOk.mono {E : Env} {w w' : World} {Im Im' : Nat → Prop} (h : GlOk E w Im) (hIm : ∀ c, Im c → Im' c) (hw : ∀ c, Im c → w'.heap[c]? = w.heap[c]?) : GlOk E w' Im' := fun g => (h g).mono hIm hw (PhiLe.refl _)
def Sound (E : Env) (f : FuncId) (args : List D) (σ : Sto) (Q : D → Sto → Prop) : Prop :=
  ∀ (w : World) (Im : Nat → Prop) (φ : Phi) (vs : Array Value), GlOk E w Im → Inv w Im φ σ → ArgsRel w Im φ args vs.toList →
    Calls E.P f vs w fun e w' => ∃ v d σ' φ' Im', e = .returned v ∧ Tr σ.length w Im φ σ w' Im' φ' σ' ∧ Inv w' Im' φ' σ' ∧ Rel w' Im' φ' d v ∧ Q d σ'
def SoundTo (E : Env) (f : FuncId) (args : List D) (d : D) : Prop := Sound E f args [] fun d' s' => d' = d ∧ s' = []
theorem Sound.mono {E : Env} {f : FuncId} {args : List D} {σ : Sto} {Q Q' : D → Sto → Prop} (h : Sound E f args σ Q) (hq : ∀ d s, Q d s → Q' d s) : Sound E f args σ Q' :=
  fun w Im φ vs h0 h1 h2 => (h w Im φ vs h0 h1 h2).mono fun e w' ⟨v, d, σ', φ', Im', a, b, c, d', e'⟩ => ⟨v, d, σ', φ', Im', a, b, c, d', hq _ _ e'⟩
/-! ### two sides of a range over a function -/
/-- The other side's blocks, X, none of them one that nobody writes to. -/
structure XOk (w : World) (Im X : Nat → Prop) : Prop where
  lt : ∀ c, X c → c < w.heap.size
  im : ∀ c, X c → ¬ Im c
/-- What an iterator's run does between two calls of yield, seen from the loop: blocks X are left alone, and all of those ahead of n0 but G. -/
structure IStep (n0 : Nat) (G X : Nat → Prop) (w : World) (Im : Nat → Prop) (w' : World) (Im' : Nat → Prop) : Prop where
  size : w.heap.size ≤ w'.heap.size
  same : ∀ c, c < w.heap.size → (X c ∨ Im c ∨ (c < n0 ∧ ¬ G c)) → w'.heap[c]? = w.heap[c]?
  io : Io w w'
  im : ∀ c, Im c → Im' c
  imN : ∀ c, Im' c → Im c ∨ G c ∨ n0 ≤ c
  imX : ∀ c, Im' c → ¬ X c
  imS : ∀ c, Im' c → c < w'.heap.size
/-- What a round does, seen from the iterator: it turns its own blocks alone. -/
structure PStep (X : Nat → Prop) (w : World) (Im : Nat → Prop) (w' : World) (Im' X' : Nat → Prop) : Prop where
  size : w.heap.size ≤ w'.heap.size
  same : ∀ c, c < w.heap.size → ¬ X c → w'.heap[c]? = w.heap[c]?
  io : Io w w'
  im : ∀ c, Im c → Im' c
  imN : ∀ c, Im' c → Im c ∨ X c ∨ w.heap.size ≤ c
  imS : ∀ c, Im' c → c < w'.heap.size
  xN : ∀ c, X' c → X c ∨ w.heap.size ≤ c
  ok : XOk w' Im' X'
def YieldOk (P : Program) (l : Nat) (vs : Array Value) (w : World) (R : Ending → World → Prop) : Prop :=
  ∃ fn tmps assign body, (Instr.yield l vs).run P w = .ok (.round l fn tmps assign body) w ∧ RoundIn Fence.wide 0 P l fn tmps assign body w R
def Lent (ln s : Sto) : Prop := s.take ln.length = ln
def Closed (ln : Sto) : Prop := mapSto (tr (renH (idH ln.length)) trFuel) ln = some ln
/-- The loop's side, as an iterator knows it: J, at what is still to be told; the blocks ln, at φ0, are lent to it in each round. -/
structure Partner (P : Program) (l : Nat) (J : Option (List (List D)) → World → (Nat → Prop) → (Nat → Prop) → Prop) (n0 : Nat) (G : Nat → Prop) (φ0 : Phi) (ln : Sto) : Prop where
  stay : ∀ Y w Im X w' Im', J Y w Im X → XOk w Im X → IStep n0 G X w Im w' Im' → J Y w' Im' X
  yields : ∀ (y : List D) (Y : List (List D)) (w : World) (Im X : Nat → Prop) (vs : Array Value), J (some (y :: Y)) w Im X → XOk w Im X → (∀ c, Im c → c < w.heap.size) → ArgsRel w Im [] y vs.toList →
    Inv w Im φ0 ln → (∀ c, X c → ¬ Own φ0 ln c) →
    YieldOk P l vs w fun e w' => ∃ b Im' X', e = .returned (.bool b) ∧ J (if b = true then some Y else none) w' Im' X' ∧ PStep (fun c => X c ∨ Own φ0 ln c) w Im w' Im' X' ∧ Inv w' Im' φ0 ln ∧ (∀ c, X' c → ¬ Own φ0 ln c)
def SoundSeq (E : Env) (g : FuncId) (caps : List D) (σ ln : Sto) (Y : List (List D)) : Prop :=
  ∀ (w : World) (Im : Nat → Prop) (φ : Phi) (vs : Array Value) (l : Nat) (J : Option (List (List D)) → World → (Nat → Prop) → (Nat → Prop) → Prop) (n0 : Nat) (G X : Nat → Prop), GlOk E w Im → Inv w Im φ σ → ArgsRel w Im φ caps vs.toList →
    Partner E.P l J n0 G (φ.take ln.length) ln → n0 ≤ w.heap.size → (∀ c, Own φ σ c → G c) → XOk w Im X → (∀ c, X c → ¬ Own φ σ c) → J (some Y) w Im X →
    Calls E.P g (#[.func (.yield l) #[] #[]] ++ vs) w fun e w' => (∃ v, e = .returned v) ∧ ∃ Im' X', (J (some []) w' Im' X' ∨ J none w' Im' X') ∧ Inv w' Im' (φ.take ln.length) ln ∧ (∀ c, X' c → ¬ Own (φ.take ln.length) ln c)
def An (E : Env) (C : Cx) (w : World) (Im : Nat → Prop) (φ : Phi) (σ : Sto) : Prop :=
  C.it = true → (PhiLe C.lp0 φ ∧ C.lp0.length = C.ln.length ∧ C.lp0.length ≤ C.m ∧ Closed C.ln) ∧
    ∃ (n0 : Nat) (G X : Nat → Prop), Partner E.P C.lp C.J n0 G C.lp0 C.ln ∧ n0 ≤ w.heap.size ∧ (∀ c, Own φ σ c → G c ∨ n0 ≤ c) ∧ XOk w Im X ∧ (∀ c, X c → ¬ Own φ σ c) ∧ C.J C.Y w Im X
def IEnd (C : Cx) (w : World) (Im : Nat → Prop) (φ : Phi) (σ : Sto) : Prop :=
  (PhiLe C.lp0 φ ∧ C.lp0.length = C.ln.length ∧ Closed C.ln) ∧ ∃ X : Nat → Prop, (C.J (some []) w Im X ∨ C.J none w Im X) ∧ (∀ c, X c → ¬ Own φ σ c)
def mark (b : Nat) : Deferred := { target := .collected b, args := #[] }
structure Marks (C : Cx) (lo : Nat) (w : World) (Im : Nat → Prop) (φ : Phi) (σ : Sto) (ds : List Deferred) (Ds : List Nat) : Prop where
  eq : ds = Ds.map mark
  none : C.it = true → Ds = []
  nodup : Ds.Nodup
  ok : ∀ b ∈ Ds, lo ≤ b ∧ b < w.heap.size ∧ w.heap[b]? = some (.deferred (some [])) ∧ ¬ Im b ∧ ¬ Own φ σ b
structure Side (E : Env) (C : Cx) (lo : Nat) (w : World) (Im : Nat → Prop) (φ : Phi) (σ : Sto) (ds : List Deferred) : Prop where
  low : lo ≤ w.heap.size
  gl : GlOk E w Im
  an : An E C w Im φ σ
  mks : ∃ Ds, Marks C lo w Im φ σ ds Ds
theorem Tr.imX {k : Nat} {w w' : World} {Im Im' : Nat → Prop} {φ φ' : Phi} {σ σ' : Sto} (ht : Tr k w Im φ σ w' Im' φ' σ') {X : Nat → Prop} (hx : ∀ c, X c → c < w.heap.size ∧ ¬ Im c ∧ ¬ Own φ σ c) :
    (∀ c, X c → ¬ Im' c ∧ ¬ Own φ' σ' c) := fun c hc => by
  obtain ⟨h1, h2, h3⟩ := hx c hc
  refine ⟨fun h => ?_, fun h => ?_⟩
  · rcases ht.imN c h with h | h | h
    · exact h2 h
    · exact h3 h
    · omega
  · rcases ht.own c h with h | h
    · exact h3 h
    · omega
theorem An.tr {E : Env} {C : Cx} {k : Nat} {w w' : World} {Im Im' : Nat → Prop} {φ φ' : Phi} {σ σ' : Sto} (h : An E C w Im φ σ) (hk : C.m ≤ k) (hi : Inv w Im φ σ) (ht : Tr k w Im φ σ w' Im' φ' σ') (hi' : Inv w' Im' φ' σ') : An E C w' Im' φ' σ' := fun hit => by
  obtain ⟨⟨q1, q2, q3, q4⟩, n0, G, X, h1, h2, h3, h4, h5, h6⟩ := h hit
  refine ⟨⟨fun b l hb => ?_, q2, q3, q4⟩, ?_⟩
  · have := (List.getElem?_eq_some_iff.1 hb).1
    rw [ht.pre b (by omega)]; exact q1 b l hb
  have hx := ht.imX (X := X) fun c hc => ⟨h4.lt c hc, h4.im c hc, h5 c hc⟩
  refine ⟨n0, G, X, h1, Nat.le_trans h2 ht.ext.size, fun c hc => ?_, ⟨fun c hc => Nat.lt_of_lt_of_le (h4.lt c hc) ht.ext.size, fun c hc => (hx c hc).1⟩, fun c hc => (hx c hc).2, h1.stay _ _ _ _ _ _ h6 h4 ⟨ht.ext.size, fun c hc ho => ?_, ht.ext.io, ht.im, fun c hc => ?_, fun c hc hX => (hx c hX).1 hc, hi'.im⟩⟩
  · rcases ht.own c hc with h | h
    · exact h3 c h
    · exact .inr (Nat.le_trans h2 h)
  · refine ht.ext.same c hc fun h => ?_
    rcases ho with ho | ho | ⟨ho, hg⟩
    · exact h5 c ho h
    · exact hi.sep c ho h
    · rcases h3 c h with h | h
      · exact hg h
      · omega
  · rcases ht.imN c hc with h | h | h
    · exact .inl h
    · exact .inr (h3 c h)
    · exact .inr (.inr (Nat.le_trans h2 h))
theorem Marks.tr {C : Cx} {lo k : Nat} {w w' : World} {Im Im' : Nat → Prop} {φ φ' : Phi} {σ σ' : Sto} {ds : List Deferred} {Ds : List Nat} (h : Marks C lo w Im φ σ ds Ds) (ht : Tr k w Im φ σ w' Im' φ' σ') : Marks C lo w' Im' φ' σ' ds Ds :=
  ⟨h.eq, h.none, h.nodup, fun b hb => by
    obtain ⟨h1, h2, h3, h4, h5⟩ := h.ok b hb
    have hx := ht.imX (X := fun c => c = b) (fun c hc => by subst hc; exact ⟨h2, h4, h5⟩) b rfl
    exact ⟨h1, Nat.lt_of_lt_of_le h2 ht.ext.size, by rw [ht.ext.same b h2 h5]; exact h3, hx.1, hx.2⟩⟩
theorem Side.tr {E : Env} {C : Cx} {lo k : Nat} {w w' : World} {Im Im' : Nat → Prop} {φ φ' : Phi} {σ σ' : Sto} {ds : List Deferred} (h : Side E C lo w Im φ σ ds) (hk : C.m ≤ k) (hi : Inv w Im φ σ) (ht : Tr k w Im φ σ w' Im' φ' σ') (hi' : Inv w' Im' φ' σ') : Side E C lo w' Im' φ' σ' ds :=
  ⟨Nat.le_trans h.low ht.ext.size, h.gl.mono ht.im (ht.keeps hi), h.an.tr hk hi ht hi', let ⟨Ds, hm⟩ := h.mks; ⟨Ds, hm.tr ht⟩⟩
structure SRel (E : Env) (C : Cx) (lo : Nat) (w : World) (Im : Nat → Prop) (φ : Phi) (fr : Fr) (σ : Sto) (a : Act) : Prop where
  fr : ∀ t, Rel w Im φ (fget fr t) (a.tmps.getD t undef)
  inv : Inv w Im φ σ
  sd : Side E C lo w Im φ σ a.defers
  sz : a.tmps.size = C.fn.ntmps
  m : C.m ≤ φ.length
def exCode : Exit → Option Nat
  | .normal => some 0
  | .ret => some 1
  | .exit id => some (id + 2)
  | _ => none
/-- The marks' blocks are shut, at most. -/
structure Shut (Ds : List Nat) (w w' : World) : Prop where
  size : w'.heap.size = w.heap.size
  same : ∀ c, c ∉ Ds → w'.heap[c]? = w.heap[c]?
  io : Io w w'
def DoneP (E : Env) (C : Cx) (lo : Nat) (Q : D → Sto → Prop) (w : World) (Im : Nat → Prop) (φ : Phi) (σ : Sto) (e : Exit) (a' : Act) (w' : World) : Prop :=
  (C.rb = true → ∃ n σ' φ' Im', exCode e = some n ∧ Tr C.m w Im φ σ w' Im' φ' σ' ∧ Inv w' Im' φ' σ' ∧ Q (.int .i64 (n : Int)) σ') ∧
  (C.rb = false → (e = .normal ∨ e = .ret) ∧
    ∃ Ds, a'.defers = Ds.map mark ∧ (C.it = true → Ds = []) ∧ Ds.Nodup ∧ (∀ b ∈ Ds, lo ≤ b ∧ w'.heap[b]? = some (.deferred (some []))) ∧
      ∀ w'', Shut Ds w' w'' → ∃ v d σ' φ' Im', (results C.fn a'.tmps).run E.P w'' = .ok v w'' ∧ (C.it = false → Tr C.m w Im φ σ w' Im' φ' σ') ∧ Inv w'' Im' φ' σ' ∧ Rel w'' Im' φ' d v ∧ Q d σ' ∧ (C.it = true → IEnd C w'' Im' φ' σ'))
def OkF (F : Fence) : Prop := F = Fence.wide ∨ ∃ l, F = Fence.wide.inRound l
theorem OkF.fn {F : Fence} (h : OkF F) (f : FuncId) : F.fn f := by rcases h with rfl | ⟨l, rfl⟩ <;> trivial
theorem OkF.depth {F : Fence} (h : OkF F) : F.depth = none := by rcases h with rfl | ⟨l, rfl⟩ <;> rfl
theorem OkF.wide : OkF Fence.wide := .inl rfl
theorem OkF.calls {F : Fence} (h : OkF F) {n : Nat} {P : Program} {f : FuncId} {args : Array Value} {w : World} {R : Ending → World → Prop} (hc : Calls P f args w R) : CallsIn F n P f args w R := by
  rcases h with rfl | ⟨l, rfl⟩
  · exact callsIn_wide.2 hc
  · exact callsIn_wide.2 hc
theorem OkF.rows {F : Fence} (h : OkF F) {n : Nat} {P : Program} {row : String} {args : Array Value} {w : World} {R : Value → World → Prop} (hr : Rows P row args w R) : RowsIn F n P row args w R := by
  intro c cs _
  obtain ⟨v, w', q, hs⟩ := hr c cs
  refine ⟨v, w', q, ?_⟩
  rcases h with rfl | ⟨l, rfl⟩
  · exact stepsIn_wide.2 hs
  · exact stepsIn_wide.2 hs
theorem OkF.wp {F : Fence} (hF : OkF F) {n : Nat} {P : Program} {o : Oper} {a : Act} {w : World} {next : Act → World → Prop} {R : Exit → Act → World → Prop} (hnd : ∀ c, o.op ≠ .defer c) (h : o.wp P a w next R) : o.wpIn F n P a w next R := by
  refine ⟨fun f _ => hF.fn f, ?_⟩
  rw [Oper.semAt_eq _ _ _ hnd]
  unfold Oper.wp at h
  have hd : F.depth.isSome = true → 1 ≤ n := fun hd => by rw [hF.depth] at hd; cases hd
  generalize (execOp a.eval o).run P w = r at *
  cases r with
  | ok x w' =>
    cases x <;> simp only [Oper.upon, Oper.uponIn] at h ⊢
    all_goals first
      | exact h
      | exact ⟨hd, hF.calls h⟩
      | exact ⟨hd, hF.rows h⟩
      | exact h.elim
  | halt x w' =>
    cases x <;> simp only [Oper.upon, Oper.uponIn] at h ⊢
    all_goals first
      | exact h
      | exact h.elim
def LoopIn (F : Fence) (n : Nat) (P : Program) (c : Code) (Q : Exit → Act → World → Prop) (a : Act) (w : World) : Prop :=
  ∀ (b : Frame) (k : List Item) (cs : List Frame), b.roundOf = F.round → F.fn b.fn → F.room (cs.length + 1 + n) →
    ∃ e a' w', Q e a' w' ∧ ArrivesIn (Machine.fenced P F) P (lone (b.atR a (.code c :: .inLoop c :: k)) cs w) b k cs e a' w'
def sem (F : Fence) (n : Nat) (P : Program) (Q : Exit → Act → World → Prop) : List It → Exit → Act → World → Prop
  | [] => Q
  | .blk id :: t => Exit.inBlock id (sem F n P Q t)
  | .sc :: t => Exit.noGoto (sem F n P Q t)
  | .code c :: t => Exit.then (c.wpIn F n P (sem F n P Q t)) (sem F n P Q t)
  | .lp c _ :: t => Exit.then (LoopIn F n P c (sem F n P Q t)) (sem F n P Q t)
  | .lpc c _ :: t => Exit.then (LoopIn F n P c (sem F n P Q t)) (sem F n P Q t)
  | .ops all l :: t => Exit.then (wpListIn F n P all.toArray (sem F n P Q t) l) (sem F n P Q t)
def OkC (C : Cx) (F : Fence) : Prop := (C.rb = false → F = Fence.wide) ∧ (C.rb = true → ∃ l, F = Fence.wide.inRound l)
theorem OkC.ok {C : Cx} {F : Fence} (h : OkC C F) : OkF F := by
  cases hr : C.rb with
  | false => exact .inl (h.1 hr)
  | true => exact .inr (h.2 hr)
def FinM (E : Env) (C : Cx) (Q : D → Sto → Prop) (M : M) : Prop :=
  ∀ (F : Fence) (n : Nat), OkC C F → ∀ (lo : Nat) (a : Act) (w : World) (Im : Nat → Prop) (φ : Phi), SRel E C lo w Im φ M.fr M.st a → ∀ R : Exit → Act → World → Prop, (∀ e a' w', DoneP E C lo Q w Im φ M.st e a' w' → R e a' w') → sem F n E.P R M.td .normal a w
def MW (m m' : Fr × Sto) : Prop := ∀ (k : Nat) (w : World) (Im : Nat → Prop) (φ : Phi) (v : Nat → Value), k ≤ φ.length → Inv w Im φ m.2 → (∀ t, Rel w Im φ (fget m.1 t) (v t)) →
  ∃ φ', PhiLe φ φ' ∧ φ.length ≤ φ'.length ∧ Tr k w Im φ m.2 w Im φ' m'.2 ∧ Inv w Im φ' m'.2 ∧ ∀ t, Rel w Im φ' (fget m'.1 t) (v t)
def QW (Q : D → Sto → Prop) (d : D) (s : Sto) : Prop := ∃ d' s', MW ([(0, d)], s) ([(0, d')], s') ∧ Q d' s'
def Rng (B : Sto → Prop) (R : List D → Sto → (D → Sto → Prop) → Prop) (A : Nat → Sto → Prop) : List (List D) → Sto → Prop
  | [], σ => A 0 σ
  | y :: Y, σ => R y σ fun d s => B s ∧ ((d = .int .i64 0 ∧ Rng B R A Y s) ∨ ∃ n : Nat, n ≠ 0 ∧ d = .int .i64 (n : Int) ∧ A n s)
def Cx.fin (C : Cx) : Prop := C.it = true → C.Y = some [] ∨ C.Y = none
def FinQ (E : Env) : Cx → (D → Sto → Prop) → Qy → Prop
  | C, Q, .go m => FinM E C Q m
  | C, Q, .need b q => b = true ∧ FinQ E C Q q
  | C, Q, .split b k => FinQ E C Q (k b)
  | C, Q, .row r k => ∃ x, r = some x ∧ FinQ E C Q (k x)
  | C, Q, .rows r k => FinQ E C Q (k r)
  | C, Q, .any p k => ∀ b, (b = true → p = true) → FinQ E C Q (k b)
  | C, Q, .str r k => ∃ x, r = some x ∧ FinQ E C Q (k x)
  | C, Q, .call f args sub k => ∃ Qc, Sound E f args sub Qc ∧ ∀ d s, Qc d s → FinQ E C Q (k d s)
  | C, Q, .callD f args k => ∃ d, SoundTo E f args d ∧ FinQ E C Q (k d)
  | C, Q, .callS f args sub k => ∃ d s, (Sound E f args sub fun d' s' => d' = d ∧ s' = s) ∧ FinQ E C Q (k d s)
  | C, Q, .callR f args sub σ bk k => ∃ d s x, (Sound E f args sub fun d' s' => d' = d ∧ s' = s) ∧ bk d s = some x ∧ x.2.take σ.length = σ ∧ FinQ E C Q (k x.1 x.2)
  | C, Q, .yld l y s k => C.it = true ∧ C.rb = false ∧ C.lp = l ∧ Lent C.ln s ∧ ∃ Y, C.Y = some (y :: Y) ∧ FinQ E (C.tell (some Y)) Q (k true) ∧ FinQ E (C.tell none) Q (k false)
  | C, Q, .rng m g caps sub σ ids rnd aft => (ids = [] ∨ mapSto (tr (renH (backN ids σ.length)) trFuel) sub = some (pickSto σ ids)) ∧
      ∃ Y, SoundSeq E g caps sub (bif ids.isEmpty then [] else sub) Y ∧ Rng (fun s => pickSto s ids = pickSto σ ids) (fun y s q => FinQ E (C.round m) (QW q) (rnd y s)) (fun n s => FinQ E C Q (aft n s)) Y σ
  | C, Q, .ret d σ => C.fin ∧ Q d σ
  | _, _, .bad => False
/-- From a state to a later one. -/
structure Nx (w : World) (Im : Nat → Prop) (φ : Phi) (σ : Sto) (w' : World) (Im' : Nat → Prop) (φ' : Phi) (σ' : Sto) : Prop where
  le : PhiLe φ φ'
  len : φ.length ≤ φ'.length
  tr : Tr φ.length w Im φ σ w' Im' φ' σ'
  inv : Inv w' Im' φ' σ'
section
variable {E : Env} {C C' : Cx} {Q : D → Sto → Prop} {w w' : World} {Im Im' : Nat → Prop} {φ φ' : Phi} {σ σ' : Sto}
theorem Good.nx {d : D} {v : Value} (g : Good w Im φ σ w' φ' σ' d v) (hlen : φ.length ≤ φ'.length) : Nx w Im φ σ w' Im φ' σ' := ⟨g.le, hlen, g.tr, g.inv⟩
theorem PhiLe.length {a b : Phi} (h : PhiLe a b) : a.length ≤ b.length := by
  rcases Nat.lt_or_ge b.length a.length with hlt | hge
  · have h1 : a[b.length]? = some (a[b.length]) := by simp [hlt]
    have := h _ _ h1
    simp at this
  · exact hge
theorem DoneP.of_tr {lo : Nat} {e : Exit} {a' : Act} {w2 : World} (h : Tr C.m w Im φ σ w' Im' φ' σ') (hd : DoneP E C lo Q w' Im' φ' σ' e a' w2) : DoneP E C lo Q w Im φ σ e a' w2 := by
  obtain ⟨h1, h2⟩ := hd
  refine ⟨fun hr => ?_, fun hr => ?_⟩
  · obtain ⟨n, s, p, I, g1, g2, g3, g4⟩ := h1 hr
    exact ⟨n, s, p, I, g1, h.trans g2, g3, g4⟩
  · obtain ⟨g1, Ds, g3, g4, g5, g6, g7⟩ := h2 hr
    refine ⟨g1, Ds, g3, g4, g5, g6, fun w'' hs => ?_⟩
    obtain ⟨v, d, s, p, I, k1, k2, k3⟩ := g7 w'' hs
    exact ⟨v, d, s, p, I, k1, fun hi => h.trans (k2 hi), k3⟩
/-- A move of a text: what is known goes with it. -/
structure Mv (E : Env) (C : Cx) (w : World) (Im : Nat → Prop) (φ : Phi) (σ : Sto) (C' : Cx) (w' : World) (Im' : Nat → Prop) (φ' : Phi) (σ' : Sto) : Prop where
  le : PhiLe φ φ'
  len : φ.length ≤ φ'.length
  im : ∀ c, Im c → Im' c
  hp : ∀ c, Im c → w'.heap[c]? = w.heap[c]?
  inv : Inv w' Im' φ' σ'
  sd : ∀ lo ds, Side E C lo w Im φ σ ds → Side E C' lo w' Im' φ' σ' ds
  cx : ∃ Y, C' = C.tell Y
  dn : ∀ lo Q e a w2, DoneP E C' lo Q w' Im' φ' σ' e a w2 → DoneP E C lo Q w Im φ σ e a w2
theorem Nx.mv (hi : Inv w Im φ σ) (hm : C.m ≤ φ.length) (n : Nx w Im φ σ w' Im' φ' σ') : Mv E C w Im φ σ C w' Im' φ' σ' :=
  ⟨n.le, n.len, n.tr.im, n.tr.keeps hi, n.inv, fun lo ds h => h.tr hm hi n.tr n.inv, ⟨C.Y, rfl⟩, fun lo Q e a w2 hd => DoneP.of_tr (n.tr.le hm) hd⟩
theorem Mv.rel (h : Mv E C w Im φ σ C' w' Im' φ' σ') {d : D} {v : Value} (hr : Rel w Im φ d v) : Rel w' Im' φ' d v := hr.mono h.im h.hp h.le
theorem evalD_rel {fr : Fr} {a : Act} (hg : GlOk E w Im) (h : ∀ t, Rel w Im φ (fget fr t) (a.tmps.getD t undef)) (x : Operand) : Rel w Im φ (evalD E.gl fr x) (a.eval x) := by
  cases x with
  | tmp t => exact h t
  | const v => exact rel_ofConst v
  | global g => exact (hg g).mono (fun _ h => h) (fun _ _ => rfl) (PhiLe.nil _)
  | func f => exact .fn f [] [] #[] #[] rfl rfl (fun i d v a => by simp at a) (fun i d v a => by simp at a)
theorem put_rel {fr : Fr} {a : Act} (h : ∀ t, Rel w Im φ (fget fr t) (a.tmps.getD t undef)) {dst : Option Nat} {n : Nat} (hsz : a.tmps.size = n) (hd : dstOk n dst = true) {d : D} {v : Value} (hr : Rel w Im φ d v) :
    ∀ t, Rel w Im φ (fget (put fr dst d) t) ((a.put dst v).tmps.getD t undef) := by
  intro t
  cases dst with
  | none => exact h t
  | some s =>
    have hs : s < a.tmps.size := by rw [hsz]; exact Nat.lt_of_succ_le (Nat.le_of_ble_eq_true hd)
    simp only [put, fset, fget, Act.put, Bool.cond_eq_ite]
    split
    · rename_i he
      have he' := Nat.eq_of_beq_eq_true he
      subst he'
      rw [show (a.tmps.setIfInBounds s v).getD s undef = v by simp [hs]]
      exact hr
    · rename_i he
      have hne : s ≠ t := fun e => he (by rw [e]; exact Nat.beq_refl t)
      have : (a.tmps.setIfInBounds s v).getD t undef = a.tmps.getD t undef := by
        simp [Array.getElem?_setIfInBounds_ne hne]
      rw [this]
      exact h t
theorem put_size (a : Act) (dst : Option Nat) (v : Value) : (a.put dst v).tmps.size = a.tmps.size := by
  cases dst <;> simp [Act.put]
theorem put_df (a : Act) (dst : Option Nat) (v : Value) : (a.put dst v).defers = a.defers := by
  cases dst <;> rfl
/-! ### calls -/
theorem plain_rel : ∀ (n : Nat) (d : D) (v : Value), plainD n d = true → Rel w Im φ d v → Rel w' Im' φ' d v
  | 0, _, _, h, _ => by simp [plainD] at h
  | n + 1, d, v, h, hr => by
    have IH := plain_rel n
    cases hr <;> simp [plainD] at h
    case bool => exact .bool _
    case int => exact .int _ _
    case str e => exact .str _ _ e
    case agg cs vs e1 e2 => exact .agg _ _ e1 (fun i d v a b => IH d v (h d (List.mem_of_getElem? a)) (e2 i d v a b))
    case tup cs vs e1 e2 => exact .tup _ _ e1 (fun i d v a b => IH d v (h d (List.mem_of_getElem? a)) (e2 i d v a b))
theorem no_own (c : Nat) : ¬ Own [] [] c := fun ⟨b, B, l, h, _⟩ => by simp at h
theorem Inv.past (hi : Inv w Im φ σ) {I2 : Nat → Prop} {φ2 : Phi} {σ2 : Sto} {J : Nat → Prop} (ht : Tr 0 w J [] [] w' I2 φ2 σ2) (h2 : Inv w' I2 φ2 σ2) (hIm : ∀ c, Im c → I2 c) (hN : ∀ c, I2 c → Im c ∨ w.heap.size ≤ c) :
    Inv w' I2 φ σ ∧ Tr φ.length w Im φ σ w' I2 φ σ := by
  have hsame : ∀ c, c < w.heap.size → w'.heap[c]? = w.heap[c]? := fun c hc => ht.ext.same c hc (no_own c)
  refine ⟨⟨hi.len, fun b B l a1 a2 => ?_, hi.inj, fun c hc ho => ?_, h2.im⟩, ⟨⟨ht.ext.size, fun c hc _ => hsame c hc, ht.ext.io⟩, fun c hc => .inl hc, fun _ _ => rfl, hIm, fun c hc => ?_⟩⟩
  · have hk := hi.blk b B l a1 a2
    exact hk.of_heap (fun hp => hsame _ (hk.lt hp)) ht.ext.size hIm (fun c hc => hsame c (hi.im c hc)) (PhiLe.refl _)
  · rcases hN c hc with h | h
    · exact hi.sep c h ho
    · have := hi.own_lt ho; omega
  · rcases hN c hc with h | h
    · exact .inl h
    · exact .inr (.inr h)
theorem args_map {f : D → Option D} {args args' : List D} {vs : List Value} {ψ : Phi} (h : mapO f args = some args') (hr : ArgsRel w Im φ args vs) (hf : ∀ d d' v, Rel w Im φ d v → f d = some d' → Rel w Im' ψ d' v) : ArgsRel w Im' ψ args' vs := by
  obtain ⟨h1, h2⟩ := mapO_some h
  refine ⟨by rw [h1]; exact hr.1, fun i d v a b => ?_⟩
  obtain ⟨d0, hd0⟩ := get_of_len h1.symm a
  exact hf d0 d v (hr.2 i d0 v hd0 b) (h2 i d0 d hd0 a)
theorem Inv.join (hi : Inv w' Im φ σ) {φ2 : Phi} {σ2 s' : Sto} (h2 : Inv w' Im φ2 σ2) (hdis : ∀ c, Own φ2 σ2 c → ¬ Own φ σ c) (hs : mapSto (tr (renH fun j => some (σ.length + j)) trFuel) σ2 = some s') :
    Inv w' Im (φ ++ φ2) (σ ++ s') ∧ (∀ c, Own (φ ++ φ2) (σ ++ s') c → Own φ σ c ∨ Own φ2 σ2 c) ∧ ∀ d d' v, Rel w' Im φ2 d v → tr (renH fun j => some (σ.length + j)) trFuel d = some d' → Rel w' Im (φ ++ φ2) d' v := by
  obtain ⟨h3, h4⟩ := mapSto_some hs
  have hren : ∀ d d' v, Rel w' Im φ2 d v → tr (renH fun j => some (σ.length + j)) trFuel d = some d' → Rel w' Im (φ ++ φ2) d' v := fun d d' v a b =>
    ren_rel (fun _ h => h) (fun b c l e1 e2 => by
      obtain rfl := Option.some.inj e1
      rw [← hi.len, List.getElem?_append_right (by omega), show φ.length + b - φ.length = b by omega]; exact e2) trFuel d d' v a b
  have hlen : s'.length = φ2.length := by rw [h3, h2.len]
  have hget : ∀ b B l, sget (σ ++ s') b = some B → (φ ++ φ2)[b]? = some l → (b < σ.length ∧ sget σ b = some B ∧ φ[b]? = some l) ∨ (σ.length ≤ b ∧ ∃ B2, sget σ2 (b - σ.length) = some B2 ∧ φ2[b - σ.length]? = some l ∧ BlkOk w' Im (φ ++ φ2) B l) := fun b B l a1 a2 => by
    by_cases hb : b < σ.length
    · rw [sget_append_left hb] at a1
      rw [List.getElem?_append_left (by rw [hi.len]; exact hb)] at a2
      exact .inl ⟨hb, a1, a2⟩
    · have a1' : sget s' (b - σ.length) = some B := by
        rw [sget_some] at a1 ⊢
        rwa [List.getElem?_append_right (by omega)] at a1
      rw [List.getElem?_append_right (by rw [hi.len]; omega), hi.len] at a2
      obtain ⟨B2, hB2, h5⟩ := h4 _ _ a1'
      exact .inr ⟨by omega, B2, hB2, a2, mapBlk_ok (fun _ h => h) hren (tr_scal (renH_scal _) trFuel) h5 (h2.blk _ _ _ hB2 a2)⟩
  have hown : ∀ c, Own (φ ++ φ2) (σ ++ s') c → Own φ σ c ∨ Own φ2 σ2 c := by
    rintro c ⟨b, B, l, a1, a2, rfl, hp⟩
    rcases hget b B l a2 a1 with ⟨_, h6, h7⟩ | ⟨_, B2, h6, h7, _⟩
    · exact .inl ⟨b, B, l, h7, h6, rfl, hp⟩
    · exact .inr ⟨_, B2, l, h7, h6, rfl, hp⟩
  refine ⟨⟨by simp [hi.len, hlen], fun b B l a1 a2 => ?_, fun b b' B B' l l' hne a1 a2 a3 a4 p1 p2 => ?_, fun c hc ho => ?_, hi.im⟩, hown, hren⟩
  · rcases hget b B l a1 a2 with ⟨_, h6, h7⟩ | ⟨_, B2, h6, h7, hk⟩
    · exact (hi.blk b B l h6 h7).of_heap (fun _ => rfl) (Nat.le_refl _) (fun _ h => h) (fun _ _ => rfl) (PhiLe.append _ _)
    · exact hk
  · rcases hget b B l a3 a1 with ⟨_, h6, h7⟩ | ⟨hge, B2, h6, h7, _⟩ <;> rcases hget b' B' l' a4 a2 with ⟨_, g6, g7⟩ | ⟨gge, C2, g6, g7, _⟩
    · exact hi.inj b b' B B' l l' hne h7 g7 h6 g6 p1 p2
    · exact fun e => hdis l'.blk ⟨_, C2, l', g7, g6, rfl, p2⟩ ⟨b, B, l, h7, h6, e, p1⟩
    · exact fun e => hdis l.blk ⟨_, B2, l, h7, h6, rfl, p1⟩ ⟨b', B', l', g7, g6, e.symm, p2⟩
    · exact h2.inj (b - σ.length) (b' - σ.length) B2 C2 l l' (by omega) h7 g7 h6 g6 p1 p2
  · rcases hown c ho with h | h
    · exact hi.sep c hc h
    · exact h2.sep c hc h
end
end Go.RX

namespace Go.RX
open Go
section
variable {E : Env} {C : Cx} {Q : D → Sto → Prop} {σ : Sto} {m : Nat}
theorem needs_ok : ∀ {l : List Bool} {q : Qy}, FinQ E C Q (needs l q) → (∀ b ∈ l, b = true) ∧ FinQ E C Q q
  | [], q, h => ⟨fun b hb => by simp at hb, h⟩
  | b :: l, q, h => by
    obtain ⟨h1, h2⟩ := h
    obtain ⟨h3, h4⟩ := needs_ok h2
    exact ⟨fun x hx => (List.mem_cons.1 hx).elim (fun e => e ▸ h1) (h3 x), h4⟩
theorem all_flat {α : Type} {c : α → List Bool} {l : List α} (h : ∀ b ∈ l.flatMap c, b = true) : ∀ x ∈ l, ∀ b ∈ c x, b = true :=
  fun x hx b hb => h b (List.mem_flatMap.2 ⟨x, hx, hb⟩)
theorem mapO_to {f g : D → Option D} : ∀ {l l' : List D}, (∀ x ∈ l, ∀ y, f x = some y → g x = some y) → mapO f l = some l' → mapO g l = some l'
  | [], l', _, e => e
  | d :: r, l', h, e => by
    simp only [mapO] at e ⊢
    split at e
    · rename_i x y h1 h2
      rw [h d (by simp) _ h1, mapO_to (fun x hx => h x (by simp [hx])) h2]; exact e
    · cases e
theorem mapR_to {f g : D → Option D} : ∀ {l l' : List (List D)}, (∀ r ∈ l, ∀ x ∈ r, ∀ y, f x = some y → g x = some y) → mapR f l = some l' → mapR g l = some l'
  | [], l', _, e => e
  | d :: r, l', h, e => by
    simp only [mapR] at e ⊢
    split at e
    · rename_i x y h1 h2
      rw [mapO_to (h d (by simp)) h1, mapR_to (fun x hx => h x (by simp [hx])) h2]; exact e
    · cases e
theorem tr_to {f g : D → Option D} {c : D → List Bool} (h : ∀ d d', (∀ b ∈ c d, b = true) → f d = some d' → g d = some d') : ∀ (n : Nat) (d d' : D), (∀ b ∈ gat c n d, b = true) → tr f n d = some d' → tr g n d = some d'
  | 0, _, _, _, e => by simp [tr] at e
  | n + 1, d, d', hc, e => by
    have ih := tr_to h n
    cases d <;> simp only [tr, gat] at e hc ⊢ <;> try exact e
    case ptr => exact h _ _ hc e
    case msl => exact h _ _ hc e
    case fn =>
      have hc1 := all_flat (fun b hb => hc b (List.mem_append.2 (.inl hb)))
      have hc2 := all_flat (fun b hb => hc b (List.mem_append.2 (.inr hb)))
      split at e
      · rename_i x y h1 h2
        rw [mapO_to (fun x hx y => ih x y (hc1 x hx)) h1, mapO_to (fun x hx y => ih x y (hc2 x hx)) h2]; exact e
      · cases e
    case agg =>
      simp only [Option.map_eq_some_iff] at e ⊢
      obtain ⟨x, h1, rfl⟩ := e
      exact ⟨x, mapO_to (fun x hx y => ih x y (all_flat hc x hx)) h1, rfl⟩
    case tup =>
      simp only [Option.map_eq_some_iff] at e ⊢
      obtain ⟨x, h1, rfl⟩ := e
      exact ⟨x, mapO_to (fun x hx y => ih x y (all_flat hc x hx)) h1, rfl⟩
    case iface =>
      simp only [Option.map_eq_some_iff] at e ⊢
      obtain ⟨x, h1, rfl⟩ := e
      exact ⟨x, ih _ _ hc h1, rfl⟩
theorem frzH_to : ∀ (n : Nat) (st : Bool) (d d' : D), (∀ b ∈ frzC σ m n d, b = true) → frzHU σ m st n d = some d' → frzH σ m st n d = some d'
  | 0, _, _, _, _, e => by simp [frzHU] at e
  | n + 1, st, d, d', hc, e => by
    have ih := tr_to (frzH_to n true) trFuel
    cases d <;> simp only [frzHU, frzH, frzC, Bool.cond_eq_ite] at e hc ⊢ <;> try (cases e; done)
    · split at e
      · rename_i h1; rw [if_pos h1]; exact e
      · rename_i h1
        rw [if_neg h1] at hc ⊢
        split at e
        · rename_i B hB
          simp only [hB] at hc ⊢
          split at e
          · rename_i h2
            rw [if_pos h2] at hc ⊢
            split at e
            · rename_i rows hrows
              rw [mapR_to (fun r hr x hx y => ih x y (all_flat (all_flat hc r hr) x hx)) hrows]; exact e
            · cases e
          · rename_i h2; rw [if_neg h2]; exact e
        · cases e
    · split at e
      · rename_i h1; rw [if_pos h1]; exact e
      · rename_i h1
        rw [if_neg h1] at hc ⊢
        split at e
        · rename_i B hB
          simp only [hB] at hc ⊢
          rw [if_pos (hc _ (by simp))]
          have hc' := fun b hb => hc b (List.mem_cons_of_mem _ hb)
          split at e
          · rename_i h2
            rw [if_pos h2] at hc' ⊢
            split at e
            · rename_i rows hrows
              rw [mapR_to (fun r hr x hx y => ih x y (all_flat (all_flat hc' r hr) x hx)) hrows]; exact e
            · cases e
          · rename_i h2; rw [if_neg h2]; exact e
        · cases e
theorem frz_to {d d' : D} (hc : ∀ b ∈ frzN σ m d, b = true) (e : frzU σ m d = some d') : frz σ m d = some d' := tr_to (frzH_to 6 false) trFuel d d' hc e
theorem frzs_to {l l' : List D} (hc : ∀ b ∈ l.flatMap (frzN σ m), b = true) (e : mapO (frzU σ m) l = some l') : mapO (frz σ m) l = some l' := mapO_to (fun x hx y => frz_to (all_flat hc x hx)) e
theorem blk_to {f g : D → Option D} {c : D → List Bool} (h : ∀ d d', (∀ b ∈ c d, b = true) → f d = some d' → g d = some d') {B B' : Option Blk} (hc : ∀ b ∈ blkN c B, b = true) (e : mapBlk f B = some B') : mapBlk g B = some B' := by
  cases B with
  | none => exact e
  | some B =>
    simp only [mapBlk, blkN, Bool.cond_eq_ite] at e hc ⊢
    split at e
    · rename_i h1
      rw [if_pos h1] at hc ⊢
      simp only [Option.map_eq_some_iff] at e ⊢
      obtain ⟨x, h2, rfl⟩ := e
      exact ⟨x, mapR_to (fun r hr x hx y => h x y (all_flat (all_flat hc r hr) x hx)) h2, rfl⟩
    · rename_i h1; rw [if_neg h1]; exact e
theorem sto_to {f g : D → Option D} {c : D → List Bool} (h : ∀ d d', (∀ b ∈ c d, b = true) → f d = some d' → g d = some d') : ∀ {s s' : Sto}, (∀ b ∈ s.flatMap (blkN c), b = true) → mapSto f s = some s' → mapSto g s = some s'
  | [], s', _, e => e
  | b :: r, s', hc, e => by
    simp only [mapSto] at e ⊢
    split at e
    · rename_i x y h1 h2
      rw [blk_to h (fun b' hb => hc b' (by simp only [List.flatMap_cons, List.mem_append]; exact .inl hb)) h1, sto_to h (fun b' hb => hc b' (by simp only [List.flatMap_cons, List.mem_append]; exact .inr hb)) h2]; exact e
    · cases e
end
end Go.RX

namespace Go.RX
open Go
section
variable {E : Env} {C : Cx} {Q : D → Sto → Prop} {w w' : World} {Im Im' : Nat → Prop} {φ φ' : Phi} {σ σ' : Sto}
theorem setAll_length : ∀ (ids : List Nat) (xs σ : Sto), (setAll ids xs σ).length = σ.length
  | [], _, _ => by simp [setAll]
  | _ :: _, [], _ => by simp [setAll]
  | b :: ids, x :: xs, σ => by simp [setAll, setAll_length ids xs σ]
theorem setAll_get : ∀ (ids : List Nat) (xs σ : Sto) (b : Nat), nodupB ids = true → b < σ.length →
    (∃ j, ids[j]? = some b ∧ j < xs.length ∧ sget (setAll ids xs σ) b = sget xs j) ∨ ((∀ j, ids[j]? = some b → xs.length ≤ j) ∧ sget (setAll ids xs σ) b = sget σ b)
  | [], xs, σ, b, _, _ => .inr ⟨fun j h => by simp at h, by simp [setAll]⟩
  | x :: ids, [], σ, b, _, _ => .inr ⟨fun j _ => by simp, by simp [setAll]⟩
  | x :: ids, y :: xs, σ, b, hnd, hb => by
    have hnd' := hnd
    simp only [nodupB, Bool.and_eq_true, Bool.not_eq_true'] at hnd'
    by_cases hx : x = b
    · subst hx
      refine .inl ⟨0, rfl, by simp, ?_⟩
      rw [setAll, sget_set_self (by rw [setAll_length]; exact hb)]
      unfold sget; cases y <;> rfl
    · rcases setAll_get ids xs σ b hnd'.2 hb with ⟨j, h1, h2, h3⟩ | ⟨h1, h2⟩
      · refine .inl ⟨j + 1, by simpa using h1, by simp; omega, ?_⟩
        rw [setAll, sget_set_ne hx, h3]
        unfold sget; simp
      · refine .inr ⟨fun j hj => ?_, by rw [setAll, sget_set_ne hx, h2]⟩
        cases j with
        | zero => simp at hj; exact absurd hj hx
        | succ j => have := h1 j (by simpa using hj); simp; omega
theorem Inv.passed (hi : Inv w Im φ σ) {ids : List Nat} (hnd : nodupB ids = true) (hin : ∀ b ∈ ids, b < σ.length) {sub s s' : Sto} {φ2 : Phi}
    (hsub : mapSto (tr (renH fun b => idxOf ids b 0) trFuel) (pickSto σ ids) = some sub)
    (ht : Tr sub.length w Im (phiOf φ ids) sub w' Im' φ2 s) (h2 : Inv w' Im' φ2 s)
    (hs : mapSto (tr (renH (backN ids σ.length)) trFuel) s = some s') (hn : ids.length ≤ s'.length) :
    Nx w Im φ σ w' Im' (φ ++ φ2.drop ids.length) (setAll ids s' σ ++ s'.drop ids.length) ∧
    ∀ d d' v, Rel w' Im' φ2 d v → tr (renH (backN ids σ.length)) trFuel d = some d' → Rel w' Im' (φ ++ φ2.drop ids.length) d' v := by
  obtain ⟨p1, p2⟩ := hi.pick hnd rfl hsub
  obtain ⟨q1, q2⟩ := mapSto_some hs
  have hsubl : sub.length = ids.length := by rw [(mapSto_some hsub).1]; simp [pickSto]
  have hφlen := hi.len
  have h2len := h2.len
  have hpre : ∀ j b, ids[j]? = some b → ∃ l, φ[b]? = some l ∧ φ2[j]? = some l := fun j b hj => by
    have hb := hin b (List.mem_of_getElem? hj)
    have hj' := (List.getElem?_eq_some_iff.1 hj).1
    have hlt : b < φ.length := by omega
    refine ⟨φ[b]'hlt, List.getElem?_eq_getElem hlt, ?_⟩
    rw [ht.pre j (by omega), phiOf_get hj, locOf, List.getElem?_eq_getElem hlt]
    rfl
  have hren : ∀ d d' v, Rel w' Im' φ2 d v → tr (renH (backN ids σ.length)) trFuel d = some d' → Rel w' Im' (φ ++ φ2.drop ids.length) d' v := fun d d' v a b =>
    ren_rel (fun _ h => h) (fun j c l e1 e2 => by
      simp only [backN, Bool.cond_eq_ite] at e1
      split at e1
      · obtain ⟨l', e3, e4⟩ := hpre j c e1
        obtain rfl := Option.some.inj (e2.symm.trans e4)
        exact PhiLe.append _ _ _ _ e3
      · rename_i hlt
        have hge : ids.length ≤ j := by
          rcases Nat.lt_or_ge j ids.length with h | h
          · exact absurd (Nat.ble_eq_true_of_le h) hlt
          · exact h
        obtain rfl := Option.some.inj e1
        rw [← hφlen, List.getElem?_append_right (by omega), List.getElem?_drop, show ids.length + (φ.length + (j - ids.length) - φ.length) = j by omega]
        exact e2) trFuel d d' v a b
  -- what a block of the new store is
  have hget : ∀ b B l, sget (setAll ids s' σ ++ s'.drop ids.length) b = some B → (φ ++ φ2.drop ids.length)[b]? = some l →
      (b < σ.length ∧ (∀ j, ids[j]? ≠ some b) ∧ sget σ b = some B ∧ φ[b]? = some l) ∨
      (∃ j B2, sget s j = some B2 ∧ φ2[j]? = some l ∧ BlkOk w' Im' (φ ++ φ2.drop ids.length) B l ∧ ((b < σ.length ∧ ids[j]? = some b) ∨ (σ.length ≤ b ∧ j = ids.length + (b - σ.length)))) := fun b B l a1 a2 => by
    by_cases hb : b < σ.length
    · rw [sget_append_left (by rw [setAll_length]; exact hb)] at a1
      rw [List.getElem?_append_left (by rw [hφlen]; exact hb)] at a2
      rcases setAll_get ids s' σ b hnd hb with ⟨j, h1, h3, h4⟩ | ⟨h1, h3⟩
      · rw [h4] at a1
        obtain ⟨B2, hB2, h5⟩ := q2 j B a1
        obtain ⟨l', e3, e4⟩ := hpre j b h1
        obtain rfl := Option.some.inj (a2.symm.trans e3)
        exact .inr ⟨j, B2, hB2, e4, mapBlk_ok (fun _ h => h) hren (tr_scal (renH_scal _) trFuel) h5 (h2.blk _ _ _ hB2 e4), .inl ⟨hb, h1⟩⟩
      · rw [h3] at a1
        refine .inl ⟨hb, fun j hj => ?_, a1, a2⟩
        have := h1 j hj
        have := (List.getElem?_eq_some_iff.1 hj).1
        omega
    · have a1' : sget s' (ids.length + (b - σ.length)) = some B := by
        rw [sget_some] at a1 ⊢
        rw [List.getElem?_append_right (by rw [setAll_length]; omega), List.getElem?_drop, setAll_length] at a1
        exact a1
      rw [List.getElem?_append_right (by rw [hφlen]; omega), List.getElem?_drop, hφlen] at a2
      obtain ⟨B2, hB2, h5⟩ := q2 _ B a1'
      exact .inr ⟨_, B2, hB2, a2, mapBlk_ok (fun _ h => h) hren (tr_scal (renH_scal _) trFuel) h5 (h2.blk _ _ _ hB2 a2), .inr ⟨by omega, rfl⟩⟩
  have hown2 : ∀ c, Own φ2 s c → Own φ σ c ∨ w.heap.size ≤ c := fun c hc => by
    rcases ht.own c hc with h | h
    · exact .inl (p2 c h)
    · exact .inr h
  -- an untouched block is none of the callee's
  have hfar : ∀ b B l, sget σ b = some B → φ[b]? = some l → (∀ j, ids[j]? ≠ some b) → 0 < l.size → ¬ Own (phiOf φ ids) sub l.blk ∧ ¬ Own φ2 s l.blk := fun b B l a1 a2 a3 hp => by
    have hno : ¬ Own (phiOf φ ids) sub l.blk := by
      rintro ⟨j, B', l', e1, e2, e3, hp'⟩
      obtain ⟨B0, hB0, _⟩ := (mapSto_some hsub).2 j B' e2
      obtain ⟨b', hb', hB'⟩ := pickSto_get hB0
      obtain ⟨l0, hl0, _⟩ := hi.loc hB'
      rw [phiOf_get hb', locOf, hl0] at e1
      obtain rfl : l0 = l' := by simpa using e1
      have hne : b' ≠ b := fun e => a3 j (e ▸ hb')
      exact hi.inj b' b B0 B l0 l hne hl0 a2 hB' a1 hp' hp e3
    refine ⟨hno, fun ho => ?_⟩
    rcases ht.own _ ho with h | h
    · exact hno h
    · have := (hi.blk b B l a1 a2).lt hp; omega
  refine ⟨⟨PhiLe.append _ _, by simp, ⟨⟨ht.ext.size, fun c hc ho => ht.ext.same c hc (fun h => ho (p2 c h)), ht.ext.io⟩, fun c hc => ?_, fun b hb => by rw [List.getElem?_append_left hb], ht.im, fun c hc => ?_⟩, ⟨?_, fun b B l a1 a2 => ?_, fun b b' B B' l l' hne a1 a2 a3 a4 pp1 pp2 => ?_, fun c hc ho => ?_, h2.im⟩⟩, hren⟩
  · obtain ⟨b, B, l, a1, a2, rfl, hp⟩ := hc
    rcases hget b B l a2 a1 with ⟨_, _, h3, h4⟩ | ⟨j, B2, h3, h4, _, _⟩
    · exact .inl ⟨b, B, l, h4, h3, rfl, hp⟩
    · exact hown2 _ ⟨j, B2, l, h4, h3, rfl, hp⟩
  · rcases ht.imN c hc with h | h | h
    · exact .inl h
    · exact .inr (.inl (p2 c h))
    · exact .inr (.inr h)
  · simp only [List.length_append, setAll_length, List.length_drop, hφlen, h2len, q1]
  · rcases hget b B l a1 a2 with ⟨_, h0, h3, h4⟩ | ⟨j, B2, h3, h4, hk, _⟩
    · have hk := hi.blk b B l h3 h4
      exact hk.of_heap (fun hp => ht.ext.same _ (hk.lt hp) (hfar b B l h3 h4 h0 hp).1) ht.ext.size ht.im (fun c hc => ht.ext.same c (hi.im c hc) (p1.sep c hc)) (PhiLe.append _ _)
    · exact hk
  · rcases hget b B l a3 a1 with ⟨_, h0, h3, h4⟩ | ⟨j, B2, h3, h4, _, hj⟩ <;> rcases hget b' B' l' a4 a2 with ⟨_, g0, g3, g4⟩ | ⟨j', C2, g3, g4, _, gj⟩
    · exact hi.inj b b' B B' l l' hne h4 g4 h3 g3 pp1 pp2
    · exact fun e => (hfar b B l h3 h4 h0 pp1).2 ⟨j', C2, l', g4, g3, e.symm, pp2⟩
    · exact fun e => (hfar b' B' l' g3 g4 g0 pp2).2 ⟨j, B2, l, h4, h3, e, pp1⟩
    · refine h2.inj j j' B2 C2 l l' (fun e => ?_) h4 g4 h3 g3 pp1 pp2
      subst e
      rcases hj with ⟨_, hj⟩ | ⟨hj1, hj2⟩ <;> rcases gj with ⟨_, gj⟩ | ⟨gj1, gj2⟩
      · exact hne (Option.some.inj (hj.symm.trans gj))
      · have := (List.getElem?_eq_some_iff.1 hj).1; omega
      · have := (List.getElem?_eq_some_iff.1 gj).1; omega
      · omega
  · obtain ⟨b, B, l, a1, a2, rfl, hp⟩ := ho
    rcases hget b B l a2 a1 with ⟨_, h0, h3, h4⟩ | ⟨j, B2, h3, h4, _, _⟩
    · rcases ht.imN _ hc with h | h | h
      · exact hi.sep _ h ⟨b, B, l, h4, h3, rfl, hp⟩
      · exact (hfar b B l h3 h4 h0 hp).1 h
      · have := (hi.blk b B l h3 h4).lt hp; omega
    · exact h2.sep _ hc ⟨j, B2, l, h4, h3, rfl, hp⟩
theorem selB_length (p : Nat → Bool) : ∀ (i : Nat) (σ : Sto), (selB p i σ).length = σ.length
  | _, [] => rfl
  | i, _ :: r => by simp [selB, selB_length p (i + 1) r]
theorem selB_get {p : Nat → Bool} : ∀ {i : Nat} {σ : Sto} {b : Nat} {B : Blk}, sget (selB p i σ) b = some B → sget σ b = some B ∧ p (i + b) = true
  | _, [], b, B, h => by simp [selB, sget] at h
  | i, x :: r, 0, B, h => by
    simp only [selB, sget, List.getElem?_cons_zero] at h ⊢
    cases hp : p i with
    | true => rw [hp] at h; exact ⟨h, by simp [hp]⟩
    | false => rw [hp] at h; simp at h
  | i, x :: r, b + 1, B, h => by
    have h' : sget (selB p (i + 1) r) b = some B := by simpa only [selB, sget, List.getElem?_cons_succ] using h
    obtain ⟨h1, h2⟩ := selB_get h'
    exact ⟨by simpa only [sget, List.getElem?_cons_succ] using h1, by rw [← h2]; congr 1; omega⟩
theorem Inv.sel (h : Inv w Im φ σ) (p : Nat → Bool) : Inv w Im φ (selB p 0 σ) := by
  have hg : ∀ c B, sget (selB p 0 σ) c = some B → sget σ c = some B := fun c B hc => (selB_get hc).1
  have hown : ∀ c, Own φ (selB p 0 σ) c → Own φ σ c := fun c ⟨b1, B1, l1, h1, h2, h3⟩ => ⟨b1, B1, l1, h1, hg _ _ h2, h3⟩
  exact ⟨by rw [selB_length]; exact h.len, fun c B l h1 h2 => h.blk c B l (hg _ _ h1) h2, fun b1 b2 B1 B2 l1 l2 hne h1 h2 h3 h4 p1 p2 => h.inj b1 b2 B1 B2 l1 l2 hne h1 h2 (hg _ _ h3) (hg _ _ h4) p1 p2,
      fun c hc ho => h.sep c hc (hown c ho), h.im⟩
theorem Inv.give (h : Inv w Im φ σ) (p : Nat → Bool) : Inv w (fun c => Im c ∨ Own φ (selB p 0 σ) c) φ (selB (fun i => !(p i)) 0 σ) ∧
    Tr φ.length w Im φ σ w (fun c => Im c ∨ Own φ (selB p 0 σ) c) φ (selB (fun i => !(p i)) 0 σ) := by
  have hg : ∀ q c B, sget (selB q 0 σ) c = some B → sget σ c = some B := fun q c B hc => (selB_get hc).1
  have hown : ∀ q c, Own φ (selB q 0 σ) c → Own φ σ c := fun q c ⟨b1, B1, l1, h1, h2, h3⟩ => ⟨b1, B1, l1, h1, hg _ _ _ h2, h3⟩
  refine ⟨⟨by rw [selB_length]; exact h.len, fun c B l h1 h2 => (h.blk c B l (hg _ _ _ h1) h2).of_heap (fun _ => rfl) (Nat.le_refl _) (fun _ h => .inl h) (fun _ _ => rfl) (PhiLe.refl _),
    fun b1 b2 B1 B2 l1 l2 hne h1 h2 h3 h4 p1 p2 => h.inj b1 b2 B1 B2 l1 l2 hne h1 h2 (hg _ _ _ h3) (hg _ _ _ h4) p1 p2, fun c hc ho => ?_, fun c hc => hc.elim (h.im c) (fun ho => h.own_lt (hown _ c ho))⟩,
    ⟨⟨Nat.le_refl _, fun _ _ _ => rfl, ⟨rfl, rfl, rfl⟩⟩, fun c hc => .inl (hown _ c hc), fun _ _ => rfl, fun _ h => .inl h, fun c hc => hc.elim .inl (fun ho => .inr (.inl (hown _ c ho)))⟩⟩
  rcases hc with hc | hc
  · exact h.sep c hc (hown _ c ho)
  · obtain ⟨b1, B1, l1, a1, a2, a3, a4⟩ := hc
    obtain ⟨b2, B2, l2, c1, c2, c3, c4⟩ := ho
    obtain ⟨a5, a6⟩ := selB_get a2
    obtain ⟨c5, c6⟩ := selB_get c2
    have hne : b1 ≠ b2 := fun e => by subst e; rw [a6] at c6; cases c6
    exact h.inj b1 b2 B1 B2 l1 l2 hne a1 c1 a5 c5 a4 c4 (a3.trans c3.symm)
theorem joinR_ok (hi : Inv w Im φ σ) {v : Value} {d : D} {s : Sto} {φ2 : Phi} {I2 : Nat → Prop} (ht : Tr 0 w Im [] [] w' I2 φ2 s) (h2 : Inv w' I2 φ2 s) (hr : Rel w' I2 φ2 d v) {x : D × Sto} (hk' : joinR d s σ = some x) :
    ∃ φ' Im', Nx w Im φ σ w' Im' φ' x.2 ∧ Rel w' Im' φ' x.1 v := by
  have hN : ∀ c, I2 c → Im c ∨ w.heap.size ≤ c := fun c hc => by
    rcases ht.imN c hc with h | h | h
    · exact .inl h
    · exact absurd h (no_own c)
    · exact .inr h
  obtain ⟨n1, n2⟩ := hi.past ht h2 ht.im hN
  cases s with
  | nil =>
    have : φ2 = [] := List.eq_nil_of_length_eq_zero (by rw [h2.len]; rfl)
    subst this
    obtain rfl := Option.some.inj hk'
    exact ⟨φ, I2, ⟨PhiLe.refl _, Nat.le_refl _, n2, n1⟩, hr.mono (fun _ h => h) (fun _ _ => rfl) (PhiLe.nil _)⟩
  | cons b s =>
    simp only [joinR] at hk'
    split at hk'
    · rename_i d' s' e1 e2
      obtain rfl := Option.some.inj hk'
      have hdis : ∀ c, Own φ2 (b :: s) c → ¬ Own φ σ c := fun c hc ho => by
        rcases ht.own c hc with h | h
        · exact no_own c h
        · have := hi.own_lt ho; omega
      obtain ⟨j1, j2, j3⟩ := n1.join h2 hdis e2
      refine ⟨_, I2, ⟨PhiLe.append _ _, by simp, ⟨n2.ext, fun c hc => ?_, fun b hb => by rw [List.getElem?_append_left hb], n2.im, n2.imN⟩, j1⟩, j3 d d' v hr e1⟩
      rcases j2 c hc with h | h
      · exact .inl h
      · rcases ht.own c h with h | h
        · exact absurd h (no_own c)
        · exact .inr h
    · cases hk'
theorem callP_ok (hgl : GlOk E w Im) (hi : Inv w Im φ σ) {f : FuncId} {args : List D} {vs : Array Value} (hargs : ArgsRel w Im φ args vs.toList) {p : CallP} (h : callP E f args σ = some p) (hneed : ∀ b ∈ p.ns, b = true) {Qc : D → Sto → Prop} (hs : Sound E f p.args p.sub Qc) :
    Calls E.P f vs w fun e w' => ∃ v d s, e = .returned v ∧ Qc d s ∧ ∀ x, p.back d s = some x → ∃ φ' Im', Nx w Im φ σ w' Im' φ' x.2 ∧ Rel w' Im' φ' x.1 v := by
  unfold callP at h
  split at h
  · rename_i args' hm
    obtain rfl := Option.some.inj h
    refine (hs w Im [] vs hgl (Inv.nil hi.im) (args_map hm hargs (fun d d' v a b => noRef_rel trFuel d d' v a b))).mono ?_
    rintro e w' ⟨v, d, s, φ2, I2, rfl, ht, h2, hr, hq⟩
    exact ⟨v, d, s, rfl, hq, fun x hx => joinR_ok hi ht h2 hr hx⟩
  · simp only [Bool.cond_eq_ite] at h
    split at h
    · split at h
      · rename_i args' sub h1 h2 h3
        obtain rfl := Option.some.inj h
        simp only [Bool.and_eq_true] at h1
        obtain ⟨h0, h0'⟩ := h1
        obtain ⟨hnd, -⟩ := okIds_spec h0
        obtain ⟨p1, p2⟩ := hi.pick hnd rfl h3
        refine (hs w Im _ vs hgl p1 (args_map h2 hargs (fun d d' v a b => ren_rel (fun _ h => h) idx_phi trFuel d d' v a b))).mono ?_
        rintro e w' ⟨v, d, s, φ2, I2, rfl, ht, hi2, hr, hq⟩
        refine ⟨v, d, s, rfl, hq, fun x hx => ?_⟩
        simp only at hx
        split at hx
        · rename_i d' s' e1 e2
          split at hx
          · rename_i hn
            obtain rfl := Option.some.inj hx
            obtain ⟨j1, j2⟩ := hi.passed hnd (fun b hb => Nat.lt_of_succ_le (Nat.le_of_ble_eq_true (List.all_eq_true.1 h0' b hb))) h3 ht hi2 e2 (Nat.le_of_ble_eq_true hn)
            exact ⟨_, _, j1, j2 d d' v hr e1⟩
          · cases hx
        · cases hx
      · cases h
    · generalize hids : reach σ 200 [] (args.flatMap (refs trFuel)) = ids at h
      split at h
      · rename_i args' hm0
        obtain rfl := Option.some.inj h
        have hm := frzs_to hneed hm0
        have hir := hi.sel (fun i => ids.contains i)
        have hgv := hi.give (fun i => ids.contains i)
        generalize selB (fun i => ids.contains i) 0 σ = σr at hm hir hgv
        have hIm : ∀ c, Im c → (Im c ∨ Own φ σr c) := fun c h => .inl h
        have hfr : ∀ d d' v, Rel w Im φ d v → frz σr 0 d = some d' → Rel w (fun c => Im c ∨ Own φ σr c) [] d' v := fun d d' v a b => by
          have hown : ∀ (b : Nat) (B : Blk) (l : Loc), 0 ≤ b → sget σr b = some B → φ[b]? = some l → 0 < l.size → (fun c => Im c ∨ Own φ σr c) l.blk := fun b B l _ a2 a3 hp => .inr ⟨b, B, l, a3, a2, rfl, hp⟩
          exact tr_rel hIm (fun b i o d' v a b' => frzH_rel hir hIm hown 6 false _ (fun _ b l hb => by omega) _ d' v (fun _ _ _ _ => trivial) a b') (fun b i len lo ex d' v a b' => frzH_rel hir hIm hown 6 false _ (fun _ b l hb => by omega) _ d' v (fun _ _ _ _ => trivial) a b') trFuel d d' v a b
        refine (hs w (fun c => Im c ∨ Own φ σr c) [] vs (hgl.mono (fun _ h => .inl h) (fun _ _ => rfl)) (Inv.nil (fun c hc => hc.elim (hi.im c) hir.own_lt)) (args_map hm hargs hfr)).mono ?_
        rintro e w' ⟨v, d, s, φ2, I2, rfl, ht, h2, hr, hq⟩
        have ht' : Tr 0 w (fun c => Im c ∨ Own φ σr c) [] [] w' I2 φ2 s := ht
        refine ⟨v, d, s, rfl, hq, fun x hx => ?_⟩
        cases hc : (s.isEmpty && plainD 4 d) with
        | true =>
          simp only [hc, if_true] at hx
          obtain rfl := Option.some.inj hx
          simp only [Bool.and_eq_true] at hc
          have hp := hc.2
          have hsame : ∀ c, c < w.heap.size → w'.heap[c]? = w.heap[c]? := fun c hc => ht'.ext.same c hc (no_own c)
          exact ⟨φ, Im, ⟨PhiLe.refl _, Nat.le_refl _, ⟨⟨ht'.ext.size, fun c hc _ => hsame c hc, ht'.ext.io⟩, fun c hc => .inl hc, fun _ _ => rfl, fun _ h => h, fun _ h => .inl h⟩,
              ⟨hi.len, fun b B l a1 a2 => (hi.blk b B l a1 a2).of_heap (fun hp => hsame _ ((hi.blk b B l a1 a2).lt hp)) ht'.ext.size (fun _ h => h) (fun c hc => hsame c (hi.im c hc)) (PhiLe.refl _), hi.inj, hi.sep, fun c hc => Nat.lt_of_lt_of_le (hi.im c hc) ht'.ext.size⟩⟩, plain_rel 4 d v hp hr⟩
        | false =>
          simp only [hc, Bool.false_eq_true, if_false] at hx
          obtain ⟨φ', Im', n, hr'⟩ := joinR_ok hgv.1 ht' h2 hr hx
          exact ⟨φ', Im', ⟨n.le, n.len, hgv.2.trans n.tr, n.inv⟩, hr'⟩
      · cases h
theorem callQ_ok (hgl : GlOk E w Im) (hi : Inv w Im φ σ) {f : FuncId} {args : List D} {vs : Array Value} (hargs : ArgsRel w Im φ args vs.toList) {k : D → Sto → Qy} (h : FinQ E C Q (callQ E f args σ k)) :
    Calls E.P f vs w fun e w' => ∃ v d σ' φ' Im', e = .returned v ∧ Nx w Im φ σ w' Im' φ' σ' ∧ Rel w' Im' φ' d v ∧ FinQ E C Q (k d σ') := by
  unfold callQ at h
  split at h
  · rename_i p hp
    obtain ⟨hneed, h⟩ := needs_ok h
    obtain ⟨Qc, hs, hk⟩ := h
    refine (callP_ok hgl hi hargs hp hneed hs).mono ?_
    rintro e w' ⟨v, d, s, rfl, hq, hx⟩
    have hk' := hk d s hq
    simp only at hk'
    cases hb : p.back d s with
    | none => rw [hb] at hk'; exact hk'.elim
    | some x =>
      rw [hb] at hk'
      obtain ⟨φ', Im', n, hr⟩ := hx x hb
      exact ⟨v, x.1, x.2, φ', Im', rfl, n, hr, hk'⟩
  · exact h.elim
end
end Go.RX

namespace Go.RX
open Go
section
variable {E : Env} {C C' : Cx} {Q : D → Sto → Prop} {w w' : World} {Im Im' : Nat → Prop} {φ φ' : Phi} {σ σ' : Sto}
theorem Lent.get {ln s : Sto} (h : Lent ln s) {b : Nat} (hb : b < ln.length) : s[b]? = ln[b]? := by
  unfold Lent at h
  have : (s.take ln.length)[b]? = ln[b]? := by rw [h]
  rwa [List.getElem?_take, if_pos hb] at this
theorem Lent.sget {ln s : Sto} (h : Lent ln s) {b : Nat} (hb : b < ln.length) : sget s b = sget ln b := by
  unfold Go.RX.sget
  rw [h.get hb]
theorem sget_lt' {s : Sto} {b : Nat} {B : Blk} (h : sget s b = some B) : b < s.length := by
  rw [sget_some] at h
  exact (List.getElem?_eq_some_iff.1 h).1
theorem Inv.first (hi : Inv w Im φ σ) {ln : Sto} {φ0 : Phi} (hl : Lent ln σ) (hp : PhiLe φ0 φ) (hn : φ0.length = ln.length) (hc : Closed ln) : Inv w Im φ0 ln ∧ ∀ c, Own φ0 ln c → Own φ σ c := by
  have hown : ∀ c, Own φ0 ln c → Own φ σ c := fun c ⟨b, B, l, h1, h2, h3⟩ => ⟨b, B, l, hp b l h1, by rw [hl.sget (sget_lt' h2)]; exact h2, h3⟩
  have hg : ∀ {b : Nat} {B : Blk}, Go.RX.sget ln b = some B → Go.RX.sget σ b = some B := fun {b B} h => by rw [hl.sget (sget_lt' h)]; exact h
  refine ⟨⟨hn, fun b B l h1 h2 => ?_, fun b b' B B' l l' hne h1 h2 h3 h4 p1 p2 => hi.inj b b' B B' l l' hne (hp _ _ h1) (hp _ _ h2) (hg h3) (hg h4) p1 p2, fun c h1 h2 => hi.sep c h1 (hown c h2), hi.im⟩, hown⟩
  obtain ⟨B0, hB0, hm⟩ := (mapSto_some hc).2 b B h1
  refine mapBlk_ok (fun _ h => h) (fun d d' v a b' => ren_rel (fun _ h => h) (fun b1 c1 l1 e1 e2 => ?_) trFuel d d' v a b') (tr_scal (renH_scal _) trFuel) hm (hi.blk b B0 l (hg hB0) (hp _ _ h2))
  simp only [idH, Bool.cond_eq_ite] at e1
  split at e1
  · rename_i hb
    obtain rfl := Option.some.inj e1
    have hlt : b1 < φ0.length := by rw [hn]; exact Nat.lt_of_succ_le (Nat.le_of_ble_eq_true hb)
    have h3 : φ0[b1]? = some φ0[b1] := List.getElem?_eq_getElem hlt
    rw [h3, ← e2, hp _ _ h3]
  · cases e1
theorem Inv.partner (hi : Inv w Im φ σ) {ln : Sto} {φ0 : Phi} (hl : Lent ln σ) (hp : PhiLe φ0 φ) (hn : φ0.length = ln.length) (hc : Closed ln) {X X' : Nat → Prop} (hx : XOk w Im X) (hd : ∀ c, X c → ¬ Own φ σ c) (h : PStep (fun c => X c ∨ Own φ0 ln c) w Im w' Im' X')
    (h2 : Inv w' Im' φ0 ln) (h3 : ∀ c, X' c → ¬ Own φ0 ln c) : Inv w' Im' φ σ ∧ (∀ c, X' c → ¬ Own φ σ c) ∧ ∀ c, Im c → w'.heap[c]? = w.heap[c]? := by
  obtain ⟨f1, f2⟩ := hi.first hl hp hn hc
  have hIm : ∀ c, Im c → w'.heap[c]? = w.heap[c]? := fun c hc => h.same c (hi.im c hc) fun hX => hX.elim (fun hX => hx.im c hX hc) (f1.sep c hc)
  -- a block of the store: lent, or far from those
  have hcase : ∀ b B l, sget σ b = some B → φ[b]? = some l → 0 < l.size → (sget ln b = some B ∧ φ0[b]? = some l) ∨ ¬ Own φ0 ln l.blk := fun b B l a1 a2 a3 => by
    by_cases hb : b < ln.length
    · left
      have hlt : b < φ0.length := by omega
      have e3 : φ0[b]? = some φ0[b] := List.getElem?_eq_getElem hlt
      have e4 := hp _ _ e3
      rw [a2] at e4
      refine ⟨by rw [← hl.sget hb]; exact a1, by rw [e3, ← e4]⟩
    · right
      rintro ⟨b', B', l', e1, e2, e3, e4⟩
      have hb' := sget_lt' e2
      exact hi.inj b' b B' B l' l (by omega) (hp _ _ e1) a2 (by rw [hl.sget hb']; exact e2) a1 e4 a3 e3
  refine ⟨⟨hi.len, fun b B l a1 a2 => ?_, hi.inj, fun c hc ho => ?_, h.imS⟩, fun c hc ho => ?_, hIm⟩
  · by_cases hb : b < ln.length
    · have hlt : b < φ0.length := by omega
      have e3 : φ0[b]? = some φ0[b] := List.getElem?_eq_getElem hlt
      have e4 := hp _ _ e3
      rw [a2] at e4
      have hk := h2.blk b B l (by rw [← hl.sget hb]; exact a1) (by rw [e3, ← e4])
      exact hk.of_heap (fun _ => rfl) (Nat.le_refl _) (fun _ h => h) (fun _ _ => rfl) hp
    · have hk := hi.blk b B l a1 a2
      refine hk.of_heap (fun hpos => h.same _ (hk.lt hpos) fun hX => hX.elim (fun hX => hd _ hX ⟨b, B, l, a2, a1, rfl, hpos⟩) fun hX => ?_) h.size h.im hIm (PhiLe.refl _)
      rcases hcase b B l a1 a2 hpos with ⟨g1, _⟩ | g
      · exact hb (sget_lt' g1)
      · exact g hX
  · obtain ⟨b, B, l, a1, a2, rfl, hpos⟩ := ho
    rcases hcase b B l a2 a1 hpos with ⟨g1, g2⟩ | g
    · exact h2.sep _ hc ⟨b, B, l, g2, g1, rfl, hpos⟩
    · rcases h.imN _ hc with h1 | h1 | h1
      · exact hi.sep _ h1 ⟨b, B, l, a1, a2, rfl, hpos⟩
      · exact h1.elim (fun h1 => hd _ h1 ⟨b, B, l, a1, a2, rfl, hpos⟩) g
      · have := (hi.blk b B l a2 a1).lt hpos; omega
  · obtain ⟨b, B, l, a1, a2, rfl, hpos⟩ := ho
    rcases hcase b B l a2 a1 hpos with ⟨g1, g2⟩ | g
    · exact h3 _ hc ⟨b, B, l, g2, g1, rfl, hpos⟩
    · rcases h.xN _ hc with h1 | h1
      · exact h1.elim (fun h1 => hd _ h1 ⟨b, B, l, a1, a2, rfl, hpos⟩) g
      · have := (hi.blk b B l a2 a1).lt hpos; omega
theorem Mv.yield (hit : C.it = true) (hrb : C.rb = false) (hi : Inv w Im φ σ) {Y : Option (List (List D))} {n0 : Nat} {G X X' : Nat → Prop} (hq : PhiLe C.lp0 φ ∧ C.lp0.length = C.ln.length ∧ C.lp0.length ≤ C.m ∧ Closed C.ln) (hl : Lent C.ln σ) (hp : Partner E.P C.lp C.J n0 G C.lp0 C.ln) (h1 : n0 ≤ w.heap.size) (h2 : ∀ c, Own φ σ c → G c ∨ n0 ≤ c) (hx : XOk w Im X) (hd : ∀ c, X c → ¬ Own φ σ c)
    (hJ : C.J Y w' Im' X') (h : PStep (fun c => X c ∨ Own C.lp0 C.ln c) w Im w' Im' X') (h4 : Inv w' Im' C.lp0 C.ln) (h5 : ∀ c, X' c → ¬ Own C.lp0 C.ln c) : Mv E C w Im φ σ (C.tell Y) w' Im' φ σ := by
  obtain ⟨p1, p2, p3⟩ := hi.partner hl hq.1 hq.2.1 hq.2.2.2 hx hd h h4 h5
  refine ⟨PhiLe.refl _, Nat.le_refl _, h.im, p3, p1, fun lo ds hs => ⟨Nat.le_trans hs.low h.size, hs.gl.mono h.im p3, fun _ => ⟨hq, n0, G, X', hp, Nat.le_trans h1 h.size, h2, h.ok, p2, hJ⟩, ?_⟩, ⟨Y, rfl⟩, fun lo Q e a w2 hd => ⟨fun hr => ?_, fun hr => ?_⟩⟩
  · obtain ⟨Ds, hm⟩ := hs.mks
    obtain rfl := hm.none hit
    exact ⟨[], hm.eq, fun _ => rfl, List.nodup_nil, fun b hb => by simp at hb⟩
  · rw [hrb] at hr; cases hr
  · obtain ⟨g1, Ds, g3, g4, g5, g6, g7⟩ := hd.2 hr
    refine ⟨g1, Ds, g3, g4, g5, g6, fun w'' hs => ?_⟩
    obtain ⟨v, d, s, p, I, k1, k2, k3, k4, k5, k6⟩ := g7 w'' hs
    refine ⟨v, d, s, p, I, k1, fun hh => ?_, k3, k4, k5, k6⟩
    rw [hit] at hh; cases hh
theorem conv_ok {ks : Bool} {F : Fence} {nf : Nat} (hF : OkC C F) {lo : Nat} {ds : List Deferred} (hi : Inv w Im φ σ) (hm : C.m ≤ φ.length) (hsd : Side E C lo w Im φ σ ds) {o : Oper} (hnd : ∀ c, o.op ≠ .defer c) {a : Act} {k : D → Sto → Qy} {next : Act → World → Prop} {R : Exit → Act → World → Prop}
    (hk : ∀ v d σ' C' w' Im' φ', Mv E C w Im φ σ C' w' Im' φ' σ' → Rel w' Im' φ' d v → FinQ E C' Q (k d σ') → next (a.put o.dst v) w') :
    ∀ (r : ARes), SatA E.P w Im φ σ (execOp a.eval o) r → FinQ E C Q (conv E false ks k σ r) → o.wpIn F nf E.P a w next R
  | .ok d σ', ⟨v, w', φ', h1, h2⟩, h => by
    have := hk v d σ' C w' Im φ' ((h2.nx h2.le.length).mv hi hm) h2.rel h
    refine hF.ok.wp hnd ?_
    unfold Oper.wp
    rcases h1 with h1 | ⟨h1, rfl⟩
    · rw [h1]; exact this
    · rw [h1]; exact this
  | .need b q, hs, h => conv_ok hF hi hm hsd hnd hk q (hs h.1) h.2
  | .split b q, hs, h => conv_ok hF hi hm hsd hnd hk (q b) hs h
  | .row r q, hs, h => let ⟨x, hx, h'⟩ := h; conv_ok hF hi hm hsd hnd hk (q x) (hs x hx) h'
  | .rows r q, hs, h => conv_ok hF hi hm hsd hnd hk (q r) hs h
  | .any p q, hs, h => let ⟨b, hb, h'⟩ := hs; conv_ok hF hi hm hsd hnd hk (q b) h' (h b hb)
  | .str r q, hs, h => let ⟨x, hx, h'⟩ := h; conv_ok hF hi hm hsd hnd hk (q x) (hs x hx) h'
  | .call f args, ⟨vs, h1, h2, h3⟩, h => by
    refine hF.ok.wp hnd ?_
    unfold Oper.wp
    rw [h1]
    refine (callQ_ok hsd.gl hi (vs := vs) ⟨by simpa using h2, fun i d v a b => h3 i d v a (by simpa using b)⟩ h).mono ?_
    rintro e w' ⟨v, d, σ', φ', Im', rfl, n, hr, hq⟩
    exact hk v d σ' C w' Im' φ' (n.mv hi hm) hr hq
  | .yld l args, ⟨vs, h1, h2, h3⟩, h => by
    simp only [conv, cond_false] at h
    split at h
    · rename_i y hy
      obtain ⟨hit, hrb, rfl, hlt, Y, hY, q1, q2⟩ := h
      obtain ⟨hph, n0, G, X, hp, g1, g2, g3, g4, g5⟩ := hsd.an hit
      obtain ⟨f1, f2⟩ := hi.first hlt hph.1 hph.2.1 hph.2.2.2
      have hy' : ArgsRel w Im [] y vs.toList := args_map hy ⟨by simpa using h2, fun i d v a b => h3 i d v a (by simpa using b)⟩ (fun d d' v a b => noRef_rel trFuel d d' v a b)
      rw [hY] at g5
      obtain ⟨fn, tmps, asg, body, y1, y2⟩ := hp.yields y Y w Im X vs g5 g3 hi.im hy' f1 (fun c hc ho => g4 c hc (f2 c ho))
      obtain rfl := hF.1 hrb
      refine ⟨fun f _ => trivial, ?_⟩
      rw [Oper.semAt_eq _ _ _ hnd, h1, y1]
      refine ⟨fun hd => absurd hd (by simp [Fence.wide]), ?_⟩
      have y3 : RoundIn Fence.wide (nf - 1) E.P C.lp fn tmps asg body w _ := ⟨y2.1, fun c cs _ => y2.2 c cs (room_wide _)⟩
      refine y3.mono ?_
      rintro e w' ⟨b, Im', X', rfl, hJ, hs, hs4, hs5⟩
      have mv : ∀ Y', C.J Y' w' Im' X' → Mv E C w Im φ σ (C.tell Y') w' Im' φ σ := fun Y' hJ' => Mv.yield hit hrb hi hph hlt hp g1 g2 g3 g4 hJ' hs hs4 hs5
      cases b with
      | true => exact hk _ _ _ _ _ _ _ (mv _ hJ) (.bool true) q1
      | false => exact hk _ _ _ _ _ _ _ (mv _ hJ) (.bool false) q2
    · exact h.elim
  | .bad, _, h => h.elim
theorem SRel.step {lo : Nat} {fr : Fr} {a : Act} (h : SRel E C lo w Im φ fr σ a) (n : Mv E C w Im φ σ C' w' Im' φ' σ') {dst : Option Nat} (hd : dstOk C.fn.ntmps dst = true) {d : D} {v : Value} (hr : Rel w' Im' φ' d v) {fr' : Fr}
    (hfr : ∀ t, Rel w Im φ (fget fr' t) (a.tmps.getD t undef)) : SRel E C' lo w' Im' φ' (put fr' dst d) σ' (a.put dst v) := by
  obtain ⟨Y, rfl⟩ := n.cx
  exact ⟨put_rel (fun t => n.rel (hfr t)) h.sz hd hr, n.inv, by rw [put_df]; exact n.sd _ _ h.sd, by rw [put_size]; exact h.sz, Nat.le_trans h.m n.len⟩
theorem Mv.refl (hi : Inv w Im φ σ) : Mv E C w Im φ σ C w Im φ σ :=
  ⟨PhiLe.refl _, Nat.le_refl _, fun _ h => h, fun _ _ => rfl, hi, fun _ _ h => h, ⟨C.Y, rfl⟩, fun _ _ _ _ _ h => h⟩
theorem fset_bool {fr : Fr} {a : Nat → Value} (h : ∀ t, Rel w Im φ (fget fr t) (a t)) {s : Nat} {b : Bool} (hb : fget fr s = .bool b) (t : Nat) : Rel w Im φ (fget (fset fr s (.bool b)) t) (a t) := by
  simp only [fset, fget, Bool.cond_eq_ite]
  split
  · rename_i he
    have := Nat.eq_of_beq_eq_true he
    subst this
    have := h s
    rw [hb] at this
    exact this
  · exact h t
theorem guard_slot {all : List Oper} {j s : Nat} (hs : (match all[j]? with | some g => g.dst | none => none) = some s) : ((all.toArray[j]?).bind (·.dst)) = some s := by
  rw [← hs]; simp only [List.getElem?_toArray]; cases all[j]? <;> rfl
theorem guard_bool {all : List Oper} {a : Act} {j s : Nat} {b : Bool} (hs : (match all[j]? with | some g => g.dst | none => none) = some s) (hv : a.tmps.getD s undef = .bool b) : yielded all.toArray a.tmps j = some b := by
  have hlt : s < a.tmps.size := by
    rcases Nat.lt_or_ge s a.tmps.size with hlt | hge
    · exact hlt
    · exfalso
      have : a.tmps.getD s undef = undef := by simp [Array.getD, Nat.not_lt.2 hge]
      rw [this] at hv; cases hv
  have h1 : a.tmps[s]? = some (.bool b) := by rw [← hv]; simp [hlt]
  unfold yielded
  rw [guard_slot hs]
  simp only [Option.bind_some, h1]
theorem guard_tup {all : List Oper} {a : Act} {j s : Nat} {us : Array Value} (hs : (match all[j]? with | some g => g.dst | none => none) = some s) (hv : a.tmps.getD s undef = .tuple us) : yielded all.toArray a.tmps j = none := by
  unfold yielded
  rw [guard_slot hs]
  simp only [Option.bind_some]
  by_cases hlt : s < a.tmps.size
  · have h1 : a.tmps[s]? = some (.tuple us) := by rw [← hv]; simp [hlt]
    rw [h1]
  · have h1 : a.tmps[s]? = none := by simp; omega
    rw [h1]
theorem aop_defer {P : Program} {ρ : Operand → D} {o : Oper} {s : Sto} {c : Call} (h : o.op = .defer c) : aop P ρ o s = .bad := by
  unfold aop; rw [h]
theorem stepOp_ok {F : Fence} {n : Nat} (hF : OkC C F) {lo : Nat} {fr : Fr} {a : Act} (h : SRel E C lo w Im φ fr σ a) {all : List Oper} {o : Oper} {rest : List Oper} {R : Exit → Act → World → Prop} {k : Fr → Sto → Qy}
    (hk : ∀ C' fr' σ' w' Im' φ' a', Mv E C w Im φ σ C' w' Im' φ' σ' → SRel E C' lo w' Im' φ' fr' σ' a' → FinQ E C' Q (k fr' σ') → wpListIn F n E.P all.toArray R rest a' w')
    (hq : FinQ E C Q (stepOp E false C.fn.ntmps all o fr σ k)) : wpListIn F n E.P all.toArray R (o :: rest) a w := by
  unfold stepOp at hq
  cases hd : dstOk C.fn.ntmps o.dst with
  | false => simp only [hd, cond_false] at hq; exact hq.elim
  | true =>
    simp only [hd, cond_true, Bool.false_and, cond_false] at hq
    have hnx : Mv E C w Im φ σ C w Im φ σ := .refl h.inv
    have run : ∀ fr', (∀ t, Rel w Im φ (fget fr' t) (a.tmps.getD t undef)) → FinQ E C Q (conv E false (kOp E.kp o.op) (fun d s => k (put fr' o.dst d) s) σ (aop E.P (evalD E.gl fr') o σ)) → o.wpIn F n E.P a w (wpListIn F n E.P all.toArray R rest) R := fun fr' hfr' hq' =>
      conv_ok hF h.inv h.m h.sd (fun c hc => by rw [aop_defer hc] at hq'; exact hq'.elim) (fun v d σ' C' w' Im' φ' n hr hq => hk C' _ σ' w' Im' φ' _ n (h.step n hd hr hfr') hq) _ (aop_sat h.inv (fun x => evalD_rel h.sd.gl hfr' x) o) hq'
    have skip : ∀ fr', (∀ t, Rel w Im φ (fget fr' t) (a.tmps.getD t undef)) → FinQ E C Q (k (put fr' o.dst (.tup [])) σ) → wpListIn F n E.P all.toArray R rest (a.put o.dst undef) w := fun fr' hfr' hq' =>
      hk C _ σ w Im φ _ hnx (h.step hnx hd (.tup [] #[] rfl (fun i d v a => by simp at a)) hfr') hq'
    simp only [wpListIn]
    cases hg : o.guard with
    | none =>
      simp only [hg] at hq
      rw [if_pos (by simp [Region.wanted, hg])]
      exact run fr h.fr hq
    | some gw =>
      obtain ⟨j, want⟩ := gw
      simp only [hg] at hq
      split at hq
      · exact hq.elim
      · rename_i s hs
        have hrs := h.fr s
        split at hq
        · rename_i b hb
          rw [hb] at hrs
          have hv := hrs.bool_inv
          have hy := guard_bool (j := j) hs hv
          have hq' : FinQ E C Q (bif b == want then conv E false (kOp E.kp o.op) (fun d st => k (put (fset fr s (.bool b)) o.dst d) st) σ (aop E.P (evalD E.gl (fset fr s (.bool b))) o σ) else k (put (fset fr s (.bool b)) o.dst (.tup [])) σ) := hq
          have hfr' := fset_bool h.fr hb
          have hwant : Region.wanted o (yielded all.toArray a.tmps) = (b == want) := by
            simp only [Region.wanted, hg, hy]
            cases b <;> cases want <;> rfl
          rw [hwant]
          cases hbw : (b == want) with
          | true =>
            rw [hbw] at hq'
            rw [if_pos rfl]
            exact run _ hfr' hq'
          | false =>
            rw [hbw] at hq'
            rw [if_neg (by simp)]
            exact ⟨fun f _ => hF.ok.fn f, skip _ hfr' hq'⟩
        · rename_i vs hb
          rw [hb] at hrs
          obtain ⟨us, hv, _⟩ := hrs.tup_inv
          have hy := guard_tup (j := j) hs hv
          have hwant : Region.wanted o (yielded all.toArray a.tmps) = false := by
            simp only [Region.wanted, hg, hy]
            cases want <;> rfl
          rw [hwant, if_neg (by simp)]
          exact ⟨fun f _ => hF.ok.fn f, skip fr h.fr hq⟩
        · exact hq.elim
theorem loop_of_in {F : Fence} {n : Nat} {P : Program} {c : Code} {R : Exit → Act → World → Prop} {a : Act} (h : LoopIn F n P c R a w) : (Code.loop c).wpIn F n P R a w := fun b k cs hro hb hr =>
  let ⟨e, a', w', q, r⟩ := h b k cs hro hb hr
  ⟨e, a', w', q, .of_steps (.one (fenced_calm hb hr rfl) stepR_loop) r⟩
theorem loopIn_round {F : Fence} {n : Nat} {P : Program} {c : Code} {R : Exit → Act → World → Prop} {a : Act} (h : c.wpIn F n P (Exit.then (LoopIn F n P c R) R) a w) : LoopIn F n P c R a w := by
  intro b k cs hro hb hr
  obtain ⟨e, a₁, w₁, hq, harr⟩ := h b (.inLoop c :: k) cs hro hb hr
  cases e with
  | normal =>
    obtain ⟨e₂, a₂, w₂, hq₂, harr₂⟩ := hq b k cs hro hb hr
    exact ⟨e₂, a₂, w₂, hq₂, .of_steps (StepsIn.trans harr (.one (fenced_calm hb hr rfl) stepR_inLoop)) harr₂⟩
  | exit id => exact ⟨_, a₁, w₁, hq, .pass (x := .inLoop c) rfl (fun _ _ => .inl (by simp)) harr⟩
  | goto l => exact ⟨_, a₁, w₁, hq, .pass (x := .inLoop c) rfl (fun _ _ => .inl (by simp)) harr⟩
  | ret => exact ⟨_, a₁, w₁, hq, .pass (x := .inLoop c) rfl (fun _ _ => .inl (by simp)) harr⟩
  | panic ch => exact ⟨_, a₁, w₁, hq, .pass (x := .inLoop c) rfl (fun _ _ => .inl (by simp)) harr⟩
  | outgrown => exact ⟨_, a₁, w₁, hq, .pass (x := .inLoop c) rfl (fun _ _ => .inl (by simp)) harr⟩
theorem wpIn_scope_straight {F : Fence} {n : Nat} {P : Program} {c : Code} {R : Exit → Act → World → Prop} {a : Act} (h : c.wpIn F n P (Exit.noGoto R) a w) : (Code.scope c).wpIn F n P R a w := by
  intro b k cs hro hb hr
  have h1 : step P (lone (b.atR a (.code (.scope c) :: k)) cs w) = .next (lone (b.atR a (.code c :: .inScope c :: k)) cs w) :=
    step_lone_go (by simp [stepG, stepG.exec, Frame.atR])
  have h2 : ∀ a w, step P (lone (b.atR a (.inScope c :: k)) cs w) = .next (lone (b.atR a k) cs w) := fun a w =>
    step_lone_go (by simp [stepG, stepG.exec, Frame.atR])
  have h0 : (lone (b.atR a (.code (.scope c) :: k)) cs w).fenced P F := fenced_calm hb hr rfl
  obtain ⟨e, a₁, w₁, hq, harr⟩ := h b (.inScope c :: k) cs hro hb hr
  cases e with
  | normal => exact ⟨.normal, a₁, w₁, hq, .head h0 h1 (StepsIn.trans harr (.one (fenced_calm hb hr rfl) (h2 _ _)))⟩
  | exit id => exact ⟨.exit id, a₁, w₁, hq, fun k' hk => .head h0 h1 (harr.1 k' (by simp [exitTo, hk])), fun hr' hk => let ⟨k₁, g1, g2⟩ := harr.2 hr' (by simp [exitTo, hk]); ⟨k₁, g1, .head h0 h1 g2⟩⟩
  | goto l => exact hq.elim
  | ret => exact ⟨_, a₁, w₁, hq, .of_steps (.one h0 h1) harr⟩
  | panic ch => exact ⟨_, a₁, w₁, hq, .of_steps (.one h0 h1) harr⟩
  | outgrown => exact ⟨_, a₁, w₁, hq, .of_steps (.one h0 h1) harr⟩
theorem sem_ret {F : Fence} {n : Nat} {P : Program} {R : Exit → Act → World → Prop} : ∀ (t : List It) (a : Act) (w : World), R .ret a w → sem F n P R t .ret a w
  | [], _, _, h => h
  | .blk _ :: t, a, w, h => sem_ret t a w h
  | .sc :: t, a, w, h => sem_ret t a w h
  | .code _ :: t, a, w, h => sem_ret t a w h
  | .lp _ _ :: t, a, w, h => sem_ret t a w h
  | .lpc _ _ :: t, a, w, h => sem_ret t a w h
  | .ops _ _ :: t, a, w, h => sem_ret t a w h
theorem sem_exit {F : Fence} {n : Nat} {P : Program} {R : Exit → Act → World → Prop} {id : Nat} : ∀ (t t' : List It) (a : Act) (w : World), popTo id t = some t' → sem F n P R t' .normal a w → sem F n P R t (.exit id) a w
  | [], _, _, _, h, _ => by simp [popTo] at h
  | .blk j :: t, t', a, w, h, hs => by
    simp only [popTo, Bool.cond_eq_ite] at h
    split at h
    · rename_i hj
      obtain rfl := Option.some.inj h
      have hj' := Nat.eq_of_beq_eq_true hj
      simp only [sem, Exit.inBlock]
      rw [if_pos hj'.symm]
      exact hs
    · rename_i hj
      simp only [sem, Exit.inBlock]
      rw [if_neg (fun e => hj (by rw [e]; exact Nat.beq_refl j))]
      exact sem_exit t t' a w h hs
  | .sc :: t, t', a, w, h, hs => sem_exit t t' a w h hs
  | .code _ :: t, t', a, w, h, hs => sem_exit t t' a w h hs
  | .lp _ _ :: t, t', a, w, h, hs => sem_exit t t' a w h hs
  | .lpc _ _ :: t, t', a, w, h, hs => sem_exit t t' a w h hs
  | .ops _ _ :: t, t', a, w, h, hs => sem_exit t t' a w h hs
end
end Go.RX

namespace Go.RX
open Go
section
variable {E : Env} {C : Cx} {Q : D → Sto → Prop} {w w' : World} {Im Im' : Nat → Prop} {φ φ' : Phi} {σ σ' : Sto}
theorem convP_ok {s : Sem Value} {k : D → Sto → Qy} (hk : ∀ d σ1 σ2, k d σ1 = k d σ2) : ∀ (r : ARes), SatP E.P w Im φ s r → FinQ E C Q (conv E true false k σ r) → ∃ v d, s.run E.P w = .ok v w ∧ Rel w Im φ d v ∧ FinQ E C Q (k d σ)
  | .ok d σ', ⟨v, h1, h2⟩, h => ⟨v, d, h1, h2, by rw [hk d σ σ']; exact h⟩
  | .need b q, hs, h => convP_ok hk q (hs h.1) h.2
  | .split b q, hs, h => convP_ok hk (q b) hs h
  | .row r q, hs, h => let ⟨x, hx, h'⟩ := h; convP_ok hk (q x) (hs x hx) h'
  | .rows r q, hs, h => convP_ok hk (q r) hs h
  | .any p q, hs, h => h.elim
  | .str r q, hs, h => let ⟨x, hx, h'⟩ := h; convP_ok hk (q x) (hs x hx) h'
  | .call f args, hs, h => hs.elim
  | .bad, _, h => h.elim
def resV (tmps : Array Value) : ResultVar → Sem Value
  | .tmp t => pure (tmps.getD t undef)
  | .cell c t => do loadVar t (← asAddr (tmps.getD c undef))
theorem results_eq (fn : Func) (tmps : Array Value) : results fn tmps = (do let vs ← fn.results.mapM (resV tmps); pure (if h : vs.size = 1 then vs[0] else .tuple vs)) := by
  unfold results
  have : (fun (x : ResultVar) => match x with | .tmp t => (pure (tmps.getD t undef) : Sem Value) | .cell a t => do loadVar t (← asAddr (tmps.getD a undef))) = resV tmps := by
    funext x; cases x <;> rfl
  rw [← this]
  rfl
theorem res_ok (hi : Inv w Im φ σ) {fr : Fr} {a : Act} (hfr : ∀ t, Rel w Im φ (fget fr t) (a.tmps.getD t undef)) : ∀ (rs : List ResultVar) (acc : List D) (k : List D → Qy), FinQ E C Q (resQ E rs acc fr σ k) →
    ∃ (ds : List D) (vs : List Value), (rs.mapM (resV a.tmps)).run E.P w = .ok vs w ∧ ArgsRel w Im φ ds vs ∧ FinQ E C Q (k (acc ++ ds))
  | [], acc, k, h => ⟨[], [], by simp, ⟨rfl, fun i d v a => by simp at a⟩, by rw [List.append_nil]; exact h⟩
  | .tmp t :: rs, acc, k, h => by
    obtain ⟨ds, vs, h1, h2, h3⟩ := res_ok hi hfr rs (acc ++ [fget fr t]) k h
    refine ⟨fget fr t :: ds, a.tmps.getD t undef :: vs, by simp only [List.mapM_cons, Sem.run_bind, resV, Sem.run_pure, Result.andThen_ok, h1], ⟨by simp [h2.1], fun i d v e1 e2 => ?_⟩, by simpa using h3⟩
    cases i with
    | zero => simp only [List.getElem?_cons_zero, Option.some.injEq] at e1 e2; subst e1; subst e2; exact hfr t
    | succ i => exact h2.2 i d v (by simpa using e1) (by simpa using e2)
  | .cell c t :: rs, acc, k, h => by
    simp only [resQ] at h
    obtain ⟨v, d, g1, g2, g3⟩ := convP_ok (fun d σ1 σ2 => rfl) _ (load_satP (P := E.P) hi (hfr c) (t := t)) h
    obtain ⟨ds, vs, h1, h2, h3⟩ := res_ok hi hfr rs (acc ++ [d]) k g3
    have hl : (resV a.tmps (.cell c t)).run E.P w = .ok v w := by
      show ((asAddr (a.tmps.getD c undef)) >>= fun x => loadVar t x).run E.P w = _
      unfold Instr.loadAt at g1
      simp only [Sem.run_bind] at g1 ⊢
      cases hc : a.tmps.getD c undef with
      | pointer p =>
        cases p with
        | none => rw [hc] at g1; simp [Instr.sureAddr, stuck] at g1
        | some p => rw [hc] at g1; exact g1
      | _ => rw [hc] at g1; simp [Instr.sureAddr, stuck] at g1
    refine ⟨d :: ds, v :: vs, by simp only [List.mapM_cons, Sem.run_bind, hl, Result.andThen_ok, h1]; rfl, ⟨by simp [h2.1], fun i d' v' e1 e2 => ?_⟩, by simpa using h3⟩
    cases i with
    | zero => simp only [List.getElem?_cons_zero, Option.some.injEq] at e1 e2; subst e1; subst e2; exact g2
    | succ i => exact h2.2 i d' v' (by simpa using e1) (by simpa using e2)
theorem Inv.shut (hi : Inv w Im φ σ) {Ds : List Nat} (hD : ∀ b ∈ Ds, ¬ Im b ∧ ¬ Own φ σ b) (hs : Shut Ds w w') : Inv w' Im φ σ ∧ ∀ c, Im c → w'.heap[c]? = w.heap[c]? := by
  have hIm : ∀ c, Im c → w'.heap[c]? = w.heap[c]? := fun c hc => hs.same c fun hm => (hD c hm).1 hc
  exact ⟨⟨hi.len, fun b B l h1 h2 => (hi.blk b B l h1 h2).of_heap (fun hp => hs.same _ fun hm => (hD _ hm).2 ⟨b, B, l, h2, h1, rfl, hp⟩) (Nat.le_of_eq hs.size.symm) (fun _ h => h) hIm (PhiLe.refl _), hi.inj, hi.sep, fun c hc => by rw [hs.size]; exact hi.im c hc⟩, hIm⟩
theorem Shut.refl (Ds : List Nat) (w : World) : Shut Ds w w := ⟨rfl, fun _ _ => rfl, Io.refl w⟩
theorem Tr.back {k : Nat} (h : Tr k w' Im φ σ w' Im' φ' σ') (hs : w'.heap.size = w.heap.size) : Tr k w Im φ σ w Im' φ' σ' :=
  ⟨⟨Nat.le_refl _, fun _ _ _ => rfl, Io.refl _⟩, fun c hc => by rw [← hs]; exact h.own c hc, h.pre, h.im, fun c hc => by rw [← hs]; exact h.imN c hc⟩
theorem seal_done {fr : Fr} {a : Act} (hfr : ∀ t, Rel w Im φ (fget fr t) (a.tmps.getD t undef)) (hi : Inv w Im φ σ) (hm : C.m ≤ φ.length) (hq : FinQ E C Q (finish E C fr σ)) :
    C.fin ∧ ∃ v d σ' φ' Im', (results C.fn a.tmps).run E.P w = .ok v w ∧ Tr C.m w Im φ σ w Im' φ' σ' ∧ Inv w Im' φ' σ' ∧ Rel w Im' φ' d v ∧ Q d σ' := by
  obtain ⟨ds, vs, h1, h2, h3⟩ := res_ok hi hfr _ _ _ hq
  simp only [List.nil_append] at h3
  have hrun : (results C.fn a.tmps).run E.P w = .ok (if hh : vs.length = 1 then vs[0] else .tuple vs.toArray) w := by
    rw [results_eq, Array.mapM_eq_mapM_toList]
    simp only [Sem.run_bind, Sem.run_map, h1, Result.andThen_ok, Sem.run_pure]
    simp
  have htup : Rel w Im φ (tupD ds) (if hh : vs.length = 1 then vs[0] else .tuple vs.toArray) := by
    split
    · rename_i hh
      have hd : ds.length = 1 := by rw [h2.1, hh]
      match ds, vs, hd, hh, h2 with
      | [d], [v], _, _, h2 => exact h2.2 0 d v rfl rfl
    · rename_i hh
      have hd : ds.length ≠ 1 := by rw [h2.1]; exact hh
      have : tupD ds = .tup ds := by
        match ds, hd with
        | [], _ => rfl
        | _ :: _ :: _, _ => rfl
      rw [this]
      exact .tup _ _ (by simpa using h2.1) (fun i d v e1 e2 => h2.2 i d v e1 (by simpa using e2))
  unfold sealD at h3
  simp only [Bool.cond_eq_ite] at h3
  split at h3
  · split at h3
    · rename_i x s hc
      obtain ⟨φ2, i1, i2, i3⟩ := compact_ok hi hm hc (a := fun _ => (if hh : vs.length = 1 then vs[0] else .tuple vs.toArray)) (fun t => by
        simp only [fget, Bool.cond_eq_ite]; split; exact htup; exact .undef _)
      split at h3
      · rename_i hx
        have hd' := i3 0
        have hx' := Nat.eq_of_beq_eq_true hx
        simp only [fget, hx', Nat.beq_refl, cond_true] at hd'
        exact ⟨h3.1, _, x.2, s, φ2, Im, hrun, i2, i1, hd', h3.2⟩
      · exact h3.elim
    · exact h3.elim
  · split at h3
    · rename_i d' s e1' e2'
      obtain ⟨hneed, h3⟩ := needs_ok h3
      have e1 := frz_to (fun b hb => hneed b (List.mem_append.2 (.inl hb))) e1'
      have e2 := sto_to (fun d d' => frz_to) (fun b hb => hneed b (List.mem_append.2 (.inr hb))) e2'
      obtain ⟨φ2, I2, i1, i2, i3⟩ := seal_ok hi hm htup e1 e2
      exact ⟨h3.1, _, d', s, φ2, I2, hrun, i2, i1, i3, h3.2⟩
    · exact h3.elim
theorem finish_ok {lo : Nat} {fr : Fr} {a : Act} (h : SRel E C lo w Im φ fr σ a) (hrb : C.rb = false) (hq : FinQ E C Q (finish E C fr σ)) : ∀ e, e = .normal ∨ e = .ret → DoneP E C lo Q w Im φ σ e a w := by
  intro e he
  refine ⟨fun hr => (by rw [hrb] at hr; cases hr), fun _ => ⟨he, ?_⟩⟩
  obtain ⟨Ds, hD⟩ := h.sd.mks
  refine ⟨Ds, hD.eq, hD.none, hD.nodup, fun b hb => ⟨(hD.ok b hb).1, (hD.ok b hb).2.2.1⟩, fun w'' hs => ?_⟩
  obtain ⟨i1, i2⟩ := h.inv.shut (fun b hb => (hD.ok b hb).2.2.2) hs
  obtain ⟨k0, v, d, s, p, I, k1, k2, k3, k4, k5⟩ := seal_done (a := a) (fun t => (h.fr t).mono (fun _ h => h) i2 (PhiLe.refl _)) i1 h.m hq
  refine ⟨v, d, s, p, I, k1, fun _ => k2.back hs.size, k3, k4, k5, fun hit => ?_⟩
  obtain rfl := hD.none hit
  have ht : Tr φ.length w Im φ σ w'' Im φ σ := ⟨⟨Nat.le_of_eq hs.size.symm, fun c hc _ => hs.same c (by simp), hs.io⟩, fun c hc => .inl hc, fun _ _ => rfl, fun _ h => h, fun _ h => .inl h⟩
  have a1 := h.sd.an.tr h.m h.inv ht i1
  have a2 := a1.tr (Nat.le_refl _) i1 k2 k3
  obtain ⟨⟨q1, q2, q3, q4⟩, n0, G, X, _, _, _, _, g5, g6⟩ := a2 hit
  refine ⟨⟨q1, q2, q4⟩, X, ?_, g5⟩
  rcases k0 hit with hf | hf
  · exact .inl (hf ▸ g6)
  · exact .inr (hf ▸ g6)
theorem endR_ok {lo : Nat} {fr : Fr} {a : Act} (h : SRel E C lo w Im φ fr σ a) (hrb : C.rb = true) {n : Nat} (hq : FinQ E C Q (endR C n σ)) {e : Exit} (he : exCode e = some n) : DoneP E C lo Q w Im φ σ e a w := by
  refine ⟨fun _ => ?_, fun hr => (by rw [hrb] at hr; cases hr)⟩
  unfold endR at hq
  split at hq
  · rename_i x hc
    obtain ⟨φ2, i1, i2, _⟩ := compact_ok h.inv h.m hc (a := fun _ => undef) (fun t => .undef _)
    exact ⟨n, x.2, φ2, Im, he, i2, i1, hq.2⟩
  · exact hq.elim
end
end Go.RX
