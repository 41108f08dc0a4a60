/-
  RX, the operations, sixth part: append, copy, clear.
-/
import Derived.Test.YthooiaebbikjiaaRxOps5
import Derived.Deep.Upon
set_option linter.unusedSimpArgs false
set_option linter.unusedVariables false
namespace Go.RX
open Go
section
variable {P : Program} {w : World} {Im : Nat → Prop} {φ : Phi} {σ : Sto}

theorem Good.after {w1 w2 : World} {φ1 φ2 : Phi} {σ1 σ2 : Sto} {d : D} {v : Value} (h0 : PhiLe φ φ1) (hl : φ.length ≤ φ1.length) (h : Tr φ.length w Im φ σ w1 Im φ1 σ1) (g : Good w1 Im φ1 σ1 w2 φ2 σ2 d v) : Good w Im φ σ w2 φ2 σ2 d v :=
  ⟨h0.trans g.le, h.trans (g.tr.le hl), g.inv, g.rel⟩

theorem rel_or {a b : Bool} {d : D} {v : Value} (h : Rel w Im (if b then φ else []) d v) : Rel w Im (if a || b then φ else []) d v := by
  cases b with
  | true => simpa using h
  | false =>
    cases a with
    | false => simpa using h
    | true => simp only [Bool.or_false, if_true]; exact h.mono (fun _ h => h) (fun _ _ => rfl) (PhiLe.nil _)

theorem rel_or' {a b : Bool} {d : D} {v : Value} (h : Rel w Im (if a then φ else []) d v) : Rel w Im (if a || b then φ else []) d v := by
  rw [Bool.or_comm]; exact rel_or h

/-- Rows of a block are overwritten, from row p on; what stands behind stays, or is forgotten. -/
theorem writeRows (hi : Inv w Im φ σ) {b : Nat} {B : Blk} {l : Loc} (hb : sget σ b = some B) (hl : φ[b]? = some l) (p : Nat) (hp : p ≤ B.rows.length) {new : List (List D)} {news : List Value} {dp : Bool}
    (hlen : news.length = new.length * B.sz) (hrows : ∀ r ∈ new, RowOk B.sz r)
    (hrel : ∀ (i j : Nat) (r : List D) (d : D), new[i]? = some r → r[j]? = some d → ∃ u, news[i * B.sz + j]? = some u ∧ Rel w Im (if dp then φ else []) d u)
    (hfit : l.base + (p + new.length) * B.sz ≤ l.size) (tl : Bool) :
    Inv (w.setCells l.blk (l.base + p * B.sz) news) Im φ (σ.set b (some ⟨B.sz, B.deep || dp, B.rows.take p ++ new ++ (if tl then B.rows.drop (p + new.length) else [])⟩)) ∧
    Tr φ.length w Im φ σ (w.setCells l.blk (l.base + p * B.sz) news) Im φ (σ.set b (some ⟨B.sz, B.deep || dp, B.rows.take p ++ new ++ (if tl then B.rows.drop (p + new.length) else [])⟩)) := by
  have hk := hi.blk b B l hb hl
  have htake : (B.rows.take p).length = p := by simp; omega
  refine write_good hi (B' := ⟨B.sz, B.deep || dp, B.rows.take p ++ new ++ (if tl then B.rows.drop (p + new.length) else [])⟩) hb hl (p * B.sz) news ?_ rfl (fun r hr => ?_) ?_ (fun i j r d h1 h2 => ?_) (fun h => by simp [h])
  · rw [hlen]; rw [Nat.add_mul] at hfit; omega
  · simp only [List.mem_append] at hr
    rcases hr with (hr | hr) | hr
    · exact hk.len r (List.mem_of_mem_take hr)
    · exact hrows r hr
    · split at hr
      · exact hk.len r (List.mem_of_mem_drop hr)
      · simp at hr
  · have h3 : (B.rows.take p ++ new ++ (if tl then B.rows.drop (p + new.length) else [])).length ≤ max B.rows.length (p + new.length) := by
      split <;> simp <;> omega
    rcases Nat.le_total B.rows.length (p + new.length) with h4 | h4
    · rw [Nat.max_eq_right h4] at h3
      have := Nat.mul_le_mul_right B.sz h3
      simp only at this ⊢
      omega
    · rw [Nat.max_eq_left h4] at h3
      have := Nat.mul_le_mul_right B.sz h3
      have := hk.fit
      simp only at this ⊢
      omega
  · simp only at h1 ⊢
    rw [List.append_assoc] at h1
    by_cases q1 : i < p
    · rw [List.getElem?_append_left (by omega), List.getElem?_take, if_pos q1] at h1
      have hj := (List.getElem?_eq_some_iff.1 h2).1
      have hrl := (hk.len r (List.mem_of_getElem? h1)).1
      have := row_lt (sz := B.sz) (j := j) q1 (by omega)
      exact .inr ⟨by omega, r, h1, h2⟩
    · rw [List.getElem?_append_right (by omega), htake] at h1
      by_cases q2 : i < p + new.length
      · rw [List.getElem?_append_left (by omega)] at h1
        obtain ⟨u, hu, hur⟩ := hrel _ _ r d h1 h2
        have hj := (List.getElem?_eq_some_iff.1 h2).1
        have hrl := (hrows r (List.mem_of_getElem? h1)).1
        have e1 : i * B.sz = p * B.sz + (i - p) * B.sz := by rw [← Nat.add_mul]; congr 1; omega
        have hlt := row_lt (sz := B.sz) (j := j) (show i - p < new.length by omega) (by omega)
        refine .inl ⟨by omega, by omega, u, ?_, rel_or hur⟩
        rw [show i * B.sz + j - p * B.sz = (i - p) * B.sz + j by omega]; exact hu
      · rw [List.getElem?_append_right (by omega)] at h1
        split at h1
        · rw [List.getElem?_drop, show p + new.length + (i - p - new.length) = i by omega] at h1
          have := Nat.mul_le_mul_right B.sz (show p + new.length ≤ i by omega)
          rw [Nat.add_mul] at this
          exact .inr ⟨by omega, r, h1, h2⟩
        · simp at h1

theorem zeroCells_size (z : Array Value) (n : Nat) : (Builtin.zeroCells z n).size = n * z.size := by simp [Builtin.zeroCells]

theorem drew_src {xv : Value} {size : Nat} {dp : Bool} {new : List (List D)} {news : List Value} (h : SrcOk w Im φ xv size dp new news) : SrcOk w.drew Im φ xv size dp new news :=
  ⟨h.len, h.rows, fun i j r d h1 h2 => let ⟨u, hu, hr⟩ := h.rel i j r d h1 h2; ⟨u, hu, hr.mono (fun _ h => h) (fun _ _ => rfl) (PhiLe.refl _)⟩, h.one, h.kind⟩

/-- A new row of old and new rows. -/
theorem grow_good (hi : Inv w Im φ σ) {n : Nat} {olds new : List (List D)} {ovs nvs : List Value} {z : Array Value} {e : TypeId} {dp dq : Bool} (hz : z.size = n) (hn : 0 < n)
    (ho : ovs.length = olds.length * n) (hor : ∀ r ∈ olds, RowOk n r) (horel : ∀ (i j : Nat) (r : List D) (d : D), olds[i]? = some r → r[j]? = some d → ∃ u, ovs[i * n + j]? = some u ∧ Rel w Im (if dp then φ else []) d u)
    (hl : nvs.length = new.length * n) (hnr : ∀ r ∈ new, RowOk n r) (hnrel : ∀ (i j : Nat) (r : List D) (d : D), new[i]? = some r → r[j]? = some d → ∃ u, nvs[i * n + j]? = some u ∧ Rel w Im (if dq then φ else []) d u)
    (cap : Nat) (hcap : olds.length + new.length ≤ cap) :
    Good w Im φ σ (w.drew.alloc (.cells ((ovs ++ nvs).toArray ++ Builtin.zeroCells z (cap - (olds.length + new.length))) e)) (φ ++ [⟨w.heap.size, 0, n, ((ovs ++ nvs).toArray ++ Builtin.zeroCells z (cap - (olds.length + new.length))).size⟩])
      (σ ++ [some ⟨n, dp || dq, olds ++ new⟩]) (.msl σ.length 0 (olds.length + new.length) (olds.length + new.length) false) (.slice (some ⟨w.heap.size, 0, none⟩) (olds.length + new.length) cap) := by
  have hsize : ((ovs ++ nvs).toArray ++ Builtin.zeroCells z (cap - (olds.length + new.length))).size = cap * n := by
    rw [Array.size_append, zeroCells_size, hz, List.size_toArray, List.length_append, ho, hl, ← Nat.add_mul, ← Nat.add_mul]
    congr 1; omega
  have hget : ∀ p u, (ovs ++ nvs)[p]? = some u → ((ovs ++ nvs).toArray ++ Builtin.zeroCells z (cap - (olds.length + new.length)))[p]? = some u := fun p u hp => by
    have := (List.getElem?_eq_some_iff.1 hp).1
    rw [Array.getElem?_append_left (by simpa using this)]
    simpa using hp
  have hok : ∀ r ∈ olds ++ new, RowOk n r := fun r hr => (List.mem_append.1 hr).elim (hor r) (hnr r)
  have hrel : ∀ (i j : Nat) (r : List D) (d : D), (olds ++ new)[i]? = some r → r[j]? = some d → ∃ u, (ovs ++ nvs)[i * n + j]? = some u ∧ Rel w Im (if dp || dq then φ else []) d u := fun i j r d h1 h2 => by
    have hj := (List.getElem?_eq_some_iff.1 h2).1
    have hrl := (hok r (List.mem_of_getElem? h1)).1
    by_cases q : i < olds.length
    · rw [List.getElem?_append_left q] at h1
      obtain ⟨u, hu, hur⟩ := horel i j r d h1 h2
      have := row_lt (sz := n) (j := j) q (by omega)
      exact ⟨u, by rw [List.getElem?_append_left (by omega)]; exact hu, rel_or' hur⟩
    · rw [List.getElem?_append_right (by omega)] at h1
      obtain ⟨u, hu, hur⟩ := hnrel _ j r d h1 h2
      have e1 : i * n = olds.length * n + (i - olds.length) * n := by rw [← Nat.add_mul]; congr 1; omega
      exact ⟨u, by rw [List.getElem?_append_right (by omega), show i * n + j - ovs.length = (i - olds.length) * n + j by omega]; exact hu, rel_or hur⟩
  obtain ⟨a1, a2⟩ := hi.drew.alloc ((ovs ++ nvs).toArray ++ Builtin.zeroCells z (cap - (olds.length + new.length))) e (0, 0) ⟨n, dp || dq, olds ++ new⟩ (fun o _ => by omega) hok
    (by rw [hsize, List.length_append]; exact Nat.mul_le_mul_right n hcap) (fun i j r d h1 h2 => by
      obtain ⟨u, hu, hur⟩ := hrel i j r d h1 h2
      exact ⟨u, hget _ _ hu, hur.mono (fun _ h => h) (fun _ _ => rfl) (PhiLe.refl _)⟩)
  refine ⟨PhiLe.append _ _, (Tr.drew _ _ _ _ _).trans a2, a1, .msl _ _ _ _ _ _ _ _ (phi_self hi.len _) (Nat.le_refl _) hcap (fun h => by cases h) (by simp only; rw [hsize]; simp) rfl (fun _ => by simp)⟩

theorem grownCap_ge (w : World) (need old : Nat) (e : TypeId) : need ≤ grownCap w need old e := by
  unfold grownCap; simp [Question.cut]

theorem append_sat (hi : Inv w Im φ σ) {t tx ty : TypeId} {dx : TypeDesc} {s x : D} {sv xv : Value} (hs : Rel w Im φ s sv) (hx : Rel w Im φ x xv) (htx : P.underlying tx = some dx)
    (hdx : (∃ e, dx = .slice e) ∨ dx = .string) (h1 : ∀ b, xv = .string b → dx = .string) (h2 : ∀ a n c, xv = .slice a n c → ∃ e, dx = .slice e) :
    SatV P w Im φ σ (Builtin.append_ #[t, tx] ty #[sv, xv]) (appendD P t s x σ) := by
  unfold appendD
  split
  · rename_i e hu
    split
    · rename_i n by_ zs sz dp cnt new hn hby hzs hrows
      split
      · rename_i hc
        obtain ⟨hc1, hc2, hc3, hc4⟩ := hc
        refine needN_sat fun hcnt => ?_
        obtain ⟨news, hsrc⟩ := rows_src hi hx hrows hc1 hc2 hcnt
        obtain ⟨ie, g1, g2⟩ := info_of_szOf hn
        obtain ⟨ie', g3, g4⟩ := byOf_some hby
        obtain rfl := Option.some.inj (g1.symm.trans g3)
        obtain ⟨z, zv, hz1, hz2⟩ : ∃ z zv, zeroD P e = some z ∧ ie.zero = some zv := by
          cases hz : zeroD P e with
          | none => simp [hz] at hzs
          | some z =>
            obtain ⟨i2, v2, q1, q2, _⟩ := zeroD_some hz
            obtain rfl := Option.some.inj (g1.symm.trans q1)
            exact ⟨z, v2, rfl, q2⟩
        have hzsize : zv.cells.size = n := by
          simp only [hz1, Option.bind_some] at hzs
          obtain ⟨i2, v2, q1, q2, q3⟩ := zero_rel (w := w) (Im := Im) (φ := φ) hz1
          obtain rfl := Option.some.inj (g1.symm.trans q1)
          obtain rfl := Option.some.inj (hz2.symm.trans q2)
          rw [← (rel_cells q3 hzs).1, hc4]
        have hsrcP : Src P ie.size tx xv new.length news w := by rw [g2]; exact hsrc.src htx hdx h1 h2
        have hlim : ∀ need sCap, sCap < need → need * by_ ≤ bytesLim → ((need : Nat) : Int) ≤ 9223372036854775807 ∧ Builtin.nextslicecap need sCap * ie.bytes ≤ 281474976710656 := fun need sCap q1 q2 => by
          have q2 : need * by_ ≤ 140737488355328 := q2
          have q3 := Nat.le_mul_of_pos_right need hc3
          have q4 := Nat.mul_le_mul_right by_ (Room.nextslicecap_le' q1)
          rw [Nat.mul_assoc] at q4
          rw [g4]
          exact ⟨by omega, by omega⟩
        split
        · rename_i sz' rows'
          obtain ⟨rfl, rfl⟩ := hs.nilsl_inv
          show SatV P w Im φ σ _ (if new.isEmpty = true then _ else _)
          split
          · rename_i he
            have he' : new = [] := by simpa using he
            subst he'
            have hr := run_append_nothing w t tx ty e ie hu g1 none 0 0 (Nat.le_refl _) xv (by have := hsrc.len; simp at this; subst this; simpa using hsrcP)
            exact SatV.pure hi ⟨_, hr, .nilsl _⟩
          · rename_i he
            intro hb
            have hb' : new.length * by_ ≤ bytesLim := of_decide_eq_true hb
            have hpos : 0 < new.length := by
              cases new with
              | nil => simp at he
              | cons a b => simp
            obtain ⟨q1, q2⟩ := hlim (0 + new.length) 0 (by omega) (by rw [Nat.zero_add]; exact hb')
            have hr := run_append_grow_src w t tx ty e ie zv hu g1 hz2 none 0 0 [] (by simp [Builtin.firstCells]) xv new.length news hsrcP (by omega) q1 q2
            have hg := grow_good (e := e) hi (olds := []) (ovs := []) (dp := false) (n := n) hzsize hc2 (by simp) (by simp) (by simp) hsrc.len hsrc.rows hsrc.rel (grownCap w (0 + new.length) 0 e) (by simpa using grownCap_ge w (0 + new.length) 0 e)
            simp only [List.length_nil, Nat.zero_add, List.nil_append, Bool.false_or] at hg hr
            exact ⟨_, _, _, hr, hg⟩
        · rename_i b i len lo ex
          split
          · rename_i B hB
            split
            · rename_i hBz
              subst hBz
              obtain ⟨l, cap, ad, hl, rfl, a1, a2, a3, a4, a5, a6⟩ := hs.msl_inv
              obtain ⟨l', hl', hk⟩ := hi.loc hB
              obtain rfl := Option.some.inj (hl.symm.trans hl')
              have hadd : ad = ⟨ad.block, ad.off, none⟩ := by cases ad; simp_all
              -- in place
              have hroom : len + new.length ≤ cap → (Builtin.append_ #[t, tx] ty #[.slice (some ad) len cap, xv]).run P w = .ok (.slice (some ad) (len + new.length) cap) (w.setCells l.blk (l.base + (i + len) * B.sz) news) := fun hle => by
                by_cases hcap : cap = 0
                · have h0 : new = [] := List.eq_nil_of_length_eq_zero (by omega)
                  subst h0
                  have hnews : news = [] := List.eq_nil_of_length_eq_zero (by simpa using hsrc.len)
                  subst hnews
                  exact run_append_nothing w t tx ty e ie hu g1 (some ad) len cap (by omega) xv (by simpa using hsrcP)
                · obtain rfl := a6 hcap
                  have e1 : l.base + i * l.sz + len * ie.size = l.base + (i + len) * B.sz := by rw [g2, hk.sz, Nat.add_mul]; omega
                  have hm : ∀ j, j < news.length → l.base + (i + len) * B.sz + j < l.size := fun j hj => by
                    rw [hsrc.len] at hj
                    have := Nat.mul_le_mul_right B.sz (show i + len + new.length ≤ i + cap by omega)
                    rw [Nat.add_mul (i + len)] at this
                    rw [hk.sz] at a4
                    omega
                  have := run_append_room_src w t tx ty e ie hu g1 l.blk (l.base + i * l.sz) len cap xv new.length news hsrcP hle (fun j hj => by rw [e1]; exact (hk.mem _ (hm j hj)).1) (fun j hj => by rw [e1]; exact (hk.mem _ (hm j hj)).2)
                  rw [e1] at this
                  exact this
              -- a new row
              have hgrow : cap < len + new.length → (len + new.length) * by_ ≤ bytesLim → i + len ≤ B.rows.length → ∀ (σ' : Sto), Inv w Im φ σ' → Tr φ.length w Im φ σ w Im φ σ' → σ'.length = σ.length →
                  ∃ v w' φ', (Builtin.append_ #[t, tx] ty #[.slice (some ad) len cap, xv]).run P w = .ok v w' ∧ Good w Im φ σ w' φ' (σ' ++ [some ⟨B.sz, B.deep || dp, (B.rows.drop i).take len ++ new⟩]) (.msl σ.length 0 (len + new.length) (len + new.length) false) v := by
                intro hlt hby' hin σ' hi' htr hl'
                obtain ⟨q1, q2⟩ := hlim _ _ hlt hby'
                have hsub := hk.rowsAt.sub i len
                obtain ⟨ovs, o1, o2, o3, o4⟩ := mem_cells hsub hc2
                have hol : ((B.rows.drop i).take len).length = len := by simp; omega
                have hold : (Builtin.firstCells ie.size len (.slice (some ad) len cap)).run P w.drew = .ok ovs.toArray w.drew := by
                  refine run_firstCells_some w.drew ie.size len ad len cap ovs (by rw [o1, hol, g2]) (fun j u hj => ?_)
                  have hj' := (List.getElem?_eq_some_iff.1 hj).1
                  rw [o1, hol] at hj'
                  have : cap ≠ 0 := by
                    intro h0
                    have : len = 0 := by omega
                    rw [this] at hj'; simp at hj'
                  rw [a6 this, addr_add, hk.sz]
                  exact o4 j u hj
                have hr := run_append_grow_src w t tx ty e ie zv hu g1 hz2 (some ad) len cap ovs hold xv new.length news hsrcP hlt q1 q2
                have hg := grow_good (e := e) hi' (olds := (B.rows.drop i).take len) (ovs := ovs) (dp := B.deep) (dq := dp) hzsize hc2 o1 hsub.1 o2 hsrc.len hsrc.rows hsrc.rel (grownCap w (len + new.length) cap e) (by rw [hol]; exact grownCap_ge w _ _ e)
                rw [hol, hl'] at hg
                exact ⟨_, _, _, hr, hg.le, htr.trans hg.tr, hg.inv, hg.rel⟩
              show SatV P w Im φ σ _ (if Nat.ble (len + new.length) lo = true then _ else _)
              split
              · rename_i hble
                have hble' := Nat.le_of_ble_eq_true hble
                intro hb
                have hb' := Nat.le_of_ble_eq_true hb
                have hfit := hk.fit
                have hfit' : l.base + (i + len + new.length) * B.sz ≤ l.size := by
                  have := Nat.mul_le_mul_right B.sz (show i + len + new.length ≤ B.rows.length by omega)
                  omega
                obtain ⟨b1, b2⟩ := writeRows hi hB hl (i + len) (by omega) hsrc.len hsrc.rows hsrc.rel hfit' true
                simp only [if_true] at b1 b2
                exact ⟨_, _, φ, hroom (by omega), PhiLe.refl _, b2, b1, .msl b i _ _ ex l cap ad hl hble' a2 a3 a4 a5 a6⟩
              · rename_i hble
                have hble' : lo < len + new.length := by
                  rcases Nat.lt_or_ge lo (len + new.length) with h | h
                  · exact h
                  · exact absurd (Nat.ble_eq_true_of_le h) hble
                intro hb hb2
                have hb' : (len + new.length) * by_ ≤ bytesLim := of_decide_eq_true hb
                have hb2' := Nat.le_of_ble_eq_true hb2
                cases ex with
                | true =>
                  have := a3 rfl
                  exact hgrow (by omega) hb' hb2' σ hi (Tr.refl _ _ _ _ _) rfl
                | false =>
                  by_cases hle : len + new.length ≤ cap
                  · have hfit' : l.base + (i + len + new.length) * B.sz ≤ l.size := by
                      have := Nat.mul_le_mul_right B.sz (show i + len + new.length ≤ i + cap by omega)
                      rw [hk.sz] at a4
                      omega
                    obtain ⟨b1, b2⟩ := writeRows hi hB hl (i + len) hb2' hsrc.len hsrc.rows hsrc.rel hfit' false
                    simp only [Bool.false_eq_true, if_false, List.append_nil] at b1 b2
                    have hlb := sget_lt hB
                    obtain ⟨c1, c2⟩ := b1.move (sget_set_self hlb) hl i (by simp; omega)
                    have e2 : (B.rows.take (i + len) ++ new).drop i = (B.rows.drop i).take len ++ new := by
                      rw [List.drop_append_of_le_length (by simp; omega), List.drop_take, show i + len - i = len by omega]
                    rw [e2, List.set_set] at c1 c2
                    refine ⟨_, _, _, hroom hle, PhiLe.append _ _, b2.trans c2, c1, .msl _ _ _ _ _ _ cap ad (phi_self hi.len _) (Nat.le_refl _) hle (fun h => by cases h) (by simp only; rw [Nat.zero_add, Nat.add_assoc, ← Nat.add_mul]; exact a4) a5 (fun hc => by simpa using a6 hc)⟩
                  · obtain ⟨d1, d2⟩ := hi.drop b
                    exact hgrow (by omega) hb' hb2' _ d1 d2 (by simp)
            · trivial
          · trivial
        · trivial
      · trivial
    · trivial
  · trivial

end
end Go.RX
