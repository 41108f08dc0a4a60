/-
  Words and walks for StickyKeeps. No condition.
-/
import Derived.Test.YtdkphdibpdiiiaaStickyKeepsY3
set_option linter.unusedSimpArgs false
set_option linter.unusedVariables false
namespace Go.RX.L
open Go Go.RX

/-- No session has two seats. -/
def Uniq (l : List Seat) : Prop := l.Pairwise fun a b => eqS b.Session a.Session = false
/-- A session is among the first d + 1 seats, at its target. -/
def HasIt (l : List Seat) (f : List Int) (t : Int) (d : Nat) : Prop := ∃ j s, l[j]? = some s ∧ eqS s.Session f = true ∧ s.Target = t ∧ j ≤ d

theorem others_uniq {l : List Seat} (h : Uniq l) (f : List Int) : Uniq (othersP l f) := List.Pairwise.filter _ h
theorem uniq_take {l : List Seat} (h : Uniq l) (n : Nat) : Uniq (l.take n) := List.Pairwise.sublist (List.take_sublist n l) h

theorem put_uniq {l : List Seat} (h : Uniq l) (room : Int) (f : List Int) (t : Int) : Uniq (putP l room f t) := by
  unfold putP
  split
  · exact List.Pairwise.nil
  · refine uniq_take (List.pairwise_cons.2 ⟨fun s hs => ?_, others_uniq h f⟩) _
    have := (List.mem_filter.1 hs).2
    simpa using this

theorem uniq_mem {l : List Seat} (h : Uniq l) {i j : Nat} {a b : Seat} (ha : l[i]? = some a) (hb : l[j]? = some b) (he : eqS a.Session b.Session = true) : i = j := by
  rcases Nat.lt_trichotomy i j with hij | hij | hij
  · have hj := (List.getElem?_eq_some_iff.1 hb).1
    have := List.pairwise_iff_getElem.1 h i j (by omega) hj hij
    rw [(List.getElem?_eq_some_iff.1 ha).2, (List.getElem?_eq_some_iff.1 hb).2, eqS_comm, he] at this
    cases this
  · exact hij
  · have hi := (List.getElem?_eq_some_iff.1 ha).1
    have := List.pairwise_iff_getElem.1 h j i (by omega) hi hij
    rw [(List.getElem?_eq_some_iff.1 ha).2, (List.getElem?_eq_some_iff.1 hb).2, he] at this
    cases this

theorem get_uniq {l : List Seat} (h : Uniq l) (f : List Int) : Uniq (getP l f).2 := by
  unfold getP
  rcases idx_rest f l 0 with ⟨h1, h2, h3⟩ | ⟨j, s, h1, h2, h3, h4, h5⟩
  · rw [h2]; exact h
  · rw [h4]
    have hj := (List.getElem?_eq_some_iff.1 h2).1
    have hs : l[j] = s := (List.getElem?_eq_some_iff.1 h2).2
    have hsub : (l.take j ++ l.drop (j + 1)).Sublist l := by
      conv => rhs; rw [← List.take_append_drop j l]
      exact List.Sublist.append (List.Sublist.refl _) (by rw [List.drop_eq_getElem_cons hj]; exact List.sublist_cons_self _ _)
    refine List.pairwise_cons.2 ⟨fun x hx => ?_, List.Pairwise.sublist hsub h⟩
    rcases List.mem_append.1 hx with hx | hx
    · have := h5 x hx
      cases hq : eqS x.Session s.Session with
      | false => rfl
      | true => rw [eqS_trans hq, h3] at this; cases this
    · obtain ⟨i, hi⟩ := List.mem_iff_getElem?.1 hx
      rw [List.getElem?_drop] at hi
      cases hq : eqS x.Session s.Session with
      | false => rfl
      | true =>
        have := uniq_mem h hi h2 hq
        omega

/-- Behind a Get it is there still, one place on at most. -/
theorem has_get {l : List Seat} {f g : List Int} {t : Int} {d : Nat} (h : HasIt l f t d) : HasIt (getP l g).2 f t (d + 1) := by
  obtain ⟨i, s, h1, h2, h3, h4⟩ := h
  unfold getP
  rcases idx_rest g l 0 with ⟨-, q2, -⟩ | ⟨j, x, -, q2, -, q4, -⟩
  · rw [q2]; exact ⟨i, s, h1, h2, h3, by omega⟩
  · rw [q4]
    have hil := (List.getElem?_eq_some_iff.1 h1).1
    have hj := (List.getElem?_eq_some_iff.1 q2).1
    rcases Nat.lt_trichotomy i j with hij | hij | hij
    · refine ⟨i + 1, s, ?_, h2, h3, by omega⟩
      rw [List.getElem?_cons_succ, List.getElem?_append_left (by rw [List.length_take]; omega), List.getElem?_take, if_pos hij]
      exact h1
    · subst hij
      rw [h1] at q2
      obtain rfl := Option.some.inj q2
      exact ⟨0, s, rfl, h2, h3, by omega⟩
    · refine ⟨i, s, ?_, h2, h3, by omega⟩
      rw [show i = (i - 1) + 1 by omega, List.getElem?_cons_succ, List.getElem?_append_right (by rw [List.length_take]; omega), List.getElem?_drop, List.length_take]
      rw [show j + 1 + (i - 1 - min j l.length) = i by omega]
      exact h1

/-- What others have, moves one place on at most, when one is put. -/
theorem has_put {l : List Seat} {f g : List Int} {t u : Int} {d : Nat} {n : Int} (h : HasIt l f t d) (hg : eqS g f = false) (hd : ((d + 1 : Nat) : Int) < n) : HasIt (putP l n g u) f t (d + 1) := by
  obtain ⟨i, s, h1, h2, h3, h4⟩ := h
  have hs : eqS s.Session g = false := by
    cases hq : eqS s.Session g with
    | false => rfl
    | true => rw [eqS_trans hq, hg] at h2; cases h2
  have key : ∀ (l : List Seat) (i : Nat), l[i]? = some s → ∃ k, k ≤ i ∧ (othersP l g)[k]? = some s := by
    intro l
    induction l with
    | nil => intro i h; simp at h
    | cons x r ih =>
      intro i h
      cases i with
      | zero =>
        simp at h
        subst h
        exact ⟨0, Nat.le_refl _, by simp [othersP, hs]⟩
      | succ i =>
        obtain ⟨k, k1, k2⟩ := ih i (by simpa using h)
        cases hx : eqS x.Session g with
        | true => exact ⟨k, by omega, by simpa [othersP, hx] using k2⟩
        | false => exact ⟨k + 1, by omega, by simpa [othersP, hx] using k2⟩
  obtain ⟨k, k1, k2⟩ := key l i h1
  refine ⟨k + 1, s, ?_, h2, h3, by omega⟩
  unfold putP
  rw [if_neg (by omega), List.getElem?_take, if_pos (by omega)]
  simpa using k2
theorem has_new {l : List Seat} {f : List Int} {t : Int} {n : Int} (hn : 1 ≤ n) : HasIt (putP l n f t) f t 0 := by
  refine ⟨0, ⟨f, t⟩, ?_, eqS_refl _, rfl, Nat.le_refl _⟩
  unfold putP
  rw [if_neg (by omega), List.getElem?_take, if_pos (by omega)]
  rfl

/-- What is there is got. -/
theorem has_got {l : List Seat} {f : List Int} {t : Int} {d : Nat} (hu : Uniq l) (h : HasIt l f t d) : (getP l f).1 = t := by
  obtain ⟨i, s, h1, h2, h3, h4⟩ := h
  unfold getP
  rcases idx_rest f l 0 with ⟨-, -, q3⟩ | ⟨j, x, -, q2, q3, q4, -⟩
  · rw [q3 s (List.mem_of_getElem? h1)] at h2; cases h2
  · rw [q4]
    have : i = j := uniq_mem hu h1 q2 (by
      have := eqS_trans (c := x.Session) h2
      rw [this, eqS_comm]; exact q3)
    subst this
    rw [h1] at q2
    obtain rfl := Option.some.inj q2
    exact h3

/-- No other put of that session from i on to k. -/
def Last (l : List Use) (f : List Int) (i k : Nat) : Prop := ∀ x, i < x → x < k → ∀ u, l[x]? = some u → eqS u.Session f = false ∨ u.Put = false

/-- A table behind the first k uses. -/
structure KeepI (l : List Use) (n : Nat) (k : Nat) (T : List Seat) : Prop where
  len : T.length ≤ n
  uniq : Uniq T
  fit : ∀ s ∈ T, s.Session.length ≤ lim
  has : ∀ i, i < k → ∀ u, l[i]? = some u → u.Put = true → Last l u.Session i k → k - 1 - i < n → HasIt T u.Session u.Target (k - 1 - i)

theorem keep_put {l : List Use} {n k : Nat} {T : List Seat} (h : KeepI l n k T) (hn : 1 ≤ n) {u : Use} (hu : l[k]? = some u) (hp : u.Put = true) (hs : u.Session.length ≤ lim) : KeepI l n (k + 1) (putP T n u.Session u.Target) := by
  refine ⟨?_, put_uniq h.uniq _ _ _, fun s hm => ?_, fun i hi v hv hvp hl hd => ?_⟩
  · unfold putP
    rw [if_neg (by omega), List.length_take]; omega
  · unfold putP at hm
    rw [if_neg (by omega)] at hm
    rcases List.mem_cons.1 (List.mem_of_mem_take hm) with rfl | hm
    · exact hs
    · exact h.fit s (List.mem_filter.1 hm).1
  · rcases Nat.lt_or_ge i k with hik | hik
    · have hlast : Last l v.Session i k := fun x h1 h2 w hw => hl x h1 (by omega) w hw
      have := h.has i hik v hv hvp hlast (by omega)
      have hne : eqS u.Session v.Session = false := by
        rcases hl k hik (by omega) u hu with h1 | h1
        · exact h1
        · rw [hp] at h1; cases h1
      have := has_put (u := u.Target) (n := (n : Int)) this hne (by omega)
      rwa [show k - 1 - i + 1 = k + 1 - 1 - i by omega] at this
    · have : i = k := by omega
      subst this
      rw [hu] at hv
      obtain rfl := Option.some.inj hv
      have := has_new (l := T) (f := u.Session) (t := u.Target) (n := (n : Int)) (by omega)
      rwa [show i + 1 - 1 - i = 0 by omega]
theorem keep_get {l : List Use} {n k : Nat} {T : List Seat} (h : KeepI l n k T) (hlen : T.length ≤ 100000) {u : Use} (hu : l[k]? = some u) (hp : u.Put = false) : KeepI l n (k + 1) (getP T u.Session).2 := by
  have hF : Fits T := ⟨hlen, h.fit⟩
  have hl := (get_ok hF u.Session).2
  refine ⟨by rw [hl]; exact h.len, get_uniq h.uniq _, fun s hm => ?_, fun i hi v hv hvp hlast hd => ?_⟩
  · unfold getP at hm
    rcases idx_rest u.Session T 0 with ⟨-, q2, -⟩ | ⟨j, x, -, q2, -, q4, -⟩
    · rw [q2] at hm; exact h.fit s hm
    · rw [q4] at hm
      rcases List.mem_cons.1 hm with rfl | hm
      · exact h.fit _ (List.mem_of_getElem? q2)
      · rcases List.mem_append.1 hm with hm | hm
        · exact h.fit s (List.mem_of_mem_take hm)
        · exact h.fit s (List.mem_of_mem_drop hm)
  · rcases Nat.lt_or_ge i k with hik | hik
    · have := h.has i hik v hv hvp (fun x h1 h2 w hw => hlast x h1 (by omega) w hw) (by omega)
      have := has_get (g := u.Session) this
      rwa [show k - 1 - i + 1 = k + 1 - 1 - i by omega] at this
    · have : i = k := by omega
      subst this
      rw [hu] at hv
      obtain rfl := Option.some.inj hv
      rw [hp] at hvp; cases hvp

theorem stickyKeeps (room : Int) (l : List Use) (hr : inK .u8 room) (hl : l.length * 40 ≤ reachBytes ∧ ∀ y ∈ l, y.Ok) : law20_StickyKeeps room l = some true := by
  by_cases hbig : l.length > 300
  · refine evf_of (.done ?_)
    simp only [law20_StickyKeeps_step, law20_StickyKeeps_0, head_ok, Option.bind_some, List.length_map]
    rw [decide_eq_true (show ((l.length : Nat) : Int) > 300 by omega)]
    rfl
  have hses : ∀ u ∈ l, u.Session.length ≤ lim := fun u hu => by have := (hl.2 u hu).1.1; unfold reachBytes at this; unfold lim; omega
  have hr' := inU8.1 hr
  obtain ⟨N, hN⟩ := Int.eq_ofNat_of_zero_le (show 0 ≤ Int.tmod room 10 by rw [Int.tmod_eq_emod_of_nonneg hr'.1]; omega)
  have hN9 : N ≤ 9 := by rw [Int.tmod_eq_emod_of_nonneg hr'.1] at hN; omega
  have wN : IntKind.i64.wrap ((N : Nat) : Int) = N := wI64 (by omega) (by omega)
  have wN1 : IntKind.i64.wrap ((1 : Int) + ((N : Nat) : Int)) = ((N + 1 : Nat) : Int) := by rw [wI64 (by omega) (by omega)]; omega
  -- the last part
  have lastp : ∀ T, KeepI l (N + 1) l.length T → Ev law20_StickyKeeps_step (.s4 l true ((N + 1 : Nat) : Int) T 0) true := by
    intro T I
    have hF : Fits T := ⟨by have := I.len; omega, I.fit⟩
    have outer : ∀ (m i : Nat), i + m = l.length → Ev law20_StickyKeeps_step (.s4 l true ((N + 1 : Nat) : Int) T i) true := by
      intro m
      induction m with
      | zero =>
        intro i hi
        refine .done ?_
        simp only [law20_StickyKeeps_step, law20_StickyKeeps_4, List.length_map, geB (show l.length ≤ i by omega), cond_false]
      | succ m ih =>
        intro i hi
        have hil : i < l.length := by omega
        have wi := wS (k := i) (by omega)
        refine .next (s' := .s5 l true ((N + 1 : Nat) : Int) T i (0 : Nat) true ((i + 1 : Nat) : Int)) (by simp only [law20_StickyKeeps_step, law20_StickyKeeps_4, List.length_map, ltB hil, cond_true, wi]; rfl) ?_
        have inner : ∀ (m2 k : Nat), k + m2 = l.length → i + 1 ≤ k → ∀ b : Bool, (b = true → Last l l[i].Session i k) → Ev law20_StickyKeeps_step (.s5 l true ((N + 1 : Nat) : Int) T i ((k - (i + 1) : Nat) : Int) b k) true := by
          intro m2
          induction m2 with
          | zero =>
            intro k hk hik b hb
            have hkl : k = l.length := by omega
            have go : ∀ c : Bool, (c = true → l[i].Put = true ∧ b = true ∧ k - (i + 1) < N + 1) → law20_StickyKeeps_step (.s5 l true ((N + 1 : Nat) : Int) T i ((k - (i + 1) : Nat) : Int) b k) = some (.inl (.s11 l true ((N + 1 : Nat) : Int) T i c)) → Ev law20_StickyKeeps_step (.s5 l true ((N + 1 : Nat) : Int) T i ((k - (i + 1) : Nat) : Int) b k) true := fun c hc hst => by
              refine .next hst ?_
              cases c with
              | false => exact .next (s' := .s4 l true ((N + 1 : Nat) : Int) T ((i + 1 : Nat) : Int)) (by simp only [law20_StickyKeeps_step, law20_StickyKeeps_11, cond_false, wi]) (ih (i + 1) (by omega))
              | true =>
                obtain ⟨c1, c2, c3⟩ := hc rfl
                have hh := I.has i hil l[i] (List.getElem?_eq_getElem hil) c1 (by have := hb c2; rwa [hkl] at this) (by omega)
                have hg := has_got I.uniq hh
                obtain ⟨g1, g2⟩ := get_ok hF l[i].Session
                rw [hg] at g1
                refine .next (s' := .s10 l true ((N + 1 : Nat) : Int) T i) rfl (.next (s' := .s4 l true ((N + 1 : Nat) : Int) T ((i + 1 : Nat) : Int)) ?_ (ih (i + 1) (by omega)))
                simp only [law20_StickyKeeps_step, law20_StickyKeeps_10, List.length_map, ltB hil, le0, Bool.and_self, cond_true, Int.toNat_natCast, List.getElem?_eq_getElem hil, Option.bind_some, g1, bne_self_eq_false, cond_false, wi]
            refine go (l[i].Put && (b && decide ((((k - (i + 1) : Nat) : Int)) < ((N + 1 : Nat) : Int)))) (fun h => ?_) ?_
            · simp only [Bool.and_eq_true, decide_eq_true_eq] at h
              exact ⟨h.1, h.2.1, by omega⟩
            · simp only [law20_StickyKeeps_step, law20_StickyKeeps_5, List.length_map, geB (show l.length ≤ k by omega), cond_false, ltB hil, le0, Bool.and_self, cond_true, Int.toNat_natCast, List.getElem?_eq_getElem hil, Option.bind_some]
              cases l[i].Put <;> cases b <;> rfl
          | succ m2 ih2 =>
            intro k hk hik b hb
            have hkl : k < l.length := by omega
            have wk := wS (k := k) (by omega)
            have wo : IntKind.i64.wrap ((((k - (i + 1) : Nat) : Int)) + 1) = ((k + 1 - (i + 1) : Nat) : Int) := by rw [wI64 (by omega) (by omega)]; omega
            have go : ∀ c : Bool, (c = true → Last l l[i].Session i (k + 1)) → law20_StickyKeeps_step (.s5 l true ((N + 1 : Nat) : Int) T i ((k - (i + 1) : Nat) : Int) b k) = some (.inl (.s9 l true ((N + 1 : Nat) : Int) T i ((k - (i + 1) : Nat) : Int) c k)) → Ev law20_StickyKeeps_step (.s5 l true ((N + 1 : Nat) : Int) T i ((k - (i + 1) : Nat) : Int) b k) true := fun c hc hst =>
              .next hst (.next (s' := .s5 l true ((N + 1 : Nat) : Int) T i ((k + 1 - (i + 1) : Nat) : Int) c ((k + 1 : Nat) : Int)) (by simp only [law20_StickyKeeps_step, law20_StickyKeeps_9, wo, wk]) (ih2 (k + 1) (by omega) (by omega) c hc))
            have ext : Last l l[i].Session i k → (eqS l[k].Session l[i].Session = false ∨ l[k].Put = false) → Last l l[i].Session i (k + 1) := fun h1 h2 x a1 a2 u hu => by
              rcases Nat.lt_or_ge x k with h | h
              · exact h1 x a1 h u hu
              · have : x = k := by omega
                subst this
                rw [List.getElem?_eq_getElem hkl] at hu
                obtain rfl := Option.some.inj hu
                exact h2
            cases b with
            | false => exact go false (fun h => by cases h) (by simp only [law20_StickyKeeps_step, law20_StickyKeeps_5, List.length_map, ltB hkl, cond_true, cond_false])
            | true =>
              cases hq : eqS l[k].Session l[i].Session with
              | false =>
                refine go true (fun _ => ext (hb rfl) (.inl hq)) ?_
                simp only [law20_StickyKeeps_step, law20_StickyKeeps_5, List.length_map, ltB hkl, ltB hil, le0, Bool.and_self, cond_true, Int.toNat_natCast, List.getElem?_eq_getElem hkl, List.getElem?_eq_getElem hil, Option.bind_some]
                rw [show ((List.map b8 l[k].Session : List UInt8) == List.map b8 l[i].Session) = false from hq]
                rfl
              | true =>
                refine go (!l[k].Put) (fun h => ext (hb rfl) (.inr (by simpa using h))) ?_
                simp only [law20_StickyKeeps_step, law20_StickyKeeps_5, List.length_map, ltB hkl, ltB hil, le0, Bool.and_self, cond_true, Int.toNat_natCast, List.getElem?_eq_getElem hkl, List.getElem?_eq_getElem hil, Option.bind_some]
                rw [show ((List.map b8 l[k].Session : List UInt8) == List.map b8 l[i].Session) = true from hq]
                rfl
        have := inner (l.length - (i + 1)) (i + 1) (by omega) (Nat.le_refl _) true (fun _ x h1 h2 => by omega)
        rwa [show i + 1 - (i + 1) = 0 by omega] at this
    exact outer l.length 0 (by omega)
  -- the uses
  have uses : ∀ (m k : Nat), k + m = l.length → ∀ (T rows : List Seat) (cp : Nat), KeepI l (N + 1) k T → rows.take T.length = T → T.length ≤ rows.length → Ev law20_StickyKeeps_step (.s1 l true ((N + 1 : Nat) : Int) 0 T.length cp k rows) true := by
    intro m
    induction m with
    | zero =>
      intro k hk T rows cp I hT hle
      have hkl : k = l.length := by omega
      subst hkl
      refine .next (s' := .s4 l true ((N + 1 : Nat) : Int) T 0) ?_ (lastp T I)
      have b1 : Nat.ble (0 + T.length) rows.length = true := Nat.ble_eq_true_of_le (by omega)
      simp only [law20_StickyKeeps_step, law20_StickyKeeps_1, List.length_map, geB (Nat.le_refl l.length), cond_false, b1, cond_true, List.drop_zero, hT]
    | succ m ih =>
      intro k hk T rows cp I hT hle
      have hkl : k < l.length := by omega
      have wk := wS (k := k) (by omega)
      have hF : Fits T := ⟨by have := I.len; omega, I.fit⟩
      have b1 : Nat.ble (0 + T.length) rows.length = true := Nat.ble_eq_true_of_le (by omega)
      have hsk := hses l[k] (List.getElem_mem hkl)
      -- what is looked at behind each use
      have look : ∀ (T' rows' : List Seat) (cp' : Nat), KeepI l (N + 1) (k + 1) T' → rows'.take T'.length = T' → T'.length ≤ rows'.length → Ev law20_StickyKeeps_step (.s3 l true ((N + 1 : Nat) : Int) 0 T'.length cp' k rows') true := fun T' rows' cp' I' hT' hle' => by
        have hrow : ∀ i (hi : i < T'.length), rows'[i]? = some T'[i] := fun i hi => by
          have : (rows'.take T'.length)[i]? = T'[i]? := by rw [hT']
          rw [List.getElem?_take, if_pos hi] at this
          rw [this, List.getElem?_eq_getElem hi]
        have hl' := I'.len
        refine .next (s' := .s2 l true ((N + 1 : Nat) : Int) 0 T'.length cp' k 0 rows') ?_ ?_
        · simp only [law20_StickyKeeps_step, law20_StickyKeeps_3]
          rw [decide_eq_false (show ¬ (((T'.length : Nat) : Int) > ((N + 1 : Nat) : Int)) by omega)]
          rfl
        · have outer : ∀ (m2 a : Nat), a + m2 = T'.length → Ev law20_StickyKeeps_step (.s2 l true ((N + 1 : Nat) : Int) 0 T'.length cp' k a rows') true := by
            intro m2
            induction m2 with
            | zero =>
              intro a ha
              refine .next (s' := .s1 l true ((N + 1 : Nat) : Int) 0 T'.length cp' ((k + 1 : Nat) : Int) rows') ?_ (ih (k + 1) (by omega) T' rows' cp' I' hT' hle')
              simp only [law20_StickyKeeps_step, law20_StickyKeeps_2, geB (show T'.length ≤ a by omega), cond_false, wk]
            | succ m2 ih2 =>
              intro a ha
              have hal : a < T'.length := by omega
              refine .next (s' := .s6 l true ((N + 1 : Nat) : Int) 0 T'.length cp' k a (0 : Nat) rows') (by simp only [law20_StickyKeeps_step, law20_StickyKeeps_2, ltB hal, cond_true]; rfl) ?_
              have inner : ∀ (m3 c : Nat), c + m3 = a → Ev law20_StickyKeeps_step (.s6 l true ((N + 1 : Nat) : Int) 0 T'.length cp' k a c rows') true := by
                intro m3
                induction m3 with
                | zero =>
                  intro c hc
                  have : c = a := by omega
                  subst this
                  refine .next (s' := .s2 l true ((N + 1 : Nat) : Int) 0 T'.length cp' k ((c + 1 : Nat) : Int) rows') ?_ (ih2 (c + 1) (by omega))
                  simp only [law20_StickyKeeps_step, law20_StickyKeeps_6]
                  rw [decide_eq_false (show ¬ ((c : Int) < (c : Int)) by omega)]
                  simp only [cond_false, wS (show c < 9223372036854775807 by omega)]
                | succ m3 ih3 =>
                  intro c hc
                  have hcl : c < T'.length := by omega
                  have hne := List.pairwise_iff_getElem.1 I'.uniq c a hcl hal (by omega)
                  refine .next (s' := .s6 l true ((N + 1 : Nat) : Int) 0 T'.length cp' k a ((c + 1 : Nat) : Int) rows') ?_ (ih3 (c + 1) (by omega))
                  simp only [law20_StickyKeeps_step, law20_StickyKeeps_6]
                  rw [decide_eq_true (show ((c : Int) < (a : Int)) by omega)]
                  simp only [cond_true, ltB hal, ltB hcl, le0, Bool.and_self, Int.toNat_natCast, Nat.zero_add, hrow a hal, hrow c hcl, Option.bind_some]
                  rw [show ((List.map b8 T'[a].Session : List UInt8) == List.map b8 T'[c].Session) = false from hne]
                  simp only [cond_false, wS (show c < 9223372036854775807 by omega)]
              exact inner a 0 (by omega)
          exact outer T'.length 0 (by omega)
      cases hp : l[k].Put with
      | true =>
        obtain ⟨cp', rows', p1, p2, p3⟩ := put_ok hF ((N + 1 : Nat) : Int) hsk l[k].Target (inI64.2 (by omega))
        have I' := keep_put I (by omega) (List.getElem?_eq_getElem hkl) hp hsk
        refine .next (s' := .s7 l true ((N + 1 : Nat) : Int) T k) ?_ (.next (s' := .s3 l true ((N + 1 : Nat) : Int) 0 (putP T ((N + 1 : Nat) : Int) l[k].Session l[k].Target).length cp' k rows') ?_ (look _ rows' cp' I' p2 p3))
        · simp only [law20_StickyKeeps_step, law20_StickyKeeps_1, List.length_map, ltB hkl, le0, Bool.and_self, cond_true, Int.toNat_natCast, List.getElem?_eq_getElem hkl, Option.bind_some, hp, b1, List.drop_zero, hT]
        · simp only [law20_StickyKeeps_step, law20_StickyKeeps_7, List.length_map, ltB hkl, le0, Bool.and_self, cond_true, Int.toNat_natCast, List.getElem?_eq_getElem hkl, Option.bind_some, p1]
      | false =>
        obtain ⟨g1, g2⟩ := get_ok hF l[k].Session
        have I' := keep_get I (by have := I.len; omega) (List.getElem?_eq_getElem hkl) hp
        have hlk := look (getP T l[k].Session).2 (getP T l[k].Session).2 T.length I' (List.take_length) (Nat.le_refl _)
        rw [g2] at hlk
        refine .next (s' := .s8 l true ((N + 1 : Nat) : Int) T k) ?_ (.next (s' := .s3 l true ((N + 1 : Nat) : Int) 0 T.length T.length k (getP T l[k].Session).2) ?_ hlk)
        · simp only [law20_StickyKeeps_step, law20_StickyKeeps_1, List.length_map, ltB hkl, le0, Bool.and_self, cond_true, Int.toNat_natCast, List.getElem?_eq_getElem hkl, Option.bind_some, hp, cond_false, b1, List.drop_zero, hT]
        · simp only [law20_StickyKeeps_step, law20_StickyKeeps_8, List.length_map, ltB hkl, le0, Bool.and_self, cond_true, Int.toNat_natCast, List.getElem?_eq_getElem hkl, Option.bind_some, g1]
  have I0 : KeepI l (N + 1) 0 [] := ⟨by simp, List.Pairwise.nil, fun s h => by simp at h, fun i hi => by omega⟩
  refine evf_of (.next (s' := .s1 l true ((N + 1 : Nat) : Int) 0 ([] : List Seat).length 0 (0 : Nat) []) ?_ (uses l.length 0 (by omega) [] [] 0 I0 rfl (Nat.le_refl _)))
  simp only [law20_StickyKeeps_step, law20_StickyKeeps_0, head_ok, Option.bind_some, List.length_map, hN, wN, wN1]
  rw [decide_eq_false (show ¬ ((l.length : Nat) : Int) > 300 by omega)]
  rfl
end Go.RX.L
