/-
  Words and walks for FenceLeased. No condition.
-/
import Derived.Test.YtflpengopdhhhaaDoorFenceLeasedY8
set_option linter.unusedSectionVars false
set_option linter.unnecessarySimpa false
set_option linter.unusedSimpArgs false
set_option linter.unusedVariables false
set_option maxRecDepth 100000
namespace Go.RX.L
open Go Go.RX
theorem beqF {a b : Int} (h : ¬ a = b) : (a == b) = false := beq_eq_false_iff_ne.2 h
theorem bneT {a b : Int} (h : ¬ a = b) : (a != b) = true := bne_iff_ne.2 h
def takeT (m : Msg) (f : Int) (l : List Entry) (cl : List (List Int)) : Int × List Entry × List (List Int) :=
  if m.Kind = 19 then (mxI f m.Epoch, l, cl)
  else if m.Kind = 14 then (mxI f m.Epoch, l ++ [⟨m.ID, m.Epoch, m.Payload⟩], cl)
  else if m.Kind = 18 then (f, l, cl ++ [m.ID])
  else (f, l, cl)
theorem txt_in {m : Msg} (h : rightM m = true) : txM m := by
  simp only [rightM, Bool.and_eq_true, decide_eq_true_eq] at h; exact h.2.1
theorem clone_ok {b : List Int} (h : b.length ≤ 10000000) : bytes_Clone b = some b := by
  have : decide ((0 + b.length) * 1 ≤ bytesLim) = true := limOk (by omega)
  simp only [bytes_Clone, List.length_map, this, cond_true]
theorem sclone_ok {b : List Int} (h : b.length ≤ 1000000) : slices_Clone b = some b := by
  have : decide ((0 + b.length) * 8 ≤ bytesLim) = true := limOk (by omega)
  simp only [slices_Clone, List.length_map, this, cond_true]
section
variable {fence : Int} {known : Plan} {hold : Hold} {begun filled : Int} {c : Config} {index : Int} {well : Bool} {l : List Entry} {cl : List (List Int)} {fuse : Int} {down : Bool} {s t : List Int}
theorem take_ok {m : Msg} (hm : rightM m = true) (hl : l.length ≤ 100000) (hc : cl.length ≤ 100000) : Target_take m fence known hold begun filled c index well l cl fuse down s t = some (takeT m fence l cl) := by
  have tx := txt_in hm
  unfold txM at tx
  have e1 := sclone_ok (b := m.ID) (by omega)
  have e2 := clone_ok (b := m.Payload) (by omega)
  have e3 : decide ((l.length + 1) * 56 ≤ bytesLim) = true := limOk (by omega)
  have e4 : decide ((cl.length + 1) * 24 ≤ bytesLim) = true := limOk (by omega)
  unfold Target_take takeT
  by_cases h1 : m.Kind = 19
  · simp [h1]
  by_cases h2 : m.Kind = 14
  · simp [h2, e1, e2, e3]
  by_cases h3 : m.Kind = 18
  · simp [h3, e1, e4]
  · simp [h1, h2, h3, beqF h1, beqF h2, beqF h3]
theorem remember_ok {r : Msg} (hr : okRec r) (hf : okFuse fuse) (hs : s.length ≤ 10000000) (hl : l.length ≤ 100000) (hc : cl.length ≤ 100000) :
    Target_remember__take r fence known hold begun filled c index well l cl fuse false s [] = some (match eff fuse false with
      | none => (false, fence, fd fuse false, true, l, cl, s, [])
      | some f => (match eff f false with
        | none => (false, fence, fd f false, true, l, cl, s, log [r])
        | some g => (true, (takeT r fence l cl).1, g, false, (takeT r fence l cl).2.1, (takeT r fence l cl).2.2, s ++ log [r], []))) := by
  have hb : msg_Body r = some (r.Kind, encB r, 0) := by rw [body_ok hr.1, bodyM, if_pos hr.2]
  obtain ⟨h1, h2, h3⟩ := hr.fr
  have ha := jappend (k := r.Kind) (body := encB r) h1 h2 h3 hf (down := false) (s := s) (t := []) (by simp)
  have hl' : (log [r]).length ≤ 9000 := by rw [log_one, encF_len]; have h3' : (encB r).length ≤ 8192 := h3; omega
  simp only [Target_remember__take, hb, Option.bind_some, bne_self_eq_false, cond_false, ha]
  cases he : eff fuse false with
  | none => simp [Target_remember__take_1]
  | some f =>
    have hf2 := eff_fuse hf he
    have hy := jsync (fuse := f) hf2 (down := false) (s := s) (t := log [r]) (by omega)
    simp only [List.nil_append, bne_self_eq_false, cond_false, ← log_one, hy, Option.bind_some]
    cases hg : eff f false with
    | none => simp [Target_remember__take_1]
    | some g => simp [Target_remember__take_1, take_ok hr.2 hl hc]
end
def nodeT (c : Config) (i : Int) : Int := 2 * c.F_ + 1 + c.Deciders + i
theorem rightC_n {c : Config} (h : rightC c = true) : (0 ≤ c.F_ ∧ c.F_ ≤ 3) ∧ (1 ≤ c.Deciders ∧ c.Deciders ≤ 4) ∧ (1 ≤ c.Targets ∧ c.Targets ≤ 16) := by
  have h1 := (rightC_b h).1
  simp only [rightC, Bool.and_eq_true, btw_iff, List.mem_cons, List.not_mem_nil, or_false, forall_eq_or_imp, forall_eq] at h
  obtain ⟨h2, h3, -⟩ := h
  omega
theorem node_ok {c : Config} (h : rightC c = true) {i : Int} (hi : 0 ≤ i ∧ i ≤ 16) : api_TargetNode c i = some (nodeT c i) := by
  obtain ⟨h1, h2, h3⟩ := rightC_n h
  simp only [api_TargetNode, api_DeciderNode, api_Acceptors, Option.bind_some, nodeT]
  rw [wI64 (n := 2 * c.F_) (by omega) (by omega), wI64 (n := 2 * c.F_ + 1) (by omega) (by omega), wI64 (n := 2 * c.F_ + 1 + c.Deciders) (by omega) (by omega), wI64 (by omega) (by omega)]
def zeroC_ (c : Config) : Plan := ⟨0, -1, -1, -1, 0, 0, 0, 0, 0, 0, List.replicate c.Targets.toNat 0, []⟩
theorem new_ok {c : Config} {index : Int} (ht : c.Tiers.length < 9223372036854775807) : fence_New c index = some (if rightC c = true ∧ 0 ≤ index ∧ index < c.Targets then .r1 0 (zeroC_ c) ⟨0, 0, 0, 0⟩ 0 0 true [] [] (-1) false [] [] else .r0) := by
  simp only [fence_New, polright_ok ht, Option.bind_some]
  cases h : rightC c with
  | false => simp [fence_New_1]
  | true =>
    have hz := polzero_ok ht h
    by_cases h1 : index < 0
    · have : ¬ (0 ≤ index) := by omega
      simp [h1, fence_New_1, this]
    · by_cases h2 : index ≥ c.Targets
      · have : ¬ (index < c.Targets) := by omega
        simp [h1, h2, fence_New_1, this]
      · have h3 : 0 ≤ index ∧ index < c.Targets := by omega
        simp [h1, h2, fence_New_1, journal_New, hz, h3, zeroC_]
theorem zeroFine : Fine zeroPl := ⟨inI64.2 (by decide), by decide, by decide, ⟨by decide, by decide⟩⟩
theorem zeroShm (k f t e b a n ti u co : Int) : Shm ⟨k, f, t, e, b, a, n, ti, u, co, false, zeroPl, [], [], []⟩ := ⟨⟨by simp [zeroPl], by simp [zeroPl]⟩, inU64.2 (by simp [zeroPl]), inU64.2 (by simp [zeroPl])⟩
theorem zeroRight {k f t e b a n ti co : Int} (hk : 1 ≤ k ∧ k ≤ 19) (hf : 0 ≤ f ∧ f ≤ 255) (ht : 0 ≤ t ∧ t ≤ 255) (hc : 0 ≤ co ∧ co ≤ 1000) : rightM ⟨k, f, t, e, b, a, n, ti, 0, co, false, zeroPl, [], [], []⟩ = true := by
  simp only [rightM, Bool.and_eq_true, decide_eq_true_eq, planB, cond_false]
  refine ⟨?_, by unfold txM; simp, by rw [sameP_iff]⟩
  unfold hdM; simp only; omega
theorem zeroRec {k e : Int} (hk : 1 ≤ k ∧ k ≤ 19) (he : inK .i64 e) : okRec ⟨k, 0, 0, e, 0, 0, 0, 0, 0, 0, false, zeroPl, [], [], []⟩ := by
  refine ⟨⟨zeroShm .., zeroFine, ?_, by simp, fun x hx => by simp at hx, fun x hx => by simp at hx, fun x hx => by simp at hx⟩, zeroRight hk (by decide) (by decide) (by decide)⟩
  intro x hx
  simp only [List.mem_cons, List.not_mem_nil, or_false] at hx
  rcases hx with rfl | rfl | rfl | rfl | rfl <;> first | assumption | exact inI64.2 (by decide)
theorem plain_r : rightC ⟨1, 2, 2, 1, 3, [1, 0], 5, 3, 2, 2, 20, 20, 5, 10, 3, 50, 3, 1000, 1500, 700, 30, 20, 40, 5, 10, 5, 10, 4, 3, 5⟩ = true := by decide +kernel
section
variable {fence : Int} {known : Plan} {hold : Hold} {begun filled : Int} {c : Config} {index : Int} {well : Bool} {l : List Entry} {cl : List (List Int)} {fuse : Int} {down : Bool} {s t : List Int}
theorem handle_up {m : Msg} {now : Int} (hs : Shm m) (hr : rightM m = true) (hn : 0 ≤ now ∧ now ≤ 1099511627776) : Target_Handle m now fence known hold begun filled c index well l cl fuse false s t = Target_Handle_1 m now fence known hold begun filled c index well l cl fuse false s t false := by
  have a : decide (now < 0) = false := decide_eq_false (by omega)
  have b : decide (now > 1099511627776) = false := decide_eq_false (by omega)
  simp only [Target_Handle, mright_ok hs, hr, Option.bind_some, Bool.not_true, cond_false, a, b, Journal_Down]
theorem probe_ok {f n now : Int} (hc : rightC c = true) (hi : 0 ≤ index ∧ index ≤ 16) (hf : 0 ≤ f ∧ f ≤ 255) (hn : 0 ≤ now ∧ now ≤ 1099511627776) :
    Target_Handle ⟨1, f, 0, 0, 0, 0, n, 0, 0, 0, false, zeroPl, [], [], []⟩ now fence known hold begun filled c index well l cl fuse false s t = some ((if well = true then [⟨2, nodeT c index, f, 0, 0, 0, n, 0, 0, 0, false, zeroPl, [], [], []⟩] else []), fence, known, hold, begun, filled, fuse, false, l, cl, s, t) := by
  rw [handle_up (zeroShm ..) (zeroRight (by decide) hf (by decide) (by decide)) hn]
  cases well with
  | true => simp [Target_Handle_1, Target_reply, node_ok hc hi, zeroPl]
  | false => simp [Target_Handle_1]
end
theorem head18_ok : law18_head = some true := by
  have ht : (⟨1, 2, 2, 1, 3, [1, 0], 5, 3, 2, 2, 20, 20, 5, 10, 3, 50, 3, 1000, 1500, 700, 30, 20, 40, 5, 10, 5, 10, 4, 3, 5⟩ : Config).Tiers.length < 9223372036854775807 := by decide
  have n1 := new_ok (index := 1) ht
  have n2 := new_ok (index := 2) ht
  rw [if_pos ⟨plain_r, by decide, by decide⟩] at n1
  rw [if_neg (by decide)] at n2
  have f0 : okFuse (-1) := by unfold okFuse; omega
  have hrec : okRec ⟨19, 0, 0, 2, 0, 0, 0, 0, 0, 0, false, zeroPl, [], [], []⟩ := zeroRec (by decide) (inI64.2 (by decide))
  have rem := fun c : Config => remember_ok (known := zeroC_ c) (hold := ⟨0, 0, 0, 0⟩) (begun := 0) (filled := 0) (c := c) (index := 1) (well := true) (fence := 0) (l := []) (cl := []) (s := []) hrec f0 (by simp) (by simp) (by simp)
  simp only [eff, fd, Bool.false_eq_true, false_or, show ¬ ((-1 : Int) = 0) by decide, if_false, show ¬ (0 < (-1 : Int)) by decide, List.nil_append, takeT, if_true, mxI] at rem
  unfold zeroPl at rem
  have hu := fun c : Config => handle_up (m := ⟨12, 3, 0, 2, 0, 0, 0, 0, 0, 0, false, zeroPl, [], [], []⟩) (now := 5) (known := zeroC_ c) (hold := ⟨0, 0, 0, 0⟩) (begun := 0) (filled := 0) (c := c) (index := 1) (well := true) (fence := 0) (l := []) (cl := []) (s := []) (t := []) (fuse := -1) (zeroShm ..) (zeroRight (by decide) (by decide) (by decide) (by decide)) (by decide)
  have nd := node_ok plain_r (i := 1) (by decide)
  have pb := fun (k : Plan) (s : List Int) => probe_ok (f := 9) (n := 4) (now := 5) (fence := 2) (known := k) (hold := ⟨0, 0, 0, 0⟩) (begun := 0) (filled := 0) (index := 1) (well := true) (l := []) (cl := []) (s := s) (t := []) (fuse := -1) plain_r (by decide) (by decide) (by decide)
  unfold zeroPl at hu pb
  have e1 : decide ((2 : Int) ≥ 1) = true := rfl
  have e2 : decide ((2 : Int) ≤ 0) = false := rfl
  simp only [law18_head, law13_Plain, Option.bind_some, n1, law18_head_2, n2, Target_Journal, law18_head_4, cond_false]
  simp only [hu, Target_Handle_1, Target_Handle_3, Target_reply, nd, rem, cond_false, cond_true, Option.bind_some, e1, e2, show ((12 : Int) == 1) = false from rfl, show ((12 : Int) == 9) = false from rfl, show ((12 : Int) == 12) = true from rfl, show (if (0 : Int) < 2 then (2 : Int) else 0) = 2 from rfl, pb, if_true, Target_Fence]
  rfl
end Go.RX.L

set_option maxHeartbeats 4000000
namespace Go.RX.L
open Go Go.RX Go.Proofs
attribute [local irreducible] FinQ
noncomputable def lease_Ask_c := codeAt (bodyOf Tryd.f40)
noncomputable def lease_Ask_e (y : Hold) : D × Sto := (.agg [.int .i64 y.Epoch, .int .i64 y.Nonce, .int .u64 y.Grants, .int .i64 y.Until], [])
abbrev lease_Ask_W (epoch now : Int) := AOk E (Cx.of Tryd.f40 false 0) lease_Ask_e
noncomputable def lease_Ask_1M (epoch now : Int) (h_2 b1 : Hold) : M := ⟨[.code (lease_Ask_c [1, 1])], [(1, .int .i64 epoch), (2, .int .i64 now), (3, .ptr 0 0 0), (6, .ptr 1 0 0)], [some ⟨4, false, [(Hold.enc h_2)]⟩, some ⟨4, false, [(Hold.enc b1)]⟩]⟩
noncomputable def lease_Ask_1 (epoch now : Int) (h_2 b1 : Hold) : Option Hold := (some (⟨epoch, now, 0, h_2.Until⟩ : Hold))
theorem lease_Ask_1_ok {epoch now h_2 b1} : lease_Ask_W epoch now (lease_Ask_1M epoch now h_2 b1) (lease_Ask_1 epoch now h_2 b1) := by
 intro r h; unfold lease_Ask_1 at h
 exact zu 14 h
noncomputable def lease_Ask (h_ : Hold) (epoch now : Int) : Option Hold := (bif ((h_.Epoch : Int) != epoch) then (lease_Ask_1 epoch now (⟨h_.Epoch, h_.Nonce, h_.Grants, 0⟩ : Hold) (⟨0, 0, 0, 0⟩ : Hold)) else (lease_Ask_1 epoch now h_ (⟨0, 0, 0, 0⟩ : Hold)))
theorem lease_Ask_ok {h_ : Hold} {epoch now : Int} {r : Hold} (h : lease_Ask h_ epoch now = some r) : Sound E 40 [.agg [.int .i64 h_.Epoch, .int .i64 h_.Nonce, .int .u64 h_.Grants, .int .i64 h_.Until], .int .i64 epoch, .int .i64 now] [] (Rs lease_Ask_e r) := so (fn := Tryd.f40) (k := false) (m := 0) h <| by
 intro r h; unfold lease_Ask at h
 refine zs 15 h (fun h => ?_) fun h => ?_
 ·
  exact zg 6 (lease_Ask_1_ok h)
 exact zg 1 (lease_Ask_1_ok h)
end Go.RX.L

namespace Go.RX.L
open Go Go.RX
def cnt (g : Nat) : Nat → Nat
  | 0 => 0
  | n + 1 => cnt g n + (if g.testBit n then 1 else 0)
theorem cnt_mod (m k : Nat) : ∀ n, cnt (m % 2 ^ k) n = cnt m (min k n)
  | 0 => by simp [cnt]
  | n + 1 => by
    unfold cnt
    rw [cnt_mod m k n, Nat.testBit_mod_two_pow]
    by_cases h : n < k
    · rw [show min k n = n by omega, show min k (n + 1) = n + 1 by omega]
      simp [cnt, h]
    · rw [show min k n = k by omega, show min k (n + 1) = k by omega]
      simp [h]
      cases k <;> simp [cnt]
noncomputable def onesAll : Bool := (List.range 128).all fun n => decide (math_bits_OnesCount64 (n : Int) = some (cnt n 7 : Int))
theorem onesAll_ok : onesAll = true := by kernel_rfl
theorem ones_ok {n : Nat} (h : n < 128) : math_bits_OnesCount64 (n : Int) = some (cnt n 7 : Int) := by
  have := List.all_eq_true.1 onesAll_ok n (List.mem_range.2 h)
  exact of_decide_eq_true this
def fN (c : Config) : Nat := (mnI (mxI c.F_ 0) 3).toNat
theorem fN_le (c : Config) : fN c ≤ 3 := by unfold fN mnI mxI; split <;> split <;> omega
theorem fN_eq (c : Config) : mnI (mxI c.F_ 0) 3 = (fN c : Int) := by unfold fN mnI mxI; split <;> split <;> omega
def mostP (c : Config) (g : Nat) : Bool := decide (fN c < cnt g (2 * fN c + 1))
theorem most_ok (c : Config) {g : Nat} (hg : g < 18446744073709551616) : proposer_Most c g = some (mostP c g) := by
  have hf := fN_le c
  have p1 : (2 : Nat) ^ (2 * fN c + 1) ≤ 2 ^ 7 := Nat.pow_le_pow_right (by decide) (by omega)
  have p0 : 0 < (2 : Nat) ^ (2 * fN c + 1) := Nat.pow_pos (by decide)
  have e1 : IntKind.i64.wrap ((IntKind.i64.wrap ((2 : Int) * (fN c : Int))) + 1) = ((2 * fN c + 1 : Nat) : Int) := by
    rw [wI64 (n := 2 * (fN c : Int)) (by omega) (by omega), wI64 (by omega) (by omega)]; rfl
  have e2 : IntKind.u64.wrap (((2 ^ (2 * fN c + 1) : Nat) : Int) - 1) = ((2 ^ (2 * fN c + 1) - 1 : Nat) : Int) := by
    rw [wU64 (by omega) (by omega)]; omega
  have e3 : g &&& (2 ^ (2 * fN c + 1) - 1) = g % 2 ^ (2 * fN c + 1) := Nat.and_two_pow_sub_one_eq_mod g _
  have l3 : g % 2 ^ (2 * fN c + 1) < 128 := Nat.lt_of_lt_of_le (Nat.mod_lt _ p0) (by omega)
  unfold proposer_Most proposer_more
  simp only [Option.bind_some, fN_eq, e1, nn0, cond_true]
  rw [shlI64 (by omega), e2, andI64 hg (by omega), e3, ones_ok l3, cnt_mod, show min (2 * fN c + 1) 7 = 2 * fN c + 1 by omega]
  simp [mostP]
def askP (h : Hold) (e n : Int) : Hold := ⟨e, n, 0, if h.Epoch = e then h.Until else 0⟩
theorem ask_ok (h : Hold) (e n : Int) : lease_Ask h e n = some (askP h e n) := by
  unfold lease_Ask lease_Ask_1 askP
  by_cases x : h.Epoch = e
  · simp [x]
  · simp [x, bne, beq_eq_false_iff_ne.2 x]
def liveP (h : Hold) (e n : Int) : Bool := decide (h.Epoch = e) && decide (n < h.Until)
theorem live_ok (h : Hold) (e n : Int) : lease_Live h e n = some (liveP h e n) := by
  unfold lease_Live liveP
  by_cases x : h.Epoch = e
  · simp [x]
  · simp [x, bne, beq_eq_false_iff_ne.2 x]
def goodP (h : Hold) (c : Config) (m : Msg) : Bool := decide (m.Kind = 11) && (decide (h.Epoch = m.Epoch) && (decide (h.Nonce = m.Nonce) && (!decide (m.From < 0) && (!decide (m.From > 2 * (fN c : Int)) && (!decide (h.Nonce < 0) && !decide (h.Nonce > 1099511627776))))))
def lP (c : Config) : Int := mnI (mxI c.L_ 0) 1048576
theorem lP_le (c : Config) : 0 ≤ lP c ∧ lP c ≤ 1048576 := by unfold lP mnI mxI; split <;> split <;> omega
def givenP (h : Hold) (c : Config) (k : Nat) : Hold := ⟨h.Epoch, h.Nonce, (h.Grants.toNat ||| 2 ^ k : Nat), bif mostP c (h.Grants.toNat ||| 2 ^ k) then mxI h.Until (h.Nonce + lP c) else h.Until⟩
def grantP (h : Hold) (c : Config) (m : Msg) : Hold := if goodP h c m then givenP h c m.From.toNat else h
theorem or_lt {g k : Nat} (hg : g < 18446744073709551616) (hk : k ≤ 6) : g ||| 2 ^ k < 18446744073709551616 :=
  Nat.or_lt_two_pow (n := 64) (by omega) (Nat.lt_of_le_of_lt (Nat.pow_le_pow_right (by decide) hk) (by decide))
theorem given_ok (h : Hold) (c : Config) (m : Msg) (b : Hold) (hg : inK .u64 h.Grants) (hh : goodP h c m = true) : lease_Grant_1 h c m false b = some (givenP h c m.From.toNat) := by
  have hg' := inU64.1 hg
  have hf := fN_le c
  have hl := lP_le c
  simp only [goodP, Bool.and_eq_true, Bool.not_eq_true', decide_eq_true_eq, decide_eq_false_iff_not] at hh
  obtain ⟨-, -, -, h1, h2, h3, h4⟩ := hh
  obtain ⟨k, hk⟩ := Int.eq_ofNat_of_zero_le (show 0 ≤ m.From by omega)
  obtain ⟨g, hgg⟩ := Int.eq_ofNat_of_zero_le hg'.1
  have hgl : g < 18446744073709551616 := by omega
  have hp : (2 : Nat) ^ k ≤ 2 ^ 6 := Nat.pow_le_pow_right (by decide) (by omega)
  have w : IntKind.i64.wrap (h.Nonce + lP c) = h.Nonce + lP c := wI64 (by omega) (by omega)
  unfold lease_Grant_1
  rw [hk, hgg, shlI64 (by omega), orI64 hgl (by omega), most_ok c (or_lt hgl (by omega))]
  change (bif _ then _ else _) = _
  simp only [cond_false, nn0, cond_true, Option.bind_some]
  rw [show mnI (mxI c.L_ 0) 1048576 = lP c from rfl, w]
  unfold givenP
  rw [hgg]
  simp only [Int.toNat_natCast]
  cases mostP c (g ||| 2 ^ k) <;> rfl
theorem grant_ok (h : Hold) (c : Config) (m : Msg) (hg : inK .u64 h.Grants) : lease_Grant h c m = some (grantP h c m) := by
  have hf := fN_le c
  have e2 : IntKind.i64.wrap ((2 : Int) * (fN c : Int)) = 2 * (fN c : Int) := wI64 (by omega) (by omega)
  have no : ∀ b, lease_Grant_1 h c m true b = some h := fun b => rfl
  unfold lease_Grant
  rw [fN_eq, e2]
  by_cases h1 : m.Kind = 11
  · by_cases h2 : h.Epoch = m.Epoch
    · by_cases h3 : h.Nonce = m.Nonce
      · by_cases h4 : m.From < 0
        · simp [grantP, goodP, h1, h2, h3, h4, no]
        · by_cases h5 : m.From > 2 * (fN c : Int)
          · simp [grantP, goodP, h1, h2, h3, h4, h5, no]
          · by_cases h6 : h.Nonce < 0
            · have h6' := h6
              rw [h3] at h6'
              simp [grantP, goodP, h1, h2, h3, h4, h5, h6', no]
            · by_cases h7 : h.Nonce > 1099511627776
              · have h6' := h6
                have h7' := h7
                rw [h3] at h6' h7'
                rw [show grantP h c m = h from if_neg (by simp [goodP, decide_eq_true h7])]
                simp only [h1, h2, ← h3, h4, h5, bne_self_eq_false, beq_self_eq_true, Bool.and_true, Bool.not_true, cond_false, decide_false, h6, decide_eq_true h7, no]
              · have gd : goodP h c m = true := by simp only [goodP, decide_eq_true h1, decide_eq_true h2, decide_eq_true h3, decide_eq_false h4, decide_eq_false h5, decide_eq_false h6, decide_eq_false h7]; rfl
                rw [show grantP h c m = givenP h c m.From.toNat from if_pos gd]
                simp only [h1, h2, ← h3, h4, h5, bne_self_eq_false, beq_self_eq_true, Bool.and_true, Bool.not_true, cond_false, decide_false, h6, h7]
                exact given_ok h c m _ hg gd
      · simp [grantP, goodP, h1, h2, h3, no, beq_eq_false_iff_ne.2 h3]
    · simp [grantP, goodP, h1, h2, no, beq_eq_false_iff_ne.2 h2]
  · have hb : (m.Kind != 11) = true := by simpa using h1
    simp [grantP, goodP, hb, h1, no]
theorem given_u64 (h : Hold) (c : Config) {k : Nat} (hg : inK .u64 h.Grants) (hk : k ≤ 6) : inK .u64 (givenP h c k).Grants := by
  have hg' := inU64.1 hg
  have := or_lt (g := h.Grants.toNat) (k := k) (by omega) hk
  exact inU64.2 ⟨Int.natCast_nonneg _, by show ((h.Grants.toNat ||| 2 ^ k : Nat) : Int) ≤ _; omega⟩
theorem good_from {h : Hold} {c : Config} {m : Msg} (hh : goodP h c m = true) : 0 ≤ m.From ∧ m.From ≤ 2 * (fN c : Int) ∧ 0 ≤ h.Nonce ∧ h.Nonce ≤ 1099511627776 := by
  simp only [goodP, Bool.and_eq_true, Bool.not_eq_true', decide_eq_true_eq, decide_eq_false_iff_not] at hh
  omega
theorem grant_u64 (h : Hold) (c : Config) (m : Msg) (hg : inK .u64 h.Grants) : inK .u64 (grantP h c m).Grants := by
  unfold grantP
  split
  · rename_i hh
    have := good_from hh
    have := fN_le c
    exact given_u64 h c hg (by omega)
  · exact hg
end Go.RX.L

namespace Go.RX.L
open Go Go.RX Go.Proofs
attribute [local irreducible] FinQ
noncomputable def Target_Tick_c := codeAt (bodyOf Tryd.f15)
noncomputable def Target_Tick_e (fence : Int) (known : Plan) (begun filled : Int) (c : Config) (index : Int) (well : Bool) (b1 : List Entry) (b2 : List (List Int)) (fuse : Int) (down : Bool) (b4 b5 : List Int) (y : (List Msg) × Hold) : D × Sto := (.sl false 26 (List.map Msg.enc y.1), [some ⟨54, true, [([.int .i64 fence] ++ Plan.encL known ([.int .i64 y.2.Epoch, .int .i64 y.2.Nonce, .int .u64 y.2.Grants, .int .i64 y.2.Until, (grD 1 (List.map Entry.enc b1)), (grD 2 (List.map (eSl 1 (eInt .i64)) b2)), .int .i64 begun, .int .i64 filled] ++ Config.encL c [.int .i64 index, .ptr 3 0 0, .bool well]))]⟩, some ⟨3, false, (List.map Entry.enc b1)⟩, some ⟨1, false, (List.map (eSl 1 (eInt .i64)) b2)⟩, some ⟨4, true, [[(grD 4 (List.map (eInt .u8) b4)), (grD 5 (List.map (eInt .u8) b5)), .int .i64 fuse, .bool down]]⟩, some ⟨1, false, (List.map (eInt .u8) b4)⟩, some ⟨1, false, (List.map (eInt .u8) b5)⟩])
inductive Target_Tick_S where
 | s0
 | s3 (epoch : Int) (t14 : Bool)
 | s2 (epoch : Int) (t35 : Bool)
 | s1 (epoch t78 t79 : Int) (hold2 : Hold) (out : List Msg)
noncomputable def Target_Tick_M (now fence : Int) (known : Plan) (hold : Hold) (begun filled : Int) (c : Config) (index : Int) (well : Bool) (b1 : List Entry) (b2 : List (List Int)) (fuse : Int) (down : Bool) (b4 b5 : List Int) : Target_Tick_S → M
 | .s0 => startM Tryd.f15 [.ptr 0 0 0, .int .i64 now] [some ⟨54, true, [([.int .i64 fence] ++ Plan.encL known ([.int .i64 hold.Epoch, .int .i64 hold.Nonce, .int .u64 hold.Grants, .int .i64 hold.Until, (grD 1 (List.map Entry.enc b1)), (grD 2 (List.map (eSl 1 (eInt .i64)) b2)), .int .i64 begun, .int .i64 filled] ++ Config.encL c [.int .i64 index, .ptr 3 0 0, .bool well]))]⟩, some ⟨3, false, (List.map Entry.enc b1)⟩, some ⟨1, false, (List.map (eSl 1 (eInt .i64)) b2)⟩, some ⟨4, true, [[(grD 4 (List.map (eInt .u8) b4)), (grD 5 (List.map (eInt .u8) b5)), .int .i64 fuse, .bool down]]⟩, some ⟨1, false, (List.map (eInt .u8) b4)⟩, some ⟨1, false, (List.map (eInt .u8) b5)⟩]
 | .s3 epoch t14 => ⟨[.code (Target_Tick_c [1, 1, 0, 0, 1]), .blk 0, .code (Target_Tick_c [1, 1, 1])], [(0, .ptr 0 0 0), (1, .int .i64 now), (5, .int .i64 epoch), (14, .bool t14)], [some ⟨54, true, [([.int .i64 fence] ++ Plan.encL known ([.int .i64 hold.Epoch, .int .i64 hold.Nonce, .int .u64 hold.Grants, .int .i64 hold.Until, (grD 1 (List.map Entry.enc b1)), (grD 2 (List.map (eSl 1 (eInt .i64)) b2)), .int .i64 begun, .int .i64 filled] ++ Config.encL c [.int .i64 index, .ptr 3 0 0, .bool well]))]⟩, some ⟨3, false, (List.map Entry.enc b1)⟩, some ⟨1, false, (List.map (eSl 1 (eInt .i64)) b2)⟩, some ⟨4, true, [[(grD 4 (List.map (eInt .u8) b4)), (grD 5 (List.map (eInt .u8) b5)), .int .i64 fuse, .bool down]]⟩, some ⟨1, false, (List.map (eInt .u8) b4)⟩, some ⟨1, false, (List.map (eInt .u8) b5)⟩]⟩
 | .s2 epoch t35 => ⟨[.code (Target_Tick_c [1, 1, 0, 0, 1, 1, 1]), .blk 0, .code (Target_Tick_c [1, 1, 1])], [(0, .ptr 0 0 0), (1, .int .i64 now), (5, .int .i64 epoch), (35, .bool t35)], [some ⟨54, true, [([.int .i64 fence] ++ Plan.encL known ([.int .i64 hold.Epoch, .int .i64 hold.Nonce, .int .u64 hold.Grants, .int .i64 hold.Until, (grD 1 (List.map Entry.enc b1)), (grD 2 (List.map (eSl 1 (eInt .i64)) b2)), .int .i64 begun, .int .i64 filled] ++ Config.encL c [.int .i64 index, .ptr 3 0 0, .bool well]))]⟩, some ⟨3, false, (List.map Entry.enc b1)⟩, some ⟨1, false, (List.map (eSl 1 (eInt .i64)) b2)⟩, some ⟨4, true, [[(grD 4 (List.map (eInt .u8) b4)), (grD 5 (List.map (eInt .u8) b5)), .int .i64 fuse, .bool down]]⟩, some ⟨1, false, (List.map (eInt .u8) b4)⟩, some ⟨1, false, (List.map (eInt .u8) b5)⟩]⟩
 | .s1 epoch t78 t79 hold2 out => ⟨[.lpc (Target_Tick_c [1, 1, 1, 1, 1, 0, 1, 0, 0]) 906694364710971881029731, .blk 1, .code (Target_Tick_c [1, 1, 1, 1, 1, 1])], [(0, .ptr 0 0 0), (1, .int .i64 now), (5, .int .i64 epoch), (6, (grD 6 (List.map Msg.enc out))), (78, .int .i64 t78), (79, .int .i64 t79)], [some ⟨54, true, [([.int .i64 fence] ++ Plan.encL known ([.int .i64 hold2.Epoch, .int .i64 hold2.Nonce, .int .u64 hold2.Grants, .int .i64 hold2.Until, (grD 1 (List.map Entry.enc b1)), (grD 2 (List.map (eSl 1 (eInt .i64)) b2)), .int .i64 begun, .int .i64 filled] ++ Config.encL c [.int .i64 index, .ptr 3 0 0, .bool well]))]⟩, some ⟨3, false, (List.map Entry.enc b1)⟩, some ⟨1, false, (List.map (eSl 1 (eInt .i64)) b2)⟩, some ⟨4, true, [[(grD 4 (List.map (eInt .u8) b4)), (grD 5 (List.map (eInt .u8) b5)), .int .i64 fuse, .bool down]]⟩, some ⟨1, false, (List.map (eInt .u8) b4)⟩, some ⟨1, false, (List.map (eInt .u8) b5)⟩, some ⟨26, false, (List.map Msg.enc out)⟩]⟩
abbrev Target_Tick_W (now fence : Int) (known : Plan) (hold : Hold) (begun filled : Int) (c : Config) (index : Int) (well : Bool) (b1 : List Entry) (b2 : List (List Int)) (fuse : Int) (down : Bool) (b4 b5 : List Int) := SOk E (Cx.of Tryd.f15 true 6) (Target_Tick_e fence known begun filled c index well b1 b2 fuse down b4 b5) (Target_Tick_M now fence known hold begun filled c index well b1 b2 fuse down b4 b5)
noncomputable def Target_Tick_0 (now fence : Int) (known : Plan) (hold : Hold) (begun filled : Int) (c : Config) (index : Int) (well : Bool) (b1 : List Entry) (b2 : List (List Int)) (fuse : Int) (down : Bool) (b4 b5 : List Int) : Option (Target_Tick_S ⊕ ((List Msg) × Hold)) := (bif (decide ((now : Int) < 0)) then (some (.inl (.s3 known.Epoch (decide ((now : Int) < 0))))) else (bif (decide ((now : Int) > 1099511627776)) then (some (.inl (.s3 known.Epoch (decide ((now : Int) > 1099511627776))))) else ((Journal_Down (⟨b4, b5, fuse, down⟩ : Journal)).bind fun y3 => (bif y3 then (some (.inl (.s3 known.Epoch y3))) else ((plan_Names known index).bind fun y5 => (some (.inl (.s3 known.Epoch (!y5)))))))))
noncomputable def Target_Tick_3 (now fence : Int) (known : Plan) (hold : Hold) (begun filled : Int) (c : Config) (index : Int) (well : Bool) (b1 : List Entry) (b2 : List (List Int)) (fuse : Int) (down : Bool) (b4 b5 : List Int) (epoch : Int) (t14 : Bool) : Option (Target_Tick_S ⊕ ((List Msg) × Hold)) := (bif t14 then (some (.inr ([], hold))) else (bif ((hold.Epoch : Int) == epoch) then (some (.inl (.s2 epoch (decide ((now : Int) < (IntKind.i64.wrap (hold.Nonce + (mxI (IntKind.i64.wrap (Int.tdiv c.L_ 2)) 1)))))))) else (some (.inl (.s2 epoch false)))))
noncomputable def Target_Tick_2 (now fence : Int) (known : Plan) (hold : Hold) (begun filled : Int) (c : Config) (index : Int) (well : Bool) (b1 : List Entry) (b2 : List (List Int)) (fuse : Int) (down : Bool) (b4 b5 : List Int) (epoch : Int) (t35 : Bool) : Option (Target_Tick_S ⊕ ((List Msg) × Hold)) := (bif t35 then (some (.inr ([], hold))) else ((lease_Ask hold epoch now).bind fun y2 => ((api_Acceptors c).bind fun y3 => (some (.inl (.s1 epoch y3 0 y2 ([])))))))
noncomputable def Target_Tick_1 (now fence : Int) (known : Plan) (hold : Hold) (begun filled : Int) (c : Config) (index : Int) (well : Bool) (b1 : List Entry) (b2 : List (List Int)) (fuse : Int) (down : Bool) (b4 b5 : List Int) (epoch t78 t79 : Int) (hold2 : Hold) (out : List Msg) : Option (Target_Tick_S ⊕ ((List Msg) × Hold)) := (bif (decide ((t79 : Int) < t78)) then ((api_TargetNode c index).bind fun y2 => (bif (decide (((List.map Msg.enc out).length + 1) * 288 ≤ bytesLim)) then (some (.inl (.s1 epoch t78 (IntKind.i64.wrap (t79 + 1)) hold2 (out ++ [(⟨10, y2, t79, epoch, 0, 0, now, 0, 0, 1, false, (⟨0, 0, 0, 0, 0, 0, 0, 0, 0, 0, [], []⟩ : Plan), [], [], []⟩ : Msg)])))) else none)) else (some (.inr (out, hold2))))
noncomputable def Target_Tick_step (now fence : Int) (known : Plan) (hold : Hold) (begun filled : Int) (c : Config) (index : Int) (well : Bool) (b1 : List Entry) (b2 : List (List Int)) (fuse : Int) (down : Bool) (b4 b5 : List Int) : Target_Tick_S → Option (Target_Tick_S ⊕ ((List Msg) × Hold))
 | .s0 => Target_Tick_0 now fence known hold begun filled c index well b1 b2 fuse down b4 b5
 | .s3 epoch t14 => Target_Tick_3 now fence known hold begun filled c index well b1 b2 fuse down b4 b5 epoch t14
 | .s2 epoch t35 => Target_Tick_2 now fence known hold begun filled c index well b1 b2 fuse down b4 b5 epoch t35
 | .s1 epoch t78 t79 hold2 out => Target_Tick_1 now fence known hold begun filled c index well b1 b2 fuse down b4 b5 epoch t78 t79 hold2 out
theorem Target_Tick_0_ok {now fence known hold begun filled c index well b1 b2 fuse down b4 b5} : Target_Tick_W now fence known hold begun filled c index well b1 b2 fuse down b4 b5 .s0 (Target_Tick_0 now fence known hold begun filled c index well b1 b2 fuse down b4 b5) := by
 intro r x h ha; unfold Target_Tick_0 at h
 refine zs 25 h (fun h => ?_) fun h => ?_
 ·
  exact zk 1 h ha
 refine zs 7 h (fun h => ?_) fun h => ?_
 ·
  exact zk 1 h ha
 refine zm 8 (b := (Nat.ble (0 + (List.map (eInt .u8) b4).length) ((List.map (eInt .u8) b4).length))) (ble_full _) ?_
 refine zm 0 (b := (Nat.ble (0 + (List.map (eInt .u8) b5).length) ((List.map (eInt .u8) b5).length))) (ble_full _) ?_
 refine zcE 0 [] (args1 := [.iptr 4 [[.sl false 1 (List.take ((List.map (eInt .u8) b4).length) (List.drop 0 (List.map (eInt .u8) b4))), .sl false 1 (List.take ((List.map (eInt .u8) b5).length) (List.drop 0 (List.map (eInt .u8) b5))), .int .i64 fuse, .bool down]] 0 0]) h (fun _ => Journal_Down_ok) ⟨by simp [List.take_of_length_le, List.map_take, List.map_drop], rfl⟩ fun y3 h => ?_
 refine zs 3 h (fun h => ?_) fun h => ?_
 ·
  exact zk 1 h ha
 refine zd 3 [] h (fun _ => plan_Names_ok) fun y5 h => ?_
 exact zk 0 h ha
theorem Target_Tick_3_ok {now fence known hold begun filled c index well b1 b2 fuse down b4 b5 epoch t14} : Target_Tick_W now fence known hold begun filled c index well b1 b2 fuse down b4 b5 (.s3 epoch t14) (Target_Tick_3 now fence known hold begun filled c index well b1 b2 fuse down b4 b5 epoch t14) := by
 intro r x h ha; unfold Target_Tick_3 at h
 refine zs 1 h (fun h => ?_) fun h => ?_
 ·
  exact zt 5 h ha [.slot 0 [some 26]]
 refine zs 3 h (fun h => ?_) fun h => ?_
 ·
  exact zk 19 h ha
 exact zk 16 h ha
theorem Target_Tick_2_ok {now fence known hold begun filled c index well b1 b2 fuse down b4 b5 epoch t35} : Target_Tick_W now fence known hold begun filled c index well b1 b2 fuse down b4 b5 (.s2 epoch t35) (Target_Tick_2 now fence known hold begun filled c index well b1 b2 fuse down b4 b5 epoch t35) := by
 intro r x h ha; unfold Target_Tick_2 at h
 refine zs 1 h (fun h => ?_) fun h => ?_
 ·
  exact zt 5 h ha [.slot 0 [some 26]]
 refine zc 14 [] h (fun _ => lease_Ask_ok) fun y2 h => ?_
 refine zc 20 [] h (fun _ => api_Acceptors_ok) fun y3 h => ?_
 refine adv_ok hm 5 _ ?_
 obtain rfl := Option.some.inj h
 refine r_cut 906694364710971881029731 [.mat 6 26] (m' := ⟨[.lpc (Target_Tick_c [1, 1, 1, 1, 1, 0, 1, 0, 0]) 906694364710971881029731, .blk 1, .code (Target_Tick_c [1, 1, 1, 1, 1, 1])], [(0, .ptr 0 0 0), (1, .int .i64 now), (5, .int .i64 epoch), (6, .msl 6 0 0 0 false), (78, .int .i64 y3), (79, .int .i64 0)], [some ⟨54, true, [([.int .i64 fence] ++ Plan.encL known ([.int .i64 y2.Epoch, .int .i64 y2.Nonce, .int .u64 y2.Grants, .int .i64 y2.Until, (grD 1 (List.map Entry.enc b1)), (grD 2 (List.map (eSl 1 (eInt .i64)) b2)), .int .i64 begun, .int .i64 filled] ++ Config.encL c [.int .i64 index, .ptr 3 0 0, .bool well]))]⟩, some ⟨3, false, (List.map Entry.enc b1)⟩, some ⟨1, false, (List.map (eSl 1 (eInt .i64)) b2)⟩, some ⟨4, true, [[(grD 4 (List.map (eInt .u8) b4)), (grD 5 (List.map (eInt .u8) b5)), .int .i64 fuse, .bool down]]⟩, some ⟨1, false, (List.map (eInt .u8) b4)⟩, some ⟨1, false, (List.map (eInt .u8) b5)⟩, some ⟨26, false, []⟩]⟩) (by kernel_rfl) ?_
 refine r_len (n1 := 0) (n2 := (List.map Msg.enc ([])).length) (fun n_len => .go ⟨[.lpc (Target_Tick_c [1, 1, 1, 1, 1, 0, 1, 0, 0]) 906694364710971881029731, .blk 1, .code (Target_Tick_c [1, 1, 1, 1, 1, 1])], [(0, .ptr 0 0 0), (1, .int .i64 now), (5, .int .i64 epoch), (6, .msl 6 0 n_len n_len false), (78, .int .i64 y3), (79, .int .i64 0)], [some ⟨54, true, [([.int .i64 fence] ++ Plan.encL known ([.int .i64 y2.Epoch, .int .i64 y2.Nonce, .int .u64 y2.Grants, .int .i64 y2.Until, (grD 1 (List.map Entry.enc b1)), (grD 2 (List.map (eSl 1 (eInt .i64)) b2)), .int .i64 begun, .int .i64 filled] ++ Config.encL c [.int .i64 index, .ptr 3 0 0, .bool well]))]⟩, some ⟨3, false, (List.map Entry.enc b1)⟩, some ⟨1, false, (List.map (eSl 1 (eInt .i64)) b2)⟩, some ⟨4, true, [[(grD 4 (List.map (eInt .u8) b4)), (grD 5 (List.map (eInt .u8) b5)), .int .i64 fuse, .bool down]]⟩, some ⟨1, false, (List.map (eInt .u8) b4)⟩, some ⟨1, false, (List.map (eInt .u8) b5)⟩, some ⟨26, false, []⟩]⟩) (by simp) ?_
 exact ha
theorem Target_Tick_1_ok {now fence known hold begun filled c index well b1 b2 fuse down b4 b5 epoch t78 t79 hold2 out} : Target_Tick_W now fence known hold begun filled c index well b1 b2 fuse down b4 b5 (.s1 epoch t78 t79 hold2 out) (Target_Tick_1 now fence known hold begun filled c index well b1 b2 fuse down b4 b5 epoch t78 t79 hold2 out) := by
 intro r x h ha; unfold Target_Tick_1 at h
 refine zs 7 h (fun h => ?_) fun h => ?_
 ·
  refine zd 11 [] h (fun _ => api_TargetNode_ok) fun y2 h => ?_
  refine zn 0 h fun h => ?_
  refine za 0 Msg.enc out ([(⟨10, y2, t79, epoch, 0, 0, now, 0, 0, 1, false, (⟨0, 0, 0, 0, 0, 0, 0, 0, 0, 0, [], []⟩ : Plan), [], [], []⟩ : Msg)]) ?_
  exact zj 6 h ha
 refine adv_ok hm 6 _ ?_
 refine r_fzT 4 (n1 := (0 + (List.map Msg.enc out).length)) (n2 := ((List.map Msg.enc out).length)) (raw := (List.take ((List.map Msg.enc out).length) (List.drop 0 (List.map Msg.enc out)))) (rs := (List.map Msg.enc out)) (by kernel_rfl) (ble_full _) (by simp only [take_full, take_full', List.map_take, List.map_drop]) ?_
 exact zt 1 h ha
noncomputable def Target_Tick (now fence : Int) (known : Plan) (hold : Hold) (begun filled : Int) (c : Config) (index : Int) (well : Bool) (b1 : List Entry) (b2 : List (List Int)) (fuse : Int) (down : Bool) (b4 b5 : List Int) : Option ((List Msg) × Hold) := evf (Target_Tick_step now fence known hold begun filled c index well b1 b2 fuse down b4 b5) (.s0)
theorem Target_Tick_ok {now fence : Int} {known : Plan} {hold : Hold} {begun filled : Int} {c : Config} {index : Int} {well : Bool} {b1 : List Entry} {b2 : List (List Int)} {fuse : Int} {down : Bool} {b4 b5 : List Int} {r : (List Msg) × Hold} (h : Target_Tick now fence known hold begun filled c index well b1 b2 fuse down b4 b5 = some r) : Sound E 15 [.ptr 0 0 0, .int .i64 now] [some ⟨54, true, [([.int .i64 fence] ++ Plan.encL known ([.int .i64 hold.Epoch, .int .i64 hold.Nonce, .int .u64 hold.Grants, .int .i64 hold.Until, (grD 1 (List.map Entry.enc b1)), (grD 2 (List.map (eSl 1 (eInt .i64)) b2)), .int .i64 begun, .int .i64 filled] ++ Config.encL c [.int .i64 index, .ptr 3 0 0, .bool well]))]⟩, some ⟨3, false, (List.map Entry.enc b1)⟩, some ⟨1, false, (List.map (eSl 1 (eInt .i64)) b2)⟩, some ⟨4, true, [[(grD 4 (List.map (eInt .u8) b4)), (grD 5 (List.map (eInt .u8) b5)), .int .i64 fuse, .bool down]]⟩, some ⟨1, false, (List.map (eInt .u8) b4)⟩, some ⟨1, false, (List.map (eInt .u8) b5)⟩] (Rs (Target_Tick_e fence known begun filled c index well b1 b2 fuse down b4 b5) r) := sc (fn := Tryd.f15) (k := true) (m := 6) (stM := (Target_Tick_M now fence known hold begun filled c index well b1 b2 fuse down b4 b5)) h fun s => by
 cases s with
 | s0 => exact Target_Tick_0_ok
 | s3 => exact Target_Tick_3_ok
 | s2 => exact Target_Tick_2_ok
 | s1 => exact Target_Tick_1_ok
end Go.RX.L

namespace Go.RX.L
open Go Go.RX
theorem tsame_ok {a : List Int} {m : Msg} (h : a.length < 9223372036854775807) : Target_same a m = some (decide (a = m.ID)) := by
  simp only [Target_same, equal_v2_ok h, Option.bind_some]
theorem tis_ok {e : Entry} {m : Msg} (h : e.ID.length < 9223372036854775807) : Target_is e m = some (decide (e.ID = m.ID)) := by
  simp only [Target_is, tsame_ok h, Option.bind_some]
theorem ixis_ok {l : List Entry} {m : Msg} (hl : l.length < 1000000) (hs : ∀ e ∈ l, e.ID.length < 9223372036854775807) :
    ∃ r, slices_IndexFunc__is l m = some r ∧ ((∃ (i : Nat) (h : i < l.length), r = (i : Int) ∧ (l[i]).ID = m.ID) ∨ (r = -1 ∧ ∀ e ∈ l, e.ID ≠ m.ID)) := by
  have loop : ∀ (j k : Nat), k + j = l.length → (∀ (i : Nat) (h : i < l.length), i < k → (l[i]).ID ≠ m.ID) → ∃ r, Ev slices_IndexFunc__is_step (.s1 l m l.length (k : Int)) r ∧ ((∃ (i : Nat) (h : i < l.length), r = (i : Int) ∧ (l[i]).ID = m.ID) ∨ (r = -1 ∧ ∀ e ∈ l, e.ID ≠ m.ID)) := by
    intro j
    induction j with
    | zero =>
      intro k hk ha
      refine ⟨-1, .done ?_, .inr ⟨rfl, fun e he => ?_⟩⟩
      · have : decide ((k : Int) < (l.length : Int)) = false := by simp; omega
        simp only [slices_IndexFunc__is_step, slices_IndexFunc__is_1, this, cond_false]
      · obtain ⟨i, hi, rfl⟩ := List.mem_iff_getElem.1 he
        exact ha i hi (by omega)
    | succ j ih =>
      intro k hk ha
      have hlt : k < l.length := by omega
      have e := tis_ok (e := l[k]) (m := m) (hs _ (List.getElem_mem hlt))
      have w : IntKind.i64.wrap ((k : Int) + 1) = ((k + 1 : Nat) : Int) := by rw [wI64 (by omega) (by omega)]; norm_cast
      by_cases h : (l[k]).ID = m.ID
      · refine ⟨k, .done ?_, .inl ⟨k, hlt, rfl, h⟩⟩
        simp only [slices_IndexFunc__is_step, slices_IndexFunc__is_1, List.length_map, ltB hlt, le0, Bool.and_self, cond_true, Int.toNat_natCast, List.getE hlt, Option.bind_some, e, decide_eq_true h]
      · obtain ⟨r, h1, h2⟩ := ih (k + 1) (by omega) (fun i hi hik => by
          by_cases h3 : i = k
          · subst h3; exact h
          · exact ha i hi (by omega))
        refine ⟨r, .next (s' := .s1 l m l.length ((k + 1 : Nat) : Int)) ?_ h1, h2⟩
        simp only [slices_IndexFunc__is_step, slices_IndexFunc__is_1, List.length_map, ltB hlt, le0, Bool.and_self, cond_true, Int.toNat_natCast, List.getE hlt, Option.bind_some, e, decide_eq_false h, cond_false, w]
  obtain ⟨r, h1, h2⟩ := loop l.length 0 (by omega) (fun i _ h => by omega)
  exact ⟨r, evf_of (.next (s' := .s1 l m l.length 0) (by simp [slices_IndexFunc__is_step, slices_IndexFunc__is_0]) h1), h2⟩
theorem cfsame_ok {l : List (List Int)} {m : Msg} (hl : l.length < 1000000) (hs : ∀ e ∈ l, e.length < 9223372036854775807) :
    slices_ContainsFunc__same l m = some (decide (m.ID ∈ l)) := by
  have loop : ∀ (j k : Nat), k + j = l.length → (∀ (i : Nat) (h : i < l.length), i < k → l[i] ≠ m.ID) → ∃ r, Ev slices_IndexFunc__same_step (.s1 l m l.length (k : Int)) r ∧ decide (r ≥ 0) = decide (m.ID ∈ l) := by
    intro j
    induction j with
    | zero =>
      intro k hk ha
      refine ⟨-1, .done ?_, ?_⟩
      · have : decide ((k : Int) < (l.length : Int)) = false := by simp; omega
        simp only [slices_IndexFunc__same_step, slices_IndexFunc__same_1, this, cond_false]
      · have : ¬ m.ID ∈ l := fun he => by
          obtain ⟨i, hi, e⟩ := List.mem_iff_getElem.1 he
          exact ha i hi (by omega) e
        rw [decide_eq_false this]; rfl
    | succ j ih =>
      intro k hk ha
      have hlt : k < l.length := by omega
      have e := tsame_ok (a := l[k]) (m := m) (hs _ (List.getElem_mem hlt))
      have w : IntKind.i64.wrap ((k : Int) + 1) = ((k + 1 : Nat) : Int) := by rw [wI64 (by omega) (by omega)]; norm_cast
      by_cases h : l[k] = m.ID
      · refine ⟨k, .done ?_, ?_⟩
        · simp only [slices_IndexFunc__same_step, slices_IndexFunc__same_1, List.length_map, ltB hlt, le0, Bool.and_self, cond_true, Int.toNat_natCast, List.getE hlt, Option.bind_some, e, decide_eq_true h]
        · have : m.ID ∈ l := h ▸ List.getElem_mem hlt
          rw [decide_eq_true this]; simp
      · obtain ⟨r, h1, h2⟩ := ih (k + 1) (by omega) (fun i hi hik => by
          by_cases h3 : i = k
          · subst h3; exact h
          · exact ha i hi (by omega))
        refine ⟨r, .next (s' := .s1 l m l.length ((k + 1 : Nat) : Int)) ?_ h1, h2⟩
        simp only [slices_IndexFunc__same_step, slices_IndexFunc__same_1, List.length_map, ltB hlt, le0, Bool.and_self, cond_true, Int.toNat_natCast, List.getE hlt, Option.bind_some, e, decide_eq_false h, cond_false, w]
  obtain ⟨r, h1, h2⟩ := loop l.length 0 (by omega) (fun i _ h => by omega)
  have h3 : slices_IndexFunc__same l m = some r := evf_of (.next (s' := .s1 l m l.length 0) (by simp [slices_IndexFunc__same_step, slices_IndexFunc__same_0]) h1)
  simp only [slices_ContainsFunc__same, h3, Option.bind_some, h2]
theorem names_ok (p : Plan) (t : Int) : plan_Names p t = some (namesP p t) := by
  have hb : ∀ x y : Int, (x == y) = decide (x = y) := fun x y => by by_cases h : x = y <;> simp [h]
  unfold plan_Names namesP
  simp only [hb, ge_iff_le]
  cases decide (0 ≤ t) <;> cases decide (t = p.Target) <;> cases decide (t = p.Prev) <;> cases decide (p.Percent < 100) <;> cases decide (t = p.Spill) <;> rfl
/-! ### a request -/
/-- What it loses when it goes down. -/
structure TZ where
  known : Plan
  hold : Hold
  begun : Int
  filled : Int
inductive ActT where
  | say (out : List Msg)
  | note (r : Msg) (out : List Msg) (begun filled post : Int)
def roomB (c : Config) (z : TZ) (now : Int) : Int × Int := if IntKind.i64.wrap (now - z.begun) ≥ c.Span then (now, 0) else (z.begun, z.filled)
def repW (c : Config) (index : Int) (m : Msg) (e co : Int) : Msg := ⟨15, nodeT c index, m.From, e, 0, 0, 0, 0, 0, co, false, zeroPl, m.ID, [], []⟩
def recC (m : Msg) : Msg := ⟨18, 0, 0, 0, 0, 0, 0, 0, 0, 0, false, zeroPl, m.ID, [], []⟩
def recW (m : Msg) : Msg := ⟨14, 0, 0, m.Epoch, 0, 0, 0, 0, 0, 0, false, zeroPl, m.ID, [], m.Payload⟩
def recF (m : Msg) : Msg := ⟨19, 0, 0, m.Epoch, 0, 0, 0, 0, 0, 0, false, zeroPl, [], [], []⟩
def runT (fence : Int) (l : List Entry) (cl : List (List Int)) (z : TZ) (fuse : Int) (s : List Int) : ActT → List Msg × Int × Int × Int × Int × Bool × List Entry × List (List Int) × List Int × List Int
  | .say out => (out, fence, z.begun, z.filled, fuse, false, l, cl, s, [])
  | .note r out b fi post => (match eff fuse false with
    | none => ([], fence, b, fi, fd fuse false, true, l, cl, s, [])
    | some f => (match eff f false with
      | none => ([], fence, b, fi, fd f false, true, l, cl, s, log [r])
      | some g => (out, (takeT r fence l cl).1, b, post, g, false, (takeT r fence l cl).2.1, (takeT r fence l cl).2.2, s ++ log [r], [])))
inductive WAct (c : Config) (index fence : Int) (l : List Entry) (cl : List (List Int)) (z : TZ) (m : Msg) (now : Int) : ActT → Prop
  | short : m.ID.length ≠ 3 → WAct c index fence l cl z m now (.say [])
  | had (e : Entry) : m.ID.length = 3 → e ∈ l → e.ID = m.ID → WAct c index fence l cl z m now (.say [repW c index m e.Epoch 0])
  | shut : m.ID.length = 3 → (∀ e ∈ l, e.ID ≠ m.ID) → m.ID ∈ cl → WAct c index fence l cl z m now (.say [repW c index m m.Epoch 1])
  | late : m.ID.length = 3 → (∀ e ∈ l, e.ID ≠ m.ID) → ¬ m.ID ∈ cl → (m.Epoch > z.known.Epoch ∨ (m.Epoch = z.known.Epoch ∧ liveP z.hold m.Epoch now = false)) → WAct c index fence l cl z m now (.say [])
  | write : m.ID.length = 3 → (∀ e ∈ l, e.ID ≠ m.ID) → ¬ m.ID ∈ cl → m.Epoch = z.known.Epoch → namesP z.known index = true → fence ≤ m.Epoch → liveP z.hold m.Epoch now = true → (roomB c z now).2 < c.Cap →
      WAct c index fence l cl z m now (.note (recW m) [repW c index m m.Epoch 0] (roomB c z now).1 (roomB c z now).2 (IntKind.i64.wrap ((roomB c z now).2 + 1)))
  | full : m.ID.length = 3 → (∀ e ∈ l, e.ID ≠ m.ID) → ¬ m.ID ∈ cl → m.Epoch = z.known.Epoch → namesP z.known index = true → fence ≤ m.Epoch → liveP z.hold m.Epoch now = true → ¬ (roomB c z now).2 < c.Cap →
      WAct c index fence l cl z m now (.note (recC m) [repW c index m m.Epoch 1] (roomB c z now).1 (roomB c z now).2 (roomB c z now).2)
  | close : m.ID.length = 3 → (∀ e ∈ l, e.ID ≠ m.ID) → ¬ m.ID ∈ cl → ¬ m.Epoch > z.known.Epoch → ¬ (m.Epoch = z.known.Epoch ∧ namesP z.known index = true ∧ fence ≤ m.Epoch) →
      WAct c index fence l cl z m now (.note (recC m) [repW c index m m.Epoch 1] z.begun z.filled z.filled)
theorem recC_ok {m : Msg} (hf : FineM m) (hr : rightM m = true) : okRec (recC m) := by
  have tx := txt_in hr
  unfold txM at tx
  obtain ⟨h1, h2, h3, h4, h5, h6, h7⟩ := hf
  refine ⟨⟨⟨⟨by simp [recC, zeroPl], by simp [recC, zeroPl]⟩, inU64.2 (by simp [recC, zeroPl]), inU64.2 (by simp [recC, zeroPl])⟩, zeroFine, ?_, by simp [recC], h5, fun x hx => by simp [recC] at hx, fun x hx => by simp [recC] at hx⟩, ?_⟩
  · intro x hx
    simp only [recC, List.mem_cons, List.not_mem_nil, or_false] at hx
    rcases hx with rfl | rfl | rfl | rfl | rfl <;> exact inI64.2 (by decide)
  · simp only [rightM, Bool.and_eq_true, decide_eq_true_eq, planB, recC, cond_false]
    refine ⟨by unfold hdM; simp, ?_, by rw [sameP_iff]⟩
    exact decide_eq_true ⟨tx.1, by simp, by simp⟩
theorem recW_ok {m : Msg} (hf : FineM m) (hr : rightM m = true) : okRec (recW m) := by
  have tx := txt_in hr
  unfold txM at tx
  obtain ⟨h1, h2, h3, h4, h5, h6, h7⟩ := hf
  have he : inK .i64 m.Epoch := h3 _ (by simp)
  refine ⟨⟨⟨⟨by simp [recW, zeroPl], by simp [recW, zeroPl]⟩, inU64.2 (by simp [recW, zeroPl]), inU64.2 (by simp [recW, zeroPl])⟩, zeroFine, ?_, by simp [recW], h5, fun x hx => by simp [recW] at hx, h7⟩, ?_⟩
  · intro x hx
    simp only [recW, List.mem_cons, List.not_mem_nil, or_false] at hx
    rcases hx with rfl | rfl | rfl | rfl | rfl <;> first | assumption | exact inI64.2 (by decide)
  · simp only [rightM, Bool.and_eq_true, decide_eq_true_eq, planB, recW, cond_false]
    refine ⟨by unfold hdM; simp, ?_, by rw [sameP_iff]⟩
    exact decide_eq_true ⟨tx.1, by simp, tx.2.2⟩
theorem recF_ok {m : Msg} (hf : FineM m) : okRec (recF m) := zeroRec (by decide) (hf.w _ (by simp))
section
variable {fence : Int} {c : Config} {index : Int} {well : Bool} {l : List Entry} {cl : List (List Int)} {fuse : Int} {s : List Int} {z : TZ} {m : Msg} {now : Int}
theorem room_ok {d : Bool} {t : List Int} : Target_room now fence z.known z.hold z.begun z.filled c index well l cl fuse d s t = some (decide ((roomB c z now).2 < c.Cap), (roomB c z now).1, (roomB c z now).2) := by
  unfold Target_room roomB
  by_cases h : IntKind.i64.wrap (now - z.begun) ≥ c.Span
  · simp only [decide_eq_true h, cond_true, Target_room_1, if_pos h]
  · simp only [decide_eq_false h, cond_false, Target_room_1, if_neg h]
theorem write_ok (hc : rightC c = true) (hi : 0 ≤ index ∧ index ≤ 16) (hf : FineM m) (hr : rightM m = true) (hfu : okFuse fuse) (hs : s.length ≤ 10000000) (hl : l.length ≤ 100000) (hcl : cl.length ≤ 100000) (hls : ∀ e ∈ l, e.ID.length = 3) (hcs : ∀ e ∈ cl, e.length = 3) :
    ∃ A, WAct c index fence l cl z m now A ∧ Target_write m now fence z.known z.hold z.begun z.filled c index well l cl fuse false s [] = some (runT fence l cl z fuse s A) := by
  have nd := node_ok hc hi
  have e3 : ((((m.ID.length : Nat) : Int) : Int) != 3) = !decide (m.ID.length = 3) := by
    by_cases h : m.ID.length = 3
    · simp [h]
    · have : ¬ (((m.ID.length : Nat) : Int) = 3) := by omega
      simp [h, bneT this]
  have rep : ∀ (f b fi fu : Int) (d : Bool) (l' : List Entry) (cl' : List (List Int)) (s' t' : List Int) (e co : Int), Target_reply m 15 ⟨0, 0, 0, e, 0, 0, 0, 0, 0, co, false, ⟨0, 0, 0, 0, 0, 0, 0, 0, 0, 0, [], []⟩, m.ID, [], []⟩ f z.known z.hold b fi c index well l' cl' fu d s' t' = some [repW c index m e co] := fun f b fi fu d l' cl' s' t' e co => by
    simp only [Target_reply, nd, Option.bind_some, repW, zeroPl]
  have close : ∀ b fi, Target_write_1 m now fence z.known z.hold z.begun z.filled c index well l cl fuse false s [] b fi ⟨0, 0, 0, m.Epoch, 0, 0, 0, 0, 0, 1, false, ⟨0, 0, 0, 0, 0, 0, 0, 0, 0, 0, [], []⟩, m.ID, [], []⟩ = some (runT fence l cl z fuse s (.note (recC m) [repW c index m m.Epoch 1] b fi fi)) := fun b fi => by
    have hrem := remember_ok (known := z.known) (hold := z.hold) (begun := b) (filled := fi) (c := c) (index := index) (well := well) (fence := fence) (recC_ok hf hr) hfu hs hl hcl
    simp only [recC, zeroPl] at hrem
    simp only [Target_write_1, hrem, Option.bind_some, runT, recC, zeroPl]
    cases h1 : eff fuse false with
    | none => simp
    | some f => cases h2 : eff f false with
      | none => simp [h2]
      | some g => simp [h2, rep]
  unfold Target_write
  simp only [List.length_map, e3]
  by_cases h3 : ¬ m.ID.length = 3
  · exact ⟨_, .short h3, by simp only [decide_eq_false h3, Bool.not_false, cond_true, runT]⟩
  rw [Classical.not_not] at h3
  simp only [decide_eq_true h3, Bool.not_true, cond_false]
  obtain ⟨r, hix, hr2⟩ := ixis_ok (l := l) (m := m) (by omega) (fun e he => by rw [hls e he]; decide)
  simp only [hix, Option.bind_some]
  rcases hr2 with ⟨i, hlt, rfl, hid⟩ | ⟨rfl, hno⟩
  · have a1 : decide ((i : Int) ≥ 0) = true := by simp
    exact ⟨_, .had (l[i]) h3 (List.getElem_mem hlt) hid, by simp only [a1, cond_true, ltB hlt, le0, Bool.and_self, Int.toNat_natCast, Nat.zero_add, List.getE hlt, Option.bind_some, rep, runT]⟩
  have a1 : decide ((-1 : Int) ≥ 0) = false := rfl
  simp only [a1, cond_false, cfsame_ok (l := cl) (m := m) (by omega) (fun e he => by rw [hcs e he]; decide), Option.bind_some]
  by_cases h4 : m.ID ∈ cl
  · exact ⟨_, .shut h3 hno h4, by simp only [decide_eq_true h4, cond_true, rep, Option.bind_some, runT]⟩
  simp only [decide_eq_false h4, cond_false]
  by_cases h5 : m.Epoch > z.known.Epoch
  · exact ⟨_, .late h3 hno h4 (.inl h5), by simp only [decide_eq_true h5, cond_true, runT]⟩
  simp only [decide_eq_false h5, cond_false]
  have w2f : Target_write_2 m now fence z.known z.hold z.begun z.filled c index well l cl fuse false s [] false ⟨0, 0, 0, m.Epoch, 0, 0, 0, 0, 0, 1, false, ⟨0, 0, 0, 0, 0, 0, 0, 0, 0, 0, [], []⟩, m.ID, [], []⟩ = some (runT fence l cl z fuse s (.note (recC m) [repW c index m m.Epoch 1] z.begun z.filled z.filled)) := by
    simp only [Target_write_2, cond_false]
    exact close _ _
  by_cases h6 : ¬ m.Epoch = z.known.Epoch
  · exact ⟨_, .close h3 hno h4 h5 (fun h => h6 h.1), by simp only [beqF h6, cond_false, w2f]⟩
  rw [Classical.not_not] at h6
  simp only [beq_iff_eq.2 h6, cond_true, names_ok, Option.bind_some]
  cases h7 : namesP z.known index with
  | false => exact ⟨_, .close h3 hno h4 h5 (fun h => by rw [h7] at h; exact absurd h.2.1 (by simp)), by simp only [cond_false, w2f]⟩
  | true =>
    simp only [cond_true]
    by_cases h8 : ¬ fence ≤ m.Epoch
    · exact ⟨_, .close h3 hno h4 h5 (fun h => h8 h.2.2), by simp only [ge_iff_le, decide_eq_false h8, w2f]⟩
    rw [Classical.not_not] at h8
    simp only [ge_iff_le, decide_eq_true h8, Target_write_2, cond_true, live_ok, Option.bind_some]
    cases h9 : liveP z.hold m.Epoch now with
    | false => exact ⟨_, .late h3 hno h4 (.inr ⟨h6, h9⟩), by simp only [Bool.not_false, cond_true, runT]⟩
    | true =>
      simp only [Bool.not_true, cond_false, room_ok, Option.bind_some]
      by_cases h10 : (roomB c z now).2 < c.Cap
      · refine ⟨_, .write h3 hno h4 h6 h7 h8 h9 h10, ?_⟩
        have hrem := remember_ok (known := z.known) (hold := z.hold) (begun := (roomB c z now).1) (filled := (roomB c z now).2) (c := c) (index := index) (well := well) (fence := fence) (recW_ok hf hr) hfu hs hl hcl
        simp only [recW, zeroPl] at hrem
        simp only [decide_eq_true h10, cond_true, hrem, Option.bind_some, runT, recW, zeroPl]
        cases h1 : eff fuse false with
        | none => simp
        | some f => cases h2 : eff f false with
          | none => simp [h2]
          | some g => simp [h2, rep]
      · exact ⟨_, .full h3 hno h4 h6 h7 h8 h9 h10, by simp only [decide_eq_false h10, cond_false, close]⟩
end
end Go.RX.L

namespace Go.RX.L
open Go Go.RX Go.Proofs
attribute [local irreducible] FinQ
noncomputable def law18_time_e (y : Int) : D × Sto := (.int .i64 y, [])
noncomputable def law18_time (now : Int) : Option Int := (some (mxI 0 (mnI now 1099511627776)))
theorem law18_time_ok {now r : Int} (h : law18_time now = some r) : Sound E 45 [.int .i64 now] [] (Rs law18_time_e r) := so (fn := Tryd.f45) (k := false) (m := 0) h <| by
 intro r h; unfold law18_time at h
 exact zu 12 h
end Go.RX.L

namespace Go.RX.L
open Go Go.RX Go.Proofs
attribute [local irreducible] FinQ
noncomputable def Target_Flip_e (well : Bool) (fence : Int) (known : Plan) (hold : Hold) (begun filled : Int) (c : Config) (index : Int) (b1 : List Entry) (b2 : List (List Int)) (fuse : Int) (down : Bool) (b4 b5 : List Int) (y : Unit) : D × Sto := (.tup [], [some ⟨54, true, [([.int .i64 fence] ++ Plan.encL known ([.int .i64 hold.Epoch, .int .i64 hold.Nonce, .int .u64 hold.Grants, .int .i64 hold.Until, (grD 1 (List.map Entry.enc b1)), (grD 2 (List.map (eSl 1 (eInt .i64)) b2)), .int .i64 begun, .int .i64 filled] ++ Config.encL c [.int .i64 index, .ptr 3 0 0, .bool well]))]⟩, some ⟨3, false, (List.map Entry.enc b1)⟩, some ⟨1, false, (List.map (eSl 1 (eInt .i64)) b2)⟩, some ⟨4, true, [[(grD 4 (List.map (eInt .u8) b4)), (grD 5 (List.map (eInt .u8) b5)), .int .i64 fuse, .bool down]]⟩, some ⟨1, false, (List.map (eInt .u8) b4)⟩, some ⟨1, false, (List.map (eInt .u8) b5)⟩])
noncomputable def Target_Flip (well : Bool) (fence : Int) (known : Plan) (hold : Hold) (begun filled : Int) (c : Config) (index : Int) (well2 : Bool) (b1 : List Entry) (b2 : List (List Int)) (fuse : Int) (down : Bool) (b4 b5 : List Int) : Option Unit := (some ())
theorem Target_Flip_ok {well : Bool} {fence : Int} {known : Plan} {hold : Hold} {begun filled : Int} {c : Config} {index : Int} {well2 : Bool} {b1 : List Entry} {b2 : List (List Int)} {fuse : Int} {down : Bool} {b4 b5 : List Int} {r : Unit} (h : Target_Flip well fence known hold begun filled c index well2 b1 b2 fuse down b4 b5 = some r) : Sound E 10 [.ptr 0 0 0, .bool well] [some ⟨54, true, [([.int .i64 fence] ++ Plan.encL known ([.int .i64 hold.Epoch, .int .i64 hold.Nonce, .int .u64 hold.Grants, .int .i64 hold.Until, (grD 1 (List.map Entry.enc b1)), (grD 2 (List.map (eSl 1 (eInt .i64)) b2)), .int .i64 begun, .int .i64 filled] ++ Config.encL c [.int .i64 index, .ptr 3 0 0, .bool well2]))]⟩, some ⟨3, false, (List.map Entry.enc b1)⟩, some ⟨1, false, (List.map (eSl 1 (eInt .i64)) b2)⟩, some ⟨4, true, [[(grD 4 (List.map (eInt .u8) b4)), (grD 5 (List.map (eInt .u8) b5)), .int .i64 fuse, .bool down]]⟩, some ⟨1, false, (List.map (eInt .u8) b4)⟩, some ⟨1, false, (List.map (eInt .u8) b5)⟩] (Rs (Target_Flip_e well fence known hold begun filled c index b1 b2 fuse down b4 b5) r) := so (fn := Tryd.f10) (k := true) (m := 6) h <| by
 intro r h; unfold Target_Flip at h
 exact zu 10 h
end Go.RX.L

namespace Go.RX.L
open Go Go.RX Go.Proofs
attribute [local irreducible] FinQ
noncomputable def Target_Restart_c := codeAt (bodyOf Tryd.f44)
noncomputable def Target_Restart_e (c : Config) (index : Int) (well : Bool) (b1 : List Entry) (b2 : List (List Int)) (y : Int × Int × Plan × Hold × Int × Int × Int × Bool × (List Entry) × (List (List Int)) × (List Int) × (List Int)) : D × Sto := (.int .i64 y.1, [some ⟨54, true, [([.int .i64 y.2.1, .int .i64 y.2.2.1.Epoch, .int .i64 y.2.2.1.Target, .int .i64 y.2.2.1.Prev, .int .i64 y.2.2.1.Spill, .int .i64 y.2.2.1.Percent, .int .i64 y.2.2.1.Stamp, .int .i64 y.2.2.1.Since, .int .i64 y.2.2.1.Ramped, .int .u64 y.2.2.1.Up, .int .u64 y.2.2.1.Sup, .sl false 1 (List.map (eInt .i64) y.2.2.1.Pen), .sl false 1 (List.map (eInt .i64) y.2.2.1.Changes), .int .i64 y.2.2.2.1.Epoch, .int .i64 y.2.2.2.1.Nonce, .int .u64 y.2.2.2.1.Grants, .int .i64 y.2.2.2.1.Until, (grD 6 (List.map Entry.enc y.2.2.2.2.2.2.2.2.1)), (grD 7 (List.map (eSl 1 (eInt .i64)) y.2.2.2.2.2.2.2.2.2.1)), .int .i64 y.2.2.2.2.1, .int .i64 y.2.2.2.2.2.1] ++ Config.encL c [.int .i64 index, .ptr 3 0 0, .bool well])]⟩, some ⟨3, false, (List.map Entry.enc b1)⟩, some ⟨1, false, (List.map (eSl 1 (eInt .i64)) b2)⟩, some ⟨4, true, [[(grD 8 (List.map (eInt .u8) y.2.2.2.2.2.2.2.2.2.2.1)), (grD 9 (List.map (eInt .u8) y.2.2.2.2.2.2.2.2.2.2.2)), .int .i64 y.2.2.2.2.2.2.1, .bool y.2.2.2.2.2.2.2.1]]⟩, none, none, some ⟨3, false, (List.map Entry.enc y.2.2.2.2.2.2.2.2.1)⟩, some ⟨1, false, (List.map (eSl 1 (eInt .i64)) y.2.2.2.2.2.2.2.2.2.1)⟩, some ⟨1, false, (List.map (eInt .u8) y.2.2.2.2.2.2.2.2.2.2.1)⟩, some ⟨1, false, (List.map (eInt .u8) y.2.2.2.2.2.2.2.2.2.2.2)⟩])
inductive Target_Restart_S where
 | s0 (fence : Int) (known : Plan) (hold : Hold) (begun filled fuse : Int) (down : Bool) (b4 b5 : List Int)
 | s1 (bodies : List (List Int)) (t33 : List Int) (t34 t35 fence2 : Int) (known2 : Plan) (hold2 : Hold) (begun2 filled2 fuse2 : Int) (down2 : Bool) (b6 : List Entry) (b7 : List (List Int)) (b8 b9 : List Int)
noncomputable def Target_Restart_M (now : Int) (c : Config) (index : Int) (well : Bool) (b1 : List Entry) (b2 : List (List Int)) : Target_Restart_S → M
 | .s0 fence known hold begun filled fuse down b4 b5 => startM Tryd.f44 [.ptr 0 0 0, .int .i64 now] [some ⟨54, true, [([.int .i64 fence] ++ Plan.encL known ([.int .i64 hold.Epoch, .int .i64 hold.Nonce, .int .u64 hold.Grants, .int .i64 hold.Until, (grD 1 (List.map Entry.enc b1)), (grD 2 (List.map (eSl 1 (eInt .i64)) b2)), .int .i64 begun, .int .i64 filled] ++ Config.encL c [.int .i64 index, .ptr 3 0 0, .bool well]))]⟩, some ⟨3, false, (List.map Entry.enc b1)⟩, some ⟨1, false, (List.map (eSl 1 (eInt .i64)) b2)⟩, some ⟨4, true, [[(grD 4 (List.map (eInt .u8) b4)), (grD 5 (List.map (eInt .u8) b5)), .int .i64 fuse, .bool down]]⟩, some ⟨1, false, (List.map (eInt .u8) b4)⟩, some ⟨1, false, (List.map (eInt .u8) b5)⟩]
 | .s1 bodies t33 t34 t35 fence2 known2 hold2 begun2 filled2 fuse2 down2 b6 b7 b8 b9 => ⟨[.lpc (Target_Restart_c [1, 1, 1, 1, 0, 1, 0, 0]) 60129542211, .blk 0, .code (Target_Restart_c [1, 1, 1, 1, 1])], [(0, .ptr 0 0 0), (1, .int .i64 now), (6, .sl false 1 (List.map (eSl 1 (eInt .u8)) bodies)), (33, .sl false 1 (List.map (eInt .u8) t33)), (34, .int .i64 t34), (35, .int .i64 t35)], [some ⟨54, true, [([.int .i64 fence2] ++ Plan.encL known2 ([.int .i64 hold2.Epoch, .int .i64 hold2.Nonce, .int .u64 hold2.Grants, .int .i64 hold2.Until, (grD 6 (List.map Entry.enc b6)), (grD 7 (List.map (eSl 1 (eInt .i64)) b7)), .int .i64 begun2, .int .i64 filled2] ++ Config.encL c [.int .i64 index, .ptr 3 0 0, .bool well]))]⟩, some ⟨3, false, (List.map Entry.enc b1)⟩, some ⟨1, false, (List.map (eSl 1 (eInt .i64)) b2)⟩, some ⟨4, true, [[(grD 8 (List.map (eInt .u8) b8)), (grD 9 (List.map (eInt .u8) b9)), .int .i64 fuse2, .bool down2]]⟩, none, none, some ⟨3, false, (List.map Entry.enc b6)⟩, some ⟨1, false, (List.map (eSl 1 (eInt .i64)) b7)⟩, some ⟨1, false, (List.map (eInt .u8) b8)⟩, some ⟨1, false, (List.map (eInt .u8) b9)⟩]⟩
abbrev Target_Restart_W (now : Int) (c : Config) (index : Int) (well : Bool) (b1 : List Entry) (b2 : List (List Int)) := SOk E (Cx.of Tryd.f44 true 6) (Target_Restart_e c index well b1 b2) (Target_Restart_M now c index well b1 b2)
noncomputable def Target_Restart_0 (now : Int) (c : Config) (index : Int) (well : Bool) (b1 : List Entry) (b2 : List (List Int)) (fence : Int) (known : Plan) (hold : Hold) (begun filled fuse : Int) (down : Bool) (b4 b5 : List Int) : Option (Target_Restart_S ⊕ (Int × Int × Plan × Hold × Int × Int × Int × Bool × (List Entry) × (List (List Int)) × (List Int) × (List Int))) := ((policy_Zero c).bind fun y1 => ((Journal_Open fuse down b4 b5).bind fun y2 => (bif ((y2.2.2.1 : Int) != 0) then (some (.inr (y2.2.2.1, 0, y1, (⟨0, 0, 0, 0⟩ : Hold), 0, 0, y2.2.2.2.1, y2.2.2.2.2.1, [], [], y2.2.2.2.2.2.1, y2.2.2.2.2.2.2))) else (some (.inl (.s1 y2.2.1 y2.1 (((List.map (eInt .u8) y2.1).length : Nat) : Int) 0 0 y1 (⟨0, 0, 0, 0⟩ : Hold) 0 0 y2.2.2.2.1 y2.2.2.2.2.1 ([]) ([]) y2.2.2.2.2.2.1 y2.2.2.2.2.2.2))))))
noncomputable def Target_Restart_1 (now : Int) (c : Config) (index : Int) (well : Bool) (b1 : List Entry) (b2 bodies : List (List Int)) (t33 : List Int) (t34 t35 fence2 : Int) (known2 : Plan) (hold2 : Hold) (begun2 filled2 fuse2 : Int) (down2 : Bool) (b6 : List Entry) (b7 : List (List Int)) (b8 b9 : List Int) : Option (Target_Restart_S ⊕ (Int × Int × Plan × Hold × Int × Int × Int × Bool × (List Entry) × (List (List Int)) × (List Int) × (List Int))) := (bif (decide ((t35 : Int) < t34)) then (bif ((decide ((0 : Int) ≤ t35)) && (decide ((t35 : Int) < (((List.map (eInt .u8) t33).length : Nat) : Int)))) then (((t33)[t35.toNat]?).bind fun y3 => (bif ((decide ((0 : Int) ≤ t35)) && (decide ((t35 : Int) < (((List.map (eSl 1 (eInt .u8)) bodies).length : Nat) : Int)))) then (((bodies)[t35.toNat]?).bind fun y6 => ((msg_Of y3 y6).bind fun y8 => (bif ((y8.2 : Int) == 0) then ((Target_take y8.1 fence2 known2 hold2 begun2 filled2 c index well b6 b7 fuse2 down2 b8 b9).bind fun y10 => (some (.inl (.s1 bodies t33 t34 (IntKind.i64.wrap (t35 + 1)) y10.1 known2 hold2 begun2 filled2 fuse2 down2 y10.2.1 y10.2.2 b8 b9)))) else (some (.inl (.s1 bodies t33 t34 (IntKind.i64.wrap (t35 + 1)) fence2 known2 hold2 begun2 filled2 fuse2 down2 b6 b7 b8 b9)))))) else none)) else none) else (some (.inr (0, fence2, known2, hold2, now, filled2, fuse2, down2, b6, b7, b8, b9))))
noncomputable def Target_Restart_step (now : Int) (c : Config) (index : Int) (well : Bool) (b1 : List Entry) (b2 : List (List Int)) : Target_Restart_S → Option (Target_Restart_S ⊕ (Int × Int × Plan × Hold × Int × Int × Int × Bool × (List Entry) × (List (List Int)) × (List Int) × (List Int)))
 | .s0 fence known hold begun filled fuse down b4 b5 => Target_Restart_0 now c index well b1 b2 fence known hold begun filled fuse down b4 b5
 | .s1 bodies t33 t34 t35 fence2 known2 hold2 begun2 filled2 fuse2 down2 b6 b7 b8 b9 => Target_Restart_1 now c index well b1 b2 bodies t33 t34 t35 fence2 known2 hold2 begun2 filled2 fuse2 down2 b6 b7 b8 b9
theorem Target_Restart_0_ok {now c index well b1 b2 fence known hold begun filled fuse down b4 b5} : Target_Restart_W now c index well b1 b2 (.s0 fence known hold begun filled fuse down b4 b5) (Target_Restart_0 now c index well b1 b2 fence known hold begun filled fuse down b4 b5) := by
 intro r x h ha; unfold Target_Restart_0 at h
 refine zc 13 [] h (fun _ => policy_Zero_ok) fun y1 h => ?_
 refine zc 15 [] h (fun _ => Journal_Open_ok) fun y2 h => ?_
 refine zs 15 h (fun h => ?_) fun h => ?_
 ·
  refine zf 5 [.matc 0 0 17 3, .matc 0 0 18 1] ?_
  exact zt 1 h ha
 refine adv_ok hm 11 _ ?_
 obtain rfl := Option.some.inj h
 refine r_cut 60129542211 [.matc 0 0 17 3, .matc 0 0 18 1] (m' := ⟨[.lpc (Target_Restart_c [1, 1, 1, 1, 0, 1, 0, 0]) 60129542211, .blk 0, .code (Target_Restart_c [1, 1, 1, 1, 1])], [(0, .ptr 0 0 0), (1, .int .i64 now), (6, .sl false 1 (List.map (eSl 1 (eInt .u8)) y2.2.1)), (33, .sl false 1 (List.map (eInt .u8) y2.1)), (34, .int .i64 (((List.map (eInt .u8) y2.1).length : Nat) : Int)), (35, .int .i64 0)], [some ⟨54, true, [([.int .i64 0] ++ Plan.encL y1 ([.int .i64 0, .int .i64 0, .int .u64 0, .int .i64 0, .msl 6 0 0 0 false, .msl 7 0 0 0 false, .int .i64 0, .int .i64 0] ++ Config.encL c [.int .i64 index, .ptr 3 0 0, .bool well]))]⟩, some ⟨3, false, (List.map Entry.enc b1)⟩, some ⟨1, false, (List.map (eSl 1 (eInt .i64)) b2)⟩, some ⟨4, true, [[(grD 8 (List.map (eInt .u8) y2.2.2.2.2.2.1)), (grD 9 (List.map (eInt .u8) y2.2.2.2.2.2.2)), .int .i64 y2.2.2.2.1, .bool y2.2.2.2.2.1]]⟩, none, none, some ⟨3, false, []⟩, some ⟨1, false, []⟩, some ⟨1, false, (List.map (eInt .u8) y2.2.2.2.2.2.1)⟩, some ⟨1, false, (List.map (eInt .u8) y2.2.2.2.2.2.2)⟩]⟩) (by kernel_rfl) ?_
 refine r_len (n1 := 0) (n2 := (List.map Entry.enc ([])).length) (fun n_len => .go ⟨[.lpc (Target_Restart_c [1, 1, 1, 1, 0, 1, 0, 0]) 60129542211, .blk 0, .code (Target_Restart_c [1, 1, 1, 1, 1])], [(0, .ptr 0 0 0), (1, .int .i64 now), (6, .sl false 1 (List.map (eSl 1 (eInt .u8)) y2.2.1)), (33, .sl false 1 (List.map (eInt .u8) y2.1)), (34, .int .i64 (((List.map (eInt .u8) y2.1).length : Nat) : Int)), (35, .int .i64 0)], [some ⟨54, true, [([.int .i64 0] ++ Plan.encL y1 ([.int .i64 0, .int .i64 0, .int .u64 0, .int .i64 0, .msl 6 0 n_len n_len false, .msl 7 0 0 0 false, .int .i64 0, .int .i64 0] ++ Config.encL c [.int .i64 index, .ptr 3 0 0, .bool well]))]⟩, some ⟨3, false, (List.map Entry.enc b1)⟩, some ⟨1, false, (List.map (eSl 1 (eInt .i64)) b2)⟩, some ⟨4, true, [[(grD 8 (List.map (eInt .u8) y2.2.2.2.2.2.1)), (grD 9 (List.map (eInt .u8) y2.2.2.2.2.2.2)), .int .i64 y2.2.2.2.1, .bool y2.2.2.2.2.1]]⟩, none, none, some ⟨3, false, []⟩, some ⟨1, false, []⟩, some ⟨1, false, (List.map (eInt .u8) y2.2.2.2.2.2.1)⟩, some ⟨1, false, (List.map (eInt .u8) y2.2.2.2.2.2.2)⟩]⟩) (by simp) ?_
 refine r_len (n1 := 0) (n2 := (List.map (eSl 1 (eInt .i64)) ([])).length) (fun n_len => .go ⟨[.lpc (Target_Restart_c [1, 1, 1, 1, 0, 1, 0, 0]) 60129542211, .blk 0, .code (Target_Restart_c [1, 1, 1, 1, 1])], [(0, .ptr 0 0 0), (1, .int .i64 now), (6, .sl false 1 (List.map (eSl 1 (eInt .u8)) y2.2.1)), (33, .sl false 1 (List.map (eInt .u8) y2.1)), (34, .int .i64 (((List.map (eInt .u8) y2.1).length : Nat) : Int)), (35, .int .i64 0)], [some ⟨54, true, [([.int .i64 0] ++ Plan.encL y1 ([.int .i64 0, .int .i64 0, .int .u64 0, .int .i64 0, .msl 6 0 ((List.map Entry.enc ([])).length) ((List.map Entry.enc ([])).length) false, .msl 7 0 n_len n_len false, .int .i64 0, .int .i64 0] ++ Config.encL c [.int .i64 index, .ptr 3 0 0, .bool well]))]⟩, some ⟨3, false, (List.map Entry.enc b1)⟩, some ⟨1, false, (List.map (eSl 1 (eInt .i64)) b2)⟩, some ⟨4, true, [[(grD 8 (List.map (eInt .u8) y2.2.2.2.2.2.1)), (grD 9 (List.map (eInt .u8) y2.2.2.2.2.2.2)), .int .i64 y2.2.2.2.1, .bool y2.2.2.2.2.1]]⟩, none, none, some ⟨3, false, []⟩, some ⟨1, false, []⟩, some ⟨1, false, (List.map (eInt .u8) y2.2.2.2.2.2.1)⟩, some ⟨1, false, (List.map (eInt .u8) y2.2.2.2.2.2.2)⟩]⟩) (by simp) ?_
 exact ha
theorem Target_Restart_1_ok {now c index well b1 b2 bodies t33 t34 t35 fence2 known2 hold2 begun2 filled2 fuse2 down2 b6 b7 b8 b9} : Target_Restart_W now c index well b1 b2 (.s1 bodies t33 t34 t35 fence2 known2 hold2 begun2 filled2 fuse2 down2 b6 b7 b8 b9) (Target_Restart_1 now c index well b1 b2 bodies t33 t34 t35 fence2 known2 hold2 begun2 filled2 fuse2 down2 b6 b7 b8 b9) := by
 intro r x h ha; unfold Target_Restart_1 at h
 refine zs 7 h (fun h => ?_) fun h => ?_
 ·
  refine zn 7 h fun h => ?_
  refine zr 1 (eInt .u8) h fun y3 h => ?_
  refine zn 9 h fun h => ?_
  refine zr 1 (eSl 1 (eInt .u8)) h fun y6 h => ?_
  refine zc 1 [] h (fun _ => msg_Of_ok) fun y8 h => ?_
  refine zs 15 h (fun h => ?_) fun h => ?_
  ·
   refine adv_ok hm 5 _ ?_
   have ok10 := fun (y : Int × (List Entry) × (List (List Int))) (hy : Target_take y8.1 fence2 known2 hold2 begun2 filled2 c index well b6 b7 fuse2 down2 b8 b9 = some y) => @Eq.mp (Sound E 34 [.ptr 0 0 0, .agg [.int .i64 y8.1.Kind, .int .i64 y8.1.From, .int .i64 y8.1.To, .int .i64 y8.1.Epoch, .int .i64 y8.1.Ballot, .int .i64 y8.1.Accepted, .int .i64 y8.1.Nonce, .int .i64 y8.1.Time, .int .u64 y8.1.Up, .int .i64 y8.1.Code, .bool y8.1.HasPlan, .int .i64 y8.1.Plan.Epoch, .int .i64 y8.1.Plan.Target, .int .i64 y8.1.Plan.Prev, .int .i64 y8.1.Plan.Spill, .int .i64 y8.1.Plan.Percent, .int .i64 y8.1.Plan.Stamp, .int .i64 y8.1.Plan.Since, .int .i64 y8.1.Plan.Ramped, .int .u64 y8.1.Plan.Up, .int .u64 y8.1.Plan.Sup, .sl false 1 (List.map (eInt .i64) y8.1.Plan.Pen), .sl false 1 (List.map (eInt .i64) y8.1.Plan.Changes), .sl false 1 (List.map (eInt .i64) y8.1.ID), .sl false 1 (List.map (eInt .u8) y8.1.Session), .sl false 1 (List.map (eInt .u8) y8.1.Payload)]] [some ⟨54, true, [([.int .i64 fence2] ++ Plan.encL known2 ([.int .i64 hold2.Epoch, .int .i64 hold2.Nonce, .int .u64 hold2.Grants, .int .i64 hold2.Until, (grD 1 (List.map Entry.enc b6)), (grD 2 (List.map (eSl 1 (eInt .i64)) b7)), .int .i64 begun2, .int .i64 filled2] ++ Config.encL c [.int .i64 index, .ptr 3 0 0, .bool well]))]⟩, some ⟨3, false, (List.map Entry.enc b6)⟩, some ⟨1, false, (List.map (eSl 1 (eInt .i64)) b7)⟩, some ⟨4, true, [[(grD 4 (List.map (eInt .u8) b8)), (grD 5 (List.map (eInt .u8) b9)), .int .i64 fuse2, .bool down2]]⟩, some ⟨1, false, (List.map (eInt .u8) b8)⟩, some ⟨1, false, (List.map (eInt .u8) b9)⟩] (Rs (Target_take_e known2 hold2 begun2 filled2 c index well fuse2 down2 b8 b9) y)) (Sound E 34 [.ptr 0 0 0, .agg [.int .i64 y8.1.Kind, .int .i64 y8.1.From, .int .i64 y8.1.To, .int .i64 y8.1.Epoch, .int .i64 y8.1.Ballot, .int .i64 y8.1.Accepted, .int .i64 y8.1.Nonce, .int .i64 y8.1.Time, .int .u64 y8.1.Up, .int .i64 y8.1.Code, .bool y8.1.HasPlan, .int .i64 y8.1.Plan.Epoch, .int .i64 y8.1.Plan.Target, .int .i64 y8.1.Plan.Prev, .int .i64 y8.1.Plan.Spill, .int .i64 y8.1.Plan.Percent, .int .i64 y8.1.Plan.Stamp, .int .i64 y8.1.Plan.Since, .int .i64 y8.1.Plan.Ramped, .int .u64 y8.1.Plan.Up, .int .u64 y8.1.Plan.Sup, .sl false 1 (List.map (eInt .i64) y8.1.Plan.Pen), .sl false 1 (List.map (eInt .i64) y8.1.Plan.Changes), .sl false 1 (List.map (eInt .i64) y8.1.ID), .sl false 1 (List.map (eInt .u8) y8.1.Session), .sl false 1 (List.map (eInt .u8) y8.1.Payload)]] [some ⟨54, true, [([.int .i64 fence2] ++ Plan.encL known2 ([.int .i64 hold2.Epoch, .int .i64 hold2.Nonce, .int .u64 hold2.Grants, .int .i64 hold2.Until, (grD 1 (List.map Entry.enc b6)), (grD 2 (List.map (eSl 1 (eInt .i64)) b7)), .int .i64 begun2, .int .i64 filled2] ++ Config.encL c [.int .i64 index, .ptr 3 0 0, .bool well]))]⟩, some ⟨3, false, (List.map Entry.enc b6)⟩, some ⟨1, false, (List.map (eSl 1 (eInt .i64)) b7)⟩, some ⟨4, true, [[(grD 4 (List.map (eInt .u8) b8)), (grD 5 (List.map (eInt .u8) b9)), .int .i64 fuse2, .bool down2]]⟩, some ⟨1, false, (List.map (eInt .u8) b8)⟩, some ⟨1, false, (List.map (eInt .u8) b9)⟩] (Rs (Target_take_e known2 hold2 begun2 filled2 c index well fuse2 down2 b8 b9) y)) (by kernel_rfl) (Target_take_ok hy)
   refine zc 0 [] h ok10 fun y10 h => ?_
   exact zj 7 h ha
  exact zj 7 h ha
 exact zt 17 h ha
noncomputable def Target_Restart (now fence : Int) (known : Plan) (hold : Hold) (begun filled : Int) (c : Config) (index : Int) (well : Bool) (b1 : List Entry) (b2 : List (List Int)) (fuse : Int) (down : Bool) (b4 b5 : List Int) : Option (Int × Int × Plan × Hold × Int × Int × Int × Bool × (List Entry) × (List (List Int)) × (List Int) × (List Int)) := evf (Target_Restart_step now c index well b1 b2) (.s0 fence known hold begun filled fuse down b4 b5)
theorem Target_Restart_ok {now fence : Int} {known : Plan} {hold : Hold} {begun filled : Int} {c : Config} {index : Int} {well : Bool} {b1 : List Entry} {b2 : List (List Int)} {fuse : Int} {down : Bool} {b4 b5 : List Int} {r : Int × Int × Plan × Hold × Int × Int × Int × Bool × (List Entry) × (List (List Int)) × (List Int) × (List Int)} (h : Target_Restart now fence known hold begun filled c index well b1 b2 fuse down b4 b5 = some r) : Sound E 44 [.ptr 0 0 0, .int .i64 now] [some ⟨54, true, [([.int .i64 fence] ++ Plan.encL known ([.int .i64 hold.Epoch, .int .i64 hold.Nonce, .int .u64 hold.Grants, .int .i64 hold.Until, (grD 1 (List.map Entry.enc b1)), (grD 2 (List.map (eSl 1 (eInt .i64)) b2)), .int .i64 begun, .int .i64 filled] ++ Config.encL c [.int .i64 index, .ptr 3 0 0, .bool well]))]⟩, some ⟨3, false, (List.map Entry.enc b1)⟩, some ⟨1, false, (List.map (eSl 1 (eInt .i64)) b2)⟩, some ⟨4, true, [[(grD 4 (List.map (eInt .u8) b4)), (grD 5 (List.map (eInt .u8) b5)), .int .i64 fuse, .bool down]]⟩, some ⟨1, false, (List.map (eInt .u8) b4)⟩, some ⟨1, false, (List.map (eInt .u8) b5)⟩] (Rs (Target_Restart_e c index well b1 b2) r) := sc (fn := Tryd.f44) (k := true) (m := 6) (stM := (Target_Restart_M now c index well b1 b2)) h fun s => by
 cases s with
 | s0 => exact Target_Restart_0_ok
 | s1 => exact Target_Restart_1_ok
end Go.RX.L

namespace Go.RX.L
open Go Go.RX Go.Proofs
attribute [local irreducible] FinQ
noncomputable def law18_Fuzz_e (c : Config) (index : Int) (y : (List Msg) × Int × Plan × Hold × Int × Int × Bool × Int × Bool × (List Entry) × (List (List Int)) × (List Int) × (List Int)) : D × Sto := (.sl false 26 (List.map Msg.enc y.1), [some ⟨54, true, [([.int .i64 y.2.1, .int .i64 y.2.2.1.Epoch, .int .i64 y.2.2.1.Target, .int .i64 y.2.2.1.Prev, .int .i64 y.2.2.1.Spill, .int .i64 y.2.2.1.Percent, .int .i64 y.2.2.1.Stamp, .int .i64 y.2.2.1.Since, .int .i64 y.2.2.1.Ramped, .int .u64 y.2.2.1.Up, .int .u64 y.2.2.1.Sup, .sl false 1 (List.map (eInt .i64) y.2.2.1.Pen), .sl false 1 (List.map (eInt .i64) y.2.2.1.Changes), .int .i64 y.2.2.2.1.Epoch, .int .i64 y.2.2.2.1.Nonce, .int .u64 y.2.2.2.1.Grants, .int .i64 y.2.2.2.1.Until, (grD 6 (List.map Entry.enc y.2.2.2.2.2.2.2.2.2.1)), (grD 7 (List.map (eSl 1 (eInt .i64)) y.2.2.2.2.2.2.2.2.2.2.1)), .int .i64 y.2.2.2.2.1, .int .i64 y.2.2.2.2.2.1] ++ Config.encL c [.int .i64 index, .ptr 3 0 0, .bool y.2.2.2.2.2.2.1])]⟩, none, none, some ⟨4, true, [[(grD 8 (List.map (eInt .u8) y.2.2.2.2.2.2.2.2.2.2.2.1)), (grD 9 (List.map (eInt .u8) y.2.2.2.2.2.2.2.2.2.2.2.2)), .int .i64 y.2.2.2.2.2.2.2.1, .bool y.2.2.2.2.2.2.2.2.1]]⟩, none, none, some ⟨3, false, (List.map Entry.enc y.2.2.2.2.2.2.2.2.2.1)⟩, some ⟨1, false, (List.map (eSl 1 (eInt .i64)) y.2.2.2.2.2.2.2.2.2.2.1)⟩, some ⟨1, false, (List.map (eInt .u8) y.2.2.2.2.2.2.2.2.2.2.2.1)⟩, some ⟨1, false, (List.map (eInt .u8) y.2.2.2.2.2.2.2.2.2.2.2.2)⟩])
noncomputable def law18_Fuzz (o : Op) (fence : Int) (known : Plan) (hold : Hold) (begun filled : Int) (c : Config) (index : Int) (well : Bool) (b1 : List Entry) (b2 : List (List Int)) (fuse : Int) (down : Bool) (b4 b5 : List Int) : Option ((List Msg) × Int × Plan × Hold × Int × Int × Bool × Int × Bool × (List Entry) × (List (List Int)) × (List Int) × (List Int)) := (bif (((andI .i64 o.What 7) : Int) == 1) then ((Target_Journal fence known hold begun filled c index well b1 b2 fuse down b4 b5).bind fun y2 => ((Journal_Fuse o.N_ fuse down b4 b5).bind fun y3 => (some ([], fence, known, hold, begun, filled, well, y3, down, b1, b2, b4, b5)))) else (bif (((andI .i64 o.What 7) : Int) == 2) then ((Target_Journal fence known hold begun filled c index well b1 b2 fuse down b4 b5).bind fun y5 => ((Journal_Crash o.N_ fuse down b4 b5).bind fun y6 => (some ([], fence, known, hold, begun, filled, well, y6.1, y6.2.1, b1, b2, y6.2.2.1, y6.2.2.2)))) else (bif (((andI .i64 o.What 7) : Int) == 3) then ((law18_time o.Now).bind fun y8 => ((Target_Restart y8 fence known hold begun filled c index well b1 b2 fuse down b4 b5).bind fun y9 => (some ([], y9.2.1, y9.2.2.1, y9.2.2.2.1, y9.2.2.2.2.1, y9.2.2.2.2.2.1, well, y9.2.2.2.2.2.2.1, y9.2.2.2.2.2.2.2.1, y9.2.2.2.2.2.2.2.2.1, y9.2.2.2.2.2.2.2.2.2.1, y9.2.2.2.2.2.2.2.2.2.2.1, y9.2.2.2.2.2.2.2.2.2.2.2)))) else (bif (((andI .i64 o.What 7) : Int) == 4) then ((Target_Tick o.Now fence known hold begun filled c index well b1 b2 fuse down b4 b5).bind fun y11 => (some (y11.1, fence, known, y11.2, begun, filled, well, fuse, down, b1, b2, b4, b5))) else (bif (((andI .i64 o.What 7) : Int) == 5) then ((Target_Flip (((andI .i64 o.N_ 1) : Int) == 1) fence known hold begun filled c index well b1 b2 fuse down b4 b5).bind fun y13 => (some ([], fence, known, hold, begun, filled, (((andI .i64 o.N_ 1) : Int) == 1), fuse, down, b1, b2, b4, b5))) else ((Target_Handle o.M_ o.Now fence known hold begun filled c index well b1 b2 fuse down b4 b5).bind fun y14 => (some (y14.1, y14.2.1, y14.2.2.1, y14.2.2.2.1, y14.2.2.2.2.1, y14.2.2.2.2.2.1, well, y14.2.2.2.2.2.2.1, y14.2.2.2.2.2.2.2.1, y14.2.2.2.2.2.2.2.2.1, y14.2.2.2.2.2.2.2.2.2.1, y14.2.2.2.2.2.2.2.2.2.2.1, y14.2.2.2.2.2.2.2.2.2.2.2))))))))
theorem law18_Fuzz_ok {o : Op} {fence : Int} {known : Plan} {hold : Hold} {begun filled : Int} {c : Config} {index : Int} {well : Bool} {b1 : List Entry} {b2 : List (List Int)} {fuse : Int} {down : Bool} {b4 b5 : List Int} {r : (List Msg) × Int × Plan × Hold × Int × Int × Bool × Int × Bool × (List Entry) × (List (List Int)) × (List Int) × (List Int)} (h : law18_Fuzz o fence known hold begun filled c index well b1 b2 fuse down b4 b5 = some r) : Sound E 19 [.ptr 0 0 0, .agg (Op.enc o)] [some ⟨54, true, [([.int .i64 fence] ++ Plan.encL known ([.int .i64 hold.Epoch, .int .i64 hold.Nonce, .int .u64 hold.Grants, .int .i64 hold.Until, (grD 1 (List.map Entry.enc b1)), (grD 2 (List.map (eSl 1 (eInt .i64)) b2)), .int .i64 begun, .int .i64 filled] ++ Config.encL c [.int .i64 index, .ptr 3 0 0, .bool well]))]⟩, some ⟨3, false, (List.map Entry.enc b1)⟩, some ⟨1, false, (List.map (eSl 1 (eInt .i64)) b2)⟩, some ⟨4, true, [[(grD 4 (List.map (eInt .u8) b4)), (grD 5 (List.map (eInt .u8) b5)), .int .i64 fuse, .bool down]]⟩, some ⟨1, false, (List.map (eInt .u8) b4)⟩, some ⟨1, false, (List.map (eInt .u8) b5)⟩] (Rs (law18_Fuzz_e c index) r) := so (fn := Tryd.f19) (k := true) (m := 6) h <| by
 intro r h; unfold law18_Fuzz at h
 refine zs 20 h (fun h => ?_) fun h => ?_
 ·
  refine zdR 1 [] h (fun _ => Target_Journal_ok) fun y2 h => ?_
  refine zc 1 [] h (fun _ => Journal_Fuse_ok) fun y3 h => ?_
  refine zf 5 [.mv 1, .mv 2, .mv 4, .mv 5] ?_
  exact zu 1 h [.slot 0 [some 26]]
 refine zs 6 h (fun h => ?_) fun h => ?_
 ·
  refine zdR 1 [] h (fun _ => Target_Journal_ok) fun y5 h => ?_
  refine zc 1 [] h (fun _ => Journal_Crash_ok) fun y6 h => ?_
  refine zf 5 [.mv 1, .mv 2, .mv 5] ?_
  exact zu 1 h [.slot 0 [some 26]]
 refine zs 6 h (fun h => ?_) fun h => ?_
 ·
  refine zc 6 [] h (fun _ => law18_time_ok) fun y8 h => ?_
  refine adv_ok hm 1 _ ?_
  have ok9 := fun (y : Int × Int × Plan × Hold × Int × Int × Int × Bool × (List Entry) × (List (List Int)) × (List Int) × (List Int)) (hy : Target_Restart y8 fence known hold begun filled c index well b1 b2 fuse down b4 b5 = some y) => @Eq.mp (Sound E 44 [.ptr 0 0 0, .int .i64 y8] [some ⟨54, true, [([.int .i64 fence] ++ Plan.encL known ([.int .i64 hold.Epoch, .int .i64 hold.Nonce, .int .u64 hold.Grants, .int .i64 hold.Until, (grD 1 (List.map Entry.enc b1)), (grD 2 (List.map (eSl 1 (eInt .i64)) b2)), .int .i64 begun, .int .i64 filled] ++ Config.encL c [.int .i64 index, .ptr 3 0 0, .bool well]))]⟩, some ⟨3, false, (List.map Entry.enc b1)⟩, some ⟨1, false, (List.map (eSl 1 (eInt .i64)) b2)⟩, some ⟨4, true, [[(grD 4 (List.map (eInt .u8) b4)), (grD 5 (List.map (eInt .u8) b5)), .int .i64 fuse, .bool down]]⟩, some ⟨1, false, (List.map (eInt .u8) b4)⟩, some ⟨1, false, (List.map (eInt .u8) b5)⟩] (Rs (Target_Restart_e c index well b1 b2) y)) (Sound E 44 [.ptr 0 0 0, .int .i64 y8] [some ⟨54, true, [([.int .i64 fence] ++ Plan.encL known ([.int .i64 hold.Epoch, .int .i64 hold.Nonce, .int .u64 hold.Grants, .int .i64 hold.Until, (grD 1 (List.map Entry.enc b1)), (grD 2 (List.map (eSl 1 (eInt .i64)) b2)), .int .i64 begun, .int .i64 filled] ++ Config.encL c [.int .i64 index, .ptr 3 0 0, .bool well]))]⟩, some ⟨3, false, (List.map Entry.enc b1)⟩, some ⟨1, false, (List.map (eSl 1 (eInt .i64)) b2)⟩, some ⟨4, true, [[(grD 4 (List.map (eInt .u8) b4)), (grD 5 (List.map (eInt .u8) b5)), .int .i64 fuse, .bool down]]⟩, some ⟨1, false, (List.map (eInt .u8) b4)⟩, some ⟨1, false, (List.map (eInt .u8) b5)⟩] (Rs (Target_Restart_e c index well b1 b2) y)) (by kernel_rfl) (Target_Restart_ok hy)
  refine zc 0 [] h ok9 fun y9 h => ?_
  refine zf 6 [.mv 1, .mv 2] ?_
  exact zu 1 h [.slot 0 [some 26]]
 refine zs 6 h (fun h => ?_) fun h => ?_
 ·
  refine adv_ok hm 7 _ ?_
  have ok11 := fun (y : (List Msg) × Hold) (hy : Target_Tick o.Now fence known hold begun filled c index well b1 b2 fuse down b4 b5 = some y) => @Eq.mp (Sound E 15 [.ptr 0 0 0, .int .i64 o.Now] [some ⟨54, true, [([.int .i64 fence] ++ Plan.encL known ([.int .i64 hold.Epoch, .int .i64 hold.Nonce, .int .u64 hold.Grants, .int .i64 hold.Until, (grD 1 (List.map Entry.enc b1)), (grD 2 (List.map (eSl 1 (eInt .i64)) b2)), .int .i64 begun, .int .i64 filled] ++ Config.encL c [.int .i64 index, .ptr 3 0 0, .bool well]))]⟩, some ⟨3, false, (List.map Entry.enc b1)⟩, some ⟨1, false, (List.map (eSl 1 (eInt .i64)) b2)⟩, some ⟨4, true, [[(grD 4 (List.map (eInt .u8) b4)), (grD 5 (List.map (eInt .u8) b5)), .int .i64 fuse, .bool down]]⟩, some ⟨1, false, (List.map (eInt .u8) b4)⟩, some ⟨1, false, (List.map (eInt .u8) b5)⟩] (Rs (Target_Tick_e fence known begun filled c index well b1 b2 fuse down b4 b5) y)) (Sound E 15 [.ptr 0 0 0, .int .i64 o.Now] [some ⟨54, true, [([.int .i64 fence] ++ Plan.encL known ([.int .i64 hold.Epoch, .int .i64 hold.Nonce, .int .u64 hold.Grants, .int .i64 hold.Until, (grD 1 (List.map Entry.enc b1)), (grD 2 (List.map (eSl 1 (eInt .i64)) b2)), .int .i64 begun, .int .i64 filled] ++ Config.encL c [.int .i64 index, .ptr 3 0 0, .bool well]))]⟩, some ⟨3, false, (List.map Entry.enc b1)⟩, some ⟨1, false, (List.map (eSl 1 (eInt .i64)) b2)⟩, some ⟨4, true, [[(grD 4 (List.map (eInt .u8) b4)), (grD 5 (List.map (eInt .u8) b5)), .int .i64 fuse, .bool down]]⟩, some ⟨1, false, (List.map (eInt .u8) b4)⟩, some ⟨1, false, (List.map (eInt .u8) b5)⟩] (Rs (Target_Tick_e fence known begun filled c index well b1 b2 fuse down b4 b5) y)) (by kernel_rfl) (Target_Tick_ok hy)
  refine zc 0 [] h ok11 fun y11 h => ?_
  refine zf 2 [.mv 1, .mv 2, .mv 4, .mv 5] ?_
  exact zu 1 h
 refine zs 6 h (fun h => ?_) fun h => ?_
 ·
  refine adv_ok hm 8 _ ?_
  have ok13 := fun (y : Unit) (hy : Target_Flip (((andI .i64 o.N_ 1) : Int) == 1) fence known hold begun filled c index well b1 b2 fuse down b4 b5 = some y) => @Eq.mp (Sound E 10 [.ptr 0 0 0, .bool (((andI .i64 o.N_ 1) : Int) == 1)] [some ⟨54, true, [([.int .i64 fence] ++ Plan.encL known ([.int .i64 hold.Epoch, .int .i64 hold.Nonce, .int .u64 hold.Grants, .int .i64 hold.Until, (grD 1 (List.map Entry.enc b1)), (grD 2 (List.map (eSl 1 (eInt .i64)) b2)), .int .i64 begun, .int .i64 filled] ++ Config.encL c [.int .i64 index, .ptr 3 0 0, .bool well]))]⟩, some ⟨3, false, (List.map Entry.enc b1)⟩, some ⟨1, false, (List.map (eSl 1 (eInt .i64)) b2)⟩, some ⟨4, true, [[(grD 4 (List.map (eInt .u8) b4)), (grD 5 (List.map (eInt .u8) b5)), .int .i64 fuse, .bool down]]⟩, some ⟨1, false, (List.map (eInt .u8) b4)⟩, some ⟨1, false, (List.map (eInt .u8) b5)⟩] (Rs (Target_Flip_e (((andI .i64 o.N_ 1) : Int) == 1) fence known hold begun filled c index b1 b2 fuse down b4 b5) y)) (Sound E 10 [.ptr 0 0 0, .bool (((andI .i64 o.N_ 1) : Int) == 1)] [some ⟨54, true, [([.int .i64 fence] ++ Plan.encL known ([.int .i64 hold.Epoch, .int .i64 hold.Nonce, .int .u64 hold.Grants, .int .i64 hold.Until, (grD 1 (List.map Entry.enc b1)), (grD 2 (List.map (eSl 1 (eInt .i64)) b2)), .int .i64 begun, .int .i64 filled] ++ Config.encL c [.int .i64 index, .ptr 3 0 0, .bool well]))]⟩, some ⟨3, false, (List.map Entry.enc b1)⟩, some ⟨1, false, (List.map (eSl 1 (eInt .i64)) b2)⟩, some ⟨4, true, [[(grD 4 (List.map (eInt .u8) b4)), (grD 5 (List.map (eInt .u8) b5)), .int .i64 fuse, .bool down]]⟩, some ⟨1, false, (List.map (eInt .u8) b4)⟩, some ⟨1, false, (List.map (eInt .u8) b5)⟩] (Rs (Target_Flip_e (((andI .i64 o.N_ 1) : Int) == 1) fence known hold begun filled c index b1 b2 fuse down b4 b5) y)) (by kernel_rfl) (Target_Flip_ok hy)
  refine zc 0 [] h ok13 fun y13 h => ?_
  refine zf 6 [.mv 1, .mv 2, .mv 4, .mv 5] ?_
  exact zu 1 h [.slot 0 [some 26]]
 refine adv_ok hm 10 _ ?_
 have ok14 := fun (y : (List Msg) × Int × Plan × Hold × Int × Int × Int × Bool × (List Entry) × (List (List Int)) × (List Int) × (List Int)) (hy : Target_Handle o.M_ o.Now fence known hold begun filled c index well b1 b2 fuse down b4 b5 = some y) => @Eq.mp (Sound E 11 [.ptr 0 0 0, .agg [.int .i64 o.M_.Kind, .int .i64 o.M_.From, .int .i64 o.M_.To, .int .i64 o.M_.Epoch, .int .i64 o.M_.Ballot, .int .i64 o.M_.Accepted, .int .i64 o.M_.Nonce, .int .i64 o.M_.Time, .int .u64 o.M_.Up, .int .i64 o.M_.Code, .bool o.M_.HasPlan, .int .i64 o.M_.Plan.Epoch, .int .i64 o.M_.Plan.Target, .int .i64 o.M_.Plan.Prev, .int .i64 o.M_.Plan.Spill, .int .i64 o.M_.Plan.Percent, .int .i64 o.M_.Plan.Stamp, .int .i64 o.M_.Plan.Since, .int .i64 o.M_.Plan.Ramped, .int .u64 o.M_.Plan.Up, .int .u64 o.M_.Plan.Sup, .sl false 1 (List.map (eInt .i64) o.M_.Plan.Pen), .sl false 1 (List.map (eInt .i64) o.M_.Plan.Changes), .sl false 1 (List.map (eInt .i64) o.M_.ID), .sl false 1 (List.map (eInt .u8) o.M_.Session), .sl false 1 (List.map (eInt .u8) o.M_.Payload)], .int .i64 o.Now] [some ⟨54, true, [([.int .i64 fence] ++ Plan.encL known ([.int .i64 hold.Epoch, .int .i64 hold.Nonce, .int .u64 hold.Grants, .int .i64 hold.Until, (grD 1 (List.map Entry.enc b1)), (grD 2 (List.map (eSl 1 (eInt .i64)) b2)), .int .i64 begun, .int .i64 filled] ++ Config.encL c [.int .i64 index, .ptr 3 0 0, .bool well]))]⟩, some ⟨3, false, (List.map Entry.enc b1)⟩, some ⟨1, false, (List.map (eSl 1 (eInt .i64)) b2)⟩, some ⟨4, true, [[(grD 4 (List.map (eInt .u8) b4)), (grD 5 (List.map (eInt .u8) b5)), .int .i64 fuse, .bool down]]⟩, some ⟨1, false, (List.map (eInt .u8) b4)⟩, some ⟨1, false, (List.map (eInt .u8) b5)⟩] (Rs (Target_Handle_e c index well) y)) (Sound E 11 [.ptr 0 0 0, .agg [.int .i64 o.M_.Kind, .int .i64 o.M_.From, .int .i64 o.M_.To, .int .i64 o.M_.Epoch, .int .i64 o.M_.Ballot, .int .i64 o.M_.Accepted, .int .i64 o.M_.Nonce, .int .i64 o.M_.Time, .int .u64 o.M_.Up, .int .i64 o.M_.Code, .bool o.M_.HasPlan, .int .i64 o.M_.Plan.Epoch, .int .i64 o.M_.Plan.Target, .int .i64 o.M_.Plan.Prev, .int .i64 o.M_.Plan.Spill, .int .i64 o.M_.Plan.Percent, .int .i64 o.M_.Plan.Stamp, .int .i64 o.M_.Plan.Since, .int .i64 o.M_.Plan.Ramped, .int .u64 o.M_.Plan.Up, .int .u64 o.M_.Plan.Sup, .sl false 1 (List.map (eInt .i64) o.M_.Plan.Pen), .sl false 1 (List.map (eInt .i64) o.M_.Plan.Changes), .sl false 1 (List.map (eInt .i64) o.M_.ID), .sl false 1 (List.map (eInt .u8) o.M_.Session), .sl false 1 (List.map (eInt .u8) o.M_.Payload)], .int .i64 o.Now] [some ⟨54, true, [([.int .i64 fence] ++ Plan.encL known ([.int .i64 hold.Epoch, .int .i64 hold.Nonce, .int .u64 hold.Grants, .int .i64 hold.Until, (grD 1 (List.map Entry.enc b1)), (grD 2 (List.map (eSl 1 (eInt .i64)) b2)), .int .i64 begun, .int .i64 filled] ++ Config.encL c [.int .i64 index, .ptr 3 0 0, .bool well]))]⟩, some ⟨3, false, (List.map Entry.enc b1)⟩, some ⟨1, false, (List.map (eSl 1 (eInt .i64)) b2)⟩, some ⟨4, true, [[(grD 4 (List.map (eInt .u8) b4)), (grD 5 (List.map (eInt .u8) b5)), .int .i64 fuse, .bool down]]⟩, some ⟨1, false, (List.map (eInt .u8) b4)⟩, some ⟨1, false, (List.map (eInt .u8) b5)⟩] (Rs (Target_Handle_e c index well) y)) (by kernel_rfl) (Target_Handle_ok hy)
 refine zc 0 [] h ok14 fun y14 h => ?_
 exact zu 3 h
end Go.RX.L

namespace Go.RX.L
open Go Go.RX
/-- What records tell: the fence, the log, what is shut. -/
structure TR where
  f : Int
  l : List Entry
  cl : List (List Int)
def tk (x : TR) (m : Msg) : TR := ⟨(takeT m x.f x.l x.cl).1, (takeT m x.f x.l x.cl).2.1, (takeT m x.f x.l x.cl).2.2⟩
def replayT (rs : List Msg) : TR := rs.foldl tk ⟨0, [], []⟩
theorem replayT_app (rs : List Msg) (m : Msg) : replayT (rs ++ [m]) = tk (replayT rs) m := by simp [replayT]
def fitsT (x : TR) (m : Msg) : Prop :=
  (m.Kind = 19 ∧ 1 ≤ m.Epoch ∧ x.f < m.Epoch) ∨
  (m.Kind = 14 ∧ x.f ≤ m.Epoch ∧ m.ID.length = 3 ∧ (∀ e ∈ x.l, e.ID ≠ m.ID) ∧ ¬ m.ID ∈ x.cl) ∨
  (m.Kind = 18 ∧ m.ID.length = 3 ∧ (∀ e ∈ x.l, e.ID ≠ m.ID) ∧ ¬ m.ID ∈ x.cl)
structure KT (x : TR) : Prop where
  f0 : 0 ≤ x.f
  srt : x.l.Pairwise fun a b => a.Epoch ≤ b.Epoch
  top : ∀ e ∈ x.l, e.Epoch ≤ x.f
  ids : x.l.Pairwise fun a b => a.ID ≠ b.ID
  dis : ∀ e ∈ x.l, ¬ e.ID ∈ x.cl
  len : ∀ e ∈ x.l, e.ID.length = 3
  pay : ∀ e ∈ x.l, e.Payload.length ≤ 1024
  shut : ∀ y ∈ x.cl, y.length = 3
theorem KT0 : KT ⟨0, [], []⟩ := ⟨by simp, by simp, by simp, by simp, by simp, by simp, by simp, by simp⟩
theorem KT.take {x : TR} (h : KT x) {m : Msg} (hr : rightM m = true) (hm : fitsT x m) : KT (tk x m) := by
  have tx := txt_in hr
  unfold txM at tx
  obtain ⟨h1, h2, h3, h4, h5, h6, h7, h8⟩ := h
  rcases hm with ⟨a1, a2, a3⟩ | ⟨a1, a2, a3, a4, a5⟩ | ⟨a1, a3, a4, a5⟩
  · have e : tk x m = ⟨m.Epoch, x.l, x.cl⟩ := by
      unfold tk takeT
      simp only [if_pos a1]
      have : mxI x.f m.Epoch = m.Epoch := by unfold mxI; split <;> omega
      rw [this]
    rw [e]
    exact ⟨by simp only; omega, h2, fun y hy => by have := h3 y hy; simp only; omega, h4, h5, h6, h7, h8⟩
  · have e : tk x m = ⟨m.Epoch, x.l ++ [⟨m.ID, m.Epoch, m.Payload⟩], x.cl⟩ := by
      unfold tk takeT
      have n1 : ¬ m.Kind = 19 := by omega
      simp only [if_neg n1, if_pos a1]
      have : mxI x.f m.Epoch = m.Epoch := by unfold mxI; split <;> omega
      rw [this]
    rw [e]
    refine ⟨by simp only; omega, ?_, ?_, ?_, ?_, ?_, ?_, h8⟩
    · refine List.pairwise_append.2 ⟨h2, by simp, fun y hy z hz => ?_⟩
      rw [List.mem_singleton.1 hz]
      have := h3 y hy; simp only; omega
    · intro y hy
      rcases List.mem_append.1 hy with hy | hy
      · have := h3 y hy; simp only; omega
      · rw [List.mem_singleton.1 hy]; exact Int.le_refl _
    · refine List.pairwise_append.2 ⟨h4, by simp, fun y hy z hz => ?_⟩
      rw [List.mem_singleton.1 hz]
      exact a4 y hy
    · intro y hy
      rcases List.mem_append.1 hy with hy | hy
      · exact h5 y hy
      · rw [List.mem_singleton.1 hy]; exact a5
    · intro y hy
      rcases List.mem_append.1 hy with hy | hy
      · exact h6 y hy
      · rw [List.mem_singleton.1 hy]; exact a3
    · intro y hy
      rcases List.mem_append.1 hy with hy | hy
      · exact h7 y hy
      · rw [List.mem_singleton.1 hy]; exact tx.2.2
  · have e : tk x m = ⟨x.f, x.l, x.cl ++ [m.ID]⟩ := by
      unfold tk takeT
      have n1 : ¬ m.Kind = 19 := by omega
      have n2 : ¬ m.Kind = 14 := by omega
      simp only [if_neg n1, if_neg n2, if_pos a1]
    rw [e]
    refine ⟨h1, h2, h3, h4, ?_, h6, h7, ?_⟩
    · intro y hy hz
      rcases List.mem_append.1 hz with hz | hz
      · exact h5 y hy hz
      · exact a4 y hy (List.mem_singleton.1 hz)
    · intro y hy
      rcases List.mem_append.1 hy with hy | hy
      · exact h8 y hy
      · rw [List.mem_singleton.1 hy]; exact a3
theorem tk_len (x : TR) (m : Msg) : (tk x m).l.length ≤ x.l.length + 1 ∧ (tk x m).cl.length ≤ x.cl.length + 1 := by
  unfold tk takeT
  split
  · simp
  · split
    · simp
    · split <;> simp
theorem replayT_len (rs : List Msg) : (replayT rs).l.length ≤ rs.length ∧ (replayT rs).cl.length ≤ rs.length := by
  have key : ∀ (rs : List Msg) (x : TR) (n : Nat), x.l.length ≤ n → x.cl.length ≤ n → (rs.foldl tk x).l.length ≤ n + rs.length ∧ (rs.foldl tk x).cl.length ≤ n + rs.length := by
    intro rs
    induction rs with
    | nil => intro x n h1 h2; simpa using ⟨h1, h2⟩
    | cons m rs ih =>
      intro x n h1 h2
      have := tk_len x m
      have := ih (tk x m) (n + 1) (by omega) (by omega)
      simp only [List.foldl_cons, List.length_cons]
      omega
  have := key rs ⟨0, [], []⟩ 0 (by simp) (by simp)
  unfold replayT
  omega
/-! ### the state -/
structure TS where
  rs : List Msg
  pend : Option Msg
  x : TR
  z : TZ
  well : Bool
  down : Bool
structure RepT (a : TS) (fuse : Int) (s t : List Int) (i : Nat) : Prop where
  kr : KT (replayT a.rs)
  km : KT a.x
  up : a.down = false → a.x = replayT a.rs
  pd : ∀ m, a.pend = some m → okRec m ∧ fitsT (replayT a.rs) m
  pn : a.down = false → a.pend = none
  fu : okFuse fuse
  dk : ∃ J, Disk a.rs J s ∧ (a.down = false → J = []) ∧ (a.pend ≠ none → J = [])
  tl : t = (match a.pend with | some m => log [m] | none => [])
  len : s.length + t.length ≤ 4408 * i
  cnt : a.rs.length + a.pend.toList.length ≤ i
  ml : a.x.l.length ≤ i ∧ a.x.cl.length ≤ i
  gz : inK .u64 a.z.hold.Grants
theorem log_lenT {m : Msg} (h : okRec m) : (log [m]).length ≤ 4408 := by
  have h3 := encB_len h.1 h.2
  rw [log_one, encF_len]; omega
def hvalT (m : Msg) (now : Int) : Prop := rightM m = true ∧ 0 ≤ now ∧ now ≤ 1099511627776
noncomputable def fitsP (c : Config) (p : Plan) : Bool := rightP p && (decide ((p.Pen.length : Int) = c.Targets) && (decide (mxI (mxI p.Target p.Prev) p.Spill < c.Targets) && (decide (andNotI .u64 (orI .u64 p.Up p.Sup) (IntKind.u64.wrap (shlI .u64 1 c.Targets - 1)) = 0) && decide ((p.Changes.length : Int) ≤ c.B_))))
def sealM (c : Config) (index : Int) (m : Msg) : Msg := ⟨13, nodeT c index, m.From, m.Epoch, 0, 0, 0, 0, 0, 0, false, zeroPl, [], [], []⟩
def aliveM (c : Config) (index : Int) (m : Msg) : Msg := ⟨2, nodeT c index, m.From, 0, 0, 0, m.Nonce, 0, 0, 0, false, zeroPl, [], [], []⟩
/-- What is noted, what is said then, and the window. -/
inductive NoteT (c : Config) (index : Int) (a : TS) (m : Msg) (now : Int) : Msg → List Msg → Int → Int → Int → Prop
  | fnc : m.Kind = 12 → 1 ≤ m.Epoch → a.x.f < m.Epoch → NoteT c index a m now (recF m) [sealM c index m] a.z.begun a.z.filled a.z.filled
  | wr {r : Msg} {out : List Msg} {b fi post : Int} : m.Kind = 14 → WAct c index a.x.f a.x.l a.x.cl a.z m now (.note r out b fi post) → NoteT c index a m now r out b fi post
inductive THs (c : Config) (index : Int) (a : TS) (m : Msg) (now : Int) : List Msg → TS → Prop
  | off : (a.down = true ∨ ¬ hvalT m now) → THs c index a m now [] a
  | same : a.down = false → hvalT m now → THs c index a m now [] a
  | known : a.down = false → hvalT m now → m.Kind = 9 → m.HasPlan = true → fitsP c m.Plan = true → m.Plan.Epoch > a.z.known.Epoch → THs c index a m now [] { a with z := { a.z with known := m.Plan } }
  | grant : a.down = false → hvalT m now → m.Kind = 11 → m.Code = 1 → THs c index a m now [] { a with z := { a.z with hold := grantP a.z.hold c m } }
  | alive : a.down = false → hvalT m now → m.Kind = 1 → a.well = true → THs c index a m now [aliveM c index m] a
  | sealed : a.down = false → hvalT m now → m.Kind = 12 → 1 ≤ m.Epoch → m.Epoch ≤ a.x.f → THs c index a m now [sealM c index m] a
  | said {out : List Msg} : a.down = false → hvalT m now → m.Kind = 14 → WAct c index a.x.f a.x.l a.x.cl a.z m now (.say out) → THs c index a m now out a
  | lost {r : Msg} {out : List Msg} {b fi post : Int} (p : Option Msg) : a.down = false → hvalT m now → NoteT c index a m now r out b fi post → (p = none ∨ p = some r) → THs c index a m now [] ⟨a.rs, p, a.x, ⟨a.z.known, a.z.hold, b, fi⟩, a.well, true⟩
  | kept {r : Msg} {out : List Msg} {b fi post : Int} : a.down = false → hvalT m now → NoteT c index a m now r out b fi post → THs c index a m now out ⟨a.rs ++ [r], none, tk a.x r, ⟨a.z.known, a.z.hold, b, post⟩, a.well, false⟩
theorem note_fits {c : Config} {index : Int} {a : TS} {m : Msg} {now : Int} {r : Msg} {out : List Msg} {b fi post : Int} (hf : FineM m) (hr : rightM m = true) (h : NoteT c index a m now r out b fi post) : okRec r ∧ fitsT a.x r := by
  cases h with
  | fnc h1 h2 h3 => exact ⟨recF_ok hf, .inl ⟨rfl, h2, h3⟩⟩
  | wr h1 h =>
    cases h with
    | write h2 h3 h4 h5 h6 h7 h8 h9 => exact ⟨recW_ok hf hr, .inr (.inl ⟨rfl, h7, h2, h3, h4⟩)⟩
    | full h2 h3 h4 h5 h6 h7 h8 h9 => exact ⟨recC_ok hf hr, .inr (.inr ⟨rfl, h2, h3, h4⟩)⟩
    | close h2 h3 h4 h5 h6 => exact ⟨recC_ok hf hr, .inr (.inr ⟨rfl, h2, h3, h4⟩)⟩
section
variable {c : Config} {index : Int} {a : TS} {fuse : Int} {s t : List Int} {i : Nat}
def TS.out (a : TS) (o : List Msg) (fuse : Int) (s t : List Int) : List Msg × Int × Plan × Hold × Int × Int × Int × Bool × List Entry × List (List Int) × List Int × List Int :=
  (o, a.x.f, a.z.known, a.z.hold, a.z.begun, a.z.filled, fuse, a.down, a.x.l, a.x.cl, s, t)
theorem fits_ok {p : Plan} (hs : Shrt p) (hu : 0 ≤ p.Up) (hv : 0 ≤ p.Sup) (hc : rightC c = true) {fence : Int} {known : Plan} {hold : Hold} {begun filled : Int} {well : Bool} {l : List Entry} {cl : List (List Int)} {d : Bool} :
    Target_fits p fence known hold begun filled c index well l cl fuse d s t = some (fitsP c p) := by
  have hb : ∀ x y : Int, (x == y) = decide (x = y) := fun x y => by by_cases h : x = y <;> simp [h]
  have h0 : decide (c.Targets < 0) = false := by have := (rightC_n hc).2.2; simp; omega
  unfold Target_fits fitsP
  simp only [h0, Bool.not_false, cond_true, right_ok hs hu hv, Option.bind_some, hb, List.length_map]
  cases rightP p <;> cases decide ((p.Pen.length : Int) = c.Targets) <;> cases decide (mxI (mxI p.Target p.Prev) p.Spill < c.Targets) <;> cases decide (andNotI .u64 (orI .u64 p.Up p.Sup) (IntKind.u64.wrap (shlI .u64 1 c.Targets - 1)) = 0) <;> rfl
theorem handleT_off {m : Msg} {now : Int} (hf : FineM m) (h : a.down = true ∨ ¬ hvalT m now) : Target_Handle m now a.x.f a.z.known a.z.hold a.z.begun a.z.filled c index a.well a.x.l a.x.cl fuse a.down s t = some (a.out [] fuse s t) := by
  have h1 : Target_Handle_1 m now a.x.f a.z.known a.z.hold a.z.begun a.z.filled c index a.well a.x.l a.x.cl fuse a.down s t true = some (a.out [] fuse s t) := by simp [Target_Handle_1, TS.out]
  simp only [Target_Handle, mright_ok hf.sh, Option.bind_some]
  cases hr : rightM m with
  | false => simp only [Bool.not_false, cond_true, h1]
  | true =>
    simp only [Bool.not_true, cond_false]
    by_cases h2 : now < 0
    · simp only [decide_eq_true h2, cond_true, h1]
    · by_cases h3 : now > 1099511627776
      · simp only [decide_eq_false h2, decide_eq_true h3, cond_false, cond_true, h1]
      · have hd : a.down = true := by
          rcases h with h | h
          · exact h
          · exact absurd ⟨hr, by omega, by omega⟩ h
        simp only [decide_eq_false h2, decide_eq_false h3, cond_false, Journal_Down, Option.bind_some]
        rw [hd] at h1 ⊢
        exact h1
theorem rep_note {m : Msg} {now : Int} {r : Msg} {out : List Msg} {b fi post : Int} (h : RepT a fuse s t i) (hd : a.down = false) (hv : hvalT m now) (hf : FineM m) (hn : NoteT c index a m now r out b fi post) :
    ∃ out' a' fuse' s' t', runT a.x.f a.x.l a.x.cl ⟨a.z.known, a.z.hold, b, fi⟩ fuse s (.note r out b fi post) = (out', a'.x.f, a'.z.begun, a'.z.filled, fuse', a'.down, a'.x.l, a'.x.cl, s', t') ∧ a'.z.known = a.z.known ∧ a'.z.hold = a.z.hold ∧ a'.well = a.well ∧ RepT a' fuse' s' t' (i + 1) ∧ THs c index a m now out' a' := by
  obtain ⟨hr, hfit⟩ := note_fits hf hv.1 hn
  obtain ⟨kr, km, up, pd, pn, fu, ⟨J, dk, dj, dp⟩, tl, len, cnt, ml, gz⟩ := h
  have hJ := dj hd
  subst hJ
  have hp := pn hd
  rw [hp] at tl
  have tl : t = [] := tl
  subst tl
  have hx := up hd
  have hl := log_lenT hr
  rw [hp] at cnt
  simp only [Option.toList, List.length_nil, Nat.add_zero] at cnt
  simp only [runT]
  cases he : eff fuse false with
  | none =>
    exact ⟨[], ⟨a.rs, none, a.x, ⟨a.z.known, a.z.hold, b, fi⟩, a.well, true⟩, fd fuse false, s, [], rfl, rfl, rfl, rfl,
      ⟨kr, km, fun h => (by cases h), fun m hm => (by cases hm), fun h => (by cases h), fd_fuse fu, ⟨[], dk, fun _ => rfl, fun _ => rfl⟩, rfl, by omega, by simp; omega, ⟨Nat.le_succ_of_le ml.1, Nat.le_succ_of_le ml.2⟩, gz⟩, .lost none hd hv hn (.inl rfl)⟩
  | some f =>
    have hf1 := eff_fuse fu he
    cases hg : eff f false with
    | none =>
      refine ⟨[], ⟨a.rs, some r, a.x, ⟨a.z.known, a.z.hold, b, fi⟩, a.well, true⟩, fd f false, s, log [r], by simp only [hg], rfl, rfl, rfl,
        ⟨kr, km, fun h => (by cases h), fun m hm => (by cases hm; exact ⟨hr, by rw [← hx]; exact hfit⟩), fun h => (by cases h), fd_fuse hf1, ⟨[], dk, fun _ => rfl, fun _ => rfl⟩, rfl, ?_, by simp; omega, ⟨Nat.le_succ_of_le ml.1, Nat.le_succ_of_le ml.2⟩, gz⟩, .lost (some r) hd hv hn (.inr rfl)⟩
      simp at len ⊢; omega
    | some g =>
      have tl2 := tk_len a.x r
      refine ⟨out, ⟨a.rs ++ [r], none, tk a.x r, ⟨a.z.known, a.z.hold, b, post⟩, a.well, false⟩, g, s ++ log [r], [], by simp only [hg]; rfl, rfl, rfl, rfl,
        ⟨?_, km.take hr.2 hfit, fun _ => ?_, fun m hm => (by cases hm), fun _ => rfl, eff_fuse hf1 hg, ⟨[], ⟨fun x hx => ?_, ?_, dk.cut, dk.jb⟩, fun _ => rfl, fun _ => rfl⟩, rfl, ?_, by simp; omega, ⟨by simp only; omega, by simp only; omega⟩, gz⟩, .kept hd hv hn⟩
      · rw [replayT_app, ← hx]; exact km.take hr.2 hfit
      · rw [replayT_app, ← hx]
      · rcases List.mem_append.1 hx with hx | hx
        · exact dk.ok x hx
        · rw [List.mem_singleton.1 hx]; exact hr
      · rw [dk.eq, log_app]; simp
      · simp at len ⊢; omega
theorem RepT.more {j : Nat} (h : RepT a fuse s t i) (hj : i ≤ j) : RepT a fuse s t j := { h with len := by have := h.len; omega, cnt := by have := h.cnt; omega, ml := ⟨Nat.le_trans h.ml.1 hj, Nat.le_trans h.ml.2 hj⟩ }
theorem RepT.z {z : TZ} {w : Bool} (h : RepT a fuse s t i) (hz : inK .u64 z.hold.Grants) : RepT ⟨a.rs, a.pend, a.x, z, w, a.down⟩ fuse s t i := ⟨h.kr, h.km, h.up, h.pd, h.pn, h.fu, h.dk, h.tl, h.len, h.cnt, h.ml, hz⟩
theorem rep_handleT {m : Msg} {now : Int} (h : RepT a fuse s t i) (hc : rightC c = true) (hi : 0 ≤ index ∧ index ≤ 16) (hf : FineM m) (hn : i ≤ 150) :
    ∃ out a' fuse' s' t', Target_Handle m now a.x.f a.z.known a.z.hold a.z.begun a.z.filled c index a.well a.x.l a.x.cl fuse a.down s t = some (a'.out out fuse' s' t') ∧ a'.well = a.well ∧ RepT a' fuse' s' t' (i + 1) ∧ THs c index a m now out a' := by
  by_cases hoff : a.down = true ∨ ¬ hvalT m now
  · exact ⟨[], a, fuse, s, t, handleT_off hf hoff, rfl, h.more (by omega), .off hoff⟩
  simp only [not_or, Bool.not_eq_true, Classical.not_not] at hoff
  obtain ⟨hd, hv⟩ := hoff
  have h' := h.more (show i ≤ i + 1 by omega)
  have nd := node_ok hc hi
  have hu := handle_up (fence := a.x.f) (known := a.z.known) (hold := a.z.hold) (begun := a.z.begun) (filled := a.z.filled) (c := c) (index := index) (well := a.well) (l := a.x.l) (cl := a.x.cl) (fuse := fuse) (s := s) (t := t) hf.sh hv.1 hv.2
  have ht : t = [] := by have := h.tl; rw [h.pn hd] at this; exact this
  have hs : s.length ≤ 10000000 := by have := h.len; omega
  have hl : a.x.l.length ≤ 100000 := by have := h.ml; omega
  have hcl : a.x.cl.length ≤ 100000 := by have := h.ml; omega
  have same : ∀ {g : Option (List Msg × Int × Plan × Hold × Int × Int × Int × Bool × List Entry × List (List Int) × List Int × List Int)}, Target_Handle_1 m now a.x.f a.z.known a.z.hold a.z.begun a.z.filled c index a.well a.x.l a.x.cl fuse false s t false = g → g = some (a.out [] fuse s t) →
      ∃ out a' fuse' s' t', Target_Handle m now a.x.f a.z.known a.z.hold a.z.begun a.z.filled c index a.well a.x.l a.x.cl fuse a.down s t = some (a'.out out fuse' s' t') ∧ a'.well = a.well ∧ RepT a' fuse' s' t' (i + 1) ∧ THs c index a m now out a' := fun h1 h2 =>
    ⟨[], a, fuse, s, t, by rw [hd, hu, h1, h2], rfl, h', .same hd hv⟩
  have outE : ∀ (z : TZ) o, (some (o, a.x.f, z.known, z.hold, z.begun, z.filled, fuse, false, a.x.l, a.x.cl, s, t) : Option (List Msg × Int × Plan × Hold × Int × Int × Int × Bool × List Entry × List (List Int) × List Int × List Int)) = some ((⟨a.rs, a.pend, a.x, z, a.well, a.down⟩ : TS).out o fuse s t) := fun z o => by simp only [TS.out, hd]
  by_cases k1 : m.Kind = 1
  · cases hw : a.well with
    | true =>
      refine ⟨[aliveM c index m], a, fuse, s, t, ?_, hw, h', .alive hd hv k1 hw⟩
      rw [hw] at hu
      rw [hd, hu]
      simp only [Target_Handle_1, cond_false, k1, beq_self_eq_true, cond_true, Target_reply, nd, Option.bind_some, TS.out, aliveM, zeroPl, hd]
    | false =>
      rw [hw] at hu
      refine ⟨[], a, fuse, s, t, ?_, hw, h', .same hd hv⟩
      rw [hd, hu]
      simp only [Target_Handle_1, cond_false, k1, beq_self_eq_true, cond_true, TS.out, hd]
  by_cases k9 : m.Kind = 9
  · have h2f : Target_Handle_2 m now a.x.f a.z.known a.z.hold a.z.begun a.z.filled c index a.well a.x.l a.x.cl fuse false s t false = some (a.out [] fuse s t) := by simp only [Target_Handle_2, cond_false, TS.out, hd]
    cases hp : m.HasPlan with
    | false => exact same rfl (by simp only [Target_Handle_1, cond_false, k9, show ((9 : Int) == 1) = false from rfl, beq_self_eq_true, cond_true, hp, h2f])
    | true =>
      have ff := fits_ok (p := m.Plan) hf.pl.s hf.pl.up hf.pl.sup hc (index := index) (fuse := fuse) (s := s) (t := t) (fence := a.x.f) (known := a.z.known) (hold := a.z.hold) (begun := a.z.begun) (filled := a.z.filled) (well := a.well) (l := a.x.l) (cl := a.x.cl) (d := false)
      cases hfp : fitsP c m.Plan with
      | false => exact same rfl (by simp only [Target_Handle_1, cond_false, k9, show ((9 : Int) == 1) = false from rfl, beq_self_eq_true, cond_true, hp, ff, Option.bind_some, hfp, h2f])
      | true =>
        by_cases he : m.Plan.Epoch > a.z.known.Epoch
        · refine ⟨[], { a with z := { a.z with known := m.Plan } }, fuse, s, t, ?_, rfl, h'.z (w := a.well) h.gz, .known hd hv k9 hp hfp he⟩
          rw [hd, hu]
          simp only [Target_Handle_1, cond_false, k9, show ((9 : Int) == 1) = false from rfl, beq_self_eq_true, cond_true, hp, ff, Option.bind_some, hfp, decide_eq_true he, Target_Handle_2, TS.out, hd]
        · exact same rfl (by simp only [Target_Handle_1, cond_false, k9, show ((9 : Int) == 1) = false from rfl, beq_self_eq_true, cond_true, hp, ff, Option.bind_some, hfp, decide_eq_false he, h2f])
  by_cases k12 : m.Kind = 12
  · have b1 : ((12 : Int) == 1) = false := rfl
    have b9 : ((12 : Int) == 9) = false := rfl
    by_cases he : ¬ m.Epoch ≥ 1
    · exact same rfl (by simp only [Target_Handle_1, cond_false, k12, b1, b9, beq_self_eq_true, cond_true, decide_eq_false he, Target_Handle_3, TS.out, hd])
    rw [Classical.not_not] at he
    by_cases hle : m.Epoch ≤ a.x.f
    · refine ⟨[sealM c index m], a, fuse, s, t, ?_, rfl, h', .sealed hd hv k12 he hle⟩
      rw [hd, hu]
      simp only [Target_Handle_1, cond_false, k12, b1, b9, beq_self_eq_true, cond_true, decide_eq_true he, decide_eq_true hle, Target_Handle_3, Target_reply, nd, Option.bind_some, TS.out, sealM, zeroPl, hd]
    · have hn : NoteT c index a m now (recF m) [sealM c index m] a.z.begun a.z.filled a.z.filled := .fnc k12 he (by omega)
      obtain ⟨out', a', fuse', s', t', h1, h2, h3, h4, h5, h6⟩ := rep_note h hd hv hf hn
      refine ⟨out', a', fuse', s', t', ?_, h4, h5, h6⟩
      have hrem := remember_ok (known := a.z.known) (hold := a.z.hold) (begun := a.z.begun) (filled := a.z.filled) (c := c) (index := index) (well := a.well) (fence := a.x.f) (recF_ok hf) h.fu hs hl hcl
      simp only [recF, zeroPl] at hrem
      rw [hd, hu, ht]
      simp only [Target_Handle_1, cond_false, k12, b1, b9, beq_self_eq_true, cond_true, decide_eq_true he, decide_eq_false hle, hrem, Option.bind_some]
      simp only [runT] at h1
      cases he1 : eff fuse false with
      | none =>
        rw [he1] at h1
        simp only [Prod.mk.injEq] at h1
        obtain ⟨e1, e2, e3, e4, e5, e6, e7, e8, e9, e10⟩ := h1
        simp only [Target_Handle_3, cond_false, TS.out, h2, h3, ← e1, ← e2, ← e3, ← e4, ← e5, ← e6, ← e7, ← e8, ← e9, ← e10]
      | some f =>
        cases hg : eff f false with
        | none =>
          simp only [he1, hg, Prod.mk.injEq] at h1
          obtain ⟨e1, e2, e3, e4, e5, e6, e7, e8, e9, e10⟩ := h1
          simp only [hg, Target_Handle_3, cond_false, TS.out, h2, h3, ← e1, ← e2, ← e3, ← e4, ← e5, ← e6, ← e7, ← e8, ← e9, ← e10]
          simp [recF, zeroPl]
        | some g =>
          simp only [he1, hg, Prod.mk.injEq] at h1
          obtain ⟨e1, e2, e3, e4, e5, e6, e7, e8, e9, e10⟩ := h1
          simp only [hg, Target_Handle_3, cond_true, Target_reply, nd, Option.bind_some, TS.out, h2, h3, ← e1, ← e2, ← e3, ← e4, ← e5, ← e6, ← e7, ← e8, ← e9, ← e10]
          simp [recF, zeroPl, sealM]
  by_cases k11 : m.Kind = 11
  · have b1 : ((11 : Int) == 1) = false := rfl
    have b9 : ((11 : Int) == 9) = false := rfl
    have b12 : ((11 : Int) == 12) = false := rfl
    by_cases hco : m.Code = 1
    · refine ⟨[], { a with z := { a.z with hold := grantP a.z.hold c m } }, fuse, s, t, ?_, rfl, h'.z (w := a.well) (grant_u64 _ _ _ h.gz), .grant hd hv k11 hco⟩
      rw [hd, hu]
      simp only [Target_Handle_1, cond_false, k11, b1, b9, b12, beq_self_eq_true, cond_true, hco, grant_ok _ _ _ h.gz, Option.bind_some, TS.out, hd]
    · exact same rfl (by simp only [Target_Handle_1, cond_false, k11, b1, b9, b12, beq_self_eq_true, cond_true, beqF hco, TS.out, hd])
  by_cases k14 : m.Kind = 14
  · have b1 : ((14 : Int) == 1) = false := rfl
    have b9 : ((14 : Int) == 9) = false := rfl
    have b11 : ((14 : Int) == 11) = false := rfl
    have b12 : ((14 : Int) == 12) = false := rfl
    obtain ⟨A, hA, hw⟩ := write_ok (fence := a.x.f) (c := c) (index := index) (well := a.well) (l := a.x.l) (cl := a.x.cl) (fuse := fuse) (s := s) (z := a.z) (m := m) (now := now) hc hi hf hv.1 h.fu hs hl hcl h.km.len h.km.shut
    cases A with
    | say out =>
      refine ⟨out, a, fuse, s, t, ?_, rfl, h', .said hd hv k14 hA⟩
      rw [hd, hu, ht]
      simp only [Target_Handle_1, cond_false, k14, b1, b9, b11, b12, beq_self_eq_true, cond_true, hw, Option.bind_some, runT, TS.out, hd]
    | note r out b fi post =>
      have hn : NoteT c index a m now r out b fi post := .wr k14 hA
      obtain ⟨out', a', fuse', s', t', h1, h2, h3, h4, h5, h6⟩ := rep_note h hd hv hf hn
      refine ⟨out', a', fuse', s', t', ?_, h4, h5, h6⟩
      have h1 : runT a.x.f a.x.l a.x.cl a.z fuse s (.note r out b fi post) = (out', a'.x.f, a'.z.begun, a'.z.filled, fuse', a'.down, a'.x.l, a'.x.cl, s', t') := h1
      rw [hd, hu, ht]
      simp only [Target_Handle_1, cond_false, k14, b1, b9, b11, b12, beq_self_eq_true, cond_true, hw, Option.bind_some, h1, TS.out, h2, h3]
  · exact same rfl (by simp only [Target_Handle_1, cond_false, beqF k1, beqF k9, beqF k12, beqF k11, beqF k14, TS.out, hd])
end
end Go.RX.L

namespace Go.RX.L
open Go Go.RX Go.Proofs
attribute [local irreducible] FinQ
noncomputable def Target_Log_c := codeAt (bodyOf Tryd.f16)
noncomputable def Target_Log_e (fence : Int) (known : Plan) (hold : Hold) (begun filled : Int) (c : Config) (index : Int) (well : Bool) (b1 : List Entry) (b2 : List (List Int)) (fuse : Int) (down : Bool) (b4 b5 : List Int) (y : List Entry) : D × Sto := (.sl false 3 (List.map Entry.enc y), [some ⟨54, true, [([.int .i64 fence] ++ Plan.encL known ([.int .i64 hold.Epoch, .int .i64 hold.Nonce, .int .u64 hold.Grants, .int .i64 hold.Until, (grD 1 (List.map Entry.enc b1)), (grD 2 (List.map (eSl 1 (eInt .i64)) b2)), .int .i64 begun, .int .i64 filled] ++ Config.encL c [.int .i64 index, .ptr 3 0 0, .bool well]))]⟩, some ⟨3, false, (List.map Entry.enc b1)⟩, some ⟨1, false, (List.map (eSl 1 (eInt .i64)) b2)⟩, some ⟨4, true, [[(grD 4 (List.map (eInt .u8) b4)), (grD 5 (List.map (eInt .u8) b5)), .int .i64 fuse, .bool down]]⟩, some ⟨1, false, (List.map (eInt .u8) b4)⟩, some ⟨1, false, (List.map (eInt .u8) b5)⟩])
inductive Target_Log_S where
 | s0
 | s1 (t11 t12 : Int) (out : List Entry)
noncomputable def Target_Log_M (fence : Int) (known : Plan) (hold : Hold) (begun filled : Int) (c : Config) (index : Int) (well : Bool) (b1 : List Entry) (b2 : List (List Int)) (fuse : Int) (down : Bool) (b4 b5 : List Int) : Target_Log_S → M
 | .s0 => startM Tryd.f16 [.ptr 0 0 0] [some ⟨54, true, [([.int .i64 fence] ++ Plan.encL known ([.int .i64 hold.Epoch, .int .i64 hold.Nonce, .int .u64 hold.Grants, .int .i64 hold.Until, (grD 1 (List.map Entry.enc b1)), (grD 2 (List.map (eSl 1 (eInt .i64)) b2)), .int .i64 begun, .int .i64 filled] ++ Config.encL c [.int .i64 index, .ptr 3 0 0, .bool well]))]⟩, some ⟨3, false, (List.map Entry.enc b1)⟩, some ⟨1, false, (List.map (eSl 1 (eInt .i64)) b2)⟩, some ⟨4, true, [[(grD 4 (List.map (eInt .u8) b4)), (grD 5 (List.map (eInt .u8) b5)), .int .i64 fuse, .bool down]]⟩, some ⟨1, false, (List.map (eInt .u8) b4)⟩, some ⟨1, false, (List.map (eInt .u8) b5)⟩]
 | .s1 t11 t12 out => ⟨[.lpc (Target_Log_c [1, 1, 0, 1, 0, 0]) 7176, .blk 0, .code (Target_Log_c [1, 1, 1])], [(3, (grD 6 (List.map Entry.enc out))), (10, (grD 1 (List.map Entry.enc b1))), (11, .int .i64 t11), (12, .int .i64 t12)], [some ⟨54, true, [([.int .i64 fence] ++ Plan.encL known ([.int .i64 hold.Epoch, .int .i64 hold.Nonce, .int .u64 hold.Grants, .int .i64 hold.Until, (grD 1 (List.map Entry.enc b1)), (grD 2 (List.map (eSl 1 (eInt .i64)) b2)), .int .i64 begun, .int .i64 filled] ++ Config.encL c [.int .i64 index, .ptr 3 0 0, .bool well]))]⟩, some ⟨3, false, (List.map Entry.enc b1)⟩, some ⟨1, false, (List.map (eSl 1 (eInt .i64)) b2)⟩, some ⟨4, true, [[(grD 4 (List.map (eInt .u8) b4)), (grD 5 (List.map (eInt .u8) b5)), .int .i64 fuse, .bool down]]⟩, some ⟨1, false, (List.map (eInt .u8) b4)⟩, some ⟨1, false, (List.map (eInt .u8) b5)⟩, some ⟨3, false, (List.map Entry.enc out)⟩]⟩
abbrev Target_Log_W (fence : Int) (known : Plan) (hold : Hold) (begun filled : Int) (c : Config) (index : Int) (well : Bool) (b1 : List Entry) (b2 : List (List Int)) (fuse : Int) (down : Bool) (b4 b5 : List Int) := SOk E (Cx.of Tryd.f16 true 6) (Target_Log_e fence known hold begun filled c index well b1 b2 fuse down b4 b5) (Target_Log_M fence known hold begun filled c index well b1 b2 fuse down b4 b5)
noncomputable def Target_Log_0 (fence : Int) (known : Plan) (hold : Hold) (begun filled : Int) (c : Config) (index : Int) (well : Bool) (b1 : List Entry) (b2 : List (List Int)) (fuse : Int) (down : Bool) (b4 b5 : List Int) : Option (Target_Log_S ⊕ (List Entry)) := (some (.inl (.s1 (((List.map Entry.enc b1).length : Nat) : Int) 0 ([]))))
noncomputable def Target_Log_1 (fence : Int) (known : Plan) (hold : Hold) (begun filled : Int) (c : Config) (index : Int) (well : Bool) (b1 : List Entry) (b2 : List (List Int)) (fuse : Int) (down : Bool) (b4 b5 : List Int) (t11 t12 : Int) (out : List Entry) : Option (Target_Log_S ⊕ (List Entry)) := (bif (decide ((t12 : Int) < t11)) then (bif ((decide ((0 : Int) ≤ t12)) && (decide ((t12 : Int) < (((List.map Entry.enc b1).length : Nat) : Int)))) then (((b1)[(0 + t12.toNat)]?).bind fun y3 => ((slices_Clone y3.ID).bind fun y5 => ((bytes_Clone y3.Payload).bind fun y6 => (bif (decide (((List.map Entry.enc out).length + 1) * 56 ≤ bytesLim)) then (some (.inl (.s1 t11 (IntKind.i64.wrap (t12 + 1)) (out ++ [(⟨y5, y3.Epoch, y6⟩ : Entry)])))) else none)))) else none) else (some (.inr out)))
noncomputable def Target_Log_step (fence : Int) (known : Plan) (hold : Hold) (begun filled : Int) (c : Config) (index : Int) (well : Bool) (b1 : List Entry) (b2 : List (List Int)) (fuse : Int) (down : Bool) (b4 b5 : List Int) : Target_Log_S → Option (Target_Log_S ⊕ (List Entry))
 | .s0 => Target_Log_0 fence known hold begun filled c index well b1 b2 fuse down b4 b5
 | .s1 t11 t12 out => Target_Log_1 fence known hold begun filled c index well b1 b2 fuse down b4 b5 t11 t12 out
theorem Target_Log_0_ok {fence known hold begun filled c index well b1 b2 fuse down b4 b5} : Target_Log_W fence known hold begun filled c index well b1 b2 fuse down b4 b5 .s0 (Target_Log_0 fence known hold begun filled c index well b1 b2 fuse down b4 b5) := by
 intro r x h ha; unfold Target_Log_0 at h
 refine adv_ok hm 23 _ ?_
 obtain rfl := Option.some.inj h
 refine r_cut 7176 [.mat 3 3] (m' := ⟨[.lpc (Target_Log_c [1, 1, 0, 1, 0, 0]) 7176, .blk 0, .code (Target_Log_c [1, 1, 1])], [(3, .msl 6 0 0 0 false), (10, (grD 1 (List.map Entry.enc b1))), (11, .int .i64 (((List.map Entry.enc b1).length : Nat) : Int)), (12, .int .i64 0)], [some ⟨54, true, [([.int .i64 fence] ++ Plan.encL known ([.int .i64 hold.Epoch, .int .i64 hold.Nonce, .int .u64 hold.Grants, .int .i64 hold.Until, (grD 1 (List.map Entry.enc b1)), (grD 2 (List.map (eSl 1 (eInt .i64)) b2)), .int .i64 begun, .int .i64 filled] ++ Config.encL c [.int .i64 index, .ptr 3 0 0, .bool well]))]⟩, some ⟨3, false, (List.map Entry.enc b1)⟩, some ⟨1, false, (List.map (eSl 1 (eInt .i64)) b2)⟩, some ⟨4, true, [[(grD 4 (List.map (eInt .u8) b4)), (grD 5 (List.map (eInt .u8) b5)), .int .i64 fuse, .bool down]]⟩, some ⟨1, false, (List.map (eInt .u8) b4)⟩, some ⟨1, false, (List.map (eInt .u8) b5)⟩, some ⟨3, false, []⟩]⟩) (by kernel_rfl) ?_
 refine r_len (n1 := 0) (n2 := (List.map Entry.enc ([])).length) (fun n_len => .go ⟨[.lpc (Target_Log_c [1, 1, 0, 1, 0, 0]) 7176, .blk 0, .code (Target_Log_c [1, 1, 1])], [(3, .msl 6 0 n_len n_len false), (10, (grD 1 (List.map Entry.enc b1))), (11, .int .i64 (((List.map Entry.enc b1).length : Nat) : Int)), (12, .int .i64 0)], [some ⟨54, true, [([.int .i64 fence] ++ Plan.encL known ([.int .i64 hold.Epoch, .int .i64 hold.Nonce, .int .u64 hold.Grants, .int .i64 hold.Until, (grD 1 (List.map Entry.enc b1)), (grD 2 (List.map (eSl 1 (eInt .i64)) b2)), .int .i64 begun, .int .i64 filled] ++ Config.encL c [.int .i64 index, .ptr 3 0 0, .bool well]))]⟩, some ⟨3, false, (List.map Entry.enc b1)⟩, some ⟨1, false, (List.map (eSl 1 (eInt .i64)) b2)⟩, some ⟨4, true, [[(grD 4 (List.map (eInt .u8) b4)), (grD 5 (List.map (eInt .u8) b5)), .int .i64 fuse, .bool down]]⟩, some ⟨1, false, (List.map (eInt .u8) b4)⟩, some ⟨1, false, (List.map (eInt .u8) b5)⟩, some ⟨3, false, []⟩]⟩) (by simp) ?_
 exact ha
theorem Target_Log_1_ok {fence known hold begun filled c index well b1 b2 fuse down b4 b5 t11 t12 out} : Target_Log_W fence known hold begun filled c index well b1 b2 fuse down b4 b5 (.s1 t11 t12 out) (Target_Log_1 fence known hold begun filled c index well b1 b2 fuse down b4 b5 t11 t12 out) := by
 intro r x h ha; unfold Target_Log_1 at h
 refine zs 7 h (fun h => ?_) fun h => ?_
 ·
  refine zn 6 h fun h => ?_
  refine zr 1 Entry.enc h fun y3 h => ?_
  refine zd 7 [] h (fun _ => slices_Clone_ok) fun y5 h => ?_
  refine zdR 2 [] h (fun _ => bytes_Clone_ok) fun y6 h => ?_
  refine zn 0 h fun h => ?_
  refine za 0 Entry.enc out ([(⟨y5, y3.Epoch, y6⟩ : Entry)]) ?_
  exact zj 6 h ha
 refine adv_ok hm 6 _ ?_
 refine r_fzT 2 (n1 := (0 + (List.map Entry.enc out).length)) (n2 := ((List.map Entry.enc out).length)) (raw := (List.take ((List.map Entry.enc out).length) (List.drop 0 (List.map Entry.enc out)))) (rs := (List.map Entry.enc out)) (by kernel_rfl) (ble_full _) (by simp only [take_full, take_full', List.map_take, List.map_drop]) ?_
 exact zt 1 h ha
noncomputable def Target_Log (fence : Int) (known : Plan) (hold : Hold) (begun filled : Int) (c : Config) (index : Int) (well : Bool) (b1 : List Entry) (b2 : List (List Int)) (fuse : Int) (down : Bool) (b4 b5 : List Int) : Option (List Entry) := evf (Target_Log_step fence known hold begun filled c index well b1 b2 fuse down b4 b5) (.s0)
theorem Target_Log_ok {fence : Int} {known : Plan} {hold : Hold} {begun filled : Int} {c : Config} {index : Int} {well : Bool} {b1 : List Entry} {b2 : List (List Int)} {fuse : Int} {down : Bool} {b4 b5 : List Int} {r : List Entry} (h : Target_Log fence known hold begun filled c index well b1 b2 fuse down b4 b5 = some r) : Sound E 16 [.ptr 0 0 0] [some ⟨54, true, [([.int .i64 fence] ++ Plan.encL known ([.int .i64 hold.Epoch, .int .i64 hold.Nonce, .int .u64 hold.Grants, .int .i64 hold.Until, (grD 1 (List.map Entry.enc b1)), (grD 2 (List.map (eSl 1 (eInt .i64)) b2)), .int .i64 begun, .int .i64 filled] ++ Config.encL c [.int .i64 index, .ptr 3 0 0, .bool well]))]⟩, some ⟨3, false, (List.map Entry.enc b1)⟩, some ⟨1, false, (List.map (eSl 1 (eInt .i64)) b2)⟩, some ⟨4, true, [[(grD 4 (List.map (eInt .u8) b4)), (grD 5 (List.map (eInt .u8) b5)), .int .i64 fuse, .bool down]]⟩, some ⟨1, false, (List.map (eInt .u8) b4)⟩, some ⟨1, false, (List.map (eInt .u8) b5)⟩] (Rs (Target_Log_e fence known hold begun filled c index well b1 b2 fuse down b4 b5) r) := sc (fn := Tryd.f16) (k := true) (m := 6) (stM := (Target_Log_M fence known hold begun filled c index well b1 b2 fuse down b4 b5)) h fun s => by
 cases s with
 | s0 => exact Target_Log_0_ok
 | s1 => exact Target_Log_1_ok
end Go.RX.L

namespace Go.RX.L
open Go Go.RX
inductive CStepT (a : TS) : TS → Prop
  | none : CStepT a ⟨a.rs, none, a.x, a.z, a.well, true⟩
  | one {m : Msg} : a.pend = some m → CStepT a ⟨a.rs ++ [m], none, a.x, a.z, a.well, true⟩
inductive RStepT (c : Config) (a : TS) (now : Int) : TS → Prop
  | up : RStepT c a now ⟨a.rs, none, replayT a.rs, ⟨zeroC_ c, ⟨0, 0, 0, 0⟩, now, 0⟩, a.well, false⟩
  | fail : RStepT c a now ⟨a.rs, none, ⟨0, [], []⟩, ⟨zeroC_ c, ⟨0, 0, 0, 0⟩, 0, 0⟩, a.well, true⟩
def askL (c : Config) (index e now : Int) : List Msg := (List.range (2 * c.F_ + 1).toNat).map fun (k : Nat) => ⟨10, nodeT c index, (k : Int), e, 0, 0, now, 0, 0, 1, false, zeroPl, [], [], []⟩
inductive KStep (c : Config) (index : Int) (a : TS) (now : Int) : List Msg → TS → Prop
  | idle : KStep c index a now [] a
  | ask : a.down = false → 0 ≤ now ∧ now ≤ 1099511627776 → namesP a.z.known index = true → ¬ (a.z.hold.Epoch = a.z.known.Epoch ∧ now < IntKind.i64.wrap (a.z.hold.Nonce + mxI (IntKind.i64.wrap (Int.tdiv c.L_ 2)) 1)) → KStep c index a now (askL c index a.z.known.Epoch now) { a with z := { a.z with hold := askP a.z.hold a.z.known.Epoch now } }
section
variable {c : Config} {index : Int} {a : TS} {fuse : Int} {s t : List Int} {i : Nat}
theorem rep_fuseT {k : Int} (h : RepT a fuse s t i) (hk : inK .i64 k) : Journal_Fuse k fuse a.down s t = some (mxI k (-1)) ∧ RepT a (mxI k (-1)) s t i := by
  refine ⟨rfl, { h with fu := ?_ }⟩
  have := inI64.1 hk
  unfold okFuse mxI; split <;> omega
theorem rep_crashT {keep : Int} (h : RepT a fuse s t i) (hn : i ≤ 200) : ∃ a' s', Journal_Crash keep fuse a.down s t = some (-1, true, s', []) ∧ a'.down = true ∧ a'.x = a.x ∧ a'.z = a.z ∧ a'.well = a.well ∧ RepT a' (-1) s' [] i ∧ CStepT a a' := by
  obtain ⟨kr, km, up, pd, pn, fu, ⟨J, dk, dj, dp⟩, tl, len, cnt, ml, gz⟩ := h
  have hc := jcrash (keep := keep) (fuse := fuse) (down := a.down) (s := s) (t := t) (by omega)
  have hkl : (kept_ keep t).length ≤ t.length := by unfold kept_; rw [List.length_take]; omega
  have f0 : okFuse (-1) := by unfold okFuse; omega
  have no : ∀ {P : Prop}, true = false → P := fun h => by cases h
  cases hp : a.pend with
  | none =>
    rw [hp] at tl cnt
    have tl : t = [] := tl
    subst tl
    exact ⟨⟨a.rs, none, a.x, a.z, a.well, true⟩, _, hc, rfl, rfl, rfl, rfl, ⟨kr, km, no, fun m hm => (by cases hm), no, f0, ⟨J, dk.crash0 keep, no, fun h => absurd rfl h⟩, rfl, by simp [kept_] at len ⊢; omega, by simp at cnt ⊢; omega, ml, gz⟩, .none⟩
  | some m =>
    obtain ⟨hm, hfit⟩ := pd m hp
    have hJ := dp (by rw [hp]; simp)
    subst hJ
    rw [hp] at tl cnt
    have tl : t = log [m] := tl
    simp only [Option.toList, List.length_cons, List.length_nil] at cnt
    rcases dk.crash hm keep with h1 | ⟨J, h1⟩
    · refine ⟨⟨a.rs ++ [m], none, a.x, a.z, a.well, true⟩, _, hc, rfl, rfl, rfl, rfl, ⟨?_, km, no, fun m hm => (by cases hm), no, f0, ⟨[], by rw [tl]; exact h1, no, fun h => absurd rfl h⟩, rfl, by simp; omega, by simp; omega, ml, gz⟩, .one hp⟩
      rw [replayT_app]; exact kr.take hm.2 hfit
    · exact ⟨⟨a.rs, none, a.x, a.z, a.well, true⟩, _, hc, rfl, rfl, rfl, rfl, ⟨kr, km, no, fun m hm => (by cases hm), no, f0, ⟨J, by rw [tl]; exact h1, no, fun h => absurd rfl h⟩, rfl, by simp; omega, by simp; omega, ml, gz⟩, .none⟩
theorem eachT_ok {rs : List Msg} (hr : ∀ m ∈ rs, okRec m) (hn : rs.length ≤ 90000) {now : Int} {w : Bool} {l0 : List Entry} {cl0 : List (List Int)} {fu : Int} {known : Plan} {hold : Hold} {s' : List Int} :
    Ev (Target_Restart_step now c index w l0 cl0) (.s1 (rs.map encB) (rs.map (·.Kind)) (rs.length : Int) 0 0 known hold 0 0 fu false [] [] s' []) (0, (replayT rs).f, known, hold, now, 0, fu, false, (replayT rs).l, (replayT rs).cl, s', []) := by
  have loop : ∀ (j i : Nat) (x : TR), i + j = rs.length → x.l.length ≤ i → x.cl.length ≤ i → Ev (Target_Restart_step now c index w l0 cl0) (.s1 (rs.map encB) (rs.map (·.Kind)) (rs.length : Int) (i : Int) x.f known hold 0 0 fu false x.l x.cl s' []) (0, ((rs.drop i).foldl tk x).f, known, hold, now, 0, fu, false, ((rs.drop i).foldl tk x).l, ((rs.drop i).foldl tk x).cl, s', []) := by
    intro j
    induction j with
    | zero =>
      intro i x hi _ _
      rw [List.drop_of_length_le (by omega)]
      refine .done ?_
      have : decide ((i : Int) < (rs.length : Int)) = false := by simp; omega
      simp only [Target_Restart_step, Target_Restart_1, this, cond_false, List.foldl_nil]
    | succ j ih =>
      intro i x hi h1 h2
      have hlt : i < rs.length := by omega
      have hm := hr _ (List.getElem_mem hlt)
      have hof : msg_Of (rs[i]).Kind (encB rs[i]) = some (rs[i], 0) := by
        have hb := encB_len hm.1 hm.2
        have hby : Bytes (encB rs[i]) := hm.fr.2.1
        rw [of_ok (kind_in hm.2) hby (by simp only [memB]; omega), ofM_enc hm.1 hm.2]
      rw [List.drop_eq_getElem_cons hlt, List.foldl_cons]
      have tl := tk_len x rs[i]
      refine .next (s' := Target_Restart_S.s1 (rs.map encB) (rs.map (·.Kind)) (rs.length : Int) ((i + 1 : Nat) : Int) (tk x rs[i]).f known hold 0 0 fu false (tk x rs[i]).l (tk x rs[i]).cl s' []) ?_ (ih (i + 1) _ (by omega) (by omega) (by omega))
      have g1 : (rs.map (·.Kind))[i]? = some (rs[i]).Kind := by simp [hlt]
      have g2 : (rs.map encB)[i]? = some (encB rs[i]) := by simp [hlt]
      have w : IntKind.i64.wrap ((i : Int) + 1) = ((i + 1 : Nat) : Int) := by rw [wI64 (by omega) (by omega)]; norm_cast
      have tkk : ∀ {ww : Bool}, Target_take rs[i] x.f known hold 0 0 c index ww x.l x.cl fu false s' [] = some ((tk x rs[i]).f, (tk x rs[i]).l, (tk x rs[i]).cl) := fun {ww} => take_ok hm.2 (by omega) (by omega)
      simp only [Target_Restart_step, Target_Restart_1, ltB hlt, cond_true, List.length_map, le0, Bool.and_self, Int.toNat_natCast, g1, g2, Option.bind_some, hof, beq_self_eq_true, tkk, w]
  have := loop rs.length 0 ⟨0, [], []⟩ (by omega) (by simp) (by simp)
  simpa [replayT] using this
theorem rep_restartT {now : Int} (h : RepT a fuse s t i) (hc : rightC c = true) (ht : c.Tiers.length < 9223372036854775807) (hn : i ≤ 200) :
    ∃ e a' fuse' s', Target_Restart now a.x.f a.z.known a.z.hold a.z.begun a.z.filled c index a.well a.x.l a.x.cl fuse a.down s t = some (e, a'.x.f, a'.z.known, a'.z.hold, a'.z.begun, a'.z.filled, fuse', a'.down, a'.x.l, a'.x.cl, s', []) ∧ a'.well = a.well ∧ RepT a' fuse' s' [] i ∧ RStepT c a now a' := by
  obtain ⟨kr, km, up, pd, pn, fu, ⟨J, dk, dj, dp⟩, tl, len, cnt, ml, gz⟩ := h
  obtain ⟨e0, hcut⟩ := dk.cut
  have hz := polzero_ok ht hc
  have ho := jopen (fuse := fuse) (down := a.down) (t := t) (okFrs dk.ok) hcut dk.jb (by have := dk.eq; unfold log at this; rw [← this]; omega) fu
  have hs : frs (a.rs.map rec1) ++ J = s := dk.eq.symm
  rw [hs] at ho
  have m1 : (a.rs.map rec1).map (·.1) = a.rs.map (·.Kind) := by simp [rec1]
  have m2 : (a.rs.map rec1).map (·.2) = a.rs.map encB := by simp [rec1]
  rw [m1, m2] at ho
  have rl := replayT_len a.rs
  have no : ∀ {P : Prop}, true = false → P := fun h => by cases h
  have g0 : inK .u64 0 := inU64.2 (by decide)
  have hup : ∀ f, okFuse f → frs (a.rs.map rec1) ++ J = s → RepT ⟨a.rs, none, replayT a.rs, ⟨zeroC_ c, ⟨0, 0, 0, 0⟩, now, 0⟩, a.well, false⟩ f (frs (a.rs.map rec1)) [] i := fun f hf e => by
    refine ⟨kr, kr, fun _ => rfl, fun m hm => (by cases hm), fun _ => rfl, hf, ⟨[], ⟨dk.ok, by simp [log], ⟨_, rfl⟩, fun c hc => by simp at hc⟩, fun _ => rfl, fun _ => rfl⟩, rfl, ?_, by simp; omega, ⟨by simp only; omega, by simp only; omega⟩, g0⟩
    have h2 : (frs (a.rs.map rec1) ++ J).length = s.length := by rw [e]
    rw [List.length_append] at h2
    simp; omega
  have run : ∀ f, Journal_Open fuse a.down s t = some (a.rs.map (·.Kind), a.rs.map encB, 0, f, false, frs (a.rs.map rec1), []) → Target_Restart now a.x.f a.z.known a.z.hold a.z.begun a.z.filled c index a.well a.x.l a.x.cl fuse a.down s t = some (0, (replayT a.rs).f, zeroC_ c, ⟨0, 0, 0, 0⟩, now, 0, f, false, (replayT a.rs).l, (replayT a.rs).cl, frs (a.rs.map rec1), []) := fun f ho => by
    refine evf_of (.next (s' := Target_Restart_S.s1 (a.rs.map encB) (a.rs.map (·.Kind)) (a.rs.length : Int) 0 0 (zeroC_ c) ⟨0, 0, 0, 0⟩ 0 0 f false [] [] (frs (a.rs.map rec1)) []) ?_ (eachT_ok dk.ok (by omega)))
    simp only [Target_Restart_step, Target_Restart_0, hz, ho, Option.bind_some, bne_self_eq_false, cond_false, List.length_map, zeroC_]
  by_cases hJ : J = []
  · rw [if_pos hJ] at ho
    exact ⟨0, ⟨a.rs, none, replayT a.rs, ⟨zeroC_ c, ⟨0, 0, 0, 0⟩, now, 0⟩, a.well, false⟩, _, _, run _ ho, rfl, hup fuse fu hs, .up⟩
  · rw [if_neg hJ] at ho
    cases he : eff fuse false with
    | some f =>
      rw [he] at ho
      exact ⟨0, ⟨a.rs, none, replayT a.rs, ⟨zeroC_ c, ⟨0, 0, 0, 0⟩, now, 0⟩, a.well, false⟩, _, _, run _ ho, rfl, hup f (eff_fuse fu he) hs, .up⟩
    | none =>
      rw [he] at ho
      refine ⟨61, ⟨a.rs, none, ⟨0, [], []⟩, ⟨zeroC_ c, ⟨0, 0, 0, 0⟩, 0, 0⟩, a.well, true⟩, fd fuse false, s, ?_, rfl, ⟨kr, KT0, no, fun m hm => (by cases hm), no, fd_fuse fu, ⟨J, dk, no, fun h => absurd rfl h⟩, rfl, by simp; omega, by simp; omega, by simp, g0⟩, .fail⟩
      refine evf_of (.done ?_)
      simp only [Target_Restart_step, Target_Restart_0, hz, ho, Option.bind_some, zeroC_]
      rfl
theorem rep_tickT {now : Int} (h : RepT a fuse s t i) (hc : rightC c = true) (hi : 0 ≤ index ∧ index ≤ 16) :
    ∃ out z', Target_Tick now a.x.f a.z.known a.z.hold a.z.begun a.z.filled c index a.well a.x.l a.x.cl fuse a.down s t = some (out, z'.hold) ∧ z'.known = a.z.known ∧ z'.begun = a.z.begun ∧ z'.filled = a.z.filled ∧ inK .u64 z'.hold.Grants ∧ KStep c index a now out { a with z := z' } := by
  have hnames := names_ok a.z.known index
  have key : ∀ b : Bool, Ev (Target_Tick_step now a.x.f a.z.known a.z.hold a.z.begun a.z.filled c index a.well a.x.l a.x.cl fuse a.down s t) (.s3 a.z.known.Epoch true) ([], a.z.hold) := fun b => .done rfl
  by_cases hoff : now < 0 ∨ now > 1099511627776 ∨ a.down = true ∨ namesP a.z.known index = false
  · refine ⟨[], a.z, evf_of (.next (s' := .s3 a.z.known.Epoch true) ?_ (key true)), rfl, rfl, rfl, h.gz, .idle⟩
    simp only [Target_Tick_step, Target_Tick_0]
    by_cases h1 : now < 0
    · simp only [decide_eq_true h1, cond_true]
    · by_cases h2 : now > 1099511627776
      · simp only [decide_eq_false h1, decide_eq_true h2, cond_true, cond_false]
      · cases h3 : a.down with
        | true => simp only [decide_eq_false h1, decide_eq_false h2, cond_false, Journal_Down, Option.bind_some, cond_true]
        | false =>
          have h4 : namesP a.z.known index = false := by
            rcases hoff with h | h | h | h
            · exact absurd h h1
            · exact absurd h h2
            · rw [h3] at h; cases h
            · exact h
          simp only [decide_eq_false h1, decide_eq_false h2, cond_false, Journal_Down, Option.bind_some, hnames, h4, Bool.not_false]
  simp only [not_or, Bool.not_eq_true, Bool.not_eq_false] at hoff
  obtain ⟨h1, h2, h3, h4⟩ := hoff
  have st0 : Target_Tick_step now a.x.f a.z.known a.z.hold a.z.begun a.z.filled c index a.well a.x.l a.x.cl fuse a.down s t .s0 = some (.inl (.s3 a.z.known.Epoch false)) := by
    simp only [Target_Tick_step, Target_Tick_0, decide_eq_false h1, decide_eq_false h2, cond_false, Journal_Down, Option.bind_some, h3, hnames, h4, Bool.not_true]
  by_cases hw : a.z.hold.Epoch = a.z.known.Epoch ∧ now < IntKind.i64.wrap (a.z.hold.Nonce + mxI (IntKind.i64.wrap (Int.tdiv c.L_ 2)) 1)
  · refine ⟨[], a.z, evf_of (.next st0 (.next (s' := .s2 a.z.known.Epoch true) ?_ (.done rfl))), rfl, rfl, rfl, h.gz, .idle⟩
    simp only [Target_Tick_step, Target_Tick_3, cond_false, beq_iff_eq.2 hw.1, cond_true, decide_eq_true hw.2]
  · have hac : api_Acceptors c = some (2 * c.F_ + 1) := by
      obtain ⟨g1, g2, g3⟩ := rightC_n hc
      simp only [api_Acceptors]
      rw [wI64 (n := 2 * c.F_) (by omega) (by omega), wI64 (by omega) (by omega)]
    obtain ⟨g1, g2, g3⟩ := rightC_n hc
    have nd := node_ok hc hi
    refine ⟨askL c index a.z.known.Epoch now, { a.z with hold := askP a.z.hold a.z.known.Epoch now }, evf_of (.next st0 (.next (s' := .s2 a.z.known.Epoch false) ?_ (.next (s' := .s1 a.z.known.Epoch (2 * c.F_ + 1) 0 (askP a.z.hold a.z.known.Epoch now) []) ?_ ?_))), rfl, rfl, rfl, inU64.2 (by simp [askP]), .ask h3 ⟨by omega, by omega⟩ h4 hw⟩
    · simp only [Target_Tick_step, Target_Tick_3, cond_false]
      by_cases he : a.z.hold.Epoch = a.z.known.Epoch
      · have : ¬ now < IntKind.i64.wrap (a.z.hold.Nonce + mxI (IntKind.i64.wrap (Int.tdiv c.L_ 2)) 1) := fun h => hw ⟨he, h⟩
        simp only [beq_iff_eq.2 he, cond_true, decide_eq_false this]
      · simp only [beqF he, cond_false]
    · simp only [Target_Tick_step, Target_Tick_2, cond_false, ask_ok, hac, Option.bind_some]
    · have loop : ∀ (j k : Nat), k + j = (2 * c.F_ + 1).toNat → Ev (Target_Tick_step now a.x.f a.z.known a.z.hold a.z.begun a.z.filled c index a.well a.x.l a.x.cl fuse a.down s t) (.s1 a.z.known.Epoch (2 * c.F_ + 1) (k : Int) (askP a.z.hold a.z.known.Epoch now) ((List.range k).map fun (k : Nat) => (⟨10, nodeT c index, (k : Int), a.z.known.Epoch, 0, 0, now, 0, 0, 1, false, zeroPl, [], [], []⟩ : Msg))) (askL c index a.z.known.Epoch now, askP a.z.hold a.z.known.Epoch now) := by
        intro j
        induction j with
        | zero =>
          intro k hk
          refine .done ?_
          have : decide ((k : Int) < 2 * c.F_ + 1) = false := by simp; omega
          simp only [Target_Tick_step, Target_Tick_1, this, cond_false, askL]
          rw [← hk]; rfl
        | succ j ih =>
          intro k hk
          have : decide ((k : Int) < 2 * c.F_ + 1) = true := by simp; omega
          have lim : decide ((k + 1) * 288 ≤ bytesLim) = true := limOk (by omega)
          have w : IntKind.i64.wrap ((k : Int) + 1) = ((k + 1 : Nat) : Int) := by rw [wI64 (by omega) (by omega)]; norm_cast
          refine .next (s' := .s1 a.z.known.Epoch (2 * c.F_ + 1) ((k + 1 : Nat) : Int) (askP a.z.hold a.z.known.Epoch now) ((List.range (k + 1)).map fun (k : Nat) => (⟨10, nodeT c index, (k : Int), a.z.known.Epoch, 0, 0, now, 0, 0, 1, false, zeroPl, [], [], []⟩ : Msg))) ?_ (ih (k + 1) (by omega))
          simp only [Target_Tick_step, Target_Tick_1, this, cond_true, nd, Option.bind_some, List.length_map, List.length_range, lim, w, List.range_succ, List.map_append, List.map_cons, List.map_nil]
          rfl
      have := loop (2 * c.F_ + 1).toNat 0 (by omega)
      simpa using this
/-- One step of whatever is done. -/
inductive FStep (c : Config) (index : Int) (a : TS) (o : Op) : List Msg → TS → Prop
  | fuse : andI .i64 o.What 7 = 1 → FStep c index a o [] a
  | crash {a' : TS} : andI .i64 o.What 7 = 2 → a'.down = true → a'.x = a.x → a'.z = a.z → CStepT a a' → FStep c index a o [] a'
  | back {a' : TS} : andI .i64 o.What 7 = 3 → RStepT c a (mxI 0 (mnI o.Now 1099511627776)) a' → FStep c index a o [] a'
  | tick {out : List Msg} {a' : TS} : andI .i64 o.What 7 = 4 → KStep c index a o.Now out a' → FStep c index a o out a'
  | flip (w : Bool) : andI .i64 o.What 7 = 5 → FStep c index a o [] { a with well := w }
  | msg {out : List Msg} {a' : TS} : andI .i64 o.What 7 ≠ 1 → andI .i64 o.What 7 ≠ 2 → andI .i64 o.What 7 ≠ 3 → andI .i64 o.What 7 ≠ 4 → andI .i64 o.What 7 ≠ 5 → THs c index a o.M_ o.Now out a' → FStep c index a o out a'
theorem fuzz_ok {o : Op} (h : RepT a fuse s t i) (ho : o.Ok) (hc : rightC c = true) (ht : c.Tiers.length < 9223372036854775807) (hi : 0 ≤ index ∧ index ≤ 16) (hn : i ≤ 150) :
    ∃ out a' fuse' s' t', law18_Fuzz o a.x.f a.z.known a.z.hold a.z.begun a.z.filled c index a.well a.x.l a.x.cl fuse a.down s t = some (out, a'.x.f, a'.z.known, a'.z.hold, a'.z.begun, a'.z.filled, a'.well, fuse', a'.down, a'.x.l, a'.x.cl, s', t') ∧ RepT a' fuse' s' t' (i + 1) ∧ FStep c index a o out a' := by
  obtain ⟨-, om, -, oN⟩ := ho
  have fm := om.fine
  unfold law18_Fuzz
  by_cases h1 : andI .i64 o.What 7 = 1
  · obtain ⟨e, hr⟩ := rep_fuseT h oN
    refine ⟨[], a, _, s, t, ?_, hr.more (by omega), .fuse h1⟩
    simp only [beq_iff_eq.2 h1, cond_true, Target_Journal, Option.bind_some, e]
  by_cases h2 : andI .i64 o.What 7 = 2
  · obtain ⟨a', s', e, hd, hx, hz, hw, hr, hs⟩ := rep_crashT (keep := o.N_) h (by omega)
    refine ⟨[], a', _, s', [], ?_, hr.more (by omega), .crash h2 hd hx hz hs⟩
    simp only [beqF h1, cond_false, beq_iff_eq.2 h2, cond_true, Target_Journal, Option.bind_some, e, hd, hx, hz, hw]
  by_cases h3 : andI .i64 o.What 7 = 3
  · obtain ⟨e0, a', fuse', s', e, hw, hr, hs⟩ := rep_restartT (index := index) (now := mxI 0 (mnI o.Now 1099511627776)) h hc ht (by omega)
    refine ⟨[], a', fuse', s', [], ?_, hr.more (by omega), .back h3 hs⟩
    have tm : law18_time o.Now = some (mxI 0 (mnI o.Now 1099511627776)) := rfl
    simp only [beqF h1, beqF h2, cond_false, beq_iff_eq.2 h3, cond_true, tm, Option.bind_some, e, hw]
  by_cases h4 : andI .i64 o.What 7 = 4
  · obtain ⟨out, z', e, e1, e2, e3, hg, hs⟩ := rep_tickT (now := o.Now) h hc hi
    refine ⟨out, { a with z := z' }, fuse, s, t, ?_, (h.more (by omega)).z (w := a.well) hg, .tick h4 hs⟩
    simp only [beqF h1, beqF h2, beqF h3, cond_false, beq_iff_eq.2 h4, cond_true, Option.bind_some, e, e1, e2, e3]
  by_cases h5 : andI .i64 o.What 7 = 5
  · refine ⟨[], { a with well := (andI .i64 o.N_ 1 : Int) == 1 }, fuse, s, t, ?_, (h.more (by omega)).z h.gz, .flip _ h5⟩
    simp only [beqF h1, beqF h2, beqF h3, beqF h4, cond_false, beq_iff_eq.2 h5, cond_true, Option.bind_some, Target_Flip]
  · obtain ⟨out, a', fuse', s', t', e, hw, hr, hs⟩ := rep_handleT (now := o.Now) h hc hi fm hn
    refine ⟨out, a', fuse', s', t', ?_, hr, .msg h1 h2 h3 h4 h5 hs⟩
    simp only [beqF h1, beqF h2, beqF h3, beqF h4, beqF h5, cond_false, Option.bind_some, e, TS.out, hw]
def aT (c : Config) : TS := ⟨[], none, ⟨0, [], []⟩, ⟨zeroC_ c, ⟨0, 0, 0, 0⟩, 0, 0⟩, true, false⟩
theorem rep_newT : RepT (aT c) (-1) [] [] 0 := ⟨KT0, KT0, fun _ => rfl, fun m hm => (by cases hm), fun _ => rfl, by unfold okFuse; omega, ⟨[], Disk.nil, fun _ => rfl, fun _ => rfl⟩, rfl, by simp, by simp [aT], by simp [aT], inU64.2 (by simp [aT])⟩
theorem logT_ok {l : List Entry} (hl : l.length ≤ 90000) (hi : ∀ e ∈ l, e.ID.length = 3) (hp : ∀ e ∈ l, e.Payload.length ≤ 1024) {f : Int} {known : Plan} {hold : Hold} {begun filled : Int} {w : Bool} {cl : List (List Int)} {d : Bool} :
    Target_Log f known hold begun filled c index w l cl fuse d s t = some l := by
  have loop : ∀ (j k : Nat), k + j = l.length → Ev (Target_Log_step f known hold begun filled c index w l cl fuse d s t) (.s1 (l.length : Int) (k : Int) (l.take k)) l := by
    intro j
    induction j with
    | zero =>
      intro k hk
      refine .done ?_
      have : decide ((k : Int) < (l.length : Int)) = false := by simp; omega
      simp only [Target_Log_step, Target_Log_1, this, cond_false]
      rw [List.take_of_length_le (by omega)]
    | succ j ih =>
      intro k hk
      have hlt : k < l.length := by omega
      have e1 := sclone_ok (b := (l[k]).ID) (by rw [hi _ (List.getElem_mem hlt)]; decide)
      have e2 := clone_ok (b := (l[k]).Payload) (by have := hp _ (List.getElem_mem hlt); omega)
      have w : IntKind.i64.wrap ((k : Int) + 1) = ((k + 1 : Nat) : Int) := by rw [wI64 (by omega) (by omega)]; norm_cast
      have lim : decide (((l.take k).length + 1) * 56 ≤ bytesLim) = true := limOk (by rw [List.length_take]; omega)
      refine .next (s' := .s1 (l.length : Int) ((k + 1 : Nat) : Int) (l.take (k + 1))) ?_ (ih (k + 1) (by omega))
      have tk : l.take (k + 1) = l.take k ++ [l[k]] := by rw [List.take_succ_eq_append_getElem hlt]
      simp only [Target_Log_step, Target_Log_1, ltB hlt, cond_true, List.length_map, le0, Bool.and_self, Int.toNat_natCast, Nat.zero_add, List.getE hlt, Option.bind_some, e1, e2, lim, w, tk]
  refine evf_of (.next (s' := .s1 (l.length : Int) 0 []) ?_ (by have := loop l.length 0 (by omega); simpa using this))
  simp only [Target_Log_step, Target_Log_0, List.length_map]
end
end Go.RX.L

namespace Go.RX.L
open Go Go.RX
def namedOk (p : Plan) : Prop := 0 ≤ p.Epoch ∧ (namesP p 0 = true → 1 ≤ p.Epoch)
theorem named0 (c : Config) : namedOk (zeroC_ c) := ⟨by simp [zeroC_], fun h => by simp [namesP, zeroC_] at h⟩
inductive LStep (c : Config) (a : TS) (o : Op) (out : List Msg) (a' : TS) : Prop
  | same : (∀ y ∈ out, y.Kind ≠ 10) → a'.z.hold = a.z.hold → a'.x.l = a.x.l → LStep c a o out a'
  | ask : andI .i64 o.What 7 = 4 → out = askL c 0 a.z.known.Epoch o.Now → 0 ≤ o.Now ∧ o.Now ≤ 1099511627776 → namesP a.z.known 0 = true → a'.z.hold = askP a.z.hold a.z.known.Epoch o.Now → a'.x.l = a.x.l → LStep c a o out a'
  | grant : andI .i64 o.What 7 ≠ 1 → andI .i64 o.What 7 ≠ 2 → andI .i64 o.What 7 ≠ 4 → andI .i64 o.What 7 ≠ 5 → out = [] → o.M_.Kind = 11 → o.M_.Code = 1 → a'.z.hold = grantP a.z.hold c o.M_ → a'.x.l = a.x.l → LStep c a o out a'
  | write (e : Entry) : o.M_.Kind = 14 → (∀ y ∈ out, y.Kind ≠ 10) → a'.z.hold = a.z.hold → a'.x.l = a.x.l ++ [e] → e.Epoch = a.z.known.Epoch → namesP a.z.known 0 = true → liveP a.z.hold a.z.known.Epoch o.Now = true → LStep c a o out a'
theorem step_l {c : Config} {a a' : TS} {o : Op} {out : List Msg} (hn : namedOk a.z.known) (h3 : andI .i64 o.What 7 ≠ 3) (h : FStep c 0 a o out a') : LStep c a o out a' ∧ namedOk a'.z.known := by
  have nil : ∀ y ∈ ([] : List Msg), y.Kind ≠ 10 := fun y hy => by cases hy
  cases h with
  | fuse h => exact ⟨.same nil rfl rfl, hn⟩
  | crash h hd hx hz hs => exact ⟨.same nil (by rw [hz]) (by rw [hx]), by rw [hz]; exact hn⟩
  | back h hs => exact absurd h h3
  | tick h hs =>
    cases hs with
    | idle => exact ⟨.same nil rfl rfl, hn⟩
    | ask h1 h2 h4 h5 => exact ⟨.ask h rfl h2 h4 rfl rfl, hn⟩
  | flip w h => exact ⟨.same nil rfl rfl, hn⟩
  | msg w1 w2 w3 w4 w5 hs =>
    have one : ∀ {y0 : Msg}, y0.Kind ≠ 10 → ∀ y ∈ [y0], y.Kind ≠ 10 := fun h y hy => by rw [List.mem_singleton.1 hy]; exact h
    cases hs with
    | off h => exact ⟨.same nil rfl rfl, hn⟩
    | same h1 h2 => exact ⟨.same nil rfl rfl, hn⟩
    | known hd hv k hp hfp hgt =>
      refine ⟨.same nil rfl rfl, ?_⟩
      obtain ⟨n0, n1⟩ := hn
      exact ⟨by simp only; omega, fun _ => by simp only; omega⟩
    | grant hd hv k hc => exact ⟨.grant w1 w2 w4 w5 rfl k hc rfl rfl, hn⟩
    | alive => exact ⟨.same (one (by simp [aliveM])) rfl rfl, hn⟩
    | sealed => exact ⟨.same (one (by simp [sealM])) rfl rfl, hn⟩
    | said hd hv k hw =>
      cases hw with
      | short h => exact ⟨.same nil rfl rfl, hn⟩
      | had e h1 h2 h3 => exact ⟨.same (one (by simp [repW])) rfl rfl, hn⟩
      | shut h1 h2 h3 => exact ⟨.same (one (by simp [repW])) rfl rfl, hn⟩
      | late h1 h2 h3 h4 => exact ⟨.same nil rfl rfl, hn⟩
    | lost p hd hv hno hp => exact ⟨.same nil rfl rfl, hn⟩
    | kept hd hv hno =>
      cases hno with
      | fnc h1 h2 h4 => exact ⟨.same (one (by simp [sealM])) rfl rfl, hn⟩
      | wr h1 hw =>
        cases hw with
        | write h2 h4 h5 h6 h7 h8 h9 h10 => exact ⟨.write ⟨o.M_.ID, o.M_.Epoch, o.M_.Payload⟩ h1 (one (by simp [repW])) rfl rfl h6 h7 (by rw [← h6]; exact h9), hn⟩
        | full h2 h4 h5 h6 h7 h8 h9 h10 => exact ⟨.same (one (by simp [repW])) rfl rfl, hn⟩
        | close h2 h4 h5 h6 h7 => exact ⟨.same (one (by simp [repW])) rfl rfl, hn⟩
/-- How a lease is followed. -/
structure LI (c : Config) (h : Hold) (asked of_ until_ : Int) (seen : Nat) : Prop where
  s : seen < 18446744073709551616
  g : inK .u64 h.Grants
  i : (asked = -1 ∧ h.Epoch = 0) ∨ (0 ≤ asked ∧ asked ≤ 1099511627776 ∧ h.Epoch = of_ ∧ 1 ≤ of_ ∧ h.Nonce = asked ∧ h.Until ≤ until_ ∧ ∀ k, h.Grants.toNat.testBit k = true → seen.testBit k = true)
theorem li_ask {c : Config} {h : Hold} {asked of_ until_ e n : Int} {seen : Nat} (hi : LI c h asked of_ until_ seen) (he : 1 ≤ e) (hn : 0 ≤ n ∧ n ≤ 1099511627776) : LI c (askP h e n) n e (if of_ ≠ e ∨ asked < 0 then 0 else until_) 0 := by
  refine ⟨by decide, inU64.2 (by simp [askP]), .inr ⟨hn.1, hn.2, rfl, he, rfl, ?_, fun k hk => ?_⟩⟩
  · unfold askP
    simp only
    rcases hi.i with ⟨h1, h2⟩ | ⟨h1, h2, h3, h4, h5, h6, h7⟩
    · rw [if_neg (by omega), if_pos (.inr (by omega))]; exact Int.le_refl _
    · by_cases hh : h.Epoch = e
      · rw [if_pos hh, if_neg (by omega)]; exact h6
      · rw [if_neg hh, if_pos (by left; omega)]; exact Int.le_refl _
  · simp [askP] at hk
theorem cnt_sub {g s : Nat} (h : ∀ k, g.testBit k = true → s.testBit k = true) : ∀ n, cnt g n ≤ cnt s n
  | 0 => Nat.le_refl _
  | n + 1 => by
    have ih := cnt_sub h n
    simp only [cnt]
    by_cases hg : g.testBit n = true
    · rw [if_pos hg, if_pos (h n hg)]; omega
    · rw [if_neg hg]; omega
theorem li_mono {c : Config} {h : Hold} {asked of_ until_ u2 : Int} {seen s2 : Nat} (hi : LI c h asked of_ until_ seen) (hu : until_ ≤ u2) (hs : ∀ k, seen.testBit k = true → s2.testBit k = true) (hs2 : s2 < 18446744073709551616) : LI c h asked of_ u2 s2 := by
  obtain ⟨h1, h2, h3⟩ := hi
  refine ⟨hs2, h2, ?_⟩
  rcases h3 with h | ⟨a1, a2, a3, a4, a5, a6, a7⟩
  · exact .inl h
  · exact .inr ⟨a1, a2, a3, a4, a5, by omega, fun k hk => hs k (a7 k hk)⟩
theorem li_grant {c : Config} (hr : rightC c = true) {h : Hold} {asked of_ until_ : Int} {seen : Nat} {m : Msg} (hi : LI c h asked of_ until_ seen) (hg : goodP h c m = true) (hk : m.Epoch = of_ ∧ m.Nonce = asked ∧ 0 ≤ m.From ∧ m.From ≤ 2 * c.F_) :
    LI c (grantP h c m) asked of_ (if (c.F_ : Int) < (cnt (seen ||| 2 ^ m.From.toNat) (2 * c.F_ + 1).toNat : Int) then mxI until_ (asked + c.L_) else until_) (seen ||| 2 ^ m.From.toNat) := by
  obtain ⟨k1, k2, k3, k4⟩ := hk
  obtain ⟨⟨f1, f2⟩, -⟩ := rightC_n hr
  obtain ⟨-, ⟨l1, l2⟩, -⟩ := rightC_b hr
  have hk6 : m.From.toNat ≤ 6 := by omega
  have hF : (fN c : Int) = c.F_ := by rw [← fN_eq]; unfold mnI mxI; split <;> split <;> omega
  have hL : lP c = c.L_ := by unfold lP mnI mxI; split <;> split <;> omega
  obtain ⟨h1, h2, h3⟩ := hi
  refine ⟨or_lt h1 hk6, grant_u64 _ _ _ h2, ?_⟩
  rw [show grantP h c m = givenP h c m.From.toNat from if_pos hg]
  rcases h3 with ⟨a1, a2⟩ | ⟨a1, a2, a3, a4, a5, a6, a7⟩
  · exact .inl ⟨a1, a2⟩
  · have sub : ∀ k, (h.Grants.toNat ||| 2 ^ m.From.toNat).testBit k = true → (seen ||| 2 ^ m.From.toNat).testBit k = true := fun k hk => by
      simp only [Nat.testBit_or, Bool.or_eq_true] at hk ⊢
      exact hk.imp (a7 k) id
    refine .inr ⟨a1, a2, a3, a4, a5, ?_, fun k hk => ?_⟩
    · simp only [givenP]
      cases hm : mostP c (h.Grants.toNat ||| 2 ^ m.From.toNat) with
      | false => simp only [cond_false, mxI]; split <;> (try split) <;> omega
      | true =>
        have hm' := of_decide_eq_true hm
        have hc := cnt_sub sub (2 * fN c + 1)
        have e : (2 * c.F_ + 1).toNat = 2 * fN c + 1 := by omega
        rw [e, if_pos (by omega)]
        simp only [cond_true, hL, a5, mxI]
        split <;> split <;> omega
    · exact sub k (by simpa [givenP] using hk)
end Go.RX.L

namespace Go.RX.L
open Go Go.RX Go.Proofs
attribute [local irreducible] FinQ
noncomputable def law18_Great_e (y : Bool) : D × Sto := (.bool y, [])
noncomputable def law18_Great (l_ : List Op) : Option Bool := (some (decide (((((List.map Op.enc l_).length : Nat) : Int) : Int) > 150)))
theorem law18_Great_ok {l_ : List Op} {r : Bool} (h : law18_Great l_ = some r) : Sound E 18 [.sl false 29 (List.map Op.enc l_)] [] (Rs law18_Great_e r) := so (fn := Tryd.f18) (k := false) (m := 0) h <| by
 intro r h; unfold law18_Great at h
 exact zu 12 h
end Go.RX.L

namespace Go.RX.L
open Go Go.RX Go.Proofs
attribute [local irreducible] FinQ
noncomputable def ref04_Names_e (y : Bool) : D × Sto := (.bool y, [])
noncomputable def ref04_Names (p_ : Plan) (target : Int) : Option Bool := (bif (decide ((target : Int) < 0)) then (some false) else (bif ((target : Int) == p_.Target) then (some true) else (bif ((target : Int) == p_.Prev) then (bif (decide ((p_.Percent : Int) < 100)) then (some true) else (some ((target : Int) == p_.Spill))) else (some ((target : Int) == p_.Spill)))))
theorem ref04_Names_ok {p_ : Plan} {target : Int} {r : Bool} (h : ref04_Names p_ target = some r) : Sound E 22 [.agg [.int .i64 p_.Epoch, .int .i64 p_.Target, .int .i64 p_.Prev, .int .i64 p_.Spill, .int .i64 p_.Percent, .int .i64 p_.Stamp, .int .i64 p_.Since, .int .i64 p_.Ramped, .int .u64 p_.Up, .int .u64 p_.Sup, .sl false 1 (List.map (eInt .i64) p_.Pen), .sl false 1 (List.map (eInt .i64) p_.Changes)], .int .i64 target] [] (Rs ref04_Names_e r) := so (fn := Tryd.f22) (k := false) (m := 0) h <| by
 intro r h; unfold ref04_Names at h
 refine zs 12 h (fun h => ?_) fun h => ?_
 ·
  exact zu 5 h
 refine zs 10 h (fun h => ?_) fun h => ?_
 ·
  exact zu 29 h
 refine zs 10 h (fun h => ?_) fun h => ?_
 ·
  refine zs 12 h (fun h => ?_) fun h => ?_
  ·
   exact zu 11 h
  exact zu 12 h
 exact zu 24 h
end Go.RX.L

namespace Go.RX.L
open Go Go.RX Go.Proofs
attribute [local irreducible] FinQ
noncomputable def Target_Known_e (fence : Int) (known : Plan) (hold : Hold) (begun filled : Int) (c : Config) (index : Int) (well : Bool) (b1 : List Entry) (b2 : List (List Int)) (fuse : Int) (down : Bool) (b4 b5 : List Int) (y : Unit) : D × Sto := (.agg [.int .i64 known.Epoch, .int .i64 known.Target, .int .i64 known.Prev, .int .i64 known.Spill, .int .i64 known.Percent, .int .i64 known.Stamp, .int .i64 known.Since, .int .i64 known.Ramped, .int .u64 known.Up, .int .u64 known.Sup, .sl false 1 (List.map (eInt .i64) known.Pen), .sl false 1 (List.map (eInt .i64) known.Changes)], [some ⟨54, true, [([.int .i64 fence] ++ Plan.encL known ([.int .i64 hold.Epoch, .int .i64 hold.Nonce, .int .u64 hold.Grants, .int .i64 hold.Until, (grD 1 (List.map Entry.enc b1)), (grD 2 (List.map (eSl 1 (eInt .i64)) b2)), .int .i64 begun, .int .i64 filled] ++ Config.encL c [.int .i64 index, .ptr 3 0 0, .bool well]))]⟩, some ⟨3, false, (List.map Entry.enc b1)⟩, some ⟨1, false, (List.map (eSl 1 (eInt .i64)) b2)⟩, some ⟨4, true, [[(grD 4 (List.map (eInt .u8) b4)), (grD 5 (List.map (eInt .u8) b5)), .int .i64 fuse, .bool down]]⟩, some ⟨1, false, (List.map (eInt .u8) b4)⟩, some ⟨1, false, (List.map (eInt .u8) b5)⟩])
noncomputable def Target_Known (fence : Int) (known : Plan) (hold : Hold) (begun filled : Int) (c : Config) (index : Int) (well : Bool) (b1 : List Entry) (b2 : List (List Int)) (fuse : Int) (down : Bool) (b4 b5 : List Int) : Option Unit := (some ())
theorem Target_Known_ok {fence : Int} {known : Plan} {hold : Hold} {begun filled : Int} {c : Config} {index : Int} {well : Bool} {b1 : List Entry} {b2 : List (List Int)} {fuse : Int} {down : Bool} {b4 b5 : List Int} {r : Unit} (h : Target_Known fence known hold begun filled c index well b1 b2 fuse down b4 b5 = some r) : Sound E 20 [.ptr 0 0 0] [some ⟨54, true, [([.int .i64 fence] ++ Plan.encL known ([.int .i64 hold.Epoch, .int .i64 hold.Nonce, .int .u64 hold.Grants, .int .i64 hold.Until, (grD 1 (List.map Entry.enc b1)), (grD 2 (List.map (eSl 1 (eInt .i64)) b2)), .int .i64 begun, .int .i64 filled] ++ Config.encL c [.int .i64 index, .ptr 3 0 0, .bool well]))]⟩, some ⟨3, false, (List.map Entry.enc b1)⟩, some ⟨1, false, (List.map (eSl 1 (eInt .i64)) b2)⟩, some ⟨4, true, [[(grD 4 (List.map (eInt .u8) b4)), (grD 5 (List.map (eInt .u8) b5)), .int .i64 fuse, .bool down]]⟩, some ⟨1, false, (List.map (eInt .u8) b4)⟩, some ⟨1, false, (List.map (eInt .u8) b5)⟩] (Rs (Target_Known_e fence known hold begun filled c index well b1 b2 fuse down b4 b5) r) := so (fn := Tryd.f20) (k := true) (m := 6) h <| by
 intro r h; unfold Target_Known at h
 exact zu 18 h
end Go.RX.L
