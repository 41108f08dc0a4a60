/-
  Tally: the small functions, and IndexFunc.
-/
import Derived.Test.YthooiaebbikjiaaRows
import Derived.Test.YthooiaebbikjiaaRxTool
set_option linter.unusedSimpArgs false
set_option linter.unusedVariables false
set_option maxRecDepth 100000
namespace Go.RX.Tally
open Go Go.RX Go.Proofs

noncomputable def E : Env := ⟨Try.prog, fun f => ⟨f == 16, false⟩⟩
theorem hm : E.P.follows .mixedOrders = true := Try.checked.mixed

structure Vote where
  who : Int
  up : Int
  at_ : Int

def encV (v : Vote) : List D := [.int .i64 v.who, .int .u64 v.up, .int .i64 v.at_]

def timeB (n : Int) : Bool := decide (n ≥ 0) && decide (n ≤ 1099511627776)

theorem wrap64 {n : Int} (h1 : -9223372036854775808 ≤ n) (h2 : n ≤ 9223372036854775807) : IntKind.i64.wrap n = n := by
  simp only [IntKind.wrap, IntKind.signed, IntKind.bits]
  simp
  omega

theorem call19 (n : Int) : Sound E 19 [.int .i64 n] [] fun d s => d = .bool (timeB n) ∧ s = [] := by
  refine sound_of (m := ⟨[.code (bodyOf Try.f19)], [(0, .int .i64 n)], []⟩) (fn := Try.f19) (by kernel_rfl) (by kernel_rfl) ?_
  refine adv_ok hm 10 _ ?_
  refine r_split (decide (n ≥ 0)) (by kernel_rfl) (fun h0 => ?_) (fun h0 => ?_)
  · -- true
    refine adv_ok hm 7 _ ?_
    exact r_ret (D.bool (decide (n ≤ 1099511627776))) ([]) (by kernel_rfl) (by simp only [timeB, h0, Bool.true_and, and_self])
  · -- false
    refine adv_ok hm 7 _ ?_
    exact r_ret (D.bool false) ([]) (by kernel_rfl) (by simp only [timeB, h0, Bool.false_and, and_self])

theorem call18 (n : Int) : Sound E 18 [.int .i64 n] [] fun d s => d = .fn 22 [] [.iptr 1 [[.int .i64 n]] 0 0] ∧ s = [] := by
  refine sound_of (m := ⟨[.code (bodyOf Try.f18)], [(0, .int .i64 n)], []⟩) (fn := Try.f18) (by kernel_rfl) (by kernel_rfl) ?_
  refine adv_ok hm 11 _ ?_
  exact r_ret (D.fn 22 [] [D.iptr 1 [[D.int IntKind.i64 n]] 0 0]) ([]) (by kernel_rfl) ⟨rfl, rfl⟩

theorem call22 (v : Vote) (n : Int) : Sound E 22 [.agg (encV v), .iptr 1 [[.int .i64 n]] 0 0] [] fun d s => d = .bool (v.who == n) ∧ s = [] := by
  refine sound_of (m := ⟨[.code (bodyOf Try.f22)], [(0, .agg (encV v)), (1, .iptr 1 [[.int .i64 n]] 0 0)], []⟩) (fn := Try.f22) (by kernel_rfl) (by kernel_rfl) ?_
  refine adv_ok hm 16 _ ?_
  exact r_ret (D.bool (v.who == n)) ([]) (by kernel_rfl) ⟨rfl, rfl⟩

/-- The first of an observer; -1: there is none. -/
def idxP : List Vote → Int → Int → Int
  | [], _, _ => -1
  | v :: r, n, i => if v.who = n then i else idxP r n (i + 1)

def lim : Nat := 5864062014805

theorem call17 (nl : Bool) (l : List Vote) (n : Int) (hl : l.length ≤ lim) (hnl : nl = true → l = []) : Sound E 17 [.sl nl 3 (l.map encV), .fn 22 [] [.iptr 1 [[.int .i64 n]] 0 0]] [] fun d s => d = .int .i64 (idxP l n 0) ∧ s = [] := by
  refine sound_of (m := ⟨[.code (bodyOf Try.f17)], [(0, .sl nl 3 (l.map encV)), (1, .fn 22 [] [.iptr 1 [[.int .i64 n]] 0 0])], []⟩) (fn := Try.f17) (by kernel_rfl) (by kernel_rfl) ?_
  refine adv_ok hm 14 _ ?_
  have loop : ∀ (k i : Nat), i + k = l.length → FinQ E ⟨Try.f17, false, 0⟩ (fun d s => d = .int .i64 (idxP (l.drop i) n i) ∧ s = []) (.go { td := [It.lpc (codeAt (bodyOf Try.f17) [1, 0, 1, 0, 0]) 387, It.blk 0, It.code (codeAt (bodyOf Try.f17) [1, 1])], fr := [(0, D.sl nl 3 (List.map encV l)), (1, D.fn 22 [] [D.iptr 1 [[D.int IntKind.i64 n]] 0 0]), (7, D.int IntKind.i64 ↑(List.map encV l).length), (8, D.int IntKind.i64 i)], st := [] }) := by
    intro k
    induction k with
    | zero =>
      intro i hi
      refine adv_ok hm 7 _ ?_
      refine r_split (decide (↑i < ((List.map encV l).length : Int))) (by kernel_rfl) (fun h0 => ?_) (fun h0 => ?_)
      · simp at h0; omega
      · refine adv_ok hm 6 _ ?_
        exact r_ret (D.int IntKind.i64 (-1)) ([]) (by kernel_rfl) (by rw [List.drop_eq_nil_of_le (by omega)]; exact ⟨rfl, rfl⟩)
    | succ k ih =>
      intro i hi
      have hlt : i < l.length := by omega
      have hnl' : nl = false := by cases nl with | false => rfl | true => rw [hnl rfl] at hlt; simp at hlt
      subst hnl'
      refine adv_ok hm 7 _ ?_
      refine r_split (decide (↑i < ((List.map encV l).length : Int))) (by kernel_rfl) (fun h0 => ?_) (fun h0 => ?_)
      · refine adv_ok hm 14 _ ?_
        refine r_need (true && decide (↑i < ((List.map encV l).length : Int))) (by kernel_rfl) (by simpa using h0) ?_
        refine adv_ok hm 1 _ ?_
        refine r_row ((List.map encV l)[(Int.ofNat i).toNat]?) (encV l[i]) (by kernel_rfl) (by simp [hlt]) ?_
        refine adv_ok hm 1 _ ?_
        refine r_call 22 [D.agg (encV l[i]), D.iptr 1 [[D.int IntKind.i64 n]] 0 0] [] (by kernel_rfl) (call22 l[i] n) ?_
        rintro d s ⟨rfl, rfl⟩
        refine adv_ok hm 2 _ ?_
        refine r_split (l[i].who == n) (by kernel_rfl) (fun h4 => ?_) (fun h4 => ?_)
        · -- true
          refine adv_ok hm 6 _ ?_
          exact r_ret (D.int IntKind.i64 ↑i) ([]) (by kernel_rfl) (by
            rw [List.drop_eq_getElem_cons hlt, idxP, if_pos (eq_of_beq h4)]; exact ⟨rfl, rfl⟩)
        · -- false
          refine adv_ok hm 7 _ ?_
          refine r_to (q' := .go { td := [It.lpc (codeAt (bodyOf Try.f17) [1, 0, 1, 0, 0]) 387, It.blk 0, It.code (codeAt (bodyOf Try.f17) [1, 1])], fr := [(0, D.sl false 3 (List.map encV l)), (1, D.fn 22 [] [D.iptr 1 [[D.int IntKind.i64 n]] 0 0]), (7, D.int IntKind.i64 ↑(List.map encV l).length), (8, D.int IntKind.i64 (IntKind.i64.wrap (↑i + 1)))], st := [] }) (by kernel_rfl) ?_
          rw [wrap64 (by omega) (by unfold lim at hl; omega)]
          have := ih (i + 1) (by omega)
          rw [List.drop_eq_getElem_cons hlt, idxP, if_neg (by simpa using h4)]
          exact this
      · simp at h0; omega
  cases nl with
  | true =>
    have := hnl rfl
    subst this
    refine r_to (q' := .go { td := [It.lpc (codeAt (bodyOf Try.f17) [1, 0, 1, 0, 0]) 387, It.blk 0, It.code (codeAt (bodyOf Try.f17) [1, 1])], fr := [(0, D.sl true 3 (List.map encV [])), (1, D.fn 22 [] [D.iptr 1 [[D.int IntKind.i64 n]] 0 0]), (7, D.int IntKind.i64 0), (8, D.int IntKind.i64 0)], st := [] }) (by kernel_rfl) ?_
    exact loop 0 0 rfl
  | false =>
    refine r_to (q' := .go { td := [It.lpc (codeAt (bodyOf Try.f17) [1, 0, 1, 0, 0]) 387, It.blk 0, It.code (codeAt (bodyOf Try.f17) [1, 1])], fr := [(0, D.sl false 3 (List.map encV l)), (1, D.fn 22 [] [D.iptr 1 [[D.int IntKind.i64 n]] 0 0]), (7, D.int IntKind.i64 ↑(List.map encV l).length), (8, D.int IntKind.i64 0)], st := [] }) (by kernel_rfl) ?_
    exact loop l.length 0 (by omega)

end Go.RX.Tally
