/-
  Words and walks for MsgLimits. No condition.
-/
import Derived.Test.YtgjhdekafiodhaaDoorRows
import Derived.Test.YtgjhdekafiodhaaDoorX5
set_option linter.unusedSimpArgs false
set_option linter.unusedVariables false
set_option maxRecDepth 100000
namespace Go.RX.L
open Go Go.RX Go.Proofs
def gl_four : List Int := [0, 498536548, 997073096, 651767980, 1994146192, 1802195444, 1303535960, 1342533948, 3988292384, 4027552580, 3604390888, 3412177804, 2607071920, 2262029012, 2685067896, 3183342108]
noncomputable def E : Env := ⟨Tryd.prog, fun f => ⟨f == 24 || f == 26 || f == 27 || f == 29 || f == 49 || f == 50 || f == 52 || f == 59, f == 36 || f == 38 || f == 50⟩, fun g => bif g == 0 then .iptr 1 (List.map (eInt .u32) gl_four) 0 0 else .undef⟩
theorem hm : E.P.follows .mixedOrders = true := Tryd.checked.mixed
structure Plan where
  Epoch : Int
  Target : Int
  Prev : Int
  Spill : Int
  Percent : Int
  Stamp : Int
  Since : Int
  Ramped : Int
  Up : Int
  Sup : Int
  Pen : List Int
  Changes : List Int
def Plan.enc (x : Plan) : List D := [D.int .i64 x.Epoch, D.int .i64 x.Target, D.int .i64 x.Prev, D.int .i64 x.Spill, D.int .i64 x.Percent, D.int .i64 x.Stamp, D.int .i64 x.Since, D.int .i64 x.Ramped, D.int .u64 x.Up, D.int .u64 x.Sup, D.sl false 1 (List.map (eInt .i64) x.Pen), D.sl false 1 (List.map (eInt .i64) x.Changes)]
def Plan.Ok (x : Plan) : Prop := inK .i64 x.Epoch ∧ inK .i64 x.Target ∧ inK .i64 x.Prev ∧ inK .i64 x.Spill ∧ inK .i64 x.Percent ∧ inK .i64 x.Stamp ∧ inK .i64 x.Since ∧ inK .i64 x.Ramped ∧ inK .u64 x.Up ∧ inK .u64 x.Sup ∧ (x.Pen.length * 8 ≤ reachBytes ∧ ∀ y ∈ x.Pen, inK .i64 y) ∧ (x.Changes.length * 8 ≤ reachBytes ∧ ∀ y ∈ x.Changes, inK .i64 y)
structure Msg where
  Kind : Int
  From : Int
  To : Int
  Epoch : Int
  Ballot : Int
  Accepted : Int
  Nonce : Int
  Time : Int
  Up : Int
  Code : Int
  HasPlan : Bool
  Plan : Plan
  ID : List Int
  Session : List Int
  Payload : List Int
def Msg.enc (x : Msg) : List D := [D.int .i64 x.Kind, D.int .i64 x.From, D.int .i64 x.To, D.int .i64 x.Epoch, D.int .i64 x.Ballot, D.int .i64 x.Accepted, D.int .i64 x.Nonce, D.int .i64 x.Time, D.int .u64 x.Up, D.int .i64 x.Code, D.bool x.HasPlan, D.int .i64 x.Plan.Epoch, D.int .i64 x.Plan.Target, D.int .i64 x.Plan.Prev, D.int .i64 x.Plan.Spill, D.int .i64 x.Plan.Percent, D.int .i64 x.Plan.Stamp, D.int .i64 x.Plan.Since, D.int .i64 x.Plan.Ramped, D.int .u64 x.Plan.Up, D.int .u64 x.Plan.Sup, D.sl false 1 (List.map (eInt .i64) x.Plan.Pen), D.sl false 1 (List.map (eInt .i64) x.Plan.Changes), D.sl false 1 (List.map (eInt .i64) x.ID), D.sl false 1 (List.map (eInt .u8) x.Session), D.sl false 1 (List.map (eInt .u8) x.Payload)]
def Msg.Ok (x : Msg) : Prop := inK .i64 x.Kind ∧ inK .i64 x.From ∧ inK .i64 x.To ∧ inK .i64 x.Epoch ∧ inK .i64 x.Ballot ∧ inK .i64 x.Accepted ∧ inK .i64 x.Nonce ∧ inK .i64 x.Time ∧ inK .u64 x.Up ∧ inK .i64 x.Code ∧ True ∧ x.Plan.Ok ∧ (x.ID.length * 8 ≤ reachBytes ∧ ∀ y ∈ x.ID, inK .i64 y) ∧ (x.Session.length * 1 ≤ reachBytes ∧ ∀ y ∈ x.Session, inK .u8 y) ∧ (x.Payload.length * 1 ≤ reachBytes ∧ ∀ y ∈ x.Payload, inK .u8 y)
structure place where
  at_ : Int
  e : Int
def place.enc (x : place) : List D := [D.int .i64 x.at_, D.int .i64 x.e]
def place.Ok (x : place) : Prop := inK .i64 x.at_ ∧ inK .i64 x.e
structure reader where
  place : place
  b : List Int
def reader.enc (x : reader) : List D := [D.int .i64 x.place.at_, D.int .i64 x.place.e, D.sl false 1 (List.map (eInt .u8) x.b)]
def reader.Ok (x : reader) : Prop := x.place.Ok ∧ (x.b.length * 1 ≤ reachBytes ∧ ∀ y ∈ x.b, inK .u8 y)
end Go.RX.L

set_option linter.unusedSimpArgs false
set_option linter.unusedVariables false
set_option maxRecDepth 100000
set_option maxHeartbeats 4000000
namespace Go.RX.L
open Go Go.RX Go.Proofs
attribute [local irreducible] FinQ
def crc_Add_Q (y : Int) (d : D) (s : Sto) : Prop := d = D.int .u32 y ∧ s = []
inductive crc_Add_S where
  | s0 (sum : Int) (b : List Int)
  | s1 (r_ : Int) (t10 : List Int) (t11 : Int) (t12 : Int)
noncomputable def crc_Add_M : crc_Add_S → M
  | .s0 sum b => ⟨[.code (bodyOf Tryd.f64)], [(0, D.int .u32 sum), (1, D.sl false 1 (List.map (eInt .u8) b))], []⟩
  | .s1 r_ t10 t11 t12 => { td := [It.lpc (codeAt (bodyOf Tryd.f64) [1, 1, 0, 1, 0, 0]) 7200, It.blk 0, It.code (codeAt (bodyOf Tryd.f64) [1, 1, 1])], fr := [(5, D.int .u32 r_), (10, D.sl false 1 (List.map (eInt .u8) t10)), (11, D.int .i64 t11), (12, D.int .i64 t12)], st := [] }
noncomputable def crc_Add_0 (sum : Int) (b : List Int) : Option (crc_Add_S ⊕ Int) := (some (.inl (.s1 (xorI .u32 4294967295 sum) b (((List.map (eInt .u8) b).length : Nat) : Int) 0)))
noncomputable def crc_Add_1 (r_ : Int) (t10 : List Int) (t11 : Int) (t12 : Int) : Option (crc_Add_S ⊕ Int) := (bif (decide ((t12 : Int) < t11)) then (bif ((decide ((0 : Int) ≤ t12)) && (decide ((t12 : Int) < (((List.map (eInt .u8) t10).length : Nat) : Int)))) then (((t10)[t12.toNat]?).bind fun y3 => (bif ((decide ((0 : Int) ≤ (andI .u32 (xorI .u32 r_ (IntKind.u32.wrap (y3))) 15))) && (decide (((andI .u32 (xorI .u32 r_ (IntKind.u32.wrap (y3))) 15) : Int) < ((16 : Nat) : Int)))) then (((gl_four)[(0 + (andI .u32 (xorI .u32 r_ (IntKind.u32.wrap (y3))) 15).toNat)]?).bind fun y6 => (bif ((decide ((0 : Int) ≤ (andI .u32 (xorI .u32 (shrI .u32 (xorI .u32 r_ (IntKind.u32.wrap (y3))) 4) y6) 15))) && (decide (((andI .u32 (xorI .u32 (shrI .u32 (xorI .u32 r_ (IntKind.u32.wrap (y3))) 4) y6) 15) : Int) < ((16 : Nat) : Int)))) then (((gl_four)[(0 + (andI .u32 (xorI .u32 (shrI .u32 (xorI .u32 r_ (IntKind.u32.wrap (y3))) 4) y6) 15).toNat)]?).bind fun y9 => (some (.inl (.s1 (xorI .u32 (shrI .u32 (xorI .u32 (shrI .u32 (xorI .u32 r_ (IntKind.u32.wrap (y3))) 4) y6) 4) y9) t10 t11 (IntKind.i64.wrap (t12 + 1)))))) else none)) else none)) else none) else (some (.inr (xorI .u32 4294967295 r_))))
noncomputable def crc_Add_step : crc_Add_S → Option (crc_Add_S ⊕ Int)
  | .s0 sum b => crc_Add_0 sum b
  | .s1 r_ t10 t11 t12 => crc_Add_1 r_ t10 t11 t12
theorem crc_Add_0_ok {sum : Int} {b : List Int} {r : Int} {x : crc_Add_S ⊕ Int} (h : crc_Add_0 sum b = some x) (ha : After E (Cx.of Tryd.f64 false 0) crc_Add_Q crc_Add_M r x) : FinQ E (Cx.of Tryd.f64 false 0) (QW (crc_Add_Q r)) (.go (crc_Add_M (.s0 sum b))) := by
  unfold crc_Add_0 at h
  refine adv_ok hm 20 _ ?_
  obtain rfl := Option.some.inj h
  exact r_to (q' := .go (crc_Add_M (.s1 (xorI .u32 4294967295 sum) b (((List.map (eInt .u8) b).length : Nat) : Int) 0))) (by kernel_rfl) ha
theorem crc_Add_1_ok {r_ : Int} {t10 : List Int} {t11 : Int} {t12 : Int} {r : Int} {x : crc_Add_S ⊕ Int} (h : crc_Add_1 r_ t10 t11 t12 = some x) (ha : After E (Cx.of Tryd.f64 false 0) crc_Add_Q crc_Add_M r x) : FinQ E (Cx.of Tryd.f64 false 0) (QW (crc_Add_Q r)) (.go (crc_Add_M (.s1 r_ t10 t11 t12))) := by
  unfold crc_Add_1 at h
  refine adv_ok hm 7 _ ?_
  refine p_split h (by kernel_rfl) (fun h1 h => ?_) (fun h1 h => ?_)
  · -- true
    refine adv_ok hm 6 _ ?_
    refine p_need h (by kernel_rfl) (fun h2 h => ?_)
    refine adv_ok hm 1 _ ?_
    refine p_row (((List.map (eInt .u8) t10))[t12.toNat]?) (eInt .u8) h (by kernel_rfl) List.getElem?_map (fun y3 h4 h => ?_)
    refine adv_ok hm 18 _ ?_
    refine p_need h (by kernel_rfl) (fun h5 h => ?_)
    refine adv_ok hm 1 _ ?_
    refine p_row (((List.map (eInt .u32) gl_four))[(0 + (andI .u32 (xorI .u32 r_ (IntKind.u32.wrap (y3))) 15).toNat)]?) (eInt .u32) h (by kernel_rfl) List.getElem?_map (fun y6 h7 h => ?_)
    refine adv_ok hm 10 _ ?_
    refine p_need h (by kernel_rfl) (fun h8 h => ?_)
    refine adv_ok hm 1 _ ?_
    refine p_row (((List.map (eInt .u32) gl_four))[(0 + (andI .u32 (xorI .u32 (shrI .u32 (xorI .u32 r_ (IntKind.u32.wrap (y3))) 4) y6) 15).toNat)]?) (eInt .u32) h (by kernel_rfl) List.getElem?_map (fun y9 h10 h => ?_)
    refine adv_ok hm 9 _ ?_
    obtain rfl := Option.some.inj h
    exact r_to (q' := .go (crc_Add_M (.s1 (xorI .u32 (shrI .u32 (xorI .u32 (shrI .u32 (xorI .u32 r_ (IntKind.u32.wrap (y3))) 4) y6) 4) y9) t10 t11 (IntKind.i64.wrap (t12 + 1))))) (by kernel_rfl) ha
  · -- false
    refine adv_ok hm 8 _ ?_
    obtain rfl := Option.some.inj h
    have hv := ha
    simp only [After] at hv
    subst hv
    exact r_retF [] (d := D.int .u32 (xorI .u32 4294967295 r_)) (s := []) (by kernel_rfl) Cx.fin_of ⟨rfl, rfl⟩
theorem crc_Add_ev {sum : Int} {b : List Int} {r : Int} (h : Ev crc_Add_step (.s0 sum b) r) : Sound E 64 [D.int .u32 sum, D.sl false 1 (List.map (eInt .u8) b)] [] (crc_Add_Q r) :=
  sound_ofW (m := crc_Add_M (.s0 sum b)) (fn := Tryd.f64) (by kernel_rfl) (by kernel_rfl) (ev_run (C := (Cx.of Tryd.f64 false 0)) (fun s x r hs ha => by
    cases s with
    | s0 => exact crc_Add_0_ok hs ha
    | s1 => exact crc_Add_1_ok hs ha) h)
noncomputable def crc_Add (sum : Int) (b : List Int) : Option Int := evf crc_Add_step (.s0 sum b)
theorem crc_Add_ok {sum : Int} {b : List Int} {r : Int} (h : crc_Add sum b = some r) : Sound E 64 [D.int .u32 sum, D.sl false 1 (List.map (eInt .u8) b)] [] (crc_Add_Q r) := crc_Add_ev (evf_ev h)
end Go.RX.L

set_option linter.unusedSimpArgs false
set_option linter.unusedVariables false
set_option maxRecDepth 100000
set_option maxHeartbeats 4000000
namespace Go.RX.L
open Go Go.RX Go.Proofs
attribute [local irreducible] FinQ
def crc_Sum_Q (y : Int) (d : D) (s : Sto) : Prop := d = D.int .u32 y ∧ s = []
noncomputable def crc_Sum (b : List Int) : Option Int := ((crc_Add 0 b).bind fun y1 => (some y1))
theorem crc_Sum_ok {b : List Int} {r : Int} (h : crc_Sum b = some r) : Sound E 47 [D.sl false 1 (List.map (eInt .u8) b)] [] (crc_Sum_Q r) := by
  refine sound_ofW (m := ⟨[.code (bodyOf Tryd.f47)], [(0, D.sl false 1 (List.map (eInt .u8) b))], []⟩) (fn := Tryd.f47) (by kernel_rfl) (by kernel_rfl) ?_
  show FinQ E (Cx.of Tryd.f47 false 0) (QW (crc_Sum_Q r)) _
  unfold crc_Sum at h
  refine adv_ok hm 8 _ ?_
  have ok1 := fun (y : Int) (hy : crc_Add 0 b = some y) => crc_Add_ok hy
  refine p_callR [] h (by kernel_rfl) ok1 (fun y1 h1 h => ?_)
  refine adv_ok hm 3 _ ?_
  obtain rfl := Option.some.inj h
  exact r_retF [] (d := D.int .u32 y1) (s := []) (by kernel_rfl) Cx.fin_of ⟨rfl, rfl⟩
end Go.RX.L

set_option linter.unusedSimpArgs false
set_option linter.unusedVariables false
set_option maxRecDepth 100000
set_option maxHeartbeats 4000000
namespace Go.RX.L
open Go Go.RX Go.Proofs
attribute [local irreducible] FinQ
def ref02_Add_Q (y : Int) (d : D) (s : Sto) : Prop := d = D.int .u32 y ∧ s = []
inductive ref02_Add_S where
  | s0 (sum : Int) (b : List Int)
  | s1 (b : List Int) (r_ : Int) (i : Int)
  | s2 (b : List Int) (r_ : Int) (i : Int) (k : Int)
noncomputable def ref02_Add_M : ref02_Add_S → M
  | .s0 sum b => ⟨[.code (bodyOf Tryd.f65)], [(0, D.int .u32 sum), (1, D.sl false 1 (List.map (eInt .u8) b))], []⟩
  | .s1 b r_ i => { td := [It.lpc (codeAt (bodyOf Tryd.f65) [1, 1, 0, 1, 0, 0]) 98, It.blk 0, It.code (codeAt (bodyOf Tryd.f65) [1, 1, 1])], fr := [(1, D.sl false 1 (List.map (eInt .u8) b)), (5, D.int .u32 r_), (6, D.int .i64 i)], st := [] }
  | .s2 b r_ i k => { td := [It.lpc (codeAt (bodyOf Tryd.f65) [1, 1, 0, 1, 0, 0, 1, 0, 0, 1, 1, 0, 0]) 226, It.blk 2, It.blk 1, It.code (codeAt (bodyOf Tryd.f65) [1, 1, 0, 1, 0, 0, 1, 1]), It.lp (codeAt (bodyOf Tryd.f65) [1, 1, 0, 1, 0, 0]) 98, It.blk 0, It.code (codeAt (bodyOf Tryd.f65) [1, 1, 1])], fr := [(1, D.sl false 1 (List.map (eInt .u8) b)), (5, D.int .u32 r_), (6, D.int .i64 i), (7, D.int .i64 k)], st := [] }
noncomputable def ref02_Add_0 (sum : Int) (b : List Int) : Option (ref02_Add_S ⊕ Int) := (some (.inl (.s1 b (xorI .u32 4294967295 sum) 0)))
noncomputable def ref02_Add_1 (b : List Int) (r_ : Int) (i : Int) : Option (ref02_Add_S ⊕ Int) := (bif (decide ((i : Int) < (((List.map (eInt .u8) b).length : Nat) : Int))) then (bif ((decide ((0 : Int) ≤ i)) && (decide ((i : Int) < (((List.map (eInt .u8) b).length : Nat) : Int)))) then (((b)[i.toNat]?).bind fun y3 => (some (.inl (.s2 b (xorI .u32 r_ (IntKind.u32.wrap (y3))) i 0)))) else none) else (some (.inr (xorI .u32 4294967295 r_))))
noncomputable def ref02_Add_2 (b : List Int) (r_ : Int) (i : Int) (k : Int) : Option (ref02_Add_S ⊕ Int) := (bif (decide ((k : Int) < 8)) then (bif (((andI .u32 r_ 1) : Int) == 1) then (some (.inl (.s2 b (xorI .u32 (shrI .u32 r_ 1) 3988292384) i (IntKind.i64.wrap (k + 1))))) else (some (.inl (.s2 b (shrI .u32 r_ 1) i (IntKind.i64.wrap (k + 1)))))) else (some (.inl (.s1 b r_ (IntKind.i64.wrap (i + 1))))))
noncomputable def ref02_Add_step : ref02_Add_S → Option (ref02_Add_S ⊕ Int)
  | .s0 sum b => ref02_Add_0 sum b
  | .s1 b r_ i => ref02_Add_1 b r_ i
  | .s2 b r_ i k => ref02_Add_2 b r_ i k
theorem ref02_Add_0_ok {sum : Int} {b : List Int} {r : Int} {x : ref02_Add_S ⊕ Int} (h : ref02_Add_0 sum b = some x) (ha : After E (Cx.of Tryd.f65 false 0) ref02_Add_Q ref02_Add_M r x) : FinQ E (Cx.of Tryd.f65 false 0) (QW (ref02_Add_Q r)) (.go (ref02_Add_M (.s0 sum b))) := by
  unfold ref02_Add_0 at h
  refine adv_ok hm 18 _ ?_
  obtain rfl := Option.some.inj h
  exact r_to (q' := .go (ref02_Add_M (.s1 b (xorI .u32 4294967295 sum) 0))) (by kernel_rfl) ha
theorem ref02_Add_1_ok {b : List Int} {r_ : Int} {i : Int} {r : Int} {x : ref02_Add_S ⊕ Int} (h : ref02_Add_1 b r_ i = some x) (ha : After E (Cx.of Tryd.f65 false 0) ref02_Add_Q ref02_Add_M r x) : FinQ E (Cx.of Tryd.f65 false 0) (QW (ref02_Add_Q r)) (.go (ref02_Add_M (.s1 b r_ i))) := by
  unfold ref02_Add_1 at h
  refine adv_ok hm 10 _ ?_
  refine p_split h (by kernel_rfl) (fun h1 h => ?_) (fun h1 h => ?_)
  · -- true
    refine adv_ok hm 9 _ ?_
    refine p_need h (by kernel_rfl) (fun h2 h => ?_)
    refine adv_ok hm 1 _ ?_
    refine p_row (((List.map (eInt .u8) b))[i.toNat]?) (eInt .u8) h (by kernel_rfl) List.getElem?_map (fun y3 h4 h => ?_)
    refine adv_ok hm 11 _ ?_
    obtain rfl := Option.some.inj h
    exact r_to (q' := .go (ref02_Add_M (.s2 b (xorI .u32 r_ (IntKind.u32.wrap (y3))) i 0))) (by kernel_rfl) ha
  · -- false
    refine adv_ok hm 8 _ ?_
    obtain rfl := Option.some.inj h
    have hv := ha
    simp only [After] at hv
    subst hv
    exact r_retF [] (d := D.int .u32 (xorI .u32 4294967295 r_)) (s := []) (by kernel_rfl) Cx.fin_of ⟨rfl, rfl⟩
theorem ref02_Add_2_ok {b : List Int} {r_ : Int} {i : Int} {k : Int} {r : Int} {x : ref02_Add_S ⊕ Int} (h : ref02_Add_2 b r_ i k = some x) (ha : After E (Cx.of Tryd.f65 false 0) ref02_Add_Q ref02_Add_M r x) : FinQ E (Cx.of Tryd.f65 false 0) (QW (ref02_Add_Q r)) (.go (ref02_Add_M (.s2 b r_ i k))) := by
  unfold ref02_Add_2 at h
  refine adv_ok hm 8 _ ?_
  refine p_split h (by kernel_rfl) (fun h1 h => ?_) (fun h1 h => ?_)
  · -- true
    refine adv_ok hm 22 _ ?_
    refine p_split h (by kernel_rfl) (fun h2 h => ?_) (fun h2 h => ?_)
    · -- true
      refine adv_ok hm 12 _ ?_
      obtain rfl := Option.some.inj h
      exact r_to (q' := .go (ref02_Add_M (.s2 b (xorI .u32 (shrI .u32 r_ 1) 3988292384) i (IntKind.i64.wrap (k + 1))))) (by kernel_rfl) ha
    · -- false
      refine adv_ok hm 8 _ ?_
      obtain rfl := Option.some.inj h
      exact r_to (q' := .go (ref02_Add_M (.s2 b (shrI .u32 r_ 1) i (IntKind.i64.wrap (k + 1))))) (by kernel_rfl) ha
  · -- false
    refine adv_ok hm 8 _ ?_
    obtain rfl := Option.some.inj h
    exact r_to (q' := .go (ref02_Add_M (.s1 b r_ (IntKind.i64.wrap (i + 1))))) (by kernel_rfl) ha
theorem ref02_Add_ev {sum : Int} {b : List Int} {r : Int} (h : Ev ref02_Add_step (.s0 sum b) r) : Sound E 65 [D.int .u32 sum, D.sl false 1 (List.map (eInt .u8) b)] [] (ref02_Add_Q r) :=
  sound_ofW (m := ref02_Add_M (.s0 sum b)) (fn := Tryd.f65) (by kernel_rfl) (by kernel_rfl) (ev_run (C := (Cx.of Tryd.f65 false 0)) (fun s x r hs ha => by
    cases s with
    | s0 => exact ref02_Add_0_ok hs ha
    | s1 => exact ref02_Add_1_ok hs ha
    | s2 => exact ref02_Add_2_ok hs ha) h)
noncomputable def ref02_Add (sum : Int) (b : List Int) : Option Int := evf ref02_Add_step (.s0 sum b)
theorem ref02_Add_ok {sum : Int} {b : List Int} {r : Int} (h : ref02_Add sum b = some r) : Sound E 65 [D.int .u32 sum, D.sl false 1 (List.map (eInt .u8) b)] [] (ref02_Add_Q r) := ref02_Add_ev (evf_ev h)
end Go.RX.L

set_option linter.unusedSimpArgs false
set_option linter.unusedVariables false
set_option maxRecDepth 100000
set_option maxHeartbeats 4000000
namespace Go.RX.L
open Go Go.RX Go.Proofs
attribute [local irreducible] FinQ
def ref02_Sum_Q (y : Int) (d : D) (s : Sto) : Prop := d = D.int .u32 y ∧ s = []
noncomputable def ref02_Sum (b : List Int) : Option Int := ((ref02_Add 0 b).bind fun y1 => (some y1))
theorem ref02_Sum_ok {b : List Int} {r : Int} (h : ref02_Sum b = some r) : Sound E 48 [D.sl false 1 (List.map (eInt .u8) b)] [] (ref02_Sum_Q r) := by
  refine sound_ofW (m := ⟨[.code (bodyOf Tryd.f48)], [(0, D.sl false 1 (List.map (eInt .u8) b))], []⟩) (fn := Tryd.f48) (by kernel_rfl) (by kernel_rfl) ?_
  show FinQ E (Cx.of Tryd.f48 false 0) (QW (ref02_Sum_Q r)) _
  unfold ref02_Sum at h
  refine adv_ok hm 8 _ ?_
  have ok1 := fun (y : Int) (hy : ref02_Add 0 b = some y) => ref02_Add_ok hy
  refine p_callR [] h (by kernel_rfl) ok1 (fun y1 h1 h => ?_)
  refine adv_ok hm 3 _ ?_
  obtain rfl := Option.some.inj h
  exact r_retF [] (d := D.int .u32 y1) (s := []) (by kernel_rfl) Cx.fin_of ⟨rfl, rfl⟩
end Go.RX.L

set_option linter.unusedSimpArgs false
set_option linter.unusedVariables false
set_option maxRecDepth 100000
namespace Go.RX.L
open Go Go.RX

theorem ofInt32 {n : Nat} (h : n < 4294967296) : (BitVec.ofInt IntKind.u32.bits (n : Int)).toNat = n := by
  rw [BitVec.ofInt_natCast, show IntKind.u32.bits = 32 from rfl, BitVec.toNat_ofNat, Nat.mod_eq_of_lt (by omega)]
theorem wrapU32 {n : Nat} (h : n < 4294967296) : IntKind.u32.wrap (n : Int) = n := wU32 (by omega) (by omega)
theorem xorU32 {a b : Nat} (ha : a < 4294967296) (hb : b < 4294967296) : xorI .u32 a b = ((a ^^^ b : Nat) : Int) := by
  unfold xorI
  rw [BitVec.toNat_xor, ofInt32 ha, ofInt32 hb, wrapU32 (Nat.xor_lt_two_pow (n := 32) ha hb)]
theorem andU32_15 {a : Nat} (ha : a < 4294967296) : andI .u32 a 15 = ((a % 16 : Nat) : Int) := by
  unfold andI
  rw [show (15 : Int) = ((15 : Nat) : Int) from rfl, BitVec.toNat_and, ofInt32 ha, ofInt32 (by omega), show (15 : Nat) = 2 ^ 4 - 1 from rfl, Nat.and_two_pow_sub_one_eq_mod, wrapU32 (by omega)]
theorem andU32_1 {a : Nat} (ha : a < 4294967296) : andI .u32 a 1 = ((a % 2 : Nat) : Int) := by
  unfold andI
  rw [show (1 : Int) = ((1 : Nat) : Int) from rfl, BitVec.toNat_and, ofInt32 ha, ofInt32 (by omega), show (1 : Nat) = 2 ^ 1 - 1 from rfl, Nat.and_two_pow_sub_one_eq_mod, wrapU32 (by omega)]
theorem shrU32 {a k : Nat} (hk : k ≤ 32) : shrI .u32 a k = ((a / 2 ^ k : Nat) : Int) := by
  unfold shrI
  have e : min (k : Int).toNat IntKind.u32.bits = k := by simp [IntKind.bits]; omega
  rw [e, Int.fdiv_eq_ediv_of_nonneg _ (by exact Int.le_of_lt (Int.pow_pos (by decide)))]
  norm_cast
theorem onesU32 {n : Nat} (h : n < 4294967296) : xorI .u32 4294967295 n = ((4294967295 - n : Nat) : Int) := by
  unfold xorI
  have e : BitVec.ofInt IntKind.u32.bits 4294967295 = BitVec.allOnes IntKind.u32.bits := by decide
  rw [BitVec.xor_comm, e, BitVec.xor_allOnes, BitVec.toNat_not, ofInt32 h, show IntKind.u32.bits = 32 from rfl, show 2 ^ 32 - 1 - n = 4294967295 - n by omega, wrapU32 (by omega)]

/-! ### the program's: four bits at once -/
theorem four_get : ∀ i, i < 16 → gl_four[i]? = some ((citer 4 i : Nat) : Int) := by decide +kernel
theorem nib {r : Nat} (h : r < 4294967296) : xorI .u32 (shrI .u32 r 4) ((citer 4 (r % 16) : Nat) : Int) = ((citer 4 r : Nat) : Int) := by
  have e : shrI .u32 r 4 = ((r / 16 : Nat) : Int) := shrU32 (a := r) (k := 4) (by decide)
  rw [e, xorU32 (by omega) (citer_lt 4 (by omega)), citer_four r]
theorem lt16 (r : Nat) : decide (((r % 16 : Nat) : Int) < ((16 : Nat) : Int)) = true := ltB (by omega)
theorem ix16 (r : Nat) : (decide ((0 : Int) ≤ ((r % 16 : Nat) : Int)) && decide (((r % 16 : Nat) : Int) < ((16 : Nat) : Int))) = true := ixB (by omega)

theorem add_loop {b : List Int} (hb : Bytes b) (hm : b.length < 9223372036854775807) : ∀ (j k r : Nat), k + j = b.length → r < 4294967296 → Ev crc_Add_step (.s1 r b b.length k) ((4294967295 - cfold r (b.drop k) : Nat) : Int) := by
  intro j
  induction j with
  | zero =>
    intro k r hk hr
    have e : cfold r (b.drop k) = r := by rw [List.drop_of_length_le (by omega)]; rfl
    rw [e]
    refine .done ?_
    simp only [crc_Add_step, crc_Add_1, geB (show b.length ≤ k by omega), cond_false, onesU32 hr]
  | succ j ih =>
    intro k r hk hr
    have hlt : k < b.length := by omega
    obtain ⟨c, hc⟩ : ∃ c : Nat, b[k] = (c : Int) := ⟨_, (Int.toNat_of_nonneg (hb _ (List.getElem_mem hlt)).1).symm⟩
    have hc' := hb _ (List.getElem_mem hlt)
    rw [hc] at hc'
    have h1 : r ^^^ c < 4294967296 := Nat.xor_lt_two_pow (n := 32) hr (by omega)
    have h2 := citer_lt 4 h1
    have e1 : xorI .u32 r (IntKind.u32.wrap (c : Int)) = ((r ^^^ c : Nat) : Int) := by rw [wrapU32 (by omega), xorU32 hr (by omega)]
    have hd : b.drop k = (c : Int) :: b.drop (k + 1) := by rw [← hc, List.drop_eq_getElem_cons hlt]
    have hs : cfold r (b.drop k) = cfold (citer 4 (citer 4 (r ^^^ c))) (b.drop (k + 1)) := by
      rw [hd]
      show cfold (cupd r c) _ = _
      rw [cupd, Int.toNat_natCast, show 8 = 4 + 4 from rfl, citer_add]
    rw [hs]
    refine .next (s' := .s1 ((citer 4 (citer 4 (r ^^^ c)) : Nat) : Int) b b.length ((k + 1 : Nat) : Int)) ?_ (ih (k + 1) _ (by omega) (citer_lt 4 h2))
    simp only [crc_Add_step, crc_Add_1, ltB hlt, cond_true, List.length_map, ixB hlt, le0, Bool.and_self, Int.toNat_natCast, List.getE hlt, Option.bind_some, hc, e1, andU32_15 h1, lt16]
    simp only [Nat.zero_add, four_get _ (Nat.mod_lt (r ^^^ c) (by decide : 0 < 16)), Option.bind_some, nib h1, andU32_15 h2, lt16, le0, Bool.and_self, cond_true, Int.toNat_natCast]
    simp only [four_get _ (Nat.mod_lt (citer 4 (r ^^^ c)) (by decide : 0 < 16)), Option.bind_some, nib h2, wS (show k < 9223372036854775807 by omega)]

theorem sum_ok {b : List Int} (hb : Bytes b) (hm : b.length < 9223372036854775807) : crc_Sum b = some (crc b : Int) := by
  have h : crc_Add 0 b = some (crc b : Int) := by
    refine evf_of (.next (s' := .s1 ((4294967295 : Nat) : Int) b b.length ((0 : Nat) : Int)) ?_ ?_)
    · have := onesU32 (n := 0) (by decide)
      simp only [crc_Add_step, crc_Add_0, List.length_map]
      rw [show (0 : Int) = ((0 : Nat) : Int) from rfl, this]
    · have := add_loop hb hm b.length 0 4294967295 (by omega) (by decide)
      simpa [crc, crcAdd] using this
  simp only [crc_Sum, h, Option.bind_some]

/-! ### the document's: one bit after the other -/
theorem bit_step {r : Nat} (h : r < 4294967296) : (bif ((andI .u32 r 1 : Int) == 1) then xorI .u32 (shrI .u32 r 1) 3988292384 else shrI .u32 r 1) = ((cstep r : Nat) : Int) := by
  have e : shrI .u32 r 1 = ((r / 2 : Nat) : Int) := shrU32 (a := r) (k := 1) (by decide)
  rw [andU32_1 h, e]
  unfold cstep
  rcases Nat.mod_two_eq_zero_or_one r with h1 | h1
  · rw [h1]; rfl
  · rw [h1, if_pos rfl]
    show xorI .u32 ((r / 2 : Nat) : Int) ((3988292384 : Nat) : Int) = _
    rw [xorU32 (by omega) (by decide)]

theorem radd_bits {b : List Int} {i : Nat} (hi : i < 9223372036854775807) {y : Int} : ∀ (j k r : Nat), k + j = 8 → r < 4294967296 → Ev ref02_Add_step (.s1 b ((citer j r : Nat) : Int) ((i + 1 : Nat) : Int)) y → Ev ref02_Add_step (.s2 b r i k) y := by
  intro j
  induction j with
  | zero =>
    intro k r hk hr h
    refine .next ?_ h
    simp only [ref02_Add_step, ref02_Add_2, show decide ((k : Int) < 8) = false by simp; omega, cond_false, wS hi, citer]
  | succ j ih =>
    intro k r hk hr h
    have hb := bit_step hr
    refine .next (s' := .s2 b ((cstep r : Nat) : Int) i ((k + 1 : Nat) : Int)) ?_ (ih (k + 1) (cstep r) (by omega) (cstep_lt hr) h)
    simp only [ref02_Add_step, ref02_Add_2, show decide ((k : Int) < 8) = true by simp; omega, cond_true, wS (show k < 9223372036854775807 by omega)]
    cases hq : ((andI .u32 (r : Int) 1 : Int) == 1) <;> rw [hq] at hb <;> simp only [cond_true, cond_false] at hb ⊢ <;> rw [hb]

theorem radd_loop {b : List Int} (hb : Bytes b) (hm : b.length < 9223372036854775807) : ∀ (j k r : Nat), k + j = b.length → r < 4294967296 → Ev ref02_Add_step (.s1 b r k) ((4294967295 - cfold r (b.drop k) : Nat) : Int) := by
  intro j
  induction j with
  | zero =>
    intro k r hk hr
    have e : cfold r (b.drop k) = r := by rw [List.drop_of_length_le (by omega)]; rfl
    rw [e]
    refine .done ?_
    simp only [ref02_Add_step, ref02_Add_1, List.length_map, geB (show b.length ≤ k by omega), cond_false, onesU32 hr]
  | succ j ih =>
    intro k r hk hr
    have hlt : k < b.length := by omega
    obtain ⟨c, hc⟩ : ∃ c : Nat, b[k] = (c : Int) := ⟨_, (Int.toNat_of_nonneg (hb _ (List.getElem_mem hlt)).1).symm⟩
    have hc' := hb _ (List.getElem_mem hlt)
    rw [hc] at hc'
    have h1 : r ^^^ c < 4294967296 := Nat.xor_lt_two_pow (n := 32) hr (by omega)
    have e1 : xorI .u32 r (IntKind.u32.wrap (c : Int)) = ((r ^^^ c : Nat) : Int) := by rw [wrapU32 (by omega), xorU32 hr (by omega)]
    have hd : b.drop k = (c : Int) :: b.drop (k + 1) := by rw [← hc, List.drop_eq_getElem_cons hlt]
    have hs : cfold r (b.drop k) = cfold (citer 8 (r ^^^ c)) (b.drop (k + 1)) := by
      rw [hd]
      show cfold (cupd r c) _ = _
      rw [cupd, Int.toNat_natCast]
    rw [hs]
    refine .next (s' := .s2 b ((r ^^^ c : Nat) : Int) k ((0 : Nat) : Int)) ?_ (radd_bits (by omega) 8 0 _ rfl h1 (ih (k + 1) _ (by omega) (citer_lt 8 h1)))
    simp only [ref02_Add_step, ref02_Add_1, List.length_map, ltB hlt, cond_true, ixB hlt, le0, Bool.and_self, Int.toNat_natCast, List.getE hlt, Option.bind_some, hc, e1]
    rfl

theorem rsum_ok {b : List Int} (hb : Bytes b) (hm : b.length < 9223372036854775807) : ref02_Sum b = some (crc b : Int) := by
  have h : ref02_Add 0 b = some (crc b : Int) := by
    refine evf_of (.next (s' := .s1 b ((4294967295 : Nat) : Int) ((0 : Nat) : Int)) ?_ ?_)
    · have := onesU32 (n := 0) (by decide)
      simp only [ref02_Add_step, ref02_Add_0]
      rw [show (0 : Int) = ((0 : Nat) : Int) from rfl, this]
    · have := radd_loop hb hm b.length 0 4294967295 (by omega) (by decide)
      simpa [crc, crcAdd] using this
  simp only [ref02_Sum, h, Option.bind_some]
end Go.RX.L

set_option linter.unusedSimpArgs false
set_option linter.unusedVariables false
set_option maxRecDepth 100000
set_option maxHeartbeats 4000000
namespace Go.RX.L
open Go Go.RX Go.Proofs
attribute [local irreducible] FinQ
def wire_digits_Q (y : Int) (d : D) (s : Sto) : Prop := d = D.fn 74 [] [D.iptr 1 [[D.int .i64 y]] 0 0] ∧ s = []
noncomputable def wire_digits (n : Int) : Option Int := (some n)
theorem wire_digits_ok {n : Int} {r : Int} (h : wire_digits n = some r) : Sound E 66 [D.int .i64 n] [] (wire_digits_Q r) := by
  refine sound_ofW (m := ⟨[.code (bodyOf Tryd.f66)], [(0, D.int .i64 n)], []⟩) (fn := Tryd.f66) (by kernel_rfl) (by kernel_rfl) ?_
  show FinQ E (Cx.of Tryd.f66 false 0) (QW (wire_digits_Q r)) _
  unfold wire_digits at h
  refine adv_ok hm 11 _ ?_
  obtain rfl := Option.some.inj h
  exact r_retF [] (d := D.fn 74 [] [D.iptr 1 [[D.int .i64 n]] 0 0]) (s := []) (by kernel_rfl) Cx.fin_of ⟨rfl, rfl⟩
end Go.RX.L

set_option linter.unusedSimpArgs false
set_option linter.unusedVariables false
set_option maxRecDepth 100000
set_option maxHeartbeats 4000000
namespace Go.RX.L
open Go Go.RX Go.Proofs
attribute [local irreducible] FinQ
def wire_digits_1_en (y : Int) : List D := [D.int .u8 y]
inductive wire_digits_1_S where
  | s0 (t : Int)
  | s1 (u : Int)
noncomputable def wire_digits_1_M (l : Nat) : wire_digits_1_S → M
  | .s0 t => ⟨[.code (bodyOf Tryd.f74)], [(0, D.yld l), (1, D.iptr 1 [[D.int .i64 t]] 0 0)], []⟩
  | .s1 u => { td := [It.lpc (codeAt (bodyOf Tryd.f74) [1, 0, 0, 0]) 9, It.blk 0, It.code (codeAt (bodyOf Tryd.f74) [1, 1])], fr := [(0, D.yld l), (3, D.int .u64 u)], st := [] }
noncomputable def wire_digits_1_0 (t : Int) : Option (List Int × Option wire_digits_1_S) := (some ([], some (.s1 (xorI .u64 (IntKind.u64.wrap ((shlI .i64 t 1))) (IntKind.u64.wrap ((shrI .i64 t 63)))))))
noncomputable def wire_digits_1_1 (u : Int) : Option (List Int × Option wire_digits_1_S) := (bif (decide ((u : Int) > 127)) then (Option.map (fun p => ((orI .u8 (IntKind.u8.wrap (u)) 128) :: p.1, p.2)) (some ([], some (.s1 (shrI .u64 u 7))))) else (Option.map (fun p => ((IntKind.u8.wrap (u)) :: p.1, p.2)) (some ([], none))))
noncomputable def wire_digits_1_step : wire_digits_1_S → Option (List Int × Option wire_digits_1_S)
  | .s0 t => wire_digits_1_0 t
  | .s1 u => wire_digits_1_1 u
theorem wire_digits_1_0_ok {l : Nat} {J : Option (List (List D)) → World → (Nat → Prop) → (Nat → Prop) → Prop} {t : Int} {x : List Int × Option wire_digits_1_S} {Y : List (List D)} (h : wire_digits_1_0 t = some x) (ha : AfterL E (Cx.seq Tryd.f74 0 l J) wire_digits_1_en (wire_digits_1_M l) x Y) : FinQ E (Cx.seq Tryd.f74 0 l J (some Y)) (fun _ _ => True) (.go (wire_digits_1_M l (.s0 t))) := by
  unfold wire_digits_1_0 at h
  refine adv_ok hm 19 _ ?_
  obtain rfl := Option.some.inj h
  exact r_to (q' := .go (wire_digits_1_M l (.s1 (xorI .u64 (IntKind.u64.wrap ((shlI .i64 t 1))) (IntKind.u64.wrap ((shrI .i64 t 63))))))) (by kernel_rfl) (afterL_jump ha)
theorem wire_digits_1_1_ok {l : Nat} {J : Option (List (List D)) → World → (Nat → Prop) → (Nat → Prop) → Prop} {u : Int} {x : List Int × Option wire_digits_1_S} {Y : List (List D)} (h : wire_digits_1_1 u = some x) (ha : AfterL E (Cx.seq Tryd.f74 0 l J) wire_digits_1_en (wire_digits_1_M l) x Y) : FinQ E (Cx.seq Tryd.f74 0 l J (some Y)) (fun _ _ => True) (.go (wire_digits_1_M l (.s1 u))) := by
  unfold wire_digits_1_1 at h
  refine adv_ok hm 8 _ ?_
  refine p_split h (by kernel_rfl) (fun h1 h => ?_) (fun h1 h => ?_)
  · -- true
    refine adv_ok hm 10 _ ?_
    refine p_yld (x := (orI .u8 (IntKind.u8.wrap (u)) 128)) h ha (by kernel_rfl) ?_ (fun p Y h ha => ?_)
    · -- it is stopped
      refine adv_ok hm 5 _ ?_
      exact p_retN (d := D.tup []) (s := []) (by kernel_rfl)
    · -- it goes on
      refine adv_ok hm 13 _ ?_
      obtain rfl := Option.some.inj h
      exact r_to (q' := .go (wire_digits_1_M l (.s1 (shrI .u64 u 7)))) (by kernel_rfl) (afterL_jump ha)
  · -- false
    refine adv_ok hm 6 _ ?_
    refine p_yld (x := (IntKind.u8.wrap (u))) h ha (by kernel_rfl) ?_ (fun p Y h ha => ?_)
    · -- it is stopped
      refine adv_ok hm 2 _ ?_
      exact p_retN (d := D.tup []) (s := []) (by kernel_rfl)
    · -- it goes on
      refine adv_ok hm 2 _ ?_
      obtain rfl := Option.some.inj h
      exact p_retY (d := D.tup []) (s := []) (by kernel_rfl) ha
noncomputable def wire_digits_1 (t : Int) : Option (List Int) := evl wire_digits_1_step (.s0 t)
theorem wire_digits_1_ok {t : Int} {r : List Int} (h : wire_digits_1 t = some r) : SoundSeq E 74 [D.iptr 1 [[D.int .i64 t]] 0 0] [] (List.map wire_digits_1_en r) :=
  seq_of (m := fun l => wire_digits_1_M l (.s0 t)) (fn := Tryd.f74) (by kernel_rfl) (fun l => by kernel_rfl) (fun l J => evl_run (step := wire_digits_1_step) (fun s x Y hs ha => by
    cases s with
    | s0 => exact wire_digits_1_0_ok hs ha
    | s1 => exact wire_digits_1_1_ok hs ha) (evl_ev h))
end Go.RX.L

set_option linter.unusedSimpArgs false
set_option linter.unusedVariables false
set_option maxRecDepth 100000
set_option maxHeartbeats 4000000
namespace Go.RX.L
open Go Go.RX Go.Proofs
attribute [local irreducible] FinQ
def wire_put_v2_Q (y : List Int) (d : D) (s : Sto) : Prop := d = D.msl 1 0 ((List.map (eInt .u8) y).length) ((List.map (eInt .u8) y).length) false ∧ s = [none, some { sz := 1, deep := false, rows := (List.map (eInt .u8) y) }]
inductive wire_put_v2_S where
  | s0 (n : Int) (b0 : List Int)
  | s1 (t7 : Int) (b2 : List Int)
  | s2 (t7 : Int) (b2 : List Int) (Y : List Int)
noncomputable def wire_put_v2_M : wire_put_v2_S → M
  | .s0 n b0 => ⟨[.code (bodyOf Tryd.f50)], [(0, D.msl 0 0 ((List.map (eInt .u8) b0).length) ((List.map (eInt .u8) b0).length) false), (1, D.int .i64 n)], [some { sz := 1, deep := false, rows := (List.map (eInt .u8) b0) }]⟩
  | .s1 t7 b2 => { td := [It.code (codeAt (bodyOf Tryd.f50) [1, 0, 1, 0]), It.blk 0, It.code (codeAt (bodyOf Tryd.f50) [1, 1])], fr := [(2, D.ptr 1 0 0), (7, D.fn 74 [] [D.iptr 1 [[D.int .i64 t7]] 0 0])], st := [none, some { sz := 1, deep := true, rows := [[D.msl 2 0 ((List.map (eInt .u8) b2).length) ((List.map (eInt .u8) b2).length) false]] }, some { sz := 1, deep := false, rows := (List.map (eInt .u8) b2) }] }
  | .s2 t7 b2 Y => { td := [It.blk 0, It.code (codeAt (bodyOf Tryd.f50) [1, 1])], fr := [(2, D.ptr 1 0 0), (7, D.fn 74 [] [D.iptr 1 [[D.int .i64 t7]] 0 0])], st := [none, some { sz := 1, deep := true, rows := [[D.msl 2 0 ((List.map (eInt .u8) b2).length) ((List.map (eInt .u8) b2).length) false]] }, some { sz := 1, deep := false, rows := (List.map (eInt .u8) b2) }] }
noncomputable def wire_put_v2_Pd : wire_put_v2_S → (List Int) → Prop
  | .s0 n b0, r_ => FinQ E (Cx.of Tryd.f50 true 1) (QW (wire_put_v2_Q r_)) (.go (wire_put_v2_M (.s0 n b0)))
  | .s1 t7 b2, r_ => FinQ E (Cx.of Tryd.f50 true 1) (QW (wire_put_v2_Q r_)) (.go (wire_put_v2_M (.s1 t7 b2)))
  | .s2 t7 b2 Y, r_ => RngQ E (Cx.of Tryd.f50 true 1) (QW (wire_put_v2_Q r_)) 2 (codeAt (bodyOf Tryd.f50) [1, 0, 1, 0]) [It.blk 0, It.code (codeAt (bodyOf Tryd.f50) [1, 1])] [(2, D.ptr 1 0 0), (7, D.fn 74 [] [D.iptr 1 [[D.int .i64 t7]] 0 0])] (List.map wire_digits_1_en Y) [none, some { sz := 1, deep := true, rows := [[D.msl 2 0 ((List.map (eInt .u8) b2).length) ((List.map (eInt .u8) b2).length) false]] }, some { sz := 1, deep := false, rows := (List.map (eInt .u8) b2) }]
noncomputable def wire_put_v2_0 (n : Int) (b0 : List Int) : Option (wire_put_v2_S ⊕ (List Int)) := ((wire_digits n).bind fun y1 => (some (.inl (.s1 y1 b0))))
noncomputable def wire_put_v2_1 (t7 : Int) (b2 : List Int) : Option (wire_put_v2_S ⊕ (List Int)) := ((wire_digits_1 t7).bind fun y1 => (some (.inl (.s2 t7 b2 y1))))
noncomputable def wire_put_v2_2n (t7 : Int) (b2 : List Int) : Option (wire_put_v2_S ⊕ (List Int)) := (some (.inr b2))
noncomputable def wire_put_v2_2c (t7 : Int) (b2 : List Int) (y : Int) (Y : List Int) : Option (wire_put_v2_S ⊕ (List Int)) := (bif (decide (((List.map (eInt .u8) b2).length + 1) * 1 ≤ bytesLim)) then (some (.inl (.s2 t7 (b2 ++ [y]) Y))) else none)
noncomputable def wire_put_v2_2 (t7 : Int) (b2 : List Int) : List Int → Option (wire_put_v2_S ⊕ (List Int))
  | [] => wire_put_v2_2n t7 b2
  | y :: Y => wire_put_v2_2c t7 b2 y Y
noncomputable def wire_put_v2_step : wire_put_v2_S → Option (wire_put_v2_S ⊕ (List Int))
  | .s0 n b0 => wire_put_v2_0 n b0
  | .s1 t7 b2 => wire_put_v2_1 t7 b2
  | .s2 t7 b2 Y => wire_put_v2_2 t7 b2 Y
theorem wire_put_v2_0_ok {n : Int} {b0 : List Int} {r : List Int} {x : wire_put_v2_S ⊕ (List Int)} (h : wire_put_v2_0 n b0 = some x) (ha : AfterP wire_put_v2_Pd r x) : FinQ E (Cx.of Tryd.f50 true 1) (QW (wire_put_v2_Q r)) (.go (wire_put_v2_M (.s0 n b0))) := by
  unfold wire_put_v2_0 at h
  refine adv_ok hm 10 _ ?_
  have ok1 := fun (y : Int) (hy : wire_digits n = some y) => wire_digits_ok hy
  refine p_callR [] h (by kernel_rfl) ok1 (fun y1 h1 h => ?_)
  refine adv_ok hm 2 _ ?_
  obtain rfl := Option.some.inj h
  exact r_cut 388 [.mv 0] (m' := (wire_put_v2_M (.s1 y1 b0))) (by kernel_rfl) ha
theorem wire_put_v2_1_ok {t7 : Int} {b2 : List Int} {r : List Int} {x : wire_put_v2_S ⊕ (List Int)} (h : wire_put_v2_1 t7 b2 = some x) (ha : AfterP wire_put_v2_Pd r x) : FinQ E (Cx.of Tryd.f50 true 1) (QW (wire_put_v2_Q r)) (.go (wire_put_v2_M (.s1 t7 b2))) := by
  unfold wire_put_v2_1 at h
  refine adv_ok hm 1 _ ?_
  have ok1 := fun (y : List Int) (hy : wire_digits_1 t7 = some y) => wire_digits_1_ok hy
  refine p_rng (m := 2) (c := codeAt (bodyOf Tryd.f50) [1, 0, 1, 0]) (t := [It.blk 0, It.code (codeAt (bodyOf Tryd.f50) [1, 1])]) (fr := [(2, D.ptr 1 0 0), (7, D.fn 74 [] [D.iptr 1 [[D.int .i64 t7]] 0 0])]) (σ := [none, some { sz := 1, deep := true, rows := [[D.msl 2 0 ((List.map (eInt .u8) b2).length) ((List.map (eInt .u8) b2).length) false]] }, some { sz := 1, deep := false, rows := (List.map (eInt .u8) b2) }]) (caps1 := [D.iptr 1 [[D.int .i64 t7]] 0 0]) (caps := [D.iptr 1 [[D.int .i64 t7]] 0 0]) (sub1 := []) (sub := []) wire_digits_1_en h (by kernel_rfl) ⟨rfl, rfl⟩ (by kernel_rfl) (by kernel_rfl) ok1 (fun y1 h1 h => ?_)
  obtain rfl := Option.some.inj h
  exact ha
theorem wire_put_v2_2n_ok {t7 : Int} {b2 : List Int} {r : List Int} {x : wire_put_v2_S ⊕ (List Int)} (h : wire_put_v2_2n t7 b2 = some x) (ha : AfterP wire_put_v2_Pd r x) : RngQ E (Cx.of Tryd.f50 true 1) (QW (wire_put_v2_Q r)) 2 (codeAt (bodyOf Tryd.f50) [1, 0, 1, 0]) [It.blk 0, It.code (codeAt (bodyOf Tryd.f50) [1, 1])] [(2, D.ptr 1 0 0), (7, D.fn 74 [] [D.iptr 1 [[D.int .i64 t7]] 0 0])] ([]) [none, some { sz := 1, deep := true, rows := [[D.msl 2 0 ((List.map (eInt .u8) b2).length) ((List.map (eInt .u8) b2).length) false]] }, some { sz := 1, deep := false, rows := (List.map (eInt .u8) b2) }] := by
  unfold wire_put_v2_2n at h
  refine rng_nil ?_
  refine adv_ok hm 8 _ ?_
  obtain rfl := Option.some.inj h
  have hv := ha
  simp only [AfterP] at hv
  subst hv
  exact r_retF [] (d := D.msl 1 0 ((List.map (eInt .u8) b2).length) ((List.map (eInt .u8) b2).length) false) (s := [none, some { sz := 1, deep := false, rows := (List.map (eInt .u8) b2) }]) (by kernel_rfl) Cx.fin_of ⟨rfl, rfl⟩
theorem wire_put_v2_2c_ok {t7 : Int} {b2 : List Int} {y : Int} {Y : List Int} {r : List Int} {x : wire_put_v2_S ⊕ (List Int)} (h : wire_put_v2_2c t7 b2 y Y = some x) (ha : AfterP wire_put_v2_Pd r x) : RngQ E (Cx.of Tryd.f50 true 1) (QW (wire_put_v2_Q r)) 2 (codeAt (bodyOf Tryd.f50) [1, 0, 1, 0]) [It.blk 0, It.code (codeAt (bodyOf Tryd.f50) [1, 1])] [(2, D.ptr 1 0 0), (7, D.fn 74 [] [D.iptr 1 [[D.int .i64 t7]] 0 0])] (wire_digits_1_en y :: List.map wire_digits_1_en Y) [none, some { sz := 1, deep := true, rows := [[D.msl 2 0 ((List.map (eInt .u8) b2).length) ((List.map (eInt .u8) b2).length) false]] }, some { sz := 1, deep := false, rows := (List.map (eInt .u8) b2) }] := by
  unfold wire_put_v2_2c at h
  refine rng_cons ?_
  refine adv_ok hm 8 _ ?_
  refine p_need h (by kernel_rfl) (fun h1 h => ?_)
  refine r_needT (b := (Nat.ble (0 + (List.map (eInt .u8) b2).length) ((List.map (eInt .u8) b2).length))) (by kernel_rfl) (ble_full _) ?_
  refine r_rows (List.take ((List.map (eInt .u8) b2).length) (List.drop 0 (List.map (eInt .u8) b2)) ++ (List.map (eInt .u8) ([y]))) (List.map (eInt .u8) (b2 ++ [y])) (by kernel_rfl) (rows_app _ _ _) ?_
  refine adv_ok hm 6 _ ?_
  obtain rfl := Option.some.inj h
  exact p_rend0 [] (s1 := [none, some { sz := 1, deep := true, rows := [[D.msl 2 0 ((List.map (eInt .u8) (b2 ++ [y])).length) ((List.map (eInt .u8) (b2 ++ [y])).length) false]] }, some { sz := 1, deep := false, rows := (List.map (eInt .u8) (b2 ++ [y])) }]) (s := [none, some { sz := 1, deep := true, rows := [[D.msl 2 0 ((List.map (eInt .u8) (b2 ++ [y])).length) ((List.map (eInt .u8) (b2 ++ [y])).length) false]] }, some { sz := 1, deep := false, rows := (List.map (eInt .u8) (b2 ++ [y])) }]) (by kernel_rfl) (rfl) ha
theorem wire_put_v2_2_ok {t7 : Int} {b2 : List Int} {Y : List Int} {r : List Int} {x : wire_put_v2_S ⊕ (List Int)} (h : wire_put_v2_2 t7 b2 Y = some x) (ha : AfterP wire_put_v2_Pd r x) : RngQ E (Cx.of Tryd.f50 true 1) (QW (wire_put_v2_Q r)) 2 (codeAt (bodyOf Tryd.f50) [1, 0, 1, 0]) [It.blk 0, It.code (codeAt (bodyOf Tryd.f50) [1, 1])] [(2, D.ptr 1 0 0), (7, D.fn 74 [] [D.iptr 1 [[D.int .i64 t7]] 0 0])] (List.map wire_digits_1_en Y) [none, some { sz := 1, deep := true, rows := [[D.msl 2 0 ((List.map (eInt .u8) b2).length) ((List.map (eInt .u8) b2).length) false]] }, some { sz := 1, deep := false, rows := (List.map (eInt .u8) b2) }] := by
  cases Y with
  | nil => exact wire_put_v2_2n_ok h ha
  | cons y Y => exact wire_put_v2_2c_ok h ha
theorem wire_put_v2_ev {n : Int} {b0 : List Int} {r : List Int} (h : Ev wire_put_v2_step (.s0 n b0) r) : Sound E 50 [D.msl 0 0 ((List.map (eInt .u8) b0).length) ((List.map (eInt .u8) b0).length) false, D.int .i64 n] [some { sz := 1, deep := false, rows := (List.map (eInt .u8) b0) }] (wire_put_v2_Q r) :=
  sound_ofW (m := wire_put_v2_M (.s0 n b0)) (fn := Tryd.f50) (by kernel_rfl) (by kernel_rfl) (ev_runP (Pd := wire_put_v2_Pd) (fun s x r hs ha => by
    cases s with
    | s0 => exact wire_put_v2_0_ok hs ha
    | s1 => exact wire_put_v2_1_ok hs ha
    | s2 => exact wire_put_v2_2_ok hs ha) h)
noncomputable def wire_put_v2 (n : Int) (b0 : List Int) : Option (List Int) := evf wire_put_v2_step (.s0 n b0)
theorem wire_put_v2_ok {n : Int} {b0 : List Int} {r : List Int} (h : wire_put_v2 n b0 = some r) : Sound E 50 [D.msl 0 0 ((List.map (eInt .u8) b0).length) ((List.map (eInt .u8) b0).length) false, D.int .i64 n] [some { sz := 1, deep := false, rows := (List.map (eInt .u8) b0) }] (wire_put_v2_Q r) := wire_put_v2_ev (evf_ev h)
end Go.RX.L

set_option linter.unusedSimpArgs false
set_option linter.unusedVariables false
set_option maxRecDepth 100000
set_option maxHeartbeats 4000000
namespace Go.RX.L
open Go Go.RX Go.Proofs
attribute [local irreducible] FinQ
def wire_put_Q (y : List Int) (d : D) (s : Sto) : Prop := d = D.msl 0 0 ((List.map (eInt .u8) y).length) ((List.map (eInt .u8) y).length) false ∧ s = [some { sz := 1, deep := false, rows := (List.map (eInt .u8) y) }]
inductive wire_put_S where
  | s0 (n : Int)
  | s1 (t7 : Int) (b1 : List Int)
  | s2 (t7 : Int) (b1 : List Int) (Y : List Int)
noncomputable def wire_put_M : wire_put_S → M
  | .s0 n => ⟨[.code (bodyOf Tryd.f50)], [(0, D.sl true 0 []), (1, D.int .i64 n)], []⟩
  | .s1 t7 b1 => { td := [It.code (codeAt (bodyOf Tryd.f50) [1, 0, 1, 0]), It.blk 0, It.code (codeAt (bodyOf Tryd.f50) [1, 1])], fr := [(2, D.ptr 0 0 0), (7, D.fn 74 [] [D.iptr 1 [[D.int .i64 t7]] 0 0])], st := [some { sz := 1, deep := true, rows := [[D.msl 1 0 ((List.map (eInt .u8) b1).length) ((List.map (eInt .u8) b1).length) false]] }, some { sz := 1, deep := false, rows := (List.map (eInt .u8) b1) }] }
  | .s2 t7 b1 Y => { td := [It.blk 0, It.code (codeAt (bodyOf Tryd.f50) [1, 1])], fr := [(2, D.ptr 0 0 0), (7, D.fn 74 [] [D.iptr 1 [[D.int .i64 t7]] 0 0])], st := [some { sz := 1, deep := true, rows := [[D.msl 1 0 ((List.map (eInt .u8) b1).length) ((List.map (eInt .u8) b1).length) false]] }, some { sz := 1, deep := false, rows := (List.map (eInt .u8) b1) }] }
noncomputable def wire_put_Pd : wire_put_S → (List Int) → Prop
  | .s0 n, r_ => FinQ E (Cx.of Tryd.f50 true 0) (QW (wire_put_Q r_)) (.go (wire_put_M (.s0 n)))
  | .s1 t7 b1, r_ => FinQ E (Cx.of Tryd.f50 true 0) (QW (wire_put_Q r_)) (.go (wire_put_M (.s1 t7 b1)))
  | .s2 t7 b1 Y, r_ => RngQ E (Cx.of Tryd.f50 true 0) (QW (wire_put_Q r_)) 1 (codeAt (bodyOf Tryd.f50) [1, 0, 1, 0]) [It.blk 0, It.code (codeAt (bodyOf Tryd.f50) [1, 1])] [(2, D.ptr 0 0 0), (7, D.fn 74 [] [D.iptr 1 [[D.int .i64 t7]] 0 0])] (List.map wire_digits_1_en Y) [some { sz := 1, deep := true, rows := [[D.msl 1 0 ((List.map (eInt .u8) b1).length) ((List.map (eInt .u8) b1).length) false]] }, some { sz := 1, deep := false, rows := (List.map (eInt .u8) b1) }]
noncomputable def wire_put_0 (n : Int) : Option (wire_put_S ⊕ (List Int)) := ((wire_digits n).bind fun y1 => (some (.inl (.s1 y1 ([])))))
noncomputable def wire_put_1 (t7 : Int) (b1 : List Int) : Option (wire_put_S ⊕ (List Int)) := ((wire_digits_1 t7).bind fun y1 => (some (.inl (.s2 t7 b1 y1))))
noncomputable def wire_put_2n (t7 : Int) (b1 : List Int) : Option (wire_put_S ⊕ (List Int)) := (some (.inr b1))
noncomputable def wire_put_2c (t7 : Int) (b1 : List Int) (y : Int) (Y : List Int) : Option (wire_put_S ⊕ (List Int)) := (bif (decide (((List.map (eInt .u8) b1).length + 1) * 1 ≤ bytesLim)) then (some (.inl (.s2 t7 (b1 ++ [y]) Y))) else none)
noncomputable def wire_put_2 (t7 : Int) (b1 : List Int) : List Int → Option (wire_put_S ⊕ (List Int))
  | [] => wire_put_2n t7 b1
  | y :: Y => wire_put_2c t7 b1 y Y
noncomputable def wire_put_step : wire_put_S → Option (wire_put_S ⊕ (List Int))
  | .s0 n => wire_put_0 n
  | .s1 t7 b1 => wire_put_1 t7 b1
  | .s2 t7 b1 Y => wire_put_2 t7 b1 Y
theorem wire_put_0_ok {n : Int} {r : List Int} {x : wire_put_S ⊕ (List Int)} (h : wire_put_0 n = some x) (ha : AfterP wire_put_Pd r x) : FinQ E (Cx.of Tryd.f50 true 0) (QW (wire_put_Q r)) (.go (wire_put_M (.s0 n))) := by
  unfold wire_put_0 at h
  refine adv_ok hm 10 _ ?_
  have ok1 := fun (y : Int) (hy : wire_digits n = some y) => wire_digits_ok hy
  refine p_callR [] h (by kernel_rfl) ok1 (fun y1 h1 h => ?_)
  refine adv_ok hm 2 _ ?_
  obtain rfl := Option.some.inj h
  refine r_cut 388 [.matc 0 0 0 1] (m' := { td := [It.code (codeAt (bodyOf Tryd.f50) [1, 0, 1, 0]), It.blk 0, It.code (codeAt (bodyOf Tryd.f50) [1, 1])], fr := [(2, D.ptr 0 0 0), (7, D.fn 74 [] [D.iptr 1 [[D.int .i64 y1]] 0 0])], st := [some { sz := 1, deep := true, rows := [[D.msl 1 0 0 0 false]] }, some { sz := 1, deep := false, rows := [] }] }) (by kernel_rfl) ?_
  refine r_len (n1 := 0) (n2 := (List.map (eInt .u8) ([])).length) (fun n_len => .go { td := [It.code (codeAt (bodyOf Tryd.f50) [1, 0, 1, 0]), It.blk 0, It.code (codeAt (bodyOf Tryd.f50) [1, 1])], fr := [(2, D.ptr 0 0 0), (7, D.fn 74 [] [D.iptr 1 [[D.int .i64 y1]] 0 0])], st := [some { sz := 1, deep := true, rows := [[D.msl 1 0 n_len n_len false]] }, some { sz := 1, deep := false, rows := [] }] }) (by simp) ?_
  exact ha
theorem wire_put_1_ok {t7 : Int} {b1 : List Int} {r : List Int} {x : wire_put_S ⊕ (List Int)} (h : wire_put_1 t7 b1 = some x) (ha : AfterP wire_put_Pd r x) : FinQ E (Cx.of Tryd.f50 true 0) (QW (wire_put_Q r)) (.go (wire_put_M (.s1 t7 b1))) := by
  unfold wire_put_1 at h
  refine adv_ok hm 1 _ ?_
  have ok1 := fun (y : List Int) (hy : wire_digits_1 t7 = some y) => wire_digits_1_ok hy
  refine p_rng (m := 1) (c := codeAt (bodyOf Tryd.f50) [1, 0, 1, 0]) (t := [It.blk 0, It.code (codeAt (bodyOf Tryd.f50) [1, 1])]) (fr := [(2, D.ptr 0 0 0), (7, D.fn 74 [] [D.iptr 1 [[D.int .i64 t7]] 0 0])]) (σ := [some { sz := 1, deep := true, rows := [[D.msl 1 0 ((List.map (eInt .u8) b1).length) ((List.map (eInt .u8) b1).length) false]] }, some { sz := 1, deep := false, rows := (List.map (eInt .u8) b1) }]) (caps1 := [D.iptr 1 [[D.int .i64 t7]] 0 0]) (caps := [D.iptr 1 [[D.int .i64 t7]] 0 0]) (sub1 := []) (sub := []) wire_digits_1_en h (by kernel_rfl) ⟨rfl, rfl⟩ (by kernel_rfl) (by kernel_rfl) ok1 (fun y1 h1 h => ?_)
  obtain rfl := Option.some.inj h
  exact ha
theorem wire_put_2n_ok {t7 : Int} {b1 : List Int} {r : List Int} {x : wire_put_S ⊕ (List Int)} (h : wire_put_2n t7 b1 = some x) (ha : AfterP wire_put_Pd r x) : RngQ E (Cx.of Tryd.f50 true 0) (QW (wire_put_Q r)) 1 (codeAt (bodyOf Tryd.f50) [1, 0, 1, 0]) [It.blk 0, It.code (codeAt (bodyOf Tryd.f50) [1, 1])] [(2, D.ptr 0 0 0), (7, D.fn 74 [] [D.iptr 1 [[D.int .i64 t7]] 0 0])] ([]) [some { sz := 1, deep := true, rows := [[D.msl 1 0 ((List.map (eInt .u8) b1).length) ((List.map (eInt .u8) b1).length) false]] }, some { sz := 1, deep := false, rows := (List.map (eInt .u8) b1) }] := by
  unfold wire_put_2n at h
  refine rng_nil ?_
  refine adv_ok hm 8 _ ?_
  obtain rfl := Option.some.inj h
  have hv := ha
  simp only [AfterP] at hv
  subst hv
  exact r_retF [] (d := D.msl 0 0 ((List.map (eInt .u8) b1).length) ((List.map (eInt .u8) b1).length) false) (s := [some { sz := 1, deep := false, rows := (List.map (eInt .u8) b1) }]) (by kernel_rfl) Cx.fin_of ⟨rfl, rfl⟩
theorem wire_put_2c_ok {t7 : Int} {b1 : List Int} {y : Int} {Y : List Int} {r : List Int} {x : wire_put_S ⊕ (List Int)} (h : wire_put_2c t7 b1 y Y = some x) (ha : AfterP wire_put_Pd r x) : RngQ E (Cx.of Tryd.f50 true 0) (QW (wire_put_Q r)) 1 (codeAt (bodyOf Tryd.f50) [1, 0, 1, 0]) [It.blk 0, It.code (codeAt (bodyOf Tryd.f50) [1, 1])] [(2, D.ptr 0 0 0), (7, D.fn 74 [] [D.iptr 1 [[D.int .i64 t7]] 0 0])] (wire_digits_1_en y :: List.map wire_digits_1_en Y) [some { sz := 1, deep := true, rows := [[D.msl 1 0 ((List.map (eInt .u8) b1).length) ((List.map (eInt .u8) b1).length) false]] }, some { sz := 1, deep := false, rows := (List.map (eInt .u8) b1) }] := by
  unfold wire_put_2c at h
  refine rng_cons ?_
  refine adv_ok hm 8 _ ?_
  refine p_need h (by kernel_rfl) (fun h1 h => ?_)
  refine r_needT (b := (Nat.ble (0 + (List.map (eInt .u8) b1).length) ((List.map (eInt .u8) b1).length))) (by kernel_rfl) (ble_full _) ?_
  refine r_rows (List.take ((List.map (eInt .u8) b1).length) (List.drop 0 (List.map (eInt .u8) b1)) ++ (List.map (eInt .u8) ([y]))) (List.map (eInt .u8) (b1 ++ [y])) (by kernel_rfl) (rows_app _ _ _) ?_
  refine adv_ok hm 6 _ ?_
  obtain rfl := Option.some.inj h
  exact p_rend0 [] (s1 := [some { sz := 1, deep := true, rows := [[D.msl 1 0 ((List.map (eInt .u8) (b1 ++ [y])).length) ((List.map (eInt .u8) (b1 ++ [y])).length) false]] }, some { sz := 1, deep := false, rows := (List.map (eInt .u8) (b1 ++ [y])) }]) (s := [some { sz := 1, deep := true, rows := [[D.msl 1 0 ((List.map (eInt .u8) (b1 ++ [y])).length) ((List.map (eInt .u8) (b1 ++ [y])).length) false]] }, some { sz := 1, deep := false, rows := (List.map (eInt .u8) (b1 ++ [y])) }]) (by kernel_rfl) (rfl) ha
theorem wire_put_2_ok {t7 : Int} {b1 : List Int} {Y : List Int} {r : List Int} {x : wire_put_S ⊕ (List Int)} (h : wire_put_2 t7 b1 Y = some x) (ha : AfterP wire_put_Pd r x) : RngQ E (Cx.of Tryd.f50 true 0) (QW (wire_put_Q r)) 1 (codeAt (bodyOf Tryd.f50) [1, 0, 1, 0]) [It.blk 0, It.code (codeAt (bodyOf Tryd.f50) [1, 1])] [(2, D.ptr 0 0 0), (7, D.fn 74 [] [D.iptr 1 [[D.int .i64 t7]] 0 0])] (List.map wire_digits_1_en Y) [some { sz := 1, deep := true, rows := [[D.msl 1 0 ((List.map (eInt .u8) b1).length) ((List.map (eInt .u8) b1).length) false]] }, some { sz := 1, deep := false, rows := (List.map (eInt .u8) b1) }] := by
  cases Y with
  | nil => exact wire_put_2n_ok h ha
  | cons y Y => exact wire_put_2c_ok h ha
theorem wire_put_ev {n : Int} {r : List Int} (h : Ev wire_put_step (.s0 n) r) : Sound E 50 [D.sl true 0 [], D.int .i64 n] [] (wire_put_Q r) :=
  sound_ofW (m := wire_put_M (.s0 n)) (fn := Tryd.f50) (by kernel_rfl) (by kernel_rfl) (ev_runP (Pd := wire_put_Pd) (fun s x r hs ha => by
    cases s with
    | s0 => exact wire_put_0_ok hs ha
    | s1 => exact wire_put_1_ok hs ha
    | s2 => exact wire_put_2_ok hs ha) h)
noncomputable def wire_put (n : Int) : Option (List Int) := evf wire_put_step (.s0 n)
theorem wire_put_ok {n : Int} {r : List Int} (h : wire_put n = some r) : Sound E 50 [D.sl true 0 [], D.int .i64 n] [] (wire_put_Q r) := wire_put_ev (evf_ev h)
end Go.RX.L

set_option linter.unusedSimpArgs false
set_option linter.unusedVariables false
set_option maxRecDepth 100000
set_option maxHeartbeats 4000000
namespace Go.RX.L
open Go Go.RX Go.Proofs
attribute [local irreducible] FinQ
def wire_PutInt_Q (y : List Int) (d : D) (s : Sto) : Prop := d = D.msl 0 0 ((List.map (eInt .u8) y).length) ((List.map (eInt .u8) y).length) false ∧ s = [some { sz := 1, deep := false, rows := (List.map (eInt .u8) y) }]
noncomputable def wire_PutInt (n : Int) : Option (List Int) := ((wire_put n).bind fun y1 => (some y1))
theorem wire_PutInt_ok {n : Int} {r : List Int} (h : wire_PutInt n = some r) : Sound E 49 [D.int .i64 n] [] (wire_PutInt_Q r) := by
  refine sound_ofW (m := ⟨[.code (bodyOf Tryd.f49)], [(0, D.int .i64 n)], []⟩) (fn := Tryd.f49) (by kernel_rfl) (by kernel_rfl) ?_
  show FinQ E (Cx.of Tryd.f49 true 0) (QW (wire_PutInt_Q r)) _
  unfold wire_PutInt at h
  refine adv_ok hm 8 _ ?_
  have ok1 := fun (y : List Int) (hy : wire_put n = some y) => wire_put_ok hy
  refine p_callR [none] h (by kernel_rfl) ok1 (fun y1 h1 h => ?_)
  refine adv_ok hm 3 _ ?_
  obtain rfl := Option.some.inj h
  exact r_retF [] (d := D.msl 0 0 ((List.map (eInt .u8) y1).length) ((List.map (eInt .u8) y1).length) false) (s := [some { sz := 1, deep := false, rows := (List.map (eInt .u8) y1) }]) (by kernel_rfl) Cx.fin_of ⟨rfl, rfl⟩
end Go.RX.L

set_option linter.unusedSimpArgs false
set_option linter.unusedVariables false
set_option maxRecDepth 100000
set_option maxHeartbeats 4000000
namespace Go.RX.L
open Go Go.RX Go.Proofs
attribute [local irreducible] FinQ
def wire_PutInts_Q (y : Int × (List Int)) (d : D) (s : Sto) : Prop := d = D.tup [D.msl 0 0 ((List.map (eInt .u8) y.2).length) ((List.map (eInt .u8) y.2).length) false, D.int .i64 y.1] ∧ s = [some { sz := 1, deep := false, rows := (List.map (eInt .u8) y.2) }]
inductive wire_PutInts_S where
  | s0 (l_ : List Int)
  | s1 (t13 : List Int) (t14 : Int) (t15 : Int) (b : List Int)
noncomputable def wire_PutInts_M : wire_PutInts_S → M
  | .s0 l_ => ⟨[.code (bodyOf Tryd.f24)], [(0, D.sl false 1 (List.map (eInt .i64) l_))], []⟩
  | .s1 t13 t14 t15 b => { td := [It.lpc (codeAt (bodyOf Tryd.f24) [1, 1, 1, 0, 1, 0, 0]) 57360, It.blk 0, It.code (codeAt (bodyOf Tryd.f24) [1, 1, 1, 1])], fr := [(4, D.msl 0 0 ((List.map (eInt .u8) b).length) ((List.map (eInt .u8) b).length) false), (13, D.sl false 1 (List.map (eInt .i64) t13)), (14, D.int .i64 t14), (15, D.int .i64 t15)], st := [some { sz := 1, deep := false, rows := (List.map (eInt .u8) b) }] }
noncomputable def wire_PutInts_0 (l_ : List Int) : Option (wire_PutInts_S ⊕ (Int × (List Int))) := (bif (decide (((((List.map (eInt .i64) l_).length : Nat) : Int) : Int) > 64)) then (some (.inr (2, []))) else ((wire_PutInt (((List.map (eInt .i64) l_).length : Nat) : Int)).bind fun y2 => (some (.inl (.s1 l_ (((List.map (eInt .i64) l_).length : Nat) : Int) 0 y2)))))
noncomputable def wire_PutInts_1 (t13 : List Int) (t14 : Int) (t15 : Int) (b : List Int) : Option (wire_PutInts_S ⊕ (Int × (List Int))) := (bif (decide ((t15 : Int) < t14)) then (bif ((decide ((0 : Int) ≤ t15)) && (decide ((t15 : Int) < (((List.map (eInt .i64) t13).length : Nat) : Int)))) then (((t13)[t15.toNat]?).bind fun y3 => ((wire_put_v2 y3 b).bind fun y5 => (some (.inl (.s1 t13 t14 (IntKind.i64.wrap (t15 + 1)) y5))))) else none) else (some (.inr (0, b))))
noncomputable def wire_PutInts_step : wire_PutInts_S → Option (wire_PutInts_S ⊕ (Int × (List Int)))
  | .s0 l_ => wire_PutInts_0 l_
  | .s1 t13 t14 t15 b => wire_PutInts_1 t13 t14 t15 b
theorem wire_PutInts_0_ok {l_ : List Int} {r : Int × (List Int)} {x : wire_PutInts_S ⊕ (Int × (List Int))} (h : wire_PutInts_0 l_ = some x) (ha : After E (Cx.of Tryd.f24 true 0) wire_PutInts_Q wire_PutInts_M r x) : FinQ E (Cx.of Tryd.f24 true 0) (QW (wire_PutInts_Q r)) (.go (wire_PutInts_M (.s0 l_))) := by
  unfold wire_PutInts_0 at h
  refine adv_ok hm 13 _ ?_
  refine p_split h (by kernel_rfl) (fun h1 h => ?_) (fun h1 h => ?_)
  · -- true
    refine adv_ok hm 6 _ ?_
    obtain rfl := Option.some.inj h
    have hv := ha
    simp only [After] at hv
    subst hv
    exact r_retF [.matt 0 0 1] (d := D.tup [D.msl 0 0 0 0 false, D.int .i64 2]) (s := [some { sz := 1, deep := false, rows := [] }]) (by kernel_rfl) Cx.fin_of ⟨rfl, rfl⟩
  · -- false
    refine adv_ok hm 6 _ ?_
    have ok2 := fun (y : List Int) (hy : wire_PutInt (((List.map (eInt .i64) l_).length : Nat) : Int) = some y) => wire_PutInt_ok hy
    refine p_callR [] h (by kernel_rfl) ok2 (fun y2 h2 h => ?_)
    refine adv_ok hm 12 _ ?_
    obtain rfl := Option.some.inj h
    exact r_to (q' := .go (wire_PutInts_M (.s1 l_ (((List.map (eInt .i64) l_).length : Nat) : Int) 0 y2))) (by kernel_rfl) ha
theorem wire_PutInts_1_ok {t13 : List Int} {t14 : Int} {t15 : Int} {b : List Int} {r : Int × (List Int)} {x : wire_PutInts_S ⊕ (Int × (List Int))} (h : wire_PutInts_1 t13 t14 t15 b = some x) (ha : After E (Cx.of Tryd.f24 true 0) wire_PutInts_Q wire_PutInts_M r x) : FinQ E (Cx.of Tryd.f24 true 0) (QW (wire_PutInts_Q r)) (.go (wire_PutInts_M (.s1 t13 t14 t15 b))) := by
  unfold wire_PutInts_1 at h
  refine adv_ok hm 7 _ ?_
  refine p_split h (by kernel_rfl) (fun h1 h => ?_) (fun h1 h => ?_)
  · -- true
    refine adv_ok hm 6 _ ?_
    refine p_need h (by kernel_rfl) (fun h2 h => ?_)
    refine adv_ok hm 1 _ ?_
    refine p_row (((List.map (eInt .i64) t13))[t15.toNat]?) (eInt .i64) h (by kernel_rfl) List.getElem?_map (fun y3 h4 h => ?_)
    refine adv_ok hm 6 _ ?_
    have ok5 := fun (y : List Int) (hy : wire_put_v2 y3 b = some y) => wire_put_v2_ok hy
    refine p_callR [] h (by kernel_rfl) ok5 (fun y5 h5 h => ?_)
    refine adv_ok hm 8 _ ?_
    obtain rfl := Option.some.inj h
    exact r_to (q' := .go (wire_PutInts_M (.s1 t13 t14 (IntKind.i64.wrap (t15 + 1)) y5))) (by kernel_rfl) ha
  · -- false
    refine adv_ok hm 8 _ ?_
    obtain rfl := Option.some.inj h
    have hv := ha
    simp only [After] at hv
    subst hv
    exact r_retF [] (d := D.tup [D.msl 0 0 ((List.map (eInt .u8) b).length) ((List.map (eInt .u8) b).length) false, D.int .i64 0]) (s := [some { sz := 1, deep := false, rows := (List.map (eInt .u8) b) }]) (by kernel_rfl) Cx.fin_of ⟨rfl, rfl⟩
theorem wire_PutInts_ev {l_ : List Int} {r : Int × (List Int)} (h : Ev wire_PutInts_step (.s0 l_) r) : Sound E 24 [D.sl false 1 (List.map (eInt .i64) l_)] [] (wire_PutInts_Q r) :=
  sound_ofW (m := wire_PutInts_M (.s0 l_)) (fn := Tryd.f24) (by kernel_rfl) (by kernel_rfl) (ev_run (C := (Cx.of Tryd.f24 true 0)) (fun s x r hs ha => by
    cases s with
    | s0 => exact wire_PutInts_0_ok hs ha
    | s1 => exact wire_PutInts_1_ok hs ha) h)
noncomputable def wire_PutInts (l_ : List Int) : Option (Int × (List Int)) := evf wire_PutInts_step (.s0 l_)
theorem wire_PutInts_ok {l_ : List Int} {r : Int × (List Int)} (h : wire_PutInts l_ = some r) : Sound E 24 [D.sl false 1 (List.map (eInt .i64) l_)] [] (wire_PutInts_Q r) := wire_PutInts_ev (evf_ev h)
end Go.RX.L

set_option linter.unusedSimpArgs false
set_option linter.unusedVariables false
set_option maxRecDepth 100000
set_option maxHeartbeats 4000000
namespace Go.RX.L
open Go Go.RX Go.Proofs
attribute [local irreducible] FinQ
def wire_Int_Q (y : Int × Int × Int) (d : D) (s : Sto) : Prop := d = D.tup [D.int .i64 y.1, D.int .i64 y.2.1, D.int .i64 y.2.2] ∧ s = []
inductive wire_Int_S where
  | s0 (b : List Int) (at_ : Int)
  | s1 (b : List Int) (at_ : Int) (t19 : Bool)
  | s2 (at_ : Int) (u : Int) (shift : Int) (t22 : List Int) (t23 : Int) (t24 : Int)
  | s4 (at_ : Int) (u : Int) (shift : Int) (i : Int) (c : Int) (t22 : List Int) (t23 : Int) (t24 : Int) (t36 : Bool)
  | s3 (at_ : Int) (u : Int) (shift : Int) (i : Int) (c : Int) (t22 : List Int) (t23 : Int) (t24 : Int) (t36 : Bool)
noncomputable def wire_Int_M : wire_Int_S → M
  | .s0 b at_ => ⟨[.code (bodyOf Tryd.f73)], [(0, D.sl false 1 (List.map (eInt .u8) b)), (1, D.int .i64 at_)], []⟩
  | .s1 b at_ t19 => { td := [It.code (codeAt (bodyOf Tryd.f73) [1, 0, 0, 1]), It.code (codeAt (bodyOf Tryd.f73) [1, 0, 1]), It.sc], fr := [(0, D.sl false 1 (List.map (eInt .u8) b)), (1, D.int .i64 at_), (19, D.bool t19)], st := [] }
  | .s2 at_ u shift t22 t23 t24 => { td := [It.lpc (codeAt (bodyOf Tryd.f73) [1, 0, 1, 1, 1, 1, 0, 1, 0, 0]) 29361026, It.blk 0, It.code (codeAt (bodyOf Tryd.f73) [1, 0, 1, 1, 1, 1, 1]), It.sc], fr := [(1, D.int .i64 at_), (7, D.int .i64 11), (8, D.int .u64 u), (9, D.int .i64 shift), (22, D.sl false 1 (List.map (eInt .u8) t22)), (23, D.int .i64 t23), (24, D.int .i64 t24)], st := [] }
  | .s4 at_ u shift i c t22 t23 t24 t36 => { td := [It.code (codeAt (bodyOf Tryd.f73) [1, 0, 1, 1, 1, 1, 0, 1, 0, 0, 1, 1, 0, 0, 1, 1, 0, 0, 0, 1]), It.code (codeAt (bodyOf Tryd.f73) [1, 0, 1, 1, 1, 1, 0, 1, 0, 0, 1, 1, 0, 0, 1, 1, 0, 0, 1]), It.blk 2, It.code (codeAt (bodyOf Tryd.f73) [1, 0, 1, 1, 1, 1, 0, 1, 0, 0, 1, 1, 0, 0, 1, 1, 1]), It.blk 1, It.code (codeAt (bodyOf Tryd.f73) [1, 0, 1, 1, 1, 1, 0, 1, 0, 0, 1, 1, 1]), It.lp (codeAt (bodyOf Tryd.f73) [1, 0, 1, 1, 1, 1, 0, 1, 0, 0]) 29361026, It.blk 0, It.code (codeAt (bodyOf Tryd.f73) [1, 0, 1, 1, 1, 1, 1]), It.sc], fr := [(1, D.int .i64 at_), (7, D.int .i64 11), (8, D.int .u64 u), (9, D.int .i64 shift), (10, D.int .i64 i), (11, D.int .u8 c), (22, D.sl false 1 (List.map (eInt .u8) t22)), (23, D.int .i64 t23), (24, D.int .i64 t24), (36, D.bool t36)], st := [] }
  | .s3 at_ u shift i c t22 t23 t24 t36 => { td := [It.code (codeAt (bodyOf Tryd.f73) [1, 0, 1, 1, 1, 1, 0, 1, 0, 0, 1, 1, 0, 0, 1, 1, 0, 0, 1]), It.blk 2, It.code (codeAt (bodyOf Tryd.f73) [1, 0, 1, 1, 1, 1, 0, 1, 0, 0, 1, 1, 0, 0, 1, 1, 1]), It.blk 1, It.code (codeAt (bodyOf Tryd.f73) [1, 0, 1, 1, 1, 1, 0, 1, 0, 0, 1, 1, 1]), It.lp (codeAt (bodyOf Tryd.f73) [1, 0, 1, 1, 1, 1, 0, 1, 0, 0]) 29361026, It.blk 0, It.code (codeAt (bodyOf Tryd.f73) [1, 0, 1, 1, 1, 1, 1]), It.sc], fr := [(1, D.int .i64 at_), (7, D.int .i64 11), (8, D.int .u64 u), (9, D.int .i64 shift), (10, D.int .i64 i), (11, D.int .u8 c), (22, D.sl false 1 (List.map (eInt .u8) t22)), (23, D.int .i64 t23), (24, D.int .i64 t24), (36, D.bool t36)], st := [] }
noncomputable def wire_Int_0 (b : List Int) (at_ : Int) : Option (wire_Int_S ⊕ (Int × Int × Int)) := (bif (decide ((at_ : Int) < 0)) then (some (.inl (.s1 b at_ true))) else (some (.inl (.s1 b at_ (decide ((at_ : Int) > (((List.map (eInt .u8) b).length : Nat) : Int)))))))
noncomputable def wire_Int_1 (b : List Int) (at_ : Int) (t19 : Bool) : Option (wire_Int_S ⊕ (Int × Int × Int)) := (bif t19 then (some (.inr (0, 0, 1))) else (bif ((decide (((0 : Nat) : Int) ≤ at_)) && (decide ((at_ : Int) ≤ (((List.map (eInt .u8) b).length : Nat) : Int)))) then (some (.inl (.s2 at_ 0 0 (List.drop at_.toNat (List.take ((List.map (eInt .u8) b).length) b)) (((List.map (eInt .u8) (List.drop at_.toNat (List.take ((List.map (eInt .u8) b).length) b))).length : Nat) : Int) 0))) else none))
noncomputable def wire_Int_2 (at_ : Int) (u : Int) (shift : Int) (t22 : List Int) (t23 : Int) (t24 : Int) : Option (wire_Int_S ⊕ (Int × Int × Int)) := (bif (decide ((t24 : Int) < t23)) then (bif ((decide ((0 : Int) ≤ t24)) && (decide ((t24 : Int) < (((List.map (eInt .u8) t22).length : Nat) : Int)))) then (((t22)[t24.toNat]?).bind fun y3 => (bif (!decide ((shift : Int) < 0)) then (bif ((shift : Int) == 63) then (some (.inl (.s4 at_ (orI .u64 u (shlI .u64 (IntKind.u64.wrap ((andI .u8 y3 127))) shift)) shift t24 y3 t22 t23 t24 (decide ((y3 : Int) > 1))))) else (some (.inl (.s4 at_ (orI .u64 u (shlI .u64 (IntKind.u64.wrap ((andI .u8 y3 127))) shift)) shift t24 y3 t22 t23 t24 false)))) else none)) else none) else (some (.inr (0, 0, 11))))
noncomputable def wire_Int_4 (at_ : Int) (u : Int) (shift : Int) (i : Int) (c : Int) (t22 : List Int) (t23 : Int) (t24 : Int) (t36 : Bool) : Option (wire_Int_S ⊕ (Int × Int × Int)) := (bif t36 then (some (.inl (.s3 at_ u shift i c t22 t23 t24 t36))) else (bif ((c : Int) == 0) then (some (.inl (.s3 at_ u shift i c t22 t23 t24 (decide ((i : Int) > 0))))) else (some (.inl (.s3 at_ u shift i c t22 t23 t24 false)))))
noncomputable def wire_Int_3 (at_ : Int) (u : Int) (shift : Int) (i : Int) (c : Int) (t22 : List Int) (t23 : Int) (t24 : Int) (t36 : Bool) : Option (wire_Int_S ⊕ (Int × Int × Int)) := (bif t36 then (some (.inr (0, 0, 12))) else (bif (decide ((c : Int) < 128)) then (some (.inr ((xorI .i64 (IntKind.i64.wrap ((shrI .u64 u 1))) (IntKind.i64.wrap ((0 : Int) - (IntKind.i64.wrap ((andI .u64 u 1)))))), (IntKind.i64.wrap ((IntKind.i64.wrap (at_ + i)) + 1)), 0))) else (some (.inl (.s2 at_ u (IntKind.i64.wrap (shift + 7)) t22 t23 (IntKind.i64.wrap (t24 + 1)))))))
noncomputable def wire_Int_step : wire_Int_S → Option (wire_Int_S ⊕ (Int × Int × Int))
  | .s0 b at_ => wire_Int_0 b at_
  | .s1 b at_ t19 => wire_Int_1 b at_ t19
  | .s2 at_ u shift t22 t23 t24 => wire_Int_2 at_ u shift t22 t23 t24
  | .s4 at_ u shift i c t22 t23 t24 t36 => wire_Int_4 at_ u shift i c t22 t23 t24 t36
  | .s3 at_ u shift i c t22 t23 t24 t36 => wire_Int_3 at_ u shift i c t22 t23 t24 t36
theorem wire_Int_0_ok {b : List Int} {at_ : Int} {r : Int × Int × Int} {x : wire_Int_S ⊕ (Int × Int × Int)} (h : wire_Int_0 b at_ = some x) (ha : After E (Cx.of Tryd.f73 false 0) wire_Int_Q wire_Int_M r x) : FinQ E (Cx.of Tryd.f73 false 0) (QW (wire_Int_Q r)) (.go (wire_Int_M (.s0 b at_))) := by
  unfold wire_Int_0 at h
  refine adv_ok hm 14 _ ?_
  refine p_split h (by kernel_rfl) (fun h1 h => ?_) (fun h1 h => ?_)
  · -- true
    refine adv_ok hm 9 _ ?_
    obtain rfl := Option.some.inj h
    exact r_cut 524291 [] (m' := (wire_Int_M (.s1 b at_ true))) (by kernel_rfl) ha
  · -- false
    refine adv_ok hm 9 _ ?_
    obtain rfl := Option.some.inj h
    exact r_cut 524291 [] (m' := (wire_Int_M (.s1 b at_ (decide ((at_ : Int) > (((List.map (eInt .u8) b).length : Nat) : Int)))))) (by kernel_rfl) ha
theorem wire_Int_1_ok {b : List Int} {at_ : Int} {t19 : Bool} {r : Int × Int × Int} {x : wire_Int_S ⊕ (Int × Int × Int)} (h : wire_Int_1 b at_ t19 = some x) (ha : After E (Cx.of Tryd.f73 false 0) wire_Int_Q wire_Int_M r x) : FinQ E (Cx.of Tryd.f73 false 0) (QW (wire_Int_Q r)) (.go (wire_Int_M (.s1 b at_ t19))) := by
  unfold wire_Int_1 at h
  refine adv_ok hm 1 _ ?_
  refine p_split h (by kernel_rfl) (fun h1 h => ?_) (fun h1 h => ?_)
  · -- true
    refine adv_ok hm 7 _ ?_
    obtain rfl := Option.some.inj h
    have hv := ha
    simp only [After] at hv
    subst hv
    exact r_retF [] (d := D.tup [D.int .i64 0, D.int .i64 0, D.int .i64 1]) (s := []) (by kernel_rfl) Cx.fin_of ⟨rfl, rfl⟩
  · -- false
    refine adv_ok hm 18 _ ?_
    refine p_need h (by kernel_rfl) (fun h2 h => ?_)
    refine r_rows (List.drop at_.toNat (List.take ((List.map (eInt .u8) b).length) (List.map (eInt .u8) b))) (List.map (eInt .u8) (List.drop at_.toNat (List.take ((List.map (eInt .u8) b).length) b))) (by kernel_rfl) (rows_cut _ _ _ _) ?_
    refine adv_ok hm 6 _ ?_
    obtain rfl := Option.some.inj h
    exact r_to (q' := .go (wire_Int_M (.s2 at_ 0 0 (List.drop at_.toNat (List.take ((List.map (eInt .u8) b).length) b)) (((List.map (eInt .u8) (List.drop at_.toNat (List.take ((List.map (eInt .u8) b).length) b))).length : Nat) : Int) 0))) (by kernel_rfl) ha
theorem wire_Int_2_ok {at_ : Int} {u : Int} {shift : Int} {t22 : List Int} {t23 : Int} {t24 : Int} {r : Int × Int × Int} {x : wire_Int_S ⊕ (Int × Int × Int)} (h : wire_Int_2 at_ u shift t22 t23 t24 = some x) (ha : After E (Cx.of Tryd.f73 false 0) wire_Int_Q wire_Int_M r x) : FinQ E (Cx.of Tryd.f73 false 0) (QW (wire_Int_Q r)) (.go (wire_Int_M (.s2 at_ u shift t22 t23 t24))) := by
  unfold wire_Int_2 at h
  refine adv_ok hm 7 _ ?_
  refine p_split h (by kernel_rfl) (fun h1 h => ?_) (fun h1 h => ?_)
  · -- true
    refine adv_ok hm 7 _ ?_
    refine p_need h (by kernel_rfl) (fun h2 h => ?_)
    refine adv_ok hm 1 _ ?_
    refine p_row (((List.map (eInt .u8) t22))[t24.toNat]?) (eInt .u8) h (by kernel_rfl) List.getElem?_map (fun y3 h4 h => ?_)
    refine adv_ok hm 11 _ ?_
    refine p_need h (by kernel_rfl) (fun h5 h => ?_)
    refine adv_ok hm 12 _ ?_
    refine p_split h (by kernel_rfl) (fun h6 h => ?_) (fun h6 h => ?_)
    · -- true
      refine adv_ok hm 6 _ ?_
      obtain rfl := Option.some.inj h
      exact r_cut 68748840834 [] (m' := (wire_Int_M (.s4 at_ (orI .u64 u (shlI .u64 (IntKind.u64.wrap ((andI .u8 y3 127))) shift)) shift t24 y3 t22 t23 t24 (decide ((y3 : Int) > 1))))) (by kernel_rfl) ha
    · -- false
      refine adv_ok hm 6 _ ?_
      obtain rfl := Option.some.inj h
      exact r_cut 68748840834 [] (m' := (wire_Int_M (.s4 at_ (orI .u64 u (shlI .u64 (IntKind.u64.wrap ((andI .u8 y3 127))) shift)) shift t24 y3 t22 t23 t24 false))) (by kernel_rfl) ha
  · -- false
    refine adv_ok hm 9 _ ?_
    obtain rfl := Option.some.inj h
    have hv := ha
    simp only [After] at hv
    subst hv
    exact r_retF [] (d := D.tup [D.int .i64 0, D.int .i64 0, D.int .i64 11]) (s := []) (by kernel_rfl) Cx.fin_of ⟨rfl, rfl⟩
theorem wire_Int_4_ok {at_ : Int} {u : Int} {shift : Int} {i : Int} {c : Int} {t22 : List Int} {t23 : Int} {t24 : Int} {t36 : Bool} {r : Int × Int × Int} {x : wire_Int_S ⊕ (Int × Int × Int)} (h : wire_Int_4 at_ u shift i c t22 t23 t24 t36 = some x) (ha : After E (Cx.of Tryd.f73 false 0) wire_Int_Q wire_Int_M r x) : FinQ E (Cx.of Tryd.f73 false 0) (QW (wire_Int_Q r)) (.go (wire_Int_M (.s4 at_ u shift i c t22 t23 t24 t36))) := by
  unfold wire_Int_4 at h
  refine adv_ok hm 1 _ ?_
  refine p_split h (by kernel_rfl) (fun h1 h => ?_) (fun h1 h => ?_)
  · -- true
    refine adv_ok hm 1 _ ?_
    obtain rfl := Option.some.inj h
    exact r_cut 68748840834 [] (m' := (wire_Int_M (.s3 at_ u shift i c t22 t23 t24 t36))) (by kernel_rfl) ha
  · -- false
    refine adv_ok hm 5 _ ?_
    refine p_split h (by kernel_rfl) (fun h2 h => ?_) (fun h2 h => ?_)
    · -- true
      refine adv_ok hm 6 _ ?_
      obtain rfl := Option.some.inj h
      exact r_cut 68748840834 [] (m' := (wire_Int_M (.s3 at_ u shift i c t22 t23 t24 (decide ((i : Int) > 0))))) (by kernel_rfl) ha
    · -- false
      refine adv_ok hm 6 _ ?_
      obtain rfl := Option.some.inj h
      exact r_cut 68748840834 [] (m' := (wire_Int_M (.s3 at_ u shift i c t22 t23 t24 false))) (by kernel_rfl) ha
theorem wire_Int_3_ok {at_ : Int} {u : Int} {shift : Int} {i : Int} {c : Int} {t22 : List Int} {t23 : Int} {t24 : Int} {t36 : Bool} {r : Int × Int × Int} {x : wire_Int_S ⊕ (Int × Int × Int)} (h : wire_Int_3 at_ u shift i c t22 t23 t24 t36 = some x) (ha : After E (Cx.of Tryd.f73 false 0) wire_Int_Q wire_Int_M r x) : FinQ E (Cx.of Tryd.f73 false 0) (QW (wire_Int_Q r)) (.go (wire_Int_M (.s3 at_ u shift i c t22 t23 t24 t36))) := by
  unfold wire_Int_3 at h
  refine adv_ok hm 1 _ ?_
  refine p_split h (by kernel_rfl) (fun h1 h => ?_) (fun h1 h => ?_)
  · -- true
    refine adv_ok hm 13 _ ?_
    obtain rfl := Option.some.inj h
    have hv := ha
    simp only [After] at hv
    subst hv
    exact r_retF [] (d := D.tup [D.int .i64 0, D.int .i64 0, D.int .i64 12]) (s := []) (by kernel_rfl) Cx.fin_of ⟨rfl, rfl⟩
  · -- false
    refine adv_ok hm 7 _ ?_
    refine p_split h (by kernel_rfl) (fun h2 h => ?_) (fun h2 h => ?_)
    · -- true
      refine adv_ok hm 20 _ ?_
      obtain rfl := Option.some.inj h
      have hv := ha
      simp only [After] at hv
      subst hv
      exact r_retF [] (d := D.tup [D.int .i64 (xorI .i64 (IntKind.i64.wrap ((shrI .u64 u 1))) (IntKind.i64.wrap ((0 : Int) - (IntKind.i64.wrap ((andI .u64 u 1)))))), D.int .i64 (IntKind.i64.wrap ((IntKind.i64.wrap (at_ + i)) + 1)), D.int .i64 0]) (s := []) (by kernel_rfl) Cx.fin_of ⟨rfl, rfl⟩
    · -- false
      refine adv_ok hm 13 _ ?_
      obtain rfl := Option.some.inj h
      exact r_to (q' := .go (wire_Int_M (.s2 at_ u (IntKind.i64.wrap (shift + 7)) t22 t23 (IntKind.i64.wrap (t24 + 1))))) (by kernel_rfl) ha
theorem wire_Int_ev {b : List Int} {at_ : Int} {r : Int × Int × Int} (h : Ev wire_Int_step (.s0 b at_) r) : Sound E 73 [D.sl false 1 (List.map (eInt .u8) b), D.int .i64 at_] [] (wire_Int_Q r) :=
  sound_ofW (m := wire_Int_M (.s0 b at_)) (fn := Tryd.f73) (by kernel_rfl) (by kernel_rfl) (ev_run (C := (Cx.of Tryd.f73 false 0)) (fun s x r hs ha => by
    cases s with
    | s0 => exact wire_Int_0_ok hs ha
    | s1 => exact wire_Int_1_ok hs ha
    | s2 => exact wire_Int_2_ok hs ha
    | s4 => exact wire_Int_4_ok hs ha
    | s3 => exact wire_Int_3_ok hs ha) h)
noncomputable def wire_Int (b : List Int) (at_ : Int) : Option (Int × Int × Int) := evf wire_Int_step (.s0 b at_)
theorem wire_Int_ok {b : List Int} {at_ : Int} {r : Int × Int × Int} (h : wire_Int b at_ = some r) : Sound E 73 [D.sl false 1 (List.map (eInt .u8) b), D.int .i64 at_] [] (wire_Int_Q r) := wire_Int_ev (evf_ev h)
end Go.RX.L

set_option linter.unusedSimpArgs false
set_option linter.unusedVariables false
set_option maxRecDepth 100000
set_option maxHeartbeats 4000000
namespace Go.RX.L
open Go Go.RX Go.Proofs
attribute [local irreducible] FinQ
def wire_sized_Q (y : Int × Int × Int) (d : D) (s : Sto) : Prop := d = D.tup [D.int .i64 y.1, D.int .i64 y.2.1, D.int .i64 y.2.2] ∧ s = []
noncomputable def wire_sized_1M (n : Int) (next : Int) (t23 : Bool) : M := { td := [It.code (codeAt (bodyOf Tryd.f72) [1, 1, 0, 0, 1, 1, 1]), It.blk 0, It.code (codeAt (bodyOf Tryd.f72) [1, 1, 1])], fr := [(9, D.int .i64 n), (10, D.int .i64 next), (23, D.bool t23)], st := [] }
noncomputable def wire_sized_1 (n : Int) (next : Int) (t23 : Bool) : Option (Int × Int × Int) := (bif t23 then (some (0, 0, 2)) else (some (n, next, 0)))
theorem wire_sized_1_ok {n : Int} {next : Int} {t23 : Bool} {r : Int × Int × Int} (h : wire_sized_1 n next t23 = some r) : FinQ E (Cx.of Tryd.f72 false 0) (QW (wire_sized_Q r)) (.go (wire_sized_1M n next t23)) := by
  unfold wire_sized_1 at h
  refine adv_ok hm 1 _ ?_
  refine p_split h (by kernel_rfl) (fun h1 h => ?_) (fun h1 h => ?_)
  · -- true
    refine adv_ok hm 7 _ ?_
    obtain rfl := Option.some.inj h
    exact r_retF [] (d := D.tup [D.int .i64 0, D.int .i64 0, D.int .i64 2]) (s := []) (by kernel_rfl) Cx.fin_of ⟨rfl, rfl⟩
  · -- false
    refine adv_ok hm 11 _ ?_
    obtain rfl := Option.some.inj h
    exact r_retF [] (d := D.tup [D.int .i64 n, D.int .i64 next, D.int .i64 0]) (s := []) (by kernel_rfl) Cx.fin_of ⟨rfl, rfl⟩
noncomputable def wire_sized (b : List Int) (at_ : Int) (most : Int) : Option (Int × Int × Int) := ((wire_Int b at_).bind fun y1 => (bif ((y1.2.2 : Int) != 0) then (some (0, 0, y1.2.2)) else (bif (decide ((y1.1 : Int) < 0)) then (wire_sized_1 y1.1 y1.2.1 (decide ((y1.1 : Int) < 0))) else (wire_sized_1 y1.1 y1.2.1 (decide ((y1.1 : Int) > most))))))
theorem wire_sized_ok {b : List Int} {at_ : Int} {most : Int} {r : Int × Int × Int} (h : wire_sized b at_ most = some r) : Sound E 72 [D.sl false 1 (List.map (eInt .u8) b), D.int .i64 at_, D.int .i64 most] [] (wire_sized_Q r) := by
  refine sound_ofW (m := ⟨[.code (bodyOf Tryd.f72)], [(0, D.sl false 1 (List.map (eInt .u8) b)), (1, D.int .i64 at_), (2, D.int .i64 most)], []⟩) (fn := Tryd.f72) (by kernel_rfl) (by kernel_rfl) ?_
  show FinQ E (Cx.of Tryd.f72 false 0) (QW (wire_sized_Q r)) _
  unfold wire_sized at h
  refine adv_ok hm 11 _ ?_
  have ok1 := fun (y : Int × Int × Int) (hy : wire_Int b at_ = some y) => wire_Int_ok hy
  refine p_callR [] h (by kernel_rfl) ok1 (fun y1 h1 h => ?_)
  refine adv_ok hm 17 _ ?_
  refine p_split h (by kernel_rfl) (fun h2 h => ?_) (fun h2 h => ?_)
  · -- true
    refine adv_ok hm 8 _ ?_
    obtain rfl := Option.some.inj h
    exact r_retF [] (d := D.tup [D.int .i64 0, D.int .i64 0, D.int .i64 y1.2.2]) (s := []) (by kernel_rfl) Cx.fin_of ⟨rfl, rfl⟩
  · -- false
    refine adv_ok hm 8 _ ?_
    refine p_split h (by kernel_rfl) (fun h3 h => ?_) (fun h3 h => ?_)
    · -- true
      refine adv_ok hm 1 _ ?_
      exact r_cut 8390144 [] (m' := (wire_sized_1M y1.1 y1.2.1 (decide ((y1.1 : Int) < 0)))) (by kernel_rfl) (wire_sized_1_ok h)
    · -- false
      refine adv_ok hm 6 _ ?_
      exact r_cut 8390144 [] (m' := (wire_sized_1M y1.1 y1.2.1 (decide ((y1.1 : Int) > most)))) (by kernel_rfl) (wire_sized_1_ok h)
end Go.RX.L

set_option linter.unusedSimpArgs false
set_option linter.unusedVariables false
set_option maxRecDepth 100000
set_option maxHeartbeats 4000000
namespace Go.RX.L
open Go Go.RX Go.Proofs
attribute [local irreducible] FinQ
def wire_Ints_Q (y : (List Int) × Int × Int) (d : D) (s : Sto) : Prop := d = D.tup [D.sl false 1 (List.map (eInt .i64) y.1), D.int .i64 y.2.1, D.int .i64 y.2.2] ∧ s = []
inductive wire_Ints_S where
  | s0 (b : List Int) (at_ : Int)
  | s1 (b : List Int) (next : Int) (e : Int) (t19 : Int) (t20 : Int) (out : List Int)
  | s2 (next : Int) (e : Int) (out : List Int)
noncomputable def wire_Ints_M : wire_Ints_S → M
  | .s0 b at_ => ⟨[.code (bodyOf Tryd.f60)], [(0, D.sl false 1 (List.map (eInt .u8) b)), (1, D.int .i64 at_)], []⟩
  | .s1 b next e t19 t20 out => { td := [It.lpc (codeAt (bodyOf Tryd.f60) [1, 1, 1, 0, 1, 0, 0]) 1574657, It.blk 0, It.code (codeAt (bodyOf Tryd.f60) [1, 1, 1, 1])], fr := [(0, D.sl false 1 (List.map (eInt .u8) b)), (8, D.int .i64 next), (9, D.int .i64 e), (10, D.msl 0 0 ((List.map (eInt .i64) out).length) ((List.map (eInt .i64) out).length) false), (19, D.int .i64 t19), (20, D.int .i64 t20)], st := [some { sz := 1, deep := false, rows := (List.map (eInt .i64) out) }] }
  | .s2 next e out => { td := [It.code (codeAt (bodyOf Tryd.f60) [1, 1, 1, 1])], fr := [(8, D.int .i64 next), (9, D.int .i64 e), (10, D.msl 0 0 ((List.map (eInt .i64) out).length) ((List.map (eInt .i64) out).length) false)], st := [some { sz := 1, deep := false, rows := (List.map (eInt .i64) out) }] }
noncomputable def wire_Ints_0 (b : List Int) (at_ : Int) : Option (wire_Ints_S ⊕ ((List Int) × Int × Int)) := ((wire_sized b at_ 64).bind fun y1 => (some (.inl (.s1 b y1.2.1 y1.2.2 y1.1 0 ([])))))
noncomputable def wire_Ints_1 (b : List Int) (next : Int) (e : Int) (t19 : Int) (t20 : Int) (out : List Int) : Option (wire_Ints_S ⊕ ((List Int) × Int × Int)) := (bif (decide ((t20 : Int) < t19)) then ((wire_Int b next).bind fun y2 => (bif ((y2.2.2 : Int) != 0) then (some (.inl (.s2 y2.2.1 y2.2.2 out))) else (bif (decide (((List.map (eInt .i64) out).length + 1) * 8 ≤ bytesLim)) then (some (.inl (.s1 b y2.2.1 y2.2.2 t19 (IntKind.i64.wrap (t20 + 1)) (out ++ [y2.1])))) else none))) else (some (.inl (.s2 next e out))))
noncomputable def wire_Ints_2 (next : Int) (e : Int) (out : List Int) : Option (wire_Ints_S ⊕ ((List Int) × Int × Int)) := (bif ((e : Int) != 0) then (some (.inr ([], 0, e))) else (some (.inr (out, next, 0))))
noncomputable def wire_Ints_step : wire_Ints_S → Option (wire_Ints_S ⊕ ((List Int) × Int × Int))
  | .s0 b at_ => wire_Ints_0 b at_
  | .s1 b next e t19 t20 out => wire_Ints_1 b next e t19 t20 out
  | .s2 next e out => wire_Ints_2 next e out
theorem wire_Ints_0_ok {b : List Int} {at_ : Int} {r : (List Int) × Int × Int} {x : wire_Ints_S ⊕ ((List Int) × Int × Int)} (h : wire_Ints_0 b at_ = some x) (ha : After E (Cx.of Tryd.f60 false 0) wire_Ints_Q wire_Ints_M r x) : FinQ E (Cx.of Tryd.f60 false 0) (QW (wire_Ints_Q r)) (.go (wire_Ints_M (.s0 b at_))) := by
  unfold wire_Ints_0 at h
  refine adv_ok hm 11 _ ?_
  have ok1 := fun (y : Int × Int × Int) (hy : wire_sized b at_ 64 = some y) => wire_sized_ok hy
  refine p_callR [] h (by kernel_rfl) ok1 (fun y1 h1 h => ?_)
  refine adv_ok hm 21 _ ?_
  obtain rfl := Option.some.inj h
  refine r_cut 1574657 [.mat 10 1] (m' := { td := [It.lpc (codeAt (bodyOf Tryd.f60) [1, 1, 1, 0, 1, 0, 0]) 1574657, It.blk 0, It.code (codeAt (bodyOf Tryd.f60) [1, 1, 1, 1])], fr := [(0, D.sl false 1 (List.map (eInt .u8) b)), (8, D.int .i64 y1.2.1), (9, D.int .i64 y1.2.2), (10, D.msl 0 0 0 0 false), (19, D.int .i64 y1.1), (20, D.int .i64 0)], st := [some { sz := 1, deep := false, rows := [] }] }) (by kernel_rfl) ?_
  refine r_len (n1 := 0) (n2 := (List.map (eInt .i64) ([])).length) (fun n_len => .go { td := [It.lpc (codeAt (bodyOf Tryd.f60) [1, 1, 1, 0, 1, 0, 0]) 1574657, It.blk 0, It.code (codeAt (bodyOf Tryd.f60) [1, 1, 1, 1])], fr := [(0, D.sl false 1 (List.map (eInt .u8) b)), (8, D.int .i64 y1.2.1), (9, D.int .i64 y1.2.2), (10, D.msl 0 0 n_len n_len false), (19, D.int .i64 y1.1), (20, D.int .i64 0)], st := [some { sz := 1, deep := false, rows := [] }] }) (by simp) ?_
  exact ha
theorem wire_Ints_1_ok {b : List Int} {next : Int} {e : Int} {t19 : Int} {t20 : Int} {out : List Int} {r : (List Int) × Int × Int} {x : wire_Ints_S ⊕ ((List Int) × Int × Int)} (h : wire_Ints_1 b next e t19 t20 out = some x) (ha : After E (Cx.of Tryd.f60 false 0) wire_Ints_Q wire_Ints_M r x) : FinQ E (Cx.of Tryd.f60 false 0) (QW (wire_Ints_Q r)) (.go (wire_Ints_M (.s1 b next e t19 t20 out))) := by
  unfold wire_Ints_1 at h
  refine adv_ok hm 7 _ ?_
  refine p_split h (by kernel_rfl) (fun h1 h => ?_) (fun h1 h => ?_)
  · -- true
    refine adv_ok hm 13 _ ?_
    have ok2 := fun (y : Int × Int × Int) (hy : wire_Int b next = some y) => wire_Int_ok hy
    refine p_callR [] h (by kernel_rfl) ok2 (fun y2 h2 h => ?_)
    refine adv_ok hm 14 _ ?_
    refine p_split h (by kernel_rfl) (fun h3 h => ?_) (fun h3 h => ?_)
    · -- true
      refine adv_ok hm 1 _ ?_
      obtain rfl := Option.some.inj h
      exact r_cut 1792 [] (m' := (wire_Ints_M (.s2 y2.2.1 y2.2.2 out))) (by kernel_rfl) ha
    · -- false
      refine adv_ok hm 7 _ ?_
      refine p_need h (by kernel_rfl) (fun h4 h => ?_)
      refine r_needT (b := (Nat.ble (0 + (List.map (eInt .i64) out).length) ((List.map (eInt .i64) out).length))) (by kernel_rfl) (ble_full _) ?_
      refine r_rows (List.take ((List.map (eInt .i64) out).length) (List.drop 0 (List.map (eInt .i64) out)) ++ (List.map (eInt .i64) ([y2.1]))) (List.map (eInt .i64) (out ++ [y2.1])) (by kernel_rfl) (rows_app _ _ _) ?_
      refine adv_ok hm 8 _ ?_
      obtain rfl := Option.some.inj h
      exact r_to (q' := .go (wire_Ints_M (.s1 b y2.2.1 y2.2.2 t19 (IntKind.i64.wrap (t20 + 1)) (out ++ [y2.1])))) (by kernel_rfl) ha
  · -- false
    refine adv_ok hm 1 _ ?_
    obtain rfl := Option.some.inj h
    exact r_cut 1792 [] (m' := (wire_Ints_M (.s2 next e out))) (by kernel_rfl) ha
theorem wire_Ints_2_ok {next : Int} {e : Int} {out : List Int} {r : (List Int) × Int × Int} {x : wire_Ints_S ⊕ ((List Int) × Int × Int)} (h : wire_Ints_2 next e out = some x) (ha : After E (Cx.of Tryd.f60 false 0) wire_Ints_Q wire_Ints_M r x) : FinQ E (Cx.of Tryd.f60 false 0) (QW (wire_Ints_Q r)) (.go (wire_Ints_M (.s2 next e out))) := by
  unfold wire_Ints_2 at h
  refine adv_ok hm 7 _ ?_
  refine p_split h (by kernel_rfl) (fun h1 h => ?_) (fun h1 h => ?_)
  · -- true
    refine adv_ok hm 8 _ ?_
    obtain rfl := Option.some.inj h
    have hv := ha
    simp only [After] at hv
    subst hv
    exact r_retF [.slot 0 [some 1]] (d := D.tup [D.sl false 1 [], D.int .i64 0, D.int .i64 e]) (s := []) (by kernel_rfl) Cx.fin_of ⟨rfl, rfl⟩
  · -- false
    refine adv_ok hm 10 _ ?_
    refine r_needT (b := (Nat.ble (0 + (List.map (eInt .i64) out).length) ((List.map (eInt .i64) out).length))) (by kernel_rfl) (ble_full _) ?_
    obtain rfl := Option.some.inj h
    have hv := ha
    simp only [After] at hv
    subst hv
    exact r_retE [] (d1 := D.tup [D.sl false 1 (List.take ((List.map (eInt .i64) out).length) (List.drop 0 (List.map (eInt .i64) out))), D.int .i64 next, D.int .i64 0]) (d := D.tup [D.sl false 1 (List.map (eInt .i64) out), D.int .i64 next, D.int .i64 0]) (s1 := []) (s := []) (by kernel_rfl) ⟨by simp [List.take_of_length_le, List.map_take, List.map_drop], rfl⟩ ⟨rfl, rfl⟩ Cx.fin_of
theorem wire_Ints_ev {b : List Int} {at_ : Int} {r : (List Int) × Int × Int} (h : Ev wire_Ints_step (.s0 b at_) r) : Sound E 60 [D.sl false 1 (List.map (eInt .u8) b), D.int .i64 at_] [] (wire_Ints_Q r) :=
  sound_ofW (m := wire_Ints_M (.s0 b at_)) (fn := Tryd.f60) (by kernel_rfl) (by kernel_rfl) (ev_run (C := (Cx.of Tryd.f60 false 0)) (fun s x r hs ha => by
    cases s with
    | s0 => exact wire_Ints_0_ok hs ha
    | s1 => exact wire_Ints_1_ok hs ha
    | s2 => exact wire_Ints_2_ok hs ha) h)
noncomputable def wire_Ints (b : List Int) (at_ : Int) : Option ((List Int) × Int × Int) := evf wire_Ints_step (.s0 b at_)
theorem wire_Ints_ok {b : List Int} {at_ : Int} {r : (List Int) × Int × Int} (h : wire_Ints b at_ = some r) : Sound E 60 [D.sl false 1 (List.map (eInt .u8) b), D.int .i64 at_] [] (wire_Ints_Q r) := wire_Ints_ev (evf_ev h)
end Go.RX.L

set_option linter.unusedSimpArgs false
set_option linter.unusedVariables false
set_option maxRecDepth 100000
set_option maxHeartbeats 4000000
namespace Go.RX.L
open Go Go.RX Go.Proofs
attribute [local irreducible] FinQ
def ref01_PutInt_Q (y : List Int) (d : D) (s : Sto) : Prop := d = D.msl 0 0 ((List.map (eInt .u8) y).length) ((List.map (eInt .u8) y).length) false ∧ s = [some { sz := 1, deep := false, rows := (List.map (eInt .u8) y) }]
inductive ref01_PutInt_S where
  | s0 (n : Int)
  | s2 (u : Int)
  | s1 (u : Int) (out : List Int)
noncomputable def ref01_PutInt_M : ref01_PutInt_S → M
  | .s0 n => ⟨[.code (bodyOf Tryd.f52)], [(0, D.int .i64 n)], []⟩
  | .s2 u => { td := [It.code (codeAt (bodyOf Tryd.f52) [1, 1, 1])], fr := [(3, D.int .u64 u)], st := [] }
  | .s1 u out => { td := [It.lpc (codeAt (bodyOf Tryd.f52) [1, 1, 1, 1, 0, 0, 0]) 24, It.blk 0, It.code (codeAt (bodyOf Tryd.f52) [1, 1, 1, 1, 1])], fr := [(3, D.int .u64 u), (4, D.msl 0 0 ((List.map (eInt .u8) out).length) ((List.map (eInt .u8) out).length) false)], st := [some { sz := 1, deep := false, rows := (List.map (eInt .u8) out) }] }
noncomputable def ref01_PutInt_0 (n : Int) : Option (ref01_PutInt_S ⊕ (List Int)) := (bif (decide ((n : Int) < 0)) then (some (.inl (.s2 (xorI .u64 18446744073709551615 (shlI .u64 (IntKind.u64.wrap (n)) 1))))) else (some (.inl (.s2 (shlI .u64 (IntKind.u64.wrap (n)) 1)))))
noncomputable def ref01_PutInt_2 (u : Int) : Option (ref01_PutInt_S ⊕ (List Int)) := (some (.inl (.s1 u ([]))))
noncomputable def ref01_PutInt_1 (u : Int) (out : List Int) : Option (ref01_PutInt_S ⊕ (List Int)) := (bif (decide ((u : Int) ≥ 128)) then (bif (decide (((List.map (eInt .u8) out).length + 1) * 1 ≤ bytesLim)) then (some (.inl (.s1 (shrI .u64 u 7) (out ++ [(orI .u8 (IntKind.u8.wrap ((andI .u64 u 127))) 128)])))) else none) else (bif (decide (((List.map (eInt .u8) out).length + 1) * 1 ≤ bytesLim)) then (some (.inr (out ++ [(IntKind.u8.wrap (u))]))) else none))
noncomputable def ref01_PutInt_step : ref01_PutInt_S → Option (ref01_PutInt_S ⊕ (List Int))
  | .s0 n => ref01_PutInt_0 n
  | .s2 u => ref01_PutInt_2 u
  | .s1 u out => ref01_PutInt_1 u out
theorem ref01_PutInt_0_ok {n : Int} {r : List Int} {x : ref01_PutInt_S ⊕ (List Int)} (h : ref01_PutInt_0 n = some x) (ha : After E (Cx.of Tryd.f52 true 0) ref01_PutInt_Q ref01_PutInt_M r x) : FinQ E (Cx.of Tryd.f52 true 0) (QW (ref01_PutInt_Q r)) (.go (ref01_PutInt_M (.s0 n))) := by
  unfold ref01_PutInt_0 at h
  refine adv_ok hm 19 _ ?_
  refine p_split h (by kernel_rfl) (fun h1 h => ?_) (fun h1 h => ?_)
  · -- true
    refine adv_ok hm 5 _ ?_
    obtain rfl := Option.some.inj h
    exact r_cut 8 [] (m' := (ref01_PutInt_M (.s2 (xorI .u64 18446744073709551615 (shlI .u64 (IntKind.u64.wrap (n)) 1))))) (by kernel_rfl) ha
  · -- false
    refine adv_ok hm 1 _ ?_
    obtain rfl := Option.some.inj h
    exact r_cut 8 [] (m' := (ref01_PutInt_M (.s2 (shlI .u64 (IntKind.u64.wrap (n)) 1)))) (by kernel_rfl) ha
theorem ref01_PutInt_2_ok {u : Int} {r : List Int} {x : ref01_PutInt_S ⊕ (List Int)} (h : ref01_PutInt_2 u = some x) (ha : After E (Cx.of Tryd.f52 true 0) ref01_PutInt_Q ref01_PutInt_M r x) : FinQ E (Cx.of Tryd.f52 true 0) (QW (ref01_PutInt_Q r)) (.go (ref01_PutInt_M (.s2 u))) := by
  unfold ref01_PutInt_2 at h
  refine adv_ok hm 8 _ ?_
  obtain rfl := Option.some.inj h
  refine r_cut 24 [.mat 4 1] (m' := { td := [It.lpc (codeAt (bodyOf Tryd.f52) [1, 1, 1, 1, 0, 0, 0]) 24, It.blk 0, It.code (codeAt (bodyOf Tryd.f52) [1, 1, 1, 1, 1])], fr := [(3, D.int .u64 u), (4, D.msl 0 0 0 0 false)], st := [some { sz := 1, deep := false, rows := [] }] }) (by kernel_rfl) ?_
  refine r_len (n1 := 0) (n2 := (List.map (eInt .u8) ([])).length) (fun n_len => .go { td := [It.lpc (codeAt (bodyOf Tryd.f52) [1, 1, 1, 1, 0, 0, 0]) 24, It.blk 0, It.code (codeAt (bodyOf Tryd.f52) [1, 1, 1, 1, 1])], fr := [(3, D.int .u64 u), (4, D.msl 0 0 n_len n_len false)], st := [some { sz := 1, deep := false, rows := [] }] }) (by simp) ?_
  exact ha
theorem ref01_PutInt_1_ok {u : Int} {out : List Int} {r : List Int} {x : ref01_PutInt_S ⊕ (List Int)} (h : ref01_PutInt_1 u out = some x) (ha : After E (Cx.of Tryd.f52 true 0) ref01_PutInt_Q ref01_PutInt_M r x) : FinQ E (Cx.of Tryd.f52 true 0) (QW (ref01_PutInt_Q r)) (.go (ref01_PutInt_M (.s1 u out))) := by
  unfold ref01_PutInt_1 at h
  refine adv_ok hm 8 _ ?_
  refine p_split h (by kernel_rfl) (fun h1 h => ?_) (fun h1 h => ?_)
  · -- true
    refine adv_ok hm 12 _ ?_
    refine p_need h (by kernel_rfl) (fun h2 h => ?_)
    refine r_needT (b := (Nat.ble (0 + (List.map (eInt .u8) out).length) ((List.map (eInt .u8) out).length))) (by kernel_rfl) (ble_full _) ?_
    refine r_rows (List.take ((List.map (eInt .u8) out).length) (List.drop 0 (List.map (eInt .u8) out)) ++ (List.map (eInt .u8) ([(orI .u8 (IntKind.u8.wrap ((andI .u64 u 127))) 128)]))) (List.map (eInt .u8) (out ++ [(orI .u8 (IntKind.u8.wrap ((andI .u64 u 127))) 128)])) (by kernel_rfl) (rows_app _ _ _) ?_
    refine adv_ok hm 10 _ ?_
    obtain rfl := Option.some.inj h
    exact r_to (q' := .go (ref01_PutInt_M (.s1 (shrI .u64 u 7) (out ++ [(orI .u8 (IntKind.u8.wrap ((andI .u64 u 127))) 128)])))) (by kernel_rfl) ha
  · -- false
    refine adv_ok hm 9 _ ?_
    refine p_need h (by kernel_rfl) (fun h3 h => ?_)
    refine r_needT (b := (Nat.ble (0 + (List.map (eInt .u8) out).length) ((List.map (eInt .u8) out).length))) (by kernel_rfl) (ble_full _) ?_
    refine r_rows (List.take ((List.map (eInt .u8) out).length) (List.drop 0 (List.map (eInt .u8) out)) ++ (List.map (eInt .u8) ([(IntKind.u8.wrap (u))]))) (List.map (eInt .u8) (out ++ [(IntKind.u8.wrap (u))])) (by kernel_rfl) (rows_app _ _ _) ?_
    refine adv_ok hm 3 _ ?_
    obtain rfl := Option.some.inj h
    have hv := ha
    simp only [After] at hv
    subst hv
    exact r_retF [] (d := D.msl 0 0 ((List.map (eInt .u8) (out ++ [(IntKind.u8.wrap (u))])).length) ((List.map (eInt .u8) (out ++ [(IntKind.u8.wrap (u))])).length) false) (s := [some { sz := 1, deep := false, rows := (List.map (eInt .u8) (out ++ [(IntKind.u8.wrap (u))])) }]) (by kernel_rfl) Cx.fin_of ⟨rfl, rfl⟩
theorem ref01_PutInt_ev {n : Int} {r : List Int} (h : Ev ref01_PutInt_step (.s0 n) r) : Sound E 52 [D.int .i64 n] [] (ref01_PutInt_Q r) :=
  sound_ofW (m := ref01_PutInt_M (.s0 n)) (fn := Tryd.f52) (by kernel_rfl) (by kernel_rfl) (ev_run (C := (Cx.of Tryd.f52 true 0)) (fun s x r hs ha => by
    cases s with
    | s0 => exact ref01_PutInt_0_ok hs ha
    | s2 => exact ref01_PutInt_2_ok hs ha
    | s1 => exact ref01_PutInt_1_ok hs ha) h)
noncomputable def ref01_PutInt (n : Int) : Option (List Int) := evf ref01_PutInt_step (.s0 n)
theorem ref01_PutInt_ok {n : Int} {r : List Int} (h : ref01_PutInt n = some r) : Sound E 52 [D.int .i64 n] [] (ref01_PutInt_Q r) := ref01_PutInt_ev (evf_ev h)
end Go.RX.L

set_option linter.unusedSimpArgs false
set_option linter.unusedVariables false
set_option maxRecDepth 100000
set_option maxHeartbeats 4000000
namespace Go.RX.L
open Go Go.RX Go.Proofs
attribute [local irreducible] FinQ
def ref01_PutInts_Q (y : Int × (List Int)) (d : D) (s : Sto) : Prop := d = D.tup [D.msl 0 0 ((List.map (eInt .u8) y.2).length) ((List.map (eInt .u8) y.2).length) false, D.int .i64 y.1] ∧ s = [some { sz := 1, deep := false, rows := (List.map (eInt .u8) y.2) }]
inductive ref01_PutInts_S where
  | s0 (l_ : List Int)
  | s1 (l_ : List Int) (i : Int) (out : List Int)
noncomputable def ref01_PutInts_M : ref01_PutInts_S → M
  | .s0 l_ => ⟨[.code (bodyOf Tryd.f27)], [(0, D.sl false 1 (List.map (eInt .i64) l_))], []⟩
  | .s1 l_ i out => { td := [It.lpc (codeAt (bodyOf Tryd.f27) [1, 1, 1, 0, 1, 0, 0]) 49, It.blk 0, It.code (codeAt (bodyOf Tryd.f27) [1, 1, 1, 1])], fr := [(0, D.sl false 1 (List.map (eInt .i64) l_)), (4, D.msl 0 0 ((List.map (eInt .u8) out).length) ((List.map (eInt .u8) out).length) false), (5, D.int .i64 i)], st := [some { sz := 1, deep := false, rows := (List.map (eInt .u8) out) }] }
noncomputable def ref01_PutInts_0 (l_ : List Int) : Option (ref01_PutInts_S ⊕ (Int × (List Int))) := (bif (decide (((((List.map (eInt .i64) l_).length : Nat) : Int) : Int) > 64)) then (some (.inr (2, []))) else ((ref01_PutInt (((List.map (eInt .i64) l_).length : Nat) : Int)).bind fun y2 => (some (.inl (.s1 l_ 0 y2)))))
noncomputable def ref01_PutInts_1 (l_ : List Int) (i : Int) (out : List Int) : Option (ref01_PutInts_S ⊕ (Int × (List Int))) := (bif (decide ((i : Int) < (((List.map (eInt .i64) l_).length : Nat) : Int))) then (bif ((decide ((0 : Int) ≤ i)) && (decide ((i : Int) < (((List.map (eInt .i64) l_).length : Nat) : Int)))) then (((l_)[i.toNat]?).bind fun y3 => ((ref01_PutInt y3).bind fun y5 => (bif (decide (((List.map (eInt .u8) out).length + (List.take ((List.map (eInt .u8) y5).length) (List.drop 0 (List.map (eInt .u8) y5))).length) * 1 ≤ bytesLim)) then (some (.inl (.s1 l_ (IntKind.i64.wrap (i + 1)) (out ++ y5)))) else none))) else none) else (some (.inr (0, out))))
noncomputable def ref01_PutInts_step : ref01_PutInts_S → Option (ref01_PutInts_S ⊕ (Int × (List Int)))
  | .s0 l_ => ref01_PutInts_0 l_
  | .s1 l_ i out => ref01_PutInts_1 l_ i out
theorem ref01_PutInts_0_ok {l_ : List Int} {r : Int × (List Int)} {x : ref01_PutInts_S ⊕ (Int × (List Int))} (h : ref01_PutInts_0 l_ = some x) (ha : After E (Cx.of Tryd.f27 true 0) ref01_PutInts_Q ref01_PutInts_M r x) : FinQ E (Cx.of Tryd.f27 true 0) (QW (ref01_PutInts_Q r)) (.go (ref01_PutInts_M (.s0 l_))) := by
  unfold ref01_PutInts_0 at h
  refine adv_ok hm 13 _ ?_
  refine p_split h (by kernel_rfl) (fun h1 h => ?_) (fun h1 h => ?_)
  · -- true
    refine adv_ok hm 6 _ ?_
    obtain rfl := Option.some.inj h
    have hv := ha
    simp only [After] at hv
    subst hv
    exact r_retF [.matt 0 0 1] (d := D.tup [D.msl 0 0 0 0 false, D.int .i64 2]) (s := [some { sz := 1, deep := false, rows := [] }]) (by kernel_rfl) Cx.fin_of ⟨rfl, rfl⟩
  · -- false
    refine adv_ok hm 6 _ ?_
    have ok2 := fun (y : List Int) (hy : ref01_PutInt (((List.map (eInt .i64) l_).length : Nat) : Int) = some y) => ref01_PutInt_ok hy
    refine p_callR [] h (by kernel_rfl) ok2 (fun y2 h2 h => ?_)
    refine adv_ok hm 10 _ ?_
    obtain rfl := Option.some.inj h
    exact r_to (q' := .go (ref01_PutInts_M (.s1 l_ 0 y2))) (by kernel_rfl) ha
theorem ref01_PutInts_1_ok {l_ : List Int} {i : Int} {out : List Int} {r : Int × (List Int)} {x : ref01_PutInts_S ⊕ (Int × (List Int))} (h : ref01_PutInts_1 l_ i out = some x) (ha : After E (Cx.of Tryd.f27 true 0) ref01_PutInts_Q ref01_PutInts_M r x) : FinQ E (Cx.of Tryd.f27 true 0) (QW (ref01_PutInts_Q r)) (.go (ref01_PutInts_M (.s1 l_ i out))) := by
  unfold ref01_PutInts_1 at h
  refine adv_ok hm 10 _ ?_
  refine p_split h (by kernel_rfl) (fun h1 h => ?_) (fun h1 h => ?_)
  · -- true
    refine adv_ok hm 8 _ ?_
    refine p_need h (by kernel_rfl) (fun h2 h => ?_)
    refine adv_ok hm 1 _ ?_
    refine p_row (((List.map (eInt .i64) l_))[i.toNat]?) (eInt .i64) h (by kernel_rfl) List.getElem?_map (fun y3 h4 h => ?_)
    refine adv_ok hm 1 _ ?_
    have ok5 := fun (y : List Int) (hy : ref01_PutInt y3 = some y) => ref01_PutInt_ok hy
    refine p_callR [] h (by kernel_rfl) ok5 (fun y5 h5 h => ?_)
    refine adv_ok hm 1 _ ?_
    refine r_needT (b := (Nat.beq ((List.take ((List.map (eInt .u8) y5).length) (List.drop 0 (List.map (eInt .u8) y5))).length) ((List.map (eInt .u8) y5).length))) (by kernel_rfl) (by simp) ?_
    refine p_need h (by kernel_rfl) (fun h6 h => ?_)
    refine r_needT (b := (Nat.ble (0 + (List.map (eInt .u8) out).length) ((List.map (eInt .u8) out).length))) (by kernel_rfl) (ble_full _) ?_
    refine r_rows (List.take ((List.map (eInt .u8) out).length) (List.drop 0 (List.map (eInt .u8) out)) ++ (List.take ((List.map (eInt .u8) y5).length) (List.drop 0 (List.map (eInt .u8) y5)))) (List.map (eInt .u8) (out ++ y5)) (by kernel_rfl) (by simp only [take_full, take_full', List.map_append]) ?_
    refine adv_ok hm 9 _ ?_
    obtain rfl := Option.some.inj h
    exact r_to (q' := .go (ref01_PutInts_M (.s1 l_ (IntKind.i64.wrap (i + 1)) (out ++ y5)))) (by kernel_rfl) ha
  · -- false
    refine adv_ok hm 8 _ ?_
    obtain rfl := Option.some.inj h
    have hv := ha
    simp only [After] at hv
    subst hv
    exact r_retF [] (d := D.tup [D.msl 0 0 ((List.map (eInt .u8) out).length) ((List.map (eInt .u8) out).length) false, D.int .i64 0]) (s := [some { sz := 1, deep := false, rows := (List.map (eInt .u8) out) }]) (by kernel_rfl) Cx.fin_of ⟨rfl, rfl⟩
theorem ref01_PutInts_ev {l_ : List Int} {r : Int × (List Int)} (h : Ev ref01_PutInts_step (.s0 l_) r) : Sound E 27 [D.sl false 1 (List.map (eInt .i64) l_)] [] (ref01_PutInts_Q r) :=
  sound_ofW (m := ref01_PutInts_M (.s0 l_)) (fn := Tryd.f27) (by kernel_rfl) (by kernel_rfl) (ev_run (C := (Cx.of Tryd.f27 true 0)) (fun s x r hs ha => by
    cases s with
    | s0 => exact ref01_PutInts_0_ok hs ha
    | s1 => exact ref01_PutInts_1_ok hs ha) h)
noncomputable def ref01_PutInts (l_ : List Int) : Option (Int × (List Int)) := evf ref01_PutInts_step (.s0 l_)
theorem ref01_PutInts_ok {l_ : List Int} {r : Int × (List Int)} (h : ref01_PutInts l_ = some r) : Sound E 27 [D.sl false 1 (List.map (eInt .i64) l_)] [] (ref01_PutInts_Q r) := ref01_PutInts_ev (evf_ev h)
end Go.RX.L

set_option linter.unusedSimpArgs false
set_option linter.unusedVariables false
set_option maxRecDepth 100000
set_option maxHeartbeats 4000000
namespace Go.RX.L
open Go Go.RX Go.Proofs
attribute [local irreducible] FinQ
def ref01_Int_Q (y : Int × Int × Int) (d : D) (s : Sto) : Prop := d = D.tup [D.int .i64 y.1, D.int .i64 y.2.1, D.int .i64 y.2.2] ∧ s = []
inductive ref01_Int_S where
  | s0 (b : List Int) (at_ : Int)
  | s1 (b : List Int) (at_ : Int) (t19 : Bool)
  | s2 (at_ : Int) (l_ : List Int) (u : Int) (i : Int)
  | s5 (at_ : Int) (l_ : List Int) (u : Int) (i : Int) (c : Int) (t40 : Bool)
  | s4 (at_ : Int) (u : Int) (i : Int) (t56 : Bool)
  | s3 (at_ : Int) (i : Int) (n : Int)
noncomputable def ref01_Int_M : ref01_Int_S → M
  | .s0 b at_ => ⟨[.code (bodyOf Tryd.f62)], [(0, D.sl false 1 (List.map (eInt .u8) b)), (1, D.int .i64 at_)], []⟩
  | .s1 b at_ t19 => { td := [It.code (codeAt (bodyOf Tryd.f62) [1, 0, 1]), It.code (codeAt (bodyOf Tryd.f62) [1, 1])], fr := [(0, D.sl false 1 (List.map (eInt .u8) b)), (1, D.int .i64 at_), (19, D.bool t19)], st := [] }
  | .s2 at_ l_ u i => { td := [It.lpc (codeAt (bodyOf Tryd.f62) [1, 1, 1, 1, 0, 1, 0, 0]) 898, It.blk 0, It.code (codeAt (bodyOf Tryd.f62) [1, 1, 1, 1, 1])], fr := [(1, D.int .i64 at_), (7, D.sl false 1 (List.map (eInt .u8) l_)), (8, D.int .u64 u), (9, D.int .i64 i)], st := [] }
  | .s5 at_ l_ u i c t40 => { td := [It.code (codeAt (bodyOf Tryd.f62) [1, 1, 1, 1, 0, 1, 0, 0, 1, 0, 0, 1, 1, 0, 1]), It.code (codeAt (bodyOf Tryd.f62) [1, 1, 1, 1, 0, 1, 0, 0, 1, 0, 0, 1, 1, 1]), It.blk 1, It.code (codeAt (bodyOf Tryd.f62) [1, 1, 1, 1, 0, 1, 0, 0, 1, 1]), It.lp (codeAt (bodyOf Tryd.f62) [1, 1, 1, 1, 0, 1, 0, 0]) 898, It.blk 0, It.code (codeAt (bodyOf Tryd.f62) [1, 1, 1, 1, 1])], fr := [(1, D.int .i64 at_), (7, D.sl false 1 (List.map (eInt .u8) l_)), (8, D.int .u64 u), (9, D.int .i64 i), (10, D.int .u8 c), (40, D.bool t40)], st := [] }
  | .s4 at_ u i t56 => { td := [It.code (codeAt (bodyOf Tryd.f62) [1, 1, 1, 1, 0, 1, 0, 0, 1, 0, 0, 1, 1, 1, 1, 1, 0, 1]), It.code (codeAt (bodyOf Tryd.f62) [1, 1, 1, 1, 0, 1, 0, 0, 1, 0, 0, 1, 1, 1, 1, 1, 1]), It.blk 1, It.code (codeAt (bodyOf Tryd.f62) [1, 1, 1, 1, 0, 1, 0, 0, 1, 1]), It.lp (codeAt (bodyOf Tryd.f62) [1, 1, 1, 1, 0, 1, 0, 0]) 898, It.blk 0, It.code (codeAt (bodyOf Tryd.f62) [1, 1, 1, 1, 1])], fr := [(1, D.int .i64 at_), (8, D.int .u64 u), (9, D.int .i64 i), (56, D.bool t56)], st := [] }
  | .s3 at_ i n => { td := [It.code (codeAt (bodyOf Tryd.f62) [1, 1, 1, 1, 0, 1, 0, 0, 1, 0, 0, 1, 1, 1, 1, 1, 1, 1, 1]), It.blk 1, It.code (codeAt (bodyOf Tryd.f62) [1, 1, 1, 1, 0, 1, 0, 0, 1, 1]), It.lp (codeAt (bodyOf Tryd.f62) [1, 1, 1, 1, 0, 1, 0, 0]) 898, It.blk 0, It.code (codeAt (bodyOf Tryd.f62) [1, 1, 1, 1, 1])], fr := [(1, D.int .i64 at_), (9, D.int .i64 i), (11, D.int .i64 n)], st := [] }
noncomputable def ref01_Int_0 (b : List Int) (at_ : Int) : Option (ref01_Int_S ⊕ (Int × Int × Int)) := (bif (decide ((at_ : Int) < 0)) then (some (.inl (.s1 b at_ true))) else (some (.inl (.s1 b at_ (decide ((at_ : Int) > (((List.map (eInt .u8) b).length : Nat) : Int)))))))
noncomputable def ref01_Int_1 (b : List Int) (at_ : Int) (t19 : Bool) : Option (ref01_Int_S ⊕ (Int × Int × Int)) := (bif t19 then (some (.inr (0, 0, 1))) else (bif ((decide (((0 : Nat) : Int) ≤ at_)) && (decide ((at_ : Int) ≤ (((List.map (eInt .u8) b).length : Nat) : Int)))) then (some (.inl (.s2 at_ (List.drop at_.toNat (List.take ((List.map (eInt .u8) b).length) b)) 0 0))) else none))
noncomputable def ref01_Int_2 (at_ : Int) (l_ : List Int) (u : Int) (i : Int) : Option (ref01_Int_S ⊕ (Int × Int × Int)) := (bif (decide ((i : Int) < 10)) then (bif (decide ((i : Int) ≥ (((List.map (eInt .u8) l_).length : Nat) : Int))) then (some (.inr (0, 0, 11))) else (bif ((decide ((0 : Int) ≤ i)) && (decide ((i : Int) < (((List.map (eInt .u8) l_).length : Nat) : Int)))) then (((l_)[i.toNat]?).bind fun y4 => (bif ((i : Int) == 9) then (some (.inl (.s5 at_ l_ u i y4 (decide ((y4 : Int) > 1))))) else (some (.inl (.s5 at_ l_ u i y4 false))))) else none)) else (some (.inr (0, 0, 12))))
noncomputable def ref01_Int_5 (at_ : Int) (l_ : List Int) (u : Int) (i : Int) (c : Int) (t40 : Bool) : Option (ref01_Int_S ⊕ (Int × Int × Int)) := (bif t40 then (some (.inr (0, 0, 12))) else (bif (!decide (((IntKind.i64.wrap ((7 : Int) * i)) : Int) < 0)) then (bif (decide ((c : Int) ≥ 128)) then (some (.inl (.s2 at_ l_ (orI .u64 u (shlI .u64 (IntKind.u64.wrap ((andI .u8 c 127))) (IntKind.i64.wrap ((7 : Int) * i)))) (IntKind.i64.wrap (i + 1))))) else (bif ((c : Int) == 0) then (some (.inl (.s4 at_ (orI .u64 u (shlI .u64 (IntKind.u64.wrap ((andI .u8 c 127))) (IntKind.i64.wrap ((7 : Int) * i)))) i (decide ((i : Int) > 0))))) else (some (.inl (.s4 at_ (orI .u64 u (shlI .u64 (IntKind.u64.wrap ((andI .u8 c 127))) (IntKind.i64.wrap ((7 : Int) * i)))) i false))))) else none))
noncomputable def ref01_Int_4 (at_ : Int) (u : Int) (i : Int) (t56 : Bool) : Option (ref01_Int_S ⊕ (Int × Int × Int)) := (bif t56 then (some (.inr (0, 0, 12))) else (bif (((andI .u64 u 1) : Int) == 1) then (some (.inl (.s3 at_ i (xorI .i64 (-1) (IntKind.i64.wrap ((shrI .u64 u 1))))))) else (some (.inl (.s3 at_ i (IntKind.i64.wrap ((shrI .u64 u 1))))))))
noncomputable def ref01_Int_3 (at_ : Int) (i : Int) (n : Int) : Option (ref01_Int_S ⊕ (Int × Int × Int)) := (some (.inr (n, (IntKind.i64.wrap ((IntKind.i64.wrap (at_ + i)) + 1)), 0)))
noncomputable def ref01_Int_step : ref01_Int_S → Option (ref01_Int_S ⊕ (Int × Int × Int))
  | .s0 b at_ => ref01_Int_0 b at_
  | .s1 b at_ t19 => ref01_Int_1 b at_ t19
  | .s2 at_ l_ u i => ref01_Int_2 at_ l_ u i
  | .s5 at_ l_ u i c t40 => ref01_Int_5 at_ l_ u i c t40
  | .s4 at_ u i t56 => ref01_Int_4 at_ u i t56
  | .s3 at_ i n => ref01_Int_3 at_ i n
theorem ref01_Int_0_ok {b : List Int} {at_ : Int} {r : Int × Int × Int} {x : ref01_Int_S ⊕ (Int × Int × Int)} (h : ref01_Int_0 b at_ = some x) (ha : After E (Cx.of Tryd.f62 false 0) ref01_Int_Q ref01_Int_M r x) : FinQ E (Cx.of Tryd.f62 false 0) (QW (ref01_Int_Q r)) (.go (ref01_Int_M (.s0 b at_))) := by
  unfold ref01_Int_0 at h
  refine adv_ok hm 13 _ ?_
  refine p_split h (by kernel_rfl) (fun h1 h => ?_) (fun h1 h => ?_)
  · -- true
    refine adv_ok hm 9 _ ?_
    obtain rfl := Option.some.inj h
    exact r_cut 524291 [] (m' := (ref01_Int_M (.s1 b at_ true))) (by kernel_rfl) ha
  · -- false
    refine adv_ok hm 9 _ ?_
    obtain rfl := Option.some.inj h
    exact r_cut 524291 [] (m' := (ref01_Int_M (.s1 b at_ (decide ((at_ : Int) > (((List.map (eInt .u8) b).length : Nat) : Int)))))) (by kernel_rfl) ha
theorem ref01_Int_1_ok {b : List Int} {at_ : Int} {t19 : Bool} {r : Int × Int × Int} {x : ref01_Int_S ⊕ (Int × Int × Int)} (h : ref01_Int_1 b at_ t19 = some x) (ha : After E (Cx.of Tryd.f62 false 0) ref01_Int_Q ref01_Int_M r x) : FinQ E (Cx.of Tryd.f62 false 0) (QW (ref01_Int_Q r)) (.go (ref01_Int_M (.s1 b at_ t19))) := by
  unfold ref01_Int_1 at h
  refine adv_ok hm 1 _ ?_
  refine p_split h (by kernel_rfl) (fun h1 h => ?_) (fun h1 h => ?_)
  · -- true
    refine adv_ok hm 7 _ ?_
    obtain rfl := Option.some.inj h
    have hv := ha
    simp only [After] at hv
    subst hv
    exact r_retF [] (d := D.tup [D.int .i64 0, D.int .i64 0, D.int .i64 1]) (s := []) (by kernel_rfl) Cx.fin_of ⟨rfl, rfl⟩
  · -- false
    refine adv_ok hm 6 _ ?_
    refine p_need h (by kernel_rfl) (fun h2 h => ?_)
    refine r_rows (List.drop at_.toNat (List.take ((List.map (eInt .u8) b).length) (List.map (eInt .u8) b))) (List.map (eInt .u8) (List.drop at_.toNat (List.take ((List.map (eInt .u8) b).length) b))) (by kernel_rfl) (rows_cut _ _ _ _) ?_
    refine adv_ok hm 14 _ ?_
    obtain rfl := Option.some.inj h
    exact r_to (q' := .go (ref01_Int_M (.s2 at_ (List.drop at_.toNat (List.take ((List.map (eInt .u8) b).length) b)) 0 0))) (by kernel_rfl) ha
theorem ref01_Int_2_ok {at_ : Int} {l_ : List Int} {u : Int} {i : Int} {r : Int × Int × Int} {x : ref01_Int_S ⊕ (Int × Int × Int)} (h : ref01_Int_2 at_ l_ u i = some x) (ha : After E (Cx.of Tryd.f62 false 0) ref01_Int_Q ref01_Int_M r x) : FinQ E (Cx.of Tryd.f62 false 0) (QW (ref01_Int_Q r)) (.go (ref01_Int_M (.s2 at_ l_ u i))) := by
  unfold ref01_Int_2 at h
  refine adv_ok hm 8 _ ?_
  refine p_split h (by kernel_rfl) (fun h1 h => ?_) (fun h1 h => ?_)
  · -- true
    refine adv_ok hm 12 _ ?_
    refine p_split h (by kernel_rfl) (fun h2 h => ?_) (fun h2 h => ?_)
    · -- true
      refine adv_ok hm 7 _ ?_
      obtain rfl := Option.some.inj h
      have hv := ha
      simp only [After] at hv
      subst hv
      exact r_retF [] (d := D.tup [D.int .i64 0, D.int .i64 0, D.int .i64 11]) (s := []) (by kernel_rfl) Cx.fin_of ⟨rfl, rfl⟩
    · -- false
      refine adv_ok hm 6 _ ?_
      refine p_need h (by kernel_rfl) (fun h3 h => ?_)
      refine adv_ok hm 1 _ ?_
      refine p_row (((List.map (eInt .u8) l_))[i.toNat]?) (eInt .u8) h (by kernel_rfl) List.getElem?_map (fun y4 h5 h => ?_)
      refine adv_ok hm 9 _ ?_
      refine p_split h (by kernel_rfl) (fun h6 h => ?_) (fun h6 h => ?_)
      · -- true
        refine adv_ok hm 5 _ ?_
        obtain rfl := Option.some.inj h
        exact r_cut 1099511629698 [] (m' := (ref01_Int_M (.s5 at_ l_ u i y4 (decide ((y4 : Int) > 1))))) (by kernel_rfl) ha
      · -- false
        refine adv_ok hm 5 _ ?_
        obtain rfl := Option.some.inj h
        exact r_cut 1099511629698 [] (m' := (ref01_Int_M (.s5 at_ l_ u i y4 false))) (by kernel_rfl) ha
  · -- false
    refine adv_ok hm 8 _ ?_
    obtain rfl := Option.some.inj h
    have hv := ha
    simp only [After] at hv
    subst hv
    exact r_retF [] (d := D.tup [D.int .i64 0, D.int .i64 0, D.int .i64 12]) (s := []) (by kernel_rfl) Cx.fin_of ⟨rfl, rfl⟩
theorem ref01_Int_5_ok {at_ : Int} {l_ : List Int} {u : Int} {i : Int} {c : Int} {t40 : Bool} {r : Int × Int × Int} {x : ref01_Int_S ⊕ (Int × Int × Int)} (h : ref01_Int_5 at_ l_ u i c t40 = some x) (ha : After E (Cx.of Tryd.f62 false 0) ref01_Int_Q ref01_Int_M r x) : FinQ E (Cx.of Tryd.f62 false 0) (QW (ref01_Int_Q r)) (.go (ref01_Int_M (.s5 at_ l_ u i c t40))) := by
  unfold ref01_Int_5 at h
  refine adv_ok hm 1 _ ?_
  refine p_split h (by kernel_rfl) (fun h1 h => ?_) (fun h1 h => ?_)
  · -- true
    refine adv_ok hm 7 _ ?_
    obtain rfl := Option.some.inj h
    have hv := ha
    simp only [After] at hv
    subst hv
    exact r_retF [] (d := D.tup [D.int .i64 0, D.int .i64 0, D.int .i64 12]) (s := []) (by kernel_rfl) Cx.fin_of ⟨rfl, rfl⟩
  · -- false
    refine adv_ok hm 10 _ ?_
    refine p_need h (by kernel_rfl) (fun h2 h => ?_)
    refine adv_ok hm 10 _ ?_
    refine p_split h (by kernel_rfl) (fun h3 h => ?_) (fun h3 h => ?_)
    · -- true
      refine adv_ok hm 7 _ ?_
      obtain rfl := Option.some.inj h
      exact r_to (q' := .go (ref01_Int_M (.s2 at_ l_ (orI .u64 u (shlI .u64 (IntKind.u64.wrap ((andI .u8 c 127))) (IntKind.i64.wrap ((7 : Int) * i)))) (IntKind.i64.wrap (i + 1))))) (by kernel_rfl) ha
    · -- false
      refine adv_ok hm 8 _ ?_
      refine p_split h (by kernel_rfl) (fun h4 h => ?_) (fun h4 h => ?_)
      · -- true
        refine adv_ok hm 5 _ ?_
        obtain rfl := Option.some.inj h
        exact r_cut 72057594037928706 [] (m' := (ref01_Int_M (.s4 at_ (orI .u64 u (shlI .u64 (IntKind.u64.wrap ((andI .u8 c 127))) (IntKind.i64.wrap ((7 : Int) * i)))) i (decide ((i : Int) > 0))))) (by kernel_rfl) ha
      · -- false
        refine adv_ok hm 5 _ ?_
        obtain rfl := Option.some.inj h
        exact r_cut 72057594037928706 [] (m' := (ref01_Int_M (.s4 at_ (orI .u64 u (shlI .u64 (IntKind.u64.wrap ((andI .u8 c 127))) (IntKind.i64.wrap ((7 : Int) * i)))) i false))) (by kernel_rfl) ha
theorem ref01_Int_4_ok {at_ : Int} {u : Int} {i : Int} {t56 : Bool} {r : Int × Int × Int} {x : ref01_Int_S ⊕ (Int × Int × Int)} (h : ref01_Int_4 at_ u i t56 = some x) (ha : After E (Cx.of Tryd.f62 false 0) ref01_Int_Q ref01_Int_M r x) : FinQ E (Cx.of Tryd.f62 false 0) (QW (ref01_Int_Q r)) (.go (ref01_Int_M (.s4 at_ u i t56))) := by
  unfold ref01_Int_4 at h
  refine adv_ok hm 1 _ ?_
  refine p_split h (by kernel_rfl) (fun h1 h => ?_) (fun h1 h => ?_)
  · -- true
    refine adv_ok hm 7 _ ?_
    obtain rfl := Option.some.inj h
    have hv := ha
    simp only [After] at hv
    subst hv
    exact r_retF [] (d := D.tup [D.int .i64 0, D.int .i64 0, D.int .i64 12]) (s := []) (by kernel_rfl) Cx.fin_of ⟨rfl, rfl⟩
  · -- false
    refine adv_ok hm 17 _ ?_
    refine p_split h (by kernel_rfl) (fun h2 h => ?_) (fun h2 h => ?_)
    · -- true
      refine adv_ok hm 5 _ ?_
      obtain rfl := Option.some.inj h
      exact r_cut 2562 [] (m' := (ref01_Int_M (.s3 at_ i (xorI .i64 (-1) (IntKind.i64.wrap ((shrI .u64 u 1))))))) (by kernel_rfl) ha
    · -- false
      refine adv_ok hm 1 _ ?_
      obtain rfl := Option.some.inj h
      exact r_cut 2562 [] (m' := (ref01_Int_M (.s3 at_ i (IntKind.i64.wrap ((shrI .u64 u 1)))))) (by kernel_rfl) ha
theorem ref01_Int_3_ok {at_ : Int} {i : Int} {n : Int} {r : Int × Int × Int} {x : ref01_Int_S ⊕ (Int × Int × Int)} (h : ref01_Int_3 at_ i n = some x) (ha : After E (Cx.of Tryd.f62 false 0) ref01_Int_Q ref01_Int_M r x) : FinQ E (Cx.of Tryd.f62 false 0) (QW (ref01_Int_Q r)) (.go (ref01_Int_M (.s3 at_ i n))) := by
  unfold ref01_Int_3 at h
  refine adv_ok hm 12 _ ?_
  obtain rfl := Option.some.inj h
  have hv := ha
  simp only [After] at hv
  subst hv
  exact r_retF [] (d := D.tup [D.int .i64 n, D.int .i64 (IntKind.i64.wrap ((IntKind.i64.wrap (at_ + i)) + 1)), D.int .i64 0]) (s := []) (by kernel_rfl) Cx.fin_of ⟨rfl, rfl⟩
theorem ref01_Int_ev {b : List Int} {at_ : Int} {r : Int × Int × Int} (h : Ev ref01_Int_step (.s0 b at_) r) : Sound E 62 [D.sl false 1 (List.map (eInt .u8) b), D.int .i64 at_] [] (ref01_Int_Q r) :=
  sound_ofW (m := ref01_Int_M (.s0 b at_)) (fn := Tryd.f62) (by kernel_rfl) (by kernel_rfl) (ev_run (C := (Cx.of Tryd.f62 false 0)) (fun s x r hs ha => by
    cases s with
    | s0 => exact ref01_Int_0_ok hs ha
    | s1 => exact ref01_Int_1_ok hs ha
    | s2 => exact ref01_Int_2_ok hs ha
    | s5 => exact ref01_Int_5_ok hs ha
    | s4 => exact ref01_Int_4_ok hs ha
    | s3 => exact ref01_Int_3_ok hs ha) h)
noncomputable def ref01_Int (b : List Int) (at_ : Int) : Option (Int × Int × Int) := evf ref01_Int_step (.s0 b at_)
theorem ref01_Int_ok {b : List Int} {at_ : Int} {r : Int × Int × Int} (h : ref01_Int b at_ = some r) : Sound E 62 [D.sl false 1 (List.map (eInt .u8) b), D.int .i64 at_] [] (ref01_Int_Q r) := ref01_Int_ev (evf_ev h)
end Go.RX.L

set_option linter.unusedSimpArgs false
set_option linter.unusedVariables false
set_option maxRecDepth 100000
set_option maxHeartbeats 4000000
namespace Go.RX.L
open Go Go.RX Go.Proofs
attribute [local irreducible] FinQ
def ref01_Ints_Q (y : (List Int) × Int × Int) (d : D) (s : Sto) : Prop := d = D.tup [D.sl false 1 (List.map (eInt .i64) y.1), D.int .i64 y.2.1, D.int .i64 y.2.2] ∧ s = []
inductive ref01_Ints_S where
  | s0 (b : List Int) (at_ : Int)
  | s1 (b : List Int) (n : Int) (next : Int) (t30 : Bool)
  | s2 (b : List Int) (n : Int) (next : Int) (i : Int) (out : List Int)
noncomputable def ref01_Ints_M : ref01_Ints_S → M
  | .s0 b at_ => ⟨[.code (bodyOf Tryd.f39)], [(0, D.sl false 1 (List.map (eInt .u8) b)), (1, D.int .i64 at_)], []⟩
  | .s1 b n next t30 => { td := [It.code (codeAt (bodyOf Tryd.f39) [1, 1, 1, 0, 1]), It.code (codeAt (bodyOf Tryd.f39) [1, 1, 1, 1])], fr := [(0, D.sl false 1 (List.map (eInt .u8) b)), (7, D.int .i64 n), (8, D.int .i64 next), (30, D.bool t30)], st := [] }
  | .s2 b n next i out => { td := [It.lpc (codeAt (bodyOf Tryd.f39) [1, 1, 1, 1, 1, 0, 1, 0, 0]) 3457, It.blk 0, It.code (codeAt (bodyOf Tryd.f39) [1, 1, 1, 1, 1, 1])], fr := [(0, D.sl false 1 (List.map (eInt .u8) b)), (7, D.int .i64 n), (8, D.int .i64 next), (10, D.msl 0 0 ((List.map (eInt .i64) out).length) ((List.map (eInt .i64) out).length) false), (11, D.int .i64 i)], st := [some { sz := 1, deep := false, rows := (List.map (eInt .i64) out) }] }
noncomputable def ref01_Ints_0 (b : List Int) (at_ : Int) : Option (ref01_Ints_S ⊕ ((List Int) × Int × Int)) := ((ref01_Int b at_).bind fun y1 => (bif ((y1.2.2 : Int) != 0) then (some (.inr ([], 0, y1.2.2))) else (bif (decide ((y1.1 : Int) < 0)) then (some (.inl (.s1 b y1.1 y1.2.1 true))) else (some (.inl (.s1 b y1.1 y1.2.1 (decide ((y1.1 : Int) > 64))))))))
noncomputable def ref01_Ints_1 (b : List Int) (n : Int) (next : Int) (t30 : Bool) : Option (ref01_Ints_S ⊕ ((List Int) × Int × Int)) := (bif t30 then (some (.inr ([], 0, 2))) else (some (.inl (.s2 b n next 0 ([])))))
noncomputable def ref01_Ints_2 (b : List Int) (n : Int) (next : Int) (i : Int) (out : List Int) : Option (ref01_Ints_S ⊕ ((List Int) × Int × Int)) := (bif (decide ((i : Int) < n)) then ((ref01_Int b next).bind fun y2 => (bif ((y2.2.2 : Int) != 0) then (some (.inr ([], 0, y2.2.2))) else (bif (decide (((List.map (eInt .i64) out).length + 1) * 8 ≤ bytesLim)) then (some (.inl (.s2 b n y2.2.1 (IntKind.i64.wrap (i + 1)) (out ++ [y2.1])))) else none))) else (some (.inr (out, next, 0))))
noncomputable def ref01_Ints_step : ref01_Ints_S → Option (ref01_Ints_S ⊕ ((List Int) × Int × Int))
  | .s0 b at_ => ref01_Ints_0 b at_
  | .s1 b n next t30 => ref01_Ints_1 b n next t30
  | .s2 b n next i out => ref01_Ints_2 b n next i out
theorem ref01_Ints_0_ok {b : List Int} {at_ : Int} {r : (List Int) × Int × Int} {x : ref01_Ints_S ⊕ ((List Int) × Int × Int)} (h : ref01_Ints_0 b at_ = some x) (ha : After E (Cx.of Tryd.f39 false 0) ref01_Ints_Q ref01_Ints_M r x) : FinQ E (Cx.of Tryd.f39 false 0) (QW (ref01_Ints_Q r)) (.go (ref01_Ints_M (.s0 b at_))) := by
  unfold ref01_Ints_0 at h
  refine adv_ok hm 11 _ ?_
  have ok1 := fun (y : Int × Int × Int) (hy : ref01_Int b at_ = some y) => ref01_Int_ok hy
  refine p_callR [] h (by kernel_rfl) ok1 (fun y1 h1 h => ?_)
  refine adv_ok hm 15 _ ?_
  refine p_split h (by kernel_rfl) (fun h2 h => ?_) (fun h2 h => ?_)
  · -- true
    refine adv_ok hm 8 _ ?_
    obtain rfl := Option.some.inj h
    have hv := ha
    simp only [After] at hv
    subst hv
    exact r_retF [.slot 0 [some 1]] (d := D.tup [D.sl false 1 [], D.int .i64 0, D.int .i64 y1.2.2]) (s := []) (by kernel_rfl) Cx.fin_of ⟨rfl, rfl⟩
  · -- false
    refine adv_ok hm 8 _ ?_
    refine p_split h (by kernel_rfl) (fun h3 h => ?_) (fun h3 h => ?_)
    · -- true
      refine adv_ok hm 5 _ ?_
      obtain rfl := Option.some.inj h
      exact r_cut 1073742209 [] (m' := (ref01_Ints_M (.s1 b y1.1 y1.2.1 true))) (by kernel_rfl) ha
    · -- false
      refine adv_ok hm 5 _ ?_
      obtain rfl := Option.some.inj h
      exact r_cut 1073742209 [] (m' := (ref01_Ints_M (.s1 b y1.1 y1.2.1 (decide ((y1.1 : Int) > 64))))) (by kernel_rfl) ha
theorem ref01_Ints_1_ok {b : List Int} {n : Int} {next : Int} {t30 : Bool} {r : (List Int) × Int × Int} {x : ref01_Ints_S ⊕ ((List Int) × Int × Int)} (h : ref01_Ints_1 b n next t30 = some x) (ha : After E (Cx.of Tryd.f39 false 0) ref01_Ints_Q ref01_Ints_M r x) : FinQ E (Cx.of Tryd.f39 false 0) (QW (ref01_Ints_Q r)) (.go (ref01_Ints_M (.s1 b n next t30))) := by
  unfold ref01_Ints_1 at h
  refine adv_ok hm 1 _ ?_
  refine p_split h (by kernel_rfl) (fun h1 h => ?_) (fun h1 h => ?_)
  · -- true
    refine adv_ok hm 7 _ ?_
    obtain rfl := Option.some.inj h
    have hv := ha
    simp only [After] at hv
    subst hv
    exact r_retF [.slot 0 [some 1]] (d := D.tup [D.sl false 1 [], D.int .i64 0, D.int .i64 2]) (s := []) (by kernel_rfl) Cx.fin_of ⟨rfl, rfl⟩
  · -- false
    refine adv_ok hm 13 _ ?_
    obtain rfl := Option.some.inj h
    refine r_cut 3457 [.mat 10 1] (m' := { td := [It.lpc (codeAt (bodyOf Tryd.f39) [1, 1, 1, 1, 1, 0, 1, 0, 0]) 3457, It.blk 0, It.code (codeAt (bodyOf Tryd.f39) [1, 1, 1, 1, 1, 1])], fr := [(0, D.sl false 1 (List.map (eInt .u8) b)), (7, D.int .i64 n), (8, D.int .i64 next), (10, D.msl 0 0 0 0 false), (11, D.int .i64 0)], st := [some { sz := 1, deep := false, rows := [] }] }) (by kernel_rfl) ?_
    refine r_len (n1 := 0) (n2 := (List.map (eInt .i64) ([])).length) (fun n_len => .go { td := [It.lpc (codeAt (bodyOf Tryd.f39) [1, 1, 1, 1, 1, 0, 1, 0, 0]) 3457, It.blk 0, It.code (codeAt (bodyOf Tryd.f39) [1, 1, 1, 1, 1, 1])], fr := [(0, D.sl false 1 (List.map (eInt .u8) b)), (7, D.int .i64 n), (8, D.int .i64 next), (10, D.msl 0 0 n_len n_len false), (11, D.int .i64 0)], st := [some { sz := 1, deep := false, rows := [] }] }) (by simp) ?_
    exact ha
theorem ref01_Ints_2_ok {b : List Int} {n : Int} {next : Int} {i : Int} {out : List Int} {r : (List Int) × Int × Int} {x : ref01_Ints_S ⊕ ((List Int) × Int × Int)} (h : ref01_Ints_2 b n next i out = some x) (ha : After E (Cx.of Tryd.f39 false 0) ref01_Ints_Q ref01_Ints_M r x) : FinQ E (Cx.of Tryd.f39 false 0) (QW (ref01_Ints_Q r)) (.go (ref01_Ints_M (.s2 b n next i out))) := by
  unfold ref01_Ints_2 at h
  refine adv_ok hm 9 _ ?_
  refine p_split h (by kernel_rfl) (fun h1 h => ?_) (fun h1 h => ?_)
  · -- true
    refine adv_ok hm 8 _ ?_
    have ok2 := fun (y : Int × Int × Int) (hy : ref01_Int b next = some y) => ref01_Int_ok hy
    refine p_callR [] h (by kernel_rfl) ok2 (fun y2 h2 h => ?_)
    refine adv_ok hm 15 _ ?_
    refine p_split h (by kernel_rfl) (fun h3 h => ?_) (fun h3 h => ?_)
    · -- true
      refine adv_ok hm 8 _ ?_
      obtain rfl := Option.some.inj h
      have hv := ha
      simp only [After] at hv
      subst hv
      exact r_retF [.slot 0 [some 1]] (d := D.tup [D.sl false 1 [], D.int .i64 0, D.int .i64 y2.2.2]) (s := []) (by kernel_rfl) Cx.fin_of ⟨rfl, rfl⟩
    · -- false
      refine adv_ok hm 8 _ ?_
      refine p_need h (by kernel_rfl) (fun h4 h => ?_)
      refine r_needT (b := (Nat.ble (0 + (List.map (eInt .i64) out).length) ((List.map (eInt .i64) out).length))) (by kernel_rfl) (ble_full _) ?_
      refine r_rows (List.take ((List.map (eInt .i64) out).length) (List.drop 0 (List.map (eInt .i64) out)) ++ (List.map (eInt .i64) ([y2.1]))) (List.map (eInt .i64) (out ++ [y2.1])) (by kernel_rfl) (rows_app _ _ _) ?_
      refine adv_ok hm 13 _ ?_
      obtain rfl := Option.some.inj h
      exact r_to (q' := .go (ref01_Ints_M (.s2 b n y2.2.1 (IntKind.i64.wrap (i + 1)) (out ++ [y2.1])))) (by kernel_rfl) ha
  · -- false
    refine adv_ok hm 10 _ ?_
    refine r_needT (b := (Nat.ble (0 + (List.map (eInt .i64) out).length) ((List.map (eInt .i64) out).length))) (by kernel_rfl) (ble_full _) ?_
    obtain rfl := Option.some.inj h
    have hv := ha
    simp only [After] at hv
    subst hv
    exact r_retE [] (d1 := D.tup [D.sl false 1 (List.take ((List.map (eInt .i64) out).length) (List.drop 0 (List.map (eInt .i64) out))), D.int .i64 next, D.int .i64 0]) (d := D.tup [D.sl false 1 (List.map (eInt .i64) out), D.int .i64 next, D.int .i64 0]) (s1 := []) (s := []) (by kernel_rfl) ⟨by simp [List.take_of_length_le, List.map_take, List.map_drop], rfl⟩ ⟨rfl, rfl⟩ Cx.fin_of
theorem ref01_Ints_ev {b : List Int} {at_ : Int} {r : (List Int) × Int × Int} (h : Ev ref01_Ints_step (.s0 b at_) r) : Sound E 39 [D.sl false 1 (List.map (eInt .u8) b), D.int .i64 at_] [] (ref01_Ints_Q r) :=
  sound_ofW (m := ref01_Ints_M (.s0 b at_)) (fn := Tryd.f39) (by kernel_rfl) (by kernel_rfl) (ev_run (C := (Cx.of Tryd.f39 false 0)) (fun s x r hs ha => by
    cases s with
    | s0 => exact ref01_Ints_0_ok hs ha
    | s1 => exact ref01_Ints_1_ok hs ha
    | s2 => exact ref01_Ints_2_ok hs ha) h)
noncomputable def ref01_Ints (b : List Int) (at_ : Int) : Option ((List Int) × Int × Int) := evf ref01_Ints_step (.s0 b at_)
theorem ref01_Ints_ok {b : List Int} {at_ : Int} {r : (List Int) × Int × Int} (h : ref01_Ints b at_ = some r) : Sound E 39 [D.sl false 1 (List.map (eInt .u8) b), D.int .i64 at_] [] (ref01_Ints_Q r) := ref01_Ints_ev (evf_ev h)
end Go.RX.L

set_option linter.unusedSimpArgs false
set_option linter.unusedVariables false
namespace Go.RX.L
open Go Go.RX

abbrev memB : Nat := 140737488351232

/-! ### the program's writer -/
theorem digits_ev : ∀ (u : Nat), u < 18446744073709551616 → EvL wire_digits_1_step (.s1 u) (venc u) := by
  intro u
  induction u using Nat.strongRecOn with
  | ind u ih =>
    intro hu
    by_cases h : u < 128
    · rw [venc_lt h]
      refine .done ?_
      have h1 : decide ((u : Int) > 127) = false := by simp; omega
      simp [wire_digits_1_step, wire_digits_1_1, h1, wrapU8 (show u < 256 by omega)]
    · rw [venc_ge (by omega)]
      have h1 : decide ((u : Int) > 127) = true := by simp; omega
      refine EvL.next (l := [((u % 128 + 128 : Nat) : Int)]) (s' := .s1 ((u / 128 : Nat) : Int)) ?_ (ih (u / 128) (by omega) (by omega))
      simp only [wire_digits_1_step, wire_digits_1_1, h1, cond_true, shr7, wrapU8_mod, or128 (show u % 256 < 256 by omega)]
      simp

theorem digits_ok {n : Int} (h : inK .i64 n) : wire_digits_1 n = some (encI n) := by
  refine evl_of ?_
  have := digits_ev (zz n) (zz_lt h)
  rw [← zz_xor h] at this
  exact EvL.next (l := []) rfl this

theorem put_loop {t : Int} : ∀ (Y b : List Int), b.length + Y.length ≤ memB → Ev wire_put_step (.s2 t b Y) (b ++ Y)
  | [], b, _ => .done (by simp [wire_put_step, wire_put_2, wire_put_2n])
  | y :: Y, b, h => by
    simp only [List.length_cons, memB] at h
    have hl : decide (((List.map (eInt .u8) b).length + 1) * 1 ≤ bytesLim) = true := limOk (by simp; omega)
    have ih := put_loop (t := t) Y (b ++ [y]) (by simp only [List.length_append, List.length_cons, List.length_nil, memB]; omega)
    rw [List.append_assoc] at ih
    exact .next (s' := .s2 t (b ++ [y]) Y) (by simp only [wire_put_step, wire_put_2, wire_put_2c, hl, cond_true]) ih

theorem put0_ok {n : Int} (h : inK .i64 n) : wire_put n = some (encI n) := by
  have hl := encI_len h
  refine evf_of (.next (s' := .s1 n []) (by simp [wire_put_step, wire_put_0, wire_digits]) (.next (s' := .s2 n [] (encI n)) (by simp [wire_put_step, wire_put_1, digits_ok h]) ?_))
  exact put_loop (encI n) [] (by simp [memB]; omega)
theorem putInt_ok {n : Int} (h : inK .i64 n) : wire_PutInt n = some (encI n) := by simp [wire_PutInt, put0_ok h]

theorem put2_loop {t : Int} : ∀ (Y b : List Int), b.length + Y.length ≤ memB → Ev wire_put_v2_step (.s2 t b Y) (b ++ Y)
  | [], b, _ => .done (by simp [wire_put_v2_step, wire_put_v2_2, wire_put_v2_2n])
  | y :: Y, b, h => by
    simp only [List.length_cons, memB] at h
    have hl : decide (((List.map (eInt .u8) b).length + 1) * 1 ≤ bytesLim) = true := limOk (by simp; omega)
    have ih := put2_loop (t := t) Y (b ++ [y]) (by simp only [List.length_append, List.length_cons, List.length_nil, memB]; omega)
    rw [List.append_assoc] at ih
    exact .next (s' := .s2 t (b ++ [y]) Y) (by simp only [wire_put_v2_step, wire_put_v2_2, wire_put_v2_2c, hl, cond_true]) ih
theorem put2_ok {n : Int} (h : inK .i64 n) {b : List Int} (hb : b.length ≤ 1000000) : wire_put_v2 n b = some (b ++ encI n) := by
  have hl := encI_len h
  refine evf_of (.next (s' := .s1 n b) (by simp [wire_put_v2_step, wire_put_v2_0, wire_digits]) (.next (s' := .s2 n b (encI n)) (by simp [wire_put_v2_step, wire_put_v2_1, digits_ok h]) ?_))
  exact put2_loop (encI n) b (by simp [memB]; omega)

theorem encN_snoc (xs : List Int) (x : Int) : encN (xs ++ [x]) = encN xs ++ encI x := by simp [encN]
theorem take_snoc {l : List Int} {k : Nat} (h : k < l.length) : l.take (k + 1) = l.take k ++ [l[k]] := by rw [List.take_add_one, List.getE h]; rfl

theorem putInts_loop {l : List Int} (hl : I64s l) (h64 : l.length ≤ 64) (p : List Int) (hp : p.length ≤ 10) : ∀ (j k : Nat), k + j = l.length → Ev wire_PutInts_step (.s1 l l.length k (p ++ encN (l.take k))) (0, p ++ encN l) := by
  intro j
  induction j with
  | zero =>
    intro k hk
    refine .done ?_
    rw [List.take_of_length_le (by omega)]
    simp [wire_PutInts_step, wire_PutInts_1, show ¬ ((k : Int) < l.length) by omega]
  | succ j ih =>
    intro k hk
    have hlt : k < l.length := by omega
    have hx := hl l[k] (List.getElem_mem hlt)
    have hs := encN_len (xs := l.take k) fun y hy => hl y (List.mem_of_mem_take hy)
    rw [List.length_take] at hs
    refine .next (s' := .s1 l l.length ((k + 1 : Nat) : Int) (p ++ encN (l.take (k + 1)))) ?_ (ih (k + 1) (by omega))
    have e : put2_ok hx (b := p ++ encN (l.take k)) (by simp; omega) = put2_ok hx (b := p ++ encN (l.take k)) (by simp; omega) := rfl
    have e2 : wire_put_v2 l[k] (p ++ encN (l.take k)) = some (p ++ encN (l.take (k + 1))) := by
      rw [put2_ok hx (by simp only [List.length_append]; omega), take_snoc hlt, encN_snoc, List.append_assoc]
    simp only [wire_PutInts_step, wire_PutInts_1, List.length_map, ltB hlt, ixB hlt, le0, Bool.and_self, cond_true, Int.toNat_natCast, List.getE hlt, Option.bind_some, e2, wS (show k < 9223372036854775807 by omega)]

theorem putInts_ok {l : List Int} (hl : I64s l) (h64 : l.length ≤ 64) : wire_PutInts l = some (0, encL l) := by
  have hn := inLen (n := l.length) (by omega)
  refine evf_of (.next (s' := .s1 l l.length 0 (encI l.length)) ?_ ?_)
  · have h1 : decide ((l.length : Int) > 64) = false := by simp; omega
    simp only [wire_PutInts_step, wire_PutInts_0, List.length_map, h1, cond_false, putInt_ok hn, Option.bind_some]
  · have := putInts_loop hl h64 (encI l.length) (encI_len hn) l.length 0 (by omega)
    simpa [encN, encL] using this
theorem putInts_big {l : List Int} (h64 : 64 < l.length) : wire_PutInts l = some (2, []) := by
  refine evf_of (.done ?_)
  have h1 : decide ((l.length : Int) > 64) = true := by simp; omega
  simp only [wire_PutInts_step, wire_PutInts_0, List.length_map, h1, cond_true]

/-! ### the document's writer -/
theorem rput_ev : ∀ (u : Nat) (out : List Int), u < 18446744073709551616 → out.length + (venc u).length ≤ memB → Ev ref01_PutInt_step (.s1 u out) (out ++ venc u) := by
  intro u
  induction u using Nat.strongRecOn with
  | ind u ih =>
    intro out hu hm
    have hp := venc_pos u
    have hl : decide (((List.map (eInt .u8) out).length + 1) * 1 ≤ bytesLim) = true := limOk (by simp; simp [memB] at hm; omega)
    by_cases h : u < 128
    · rw [venc_lt h]
      refine .done ?_
      have h1 : decide ((u : Int) ≥ 128) = false := by simp; omega
      simp only [ref01_PutInt_step, ref01_PutInt_1, h1, cond_false, hl, cond_true, wrapU8 (show u < 256 by omega)]
    · have h1 : decide ((u : Int) ≥ 128) = true := by simp; omega
      rw [venc_ge (by omega)] at hm ⊢
      have ih' := ih (u / 128) (by omega) (out ++ [((u % 128 + 128 : Nat) : Int)]) (by omega) (by simp only [List.length_append, List.length_cons, List.length_nil] at hm ⊢; omega)
      rw [List.append_assoc] at ih'
      refine .next (s' := .s1 ((u / 128 : Nat) : Int) (out ++ [((u % 128 + 128 : Nat) : Int)])) ?_ ih'
      simp only [ref01_PutInt_step, ref01_PutInt_1, h1, hl, cond_true, shr7, and127' hu, wrapU8 (show u % 128 < 256 by omega), or128 (show u % 128 < 256 by omega), show u % 128 % 128 = u % 128 by omega]

theorem rputInt_ok {n : Int} (h : inK .i64 n) : ref01_PutInt n = some (encI n) := by
  have hz := zz_lt h
  have key := rput_ev (zz n) [] hz (by have := venc_ten hz; simp [memB]; omega)
  have hr := zz_ref h
  refine evf_of (.next (s' := .s2 (zz n)) ?_ (.next (s' := .s1 (zz n) []) rfl (by simpa [encI] using key)))
  simp only [ref01_PutInt_step, ref01_PutInt_0]
  by_cases h0 : n < 0
  · rw [if_pos h0] at hr
    rw [hr]; simp [h0]
  · rw [if_neg h0] at hr
    rw [hr]; simp [h0]

theorem rputInts_loop {l : List Int} (hl : I64s l) (h64 : l.length ≤ 64) (p : List Int) (hp : p.length ≤ 10) : ∀ (j k : Nat), k + j = l.length → Ev ref01_PutInts_step (.s1 l k (p ++ encN (l.take k))) (0, p ++ encN l) := by
  intro j
  induction j with
  | zero =>
    intro k hk
    refine .done ?_
    rw [List.take_of_length_le (by omega)]
    simp [ref01_PutInts_step, ref01_PutInts_1, show ¬ ((k : Int) < l.length) by omega]
  | succ j ih =>
    intro k hk
    have hlt : k < l.length := by omega
    have hx := hl l[k] (List.getElem_mem hlt)
    have hs := encN_len (xs := l.take k) fun y hy => hl y (List.mem_of_mem_take hy)
    rw [List.length_take] at hs
    have hx10 := encI_len hx
    refine .next (s' := .s1 l ((k + 1 : Nat) : Int) (p ++ encN (l.take (k + 1)))) ?_ (ih (k + 1) (by omega))
    have hlim : decide (((List.map (eInt .u8) (p ++ encN (l.take k))).length + (List.take ((List.map (eInt .u8) (encI l[k])).length) (List.drop 0 (List.map (eInt .u8) (encI l[k])))).length) * 1 ≤ bytesLim) = true := limOk (by simp; omega)
    simp only [ref01_PutInts_step, ref01_PutInts_1]
    rw [show decide ((k : Int) < (((List.map (eInt .i64) l).length : Nat) : Int)) = true by simp; omega]
    simp only [List.length_map, ixB hlt, le0, Bool.and_self, cond_true, Int.toNat_natCast, List.getE hlt, Option.bind_some, rputInt_ok hx, wS (show k < 9223372036854775807 by omega)]
    simp only [List.length_map] at hlim
    rw [hlim, take_snoc hlt, encN_snoc, List.append_assoc]
    rfl

theorem rputInts_ok {l : List Int} (hl : I64s l) (h64 : l.length ≤ 64) : ref01_PutInts l = some (0, encL l) := by
  have hn := inLen (n := l.length) (by omega)
  refine evf_of (.next (s' := .s1 l 0 (encI l.length)) ?_ ?_)
  · have h1 : decide ((l.length : Int) > 64) = false := by simp; omega
    simp only [ref01_PutInts_step, ref01_PutInts_0, List.length_map, h1, cond_false, rputInt_ok hn, Option.bind_some]
  · have := rputInts_loop hl h64 (encI l.length) (encI_len hn) l.length 0 (by omega)
    simpa [encN, encL] using this

/-! ### the program's reader -/
/-- What a reader at a place answers. -/
def rI (at_ : Nat) (x : Int ⊕ (Int × Nat)) : Int × Int × Int := match x with
  | .inl e => (0, 0, e)
  | .inr (n, k) => (n, ((at_ + k : Nat) : Int), 0)
/-- The same, where so much of it is read. -/
def rV (at_ i : Nat) (u : Nat) (x : Int ⊕ (Nat × Nat)) : Int × Int × Int := match x with
  | .inl e => (0, 0, e)
  | .inr (v, k) => (unzz (u + v * 2 ^ (7 * i)), ((at_ + i + k : Nat) : Int), 0)

theorem pow7 (i : Nat) : 2 ^ (7 * (i + 1)) = 2 ^ (7 * i) * 128 := by rw [Nat.mul_succ, Nat.pow_add]
theorem pow7_le {i : Nat} (h : i ≤ 9) : 2 ^ (7 * i) ≤ 9223372036854775808 := by
  have : 2 ^ (7 * i) ≤ 2 ^ (7 * 9) := Nat.pow_le_pow_right (by decide) (by omega)
  simpa using this
theorem pow7_le8 {i : Nat} (h : i ≤ 8) : 2 ^ (7 * i) ≤ 72057594037927936 := by
  have : 2 ^ (7 * i) ≤ 2 ^ (7 * 8) := Nat.pow_le_pow_right (by decide) (by omega)
  simpa using this

theorem rV_step (at_ i u c : Nat) (r : Int ⊕ (Nat × Nat)) (h1 : 128 ≤ c) (h2 : c < 256) : rV at_ (i + 1) (u + c % 128 * 2 ^ (7 * i)) r = rV at_ i u (vS c r) := by
  cases r with
  | inl e => rfl
  | inr p =>
    obtain ⟨v, k⟩ := p
    have e : c - 128 = c % 128 := by omega
    simp only [rV, vS, e]
    have key : ∀ X : Nat, u + c % 128 * X + v * (X * 128) = u + (c % 128 + 128 * v) * X := fun X => by
      have h3 : v * (X * 128) = 128 * v * X := by rw [Nat.mul_comm X 128, ← Nat.mul_assoc, Nat.mul_comm v 128]
      rw [Nat.add_mul]; omega
    rw [pow7, key]
    refine Prod.ext rfl (Prod.ext ?_ rfl)
    show ((at_ + (i + 1) + k : Nat) : Int) = ((at_ + i + (k + 1) : Nat) : Int)
    omega

/-- A byte is put to what is read. -/
theorem acc_ok {u i c : Nat} (hu : u < 2 ^ (7 * i)) (hi : i ≤ 9) (hc : c < 256) (h9 : i = 9 → c ≤ 1) : orI .u64 u (shlI .u64 (IntKind.u64.wrap (andI .u8 c 127)) ((7 * i : Nat) : Int)) = ((u + c % 128 * 2 ^ (7 * i) : Nat) : Int) ∧ u + c % 128 * 2 ^ (7 * i) < 18446744073709551616 ∧ (i ≤ 8 → u + c % 128 * 2 ^ (7 * i) < 2 ^ (7 * (i + 1))) := by
  have hb : u + c % 128 * 2 ^ (7 * i) < 18446744073709551616 := by
    rcases Nat.lt_or_ge i 9 with h | h
    · have := pow7_le8 (show i ≤ 8 by omega)
      have : c % 128 * 2 ^ (7 * i) ≤ 127 * 2 ^ (7 * i) := Nat.mul_le_mul_right _ (by omega)
      omega
    · have e : i = 9 := by omega
      subst e
      have := h9 rfl
      have h2 : c % 128 ≤ 1 := by omega
      have h3 : c % 128 * 2 ^ (7 * 9) ≤ 1 * 2 ^ (7 * 9) := Nat.mul_le_mul_right _ h2
      simp at hu h3 ⊢
      omega
  refine ⟨?_, hb, fun _ => ?_⟩
  · rw [and127 hc, wrapU64 (by omega)]
    exact or_shl hu hb (by omega)
  · rw [pow7]
    have : c % 128 * 2 ^ (7 * i) ≤ 127 * 2 ^ (7 * i) := Nat.mul_le_mul_right _ (by omega)
    omega

theorem int_loop {L : List Int} (hb : Bytes L) (at_ : Nat) (hm : at_ + L.length ≤ memB) : ∀ (j i u : Nat), i + j = L.length → i ≤ 9 → u < 2 ^ (7 * i) → Ev wire_Int_step (.s2 at_ u ((7 * i : Nat) : Int) L L.length i) (rV at_ i u (vd i (L.drop i))) := by
  intro j
  induction j with
  | zero =>
    intro i u hi h9 hu
    rw [List.drop_eq_nil_of_le (by omega)]
    refine .done ?_
    simp [wire_Int_step, wire_Int_2, vd, rV, show ¬ ((i : Int) < L.length) by omega]
  | succ j ih =>
    intro i u hi h9 hu
    have hlt : i < L.length := by omega
    have hcb := hb L[i] (List.getElem_mem hlt)
    obtain ⟨c, hc⟩ := Int.eq_ofNat_of_zero_le hcb.1
    rw [List.drop_eq_getElem_cons hlt, vd_cons]
    simp only [memB] at hm
    have e1 : decide ((0 : Int) ≤ i) = true := by simp
    -- the first step
    have s1 : ∀ U, U = orI .u64 u (shlI .u64 (IntKind.u64.wrap (andI .u8 L[i] 127)) ((7 * i : Nat) : Int)) → wire_Int_step (.s2 at_ u ((7 * i : Nat) : Int) L L.length i) = some (.inl (.s4 at_ U ((7 * i : Nat) : Int) i L[i] L L.length i (decide (i = 9 ∧ 1 < L[i])))) := fun U hU => by
      simp only [wire_Int_step, wire_Int_2, List.length_map, ltB hlt, ixB hlt, le0, Bool.and_self, cond_true, Int.toNat_natCast, List.getE hlt, Option.bind_some, nn0, ← hU]
      by_cases h : i = 9
      · subst h
        simp
      · have : (((7 * i : Nat) : Int) == 63) = false := by simp; omega
        rw [this]
        simp [h]
    by_cases hlong : (i = 9 ∧ 1 < L[i]) ∨ (L[i] = 0 ∧ 0 < i)
    · rw [if_pos hlong]
      obtain ⟨U, hU⟩ : ∃ U, U = orI .u64 u (shlI .u64 (IntKind.u64.wrap (andI .u8 L[i] 127)) ((7 * i : Nat) : Int)) := ⟨_, rfl⟩
      refine .next (s1 U hU) (.next (s' := .s3 at_ U ((7 * i : Nat) : Int) i L[i] L L.length i true) ?_ (.done (by simp [wire_Int_step, wire_Int_3, rV])))
      by_cases h9 : i = 9 ∧ 1 < L[i]
      · simp only [wire_Int_step, wire_Int_4, decide_eq_true h9, cond_true]
      · have h0 := hlong.resolve_left h9
        simp only [wire_Int_step, wire_Int_4, decide_eq_false h9, cond_false, h0.1]
        simp
        omega
    · rw [if_neg hlong]
      have hn9 : ¬ (i = 9 ∧ 1 < L[i]) := fun h => hlong (.inl h)
      have hn0 : ¬ (L[i] = 0 ∧ 0 < i) := fun h => hlong (.inr h)
      have hc256 : c < 256 := by omega
      obtain ⟨a1, a2, a3⟩ := acc_ok hu h9 hc256 (fun h => by omega)
      rw [← hc] at a1
      refine .next (s1 _ a1.symm) (.next (s' := .s3 at_ ((u + c % 128 * 2 ^ (7 * i) : Nat) : Int) ((7 * i : Nat) : Int) i L[i] L L.length i false) ?_ ?_)
      · have : decide (i = 9 ∧ 1 < L[i]) = false := by simpa using fun h => by omega
        rw [this]
        by_cases h0 : L[i] = 0
        · have : ¬ 0 < i := fun h => hn0 ⟨h0, h⟩
          simp [wire_Int_step, wire_Int_4, h0]
          omega
        · simp [wire_Int_step, wire_Int_4, h0, beq_eq_false_iff_ne.2 h0]
      · by_cases hlt128 : L[i] < 128
        · rw [if_pos hlt128]
          refine .done ?_
          have hmod : c % 128 = c := by omega
          simp only [wire_Int_step, wire_Int_3, cond_false, decide_eq_true hlt128, cond_true, unzz_xor a2, rV]
          rw [wI64 (n := (at_ : Int) + i) (by omega) (by omega), wI64 (by omega) (by omega), hmod, hc]
          simp
        · rw [if_neg hlt128]
          have hi8 : i ≤ 8 := by
            rcases Nat.lt_or_ge i 9 with h | h
            · omega
            · exact absurd ⟨show i = 9 by omega, by omega⟩ hn9
          have := ih (i + 1) (u + c % 128 * 2 ^ (7 * i)) (by omega) (by omega) (a3 hi8)
          have hres := rV_step at_ i u c (vd (i + 1) (L.drop (i + 1))) (by omega) (by omega)
          rw [show L[i].toNat = c by omega]
          rw [← hres]
          refine .next (s' := .s2 at_ ((u + c % 128 * 2 ^ (7 * i) : Nat) : Int) ((7 * (i + 1) : Nat) : Int) L L.length ((i + 1 : Nat) : Int)) ?_ this
          have e7 : IntKind.i64.wrap (((7 * i : Nat) : Int) + 7) = ((7 * (i + 1) : Nat) : Int) := by rw [wI64 (by omega) (by omega)]; omega
          simp only [wire_Int_step, wire_Int_3, cond_false, decide_eq_false hlt128, e7, wS (show i < 9223372036854775807 by omega)]

theorem rV_rI (at_ : Nat) (L : List Int) : rV at_ 0 0 (vd 0 L) = rI at_ (pI L) := by
  unfold pI rI rV
  cases vd 0 L with
  | inl e => rfl
  | inr p => obtain ⟨v, k⟩ := p; simp

theorem int_ok {b : List Int} (hb : Bytes b) (hm : b.length ≤ memB) {at_ : Nat} (h : at_ ≤ b.length) : wire_Int b at_ = some (rI at_ (pI (b.drop at_))) := by
  refine evf_of (.next (s' := .s1 b at_ false) ?_ (.next (s' := .s2 at_ 0 0 (b.drop at_) (b.drop at_).length 0) ?_ ?_))
  · have h1 : decide ((at_ : Int) < 0) = false := by simp
    have h2 : decide ((at_ : Int) > b.length) = false := by simp; omega
    simp [wire_Int_step, wire_Int_0, h1, h2]
    exact h
  · have h1 : (decide (((0 : Nat) : Int) ≤ at_) && decide ((at_ : Int) ≤ ((b.length : Nat) : Int))) = true := by simp; omega
    simp only [wire_Int_step, wire_Int_1, cond_false, List.length_map, h1, cond_true, Int.toNat_natCast, List.take_length]
  · have := int_loop (L := b.drop at_) (fun c hc => hb c (List.mem_of_mem_drop hc)) at_ (by simp only [List.length_drop]; omega) (b.drop at_).length 0 0 (by omega) (by omega) (by simp)
    rw [List.drop_zero, rV_rI] at this
    exact this

/-! ### the document's reader -/
theorem rint_loop {L : List Int} (hb : Bytes L) (at_ : Nat) (hm : at_ + L.length ≤ memB) : ∀ (j i u : Nat), i + j = L.length → i ≤ 9 → u < 2 ^ (7 * i) → Ev ref01_Int_step (.s2 at_ L u i) (rV at_ i u (vd i (L.drop i))) := by
  intro j
  induction j with
  | zero =>
    intro i u hi h9 hu
    rw [List.drop_eq_nil_of_le (by omega)]
    refine .done ?_
    have h1 : decide ((i : Int) < 10) = true := by simp; omega
    have h2 : decide ((i : Int) ≥ L.length) = true := by simp; omega
    simp only [ref01_Int_step, ref01_Int_2, List.length_map, h1, h2, cond_true, vd, rV]
  | succ j ih =>
    intro i u hi h9 hu
    have hlt : i < L.length := by omega
    have hcb := hb L[i] (List.getElem_mem hlt)
    obtain ⟨c, hc⟩ := Int.eq_ofNat_of_zero_le hcb.1
    rw [List.drop_eq_getElem_cons hlt, vd_cons]
    simp only [memB] at hm
    have h10 : decide ((i : Int) < 10) = true := by simp; omega
    have hge : decide ((i : Int) ≥ L.length) = false := by simp; omega
    have s1 : ref01_Int_step (.s2 at_ L u i) = some (.inl (.s5 at_ L u i L[i] (decide (i = 9 ∧ 1 < L[i])))) := by
      simp only [ref01_Int_step, ref01_Int_2, List.length_map, h10, hge, cond_false, ltB hlt, le0, Bool.and_self, cond_true, Int.toNat_natCast, List.getE hlt, Option.bind_some]
      by_cases h : i = 9
      · subst h
        simp
      · have : ((i : Int) == 9) = false := by simp; omega
        rw [this]
        simp [h]
    refine .next s1 ?_
    by_cases h9' : i = 9 ∧ 1 < L[i]
    · rw [if_pos (.inl h9'), decide_eq_true h9']
      exact .done (by simp [ref01_Int_step, ref01_Int_5, rV])
    · rw [decide_eq_false h9']
      have hc256 : c < 256 := by omega
      obtain ⟨a1, a2, a3⟩ := acc_ok hu h9 hc256 (fun h => by omega)
      rw [← hc] at a1
      have e7 : IntKind.i64.wrap ((7 : Int) * i) = ((7 * i : Nat) : Int) := by rw [wI64 (by omega) (by omega)]; omega
      by_cases hlt128 : L[i] < 128
      · have hge : decide (L[i] ≥ 128) = false := by simp; omega
        have hmod : c % 128 = c := by omega
        by_cases h0 : L[i] = 0 ∧ 0 < i
        · rw [if_pos (.inr h0)]
          refine .next (s' := .s4 at_ ((u + c % 128 * 2 ^ (7 * i) : Nat) : Int) i true) ?_ (.done (by simp [ref01_Int_step, ref01_Int_4, rV]))
          simp only [ref01_Int_step, ref01_Int_5, cond_false, e7, nn0, cond_true, hge, a1]
          simp [h0.1]
          omega
        · rw [if_neg (by simp only [h9', h0, or_self, not_false_eq_true]), if_pos hlt128]
          refine .next (s' := .s4 at_ ((u + c % 128 * 2 ^ (7 * i) : Nat) : Int) i false) ?_ ?_
          · simp only [ref01_Int_step, ref01_Int_5, cond_false, e7, nn0, cond_true, hge, a1]
            by_cases hz : L[i] = 0
            · have : ¬ 0 < i := fun h => h0 ⟨hz, h⟩
              simp [hz]
              omega
            · simp [hz, beq_eq_false_iff_ne.2 hz]
          · refine .next (s' := .s3 at_ i (unzz (u + c % 128 * 2 ^ (7 * i)))) ?_ (.done ?_)
            · simp only [ref01_Int_step, ref01_Int_4, cond_false, shr1, andOne a2, wI64 (n := (((u + c % 128 * 2 ^ (7 * i)) / 2 : Nat) : Int)) (by omega) (by omega)]
              unfold unzz
              rcases Nat.mod_two_eq_zero_or_one (u + c % 128 * 2 ^ (7 * i)) with h1 | h1
              · rw [h1, if_pos rfl]; rfl
              · rw [h1, if_neg (by omega), neg_xor (by omega)]; rfl
            · simp only [ref01_Int_step, ref01_Int_3, rV]
              rw [wI64 (n := (at_ : Int) + i) (by omega) (by omega), wI64 (by omega) (by omega), hmod, hc]
              simp
      · have hge : decide (L[i] ≥ 128) = true := by simp; omega
        have hi8 : i ≤ 8 := by
          rcases Nat.lt_or_ge i 9 with h | h
          · omega
          · exact absurd ⟨show i = 9 by omega, by omega⟩ h9'
        rw [if_neg (by rintro (h | ⟨h, _⟩); exact h9' h; omega), if_neg hlt128]
        have := ih (i + 1) (u + c % 128 * 2 ^ (7 * i)) (by omega) (by omega) (a3 hi8)
        have hres := rV_step at_ i u c (vd (i + 1) (L.drop (i + 1))) (by omega) (by omega)
        rw [show L[i].toNat = c by omega]
        rw [← hres]
        refine .next (s' := .s2 at_ L ((u + c % 128 * 2 ^ (7 * i) : Nat) : Int) ((i + 1 : Nat) : Int)) ?_ this
        simp only [ref01_Int_step, ref01_Int_5, cond_false, e7, nn0, cond_true, hge, a1, wS (show i < 9223372036854775807 by omega)]

theorem rint_ok {b : List Int} (hb : Bytes b) (hm : b.length ≤ memB) {at_ : Nat} (h : at_ ≤ b.length) : ref01_Int b at_ = some (rI at_ (pI (b.drop at_))) := by
  refine evf_of (.next (s' := .s1 b at_ false) ?_ (.next (s' := .s2 at_ (b.drop at_) 0 0) ?_ ?_))
  · have h1 : decide ((at_ : Int) < 0) = false := by simp
    simp [ref01_Int_step, ref01_Int_0, h1]
    exact h
  · have h1 : (decide (((0 : Nat) : Int) ≤ at_) && decide ((at_ : Int) ≤ ((b.length : Nat) : Int))) = true := by simp; omega
    simp only [ref01_Int_step, ref01_Int_1, cond_false, List.length_map, h1, cond_true, Int.toNat_natCast, List.take_length]
  · have := rint_loop (L := b.drop at_) (fun c hc => hb c (List.mem_of_mem_drop hc)) at_ (by simp only [List.length_drop]; omega) (b.drop at_).length 0 0 (by omega) (by omega) (by simp)
    rw [List.drop_zero, rV_rI] at this
    exact this

/-! ### lists, read -/
def rL (at_ : Nat) (x : Int ⊕ (List Int × Nat)) : List Int × Int × Int := match x with
  | .inl e => ([], 0, e)
  | .inr (xs, k) => (xs, ((at_ + k : Nat) : Int), 0)
/-- The rest of a list. -/
def rN (out : List Int) (at_ : Nat) (x : Int ⊕ (List Int × Nat)) : List Int × Int × Int := match x with
  | .inl e => ([], 0, e)
  | .inr (xs, k) => (out ++ xs, ((at_ + k : Nat) : Int), 0)

theorem pI_le {l : List Int} {n : Int} {k : Nat} (hb : Bytes l) (h : pI l = .inr (n, k)) : k ≤ l.length := (pI_dec hb h).2.1
theorem err_ne {l : List Int} {e : Int} (h : pI l = .inl e) : (e != 0) = true := by rcases pI_err h with rfl | rfl <;> rfl

theorem rN_step (out : List Int) (x : Int) (b : List Int) (j at_ k : Nat) : rN (out ++ [x]) (at_ + k) (pN j (b.drop (at_ + k))) = rN out at_ (pS x k (pN j ((b.drop at_).drop k))) := by
  rw [List.drop_drop]
  cases pN j (b.drop (at_ + k)) with
  | inl e => rfl
  | inr p => obtain ⟨xs, m⟩ := p; simp [rN, pS, Nat.add_assoc]

theorem rK_step (b : List Int) (t at_ k : Nat) : rN [] (at_ + k) (pN t (b.drop (at_ + k))) = rL at_ (pK k (pN t ((b.drop at_).drop k))) := by
  rw [List.drop_drop]
  cases pN t (b.drop (at_ + k)) with
  | inl e => rfl
  | inr p => obtain ⟨xs, m⟩ := p; simp [rN, rL, pK, Nat.add_assoc]

theorem ints_loop {b : List Int} (hb : Bytes b) (hm : b.length ≤ memB) (t : Nat) (ht : t ≤ 64) : ∀ (j i at_ : Nat) (out : List Int), i + j = t → at_ ≤ b.length → out.length = i → Ev wire_Ints_step (.s1 b at_ 0 t i out) (rN out at_ (pN j (b.drop at_))) := by
  intro j
  induction j with
  | zero =>
    intro i at_ out hi hat ho
    refine .next (s' := .s2 at_ 0 out) ?_ (.done (by simp [wire_Ints_step, wire_Ints_2, pN, rN]))
    simp [wire_Ints_step, wire_Ints_1, show ¬ ((i : Int) < t) by omega]
  | succ j ih =>
    intro i at_ out hi hat ho
    have hlt : i < t := by omega
    cases hp : pI (b.drop at_) with
    | inl e =>
      rw [pN_inl hp]
      refine .next (s' := .s2 0 e out) ?_ (.done ?_)
      · simp only [wire_Ints_step, wire_Ints_1, ltB hlt, cond_true, int_ok hb hm hat, hp, rI, Option.bind_some, err_ne hp]
      · simp only [wire_Ints_step, wire_Ints_2, err_ne hp, cond_true, rN]
    | inr p =>
      obtain ⟨x, k⟩ := p
      have hk := pI_le (fun c hc => hb c (List.mem_of_mem_drop hc)) hp
      rw [List.length_drop] at hk
      have := ih (i + 1) (at_ + k) (out ++ [x]) (by omega) (by omega) (by simp [ho])
      rw [pN_inr hp, ← rN_step]
      refine .next (s' := .s1 b ((at_ + k : Nat) : Int) 0 t ((i + 1 : Nat) : Int) (out ++ [x])) ?_ this
      have hl : decide (((List.map (eInt .i64) out).length + 1) * 8 ≤ bytesLim) = true := limOk (by simp; omega)
      simp only [wire_Ints_step, wire_Ints_1, ltB hlt, cond_true, int_ok hb hm hat, hp, rI, Option.bind_some, hl, wS (show i < 9223372036854775807 by omega)]
      simp

theorem ints_ok {b : List Int} (hb : Bytes b) (hm : b.length ≤ memB) {at_ : Nat} (h : at_ ≤ b.length) : wire_Ints b at_ = some (rL at_ (pL (b.drop at_))) := by
  have hsz : ∀ x : Int × Int × Int, wire_sized b at_ 64 = some x → wire_Ints_step (.s0 b at_) = some (.inl (.s1 b x.2.1 x.2.2 x.1 0 [])) := fun x hx => by
    simp only [wire_Ints_step, wire_Ints_0, hx, Option.bind_some]
  have bad : ∀ e : Int, (e != 0) = true → wire_sized b at_ 64 = some (0, 0, e) → wire_Ints b at_ = some ([], 0, e) := fun e he hx =>
    evf_of (.next (hsz _ hx) (.next (s' := .s2 0 e []) (by simp [wire_Ints_step, wire_Ints_1]) (.done (by simp only [wire_Ints_step, wire_Ints_2, he, cond_true]))))
  cases hp : pI (b.drop at_) with
  | inl e => rw [pL_inl hp]; exact bad e (err_ne hp) (by simp only [wire_sized, int_ok hb hm h, hp, rI, Option.bind_some, err_ne hp, cond_true])
  | inr p =>
    obtain ⟨n, k⟩ := p
    have hk := pI_le (fun c hc => hb c (List.mem_of_mem_drop hc)) hp
    rw [List.length_drop] at hk
    by_cases hbig : n < 0 ∨ n > 64
    · rw [pL_big hp hbig]
      refine bad 2 rfl ?_
      simp only [wire_sized, int_ok hb hm h, hp, rI, Option.bind_some]
      by_cases h0 : n < 0
      · simp [h0, wire_sized_1]
      · have : n > 64 := by omega
        simp [h0, this, wire_sized_1]
    · have hs : wire_sized b at_ 64 = some (n, ((at_ + k : Nat) : Int), 0) := by
        simp only [wire_sized, int_ok hb hm h, hp, rI, Option.bind_some]
        simp [show ¬ n < 0 by omega, show ¬ 64 < n by omega, wire_sized_1]
      rw [pL_inr hp hbig, ← rK_step]
      obtain ⟨t, rfl⟩ := Int.eq_ofNat_of_zero_le (show 0 ≤ n by omega)
      exact evf_of (.next (hsz _ hs) (ints_loop hb hm t (by omega) t 0 (at_ + k) [] (by omega) (by omega) rfl))

theorem rints_loop {b : List Int} (hb : Bytes b) (hm : b.length ≤ memB) (t : Nat) (ht : t ≤ 64) : ∀ (j i at_ : Nat) (out : List Int), i + j = t → at_ ≤ b.length → out.length = i → Ev ref01_Ints_step (.s2 b t at_ i out) (rN out at_ (pN j (b.drop at_))) := by
  intro j
  induction j with
  | zero =>
    intro i at_ out hi hat ho
    refine .done ?_
    simp [ref01_Ints_step, ref01_Ints_2, pN, rN, show ¬ ((i : Int) < t) by omega]
  | succ j ih =>
    intro i at_ out hi hat ho
    have hlt : i < t := by omega
    cases hp : pI (b.drop at_) with
    | inl e =>
      rw [pN_inl hp]
      refine .done ?_
      simp only [ref01_Ints_step, ref01_Ints_2, ltB hlt, cond_true, rint_ok hb hm hat, hp, rI, Option.bind_some, err_ne hp, rN]
    | inr p =>
      obtain ⟨x, k⟩ := p
      have hk := pI_le (fun c hc => hb c (List.mem_of_mem_drop hc)) hp
      rw [List.length_drop] at hk
      have := ih (i + 1) (at_ + k) (out ++ [x]) (by omega) (by omega) (by simp [ho])
      rw [pN_inr hp, ← rN_step]
      refine .next (s' := .s2 b t ((at_ + k : Nat) : Int) ((i + 1 : Nat) : Int) (out ++ [x])) ?_ this
      have hl : decide (((List.map (eInt .i64) out).length + 1) * 8 ≤ bytesLim) = true := limOk (by simp; omega)
      simp only [ref01_Ints_step, ref01_Ints_2, ltB hlt, cond_true, rint_ok hb hm hat, hp, rI, Option.bind_some, hl, wS (show i < 9223372036854775807 by omega)]
      simp

theorem rints_ok {b : List Int} (hb : Bytes b) (hm : b.length ≤ memB) {at_ : Nat} (h : at_ ≤ b.length) : ref01_Ints b at_ = some (rL at_ (pL (b.drop at_))) := by
  cases hp : pI (b.drop at_) with
  | inl e => rw [pL_inl hp]; exact evf_of (.done (by simp only [ref01_Ints_step, ref01_Ints_0, rint_ok hb hm h, hp, rI, rL, Option.bind_some, err_ne hp, cond_true]))
  | inr p =>
    obtain ⟨n, k⟩ := p
    have hk := pI_le (fun c hc => hb c (List.mem_of_mem_drop hc)) hp
    rw [List.length_drop] at hk
    by_cases hbig : n < 0 ∨ n > 64
    · rw [pL_big hp hbig]
      refine evf_of (.next (s' := .s1 b n ((at_ + k : Nat) : Int) true) ?_ (.done (by simp [ref01_Ints_step, ref01_Ints_1, rL])))
      simp only [ref01_Ints_step, ref01_Ints_0, rint_ok hb hm h, hp, rI, Option.bind_some]
      by_cases h0 : n < 0
      · simp [h0]
      · have : n > 64 := by omega
        simp [h0, this]
    · rw [pL_inr hp hbig, ← rK_step]
      obtain ⟨t, rfl⟩ := Int.eq_ofNat_of_zero_le (show 0 ≤ n by omega)
      refine evf_of (.next (s' := .s1 b t ((at_ + k : Nat) : Int) false) ?_ (.next (s' := .s2 b t ((at_ + k : Nat) : Int) 0 []) (by simp [ref01_Ints_step, ref01_Ints_1]) (rints_loop hb hm t (by omega) t 0 (at_ + k) [] (by omega) (by omega) rfl)))
      simp only [ref01_Ints_step, ref01_Ints_0, rint_ok hb hm h, hp, rI, Option.bind_some]
      simp [show ¬ (t : Int) < 0 by omega]
      omega
end Go.RX.L

set_option linter.unusedSimpArgs false
set_option linter.unusedVariables false
set_option maxRecDepth 100000
set_option maxHeartbeats 4000000
namespace Go.RX.L
open Go Go.RX Go.Proofs
attribute [local irreducible] FinQ
def frame_Put_Q (y : (List Int) × Int) (d : D) (s : Sto) : Prop := d = D.tup [D.sl false 1 (List.map (eInt .u8) y.1), D.int .i64 y.2] ∧ s = []
inductive frame_Put_S where
  | s0 (kind : Int) (body : List Int)
  | s1 (sum : Int) (shift : Int) (b : List Int)
noncomputable def frame_Put_M : frame_Put_S → M
  | .s0 kind body => ⟨[.code (bodyOf Tryd.f22)], [(0, D.int .u8 kind), (1, D.sl false 1 (List.map (eInt .u8) body))], []⟩
  | .s1 sum shift b => { td := [It.lpc (codeAt (bodyOf Tryd.f22) [1, 1, 1, 1, 1, 0, 1, 0, 0]) 896, It.blk 0, It.code (codeAt (bodyOf Tryd.f22) [1, 1, 1, 1, 1, 1])], fr := [(7, D.msl 0 0 ((List.map (eInt .u8) b).length) ((List.map (eInt .u8) b).length) false), (8, D.int .u32 sum), (9, D.int .i64 shift)], st := [some { sz := 1, deep := false, rows := (List.map (eInt .u8) b) }] }
noncomputable def frame_Put_0 (kind : Int) (body : List Int) : Option (frame_Put_S ⊕ ((List Int) × Int)) := (bif (decide (((((List.map (eInt .u8) body).length : Nat) : Int) : Int) > 8192)) then (some (.inr ([], 2))) else (bif (decide ((4 + (List.map (eInt .u8) body).length) * 1 ≤ bytesLim)) then (bif (decide ((1 : Int) ≤ (((List.map (eInt .u8) ([247, kind, (IntKind.u8.wrap ((shrI .i64 (((List.map (eInt .u8) body).length : Nat) : Int) 8))), (IntKind.u8.wrap ((((List.map (eInt .u8) body).length : Nat) : Int)))] ++ body)).length : Nat) : Int))) then (bif (Nat.ble (1 + ((List.map (eInt .u8) ([247, kind, (IntKind.u8.wrap ((shrI .i64 (((List.map (eInt .u8) body).length : Nat) : Int) 8))), (IntKind.u8.wrap ((((List.map (eInt .u8) body).length : Nat) : Int)))] ++ body)).length - 1)) ((List.map (eInt .u8) ([247, kind, (IntKind.u8.wrap ((shrI .i64 (((List.map (eInt .u8) body).length : Nat) : Int) 8))), (IntKind.u8.wrap ((((List.map (eInt .u8) body).length : Nat) : Int)))] ++ body)).length)) then ((crc_Sum (List.take ((List.map (eInt .u8) ([247, kind, (IntKind.u8.wrap ((shrI .i64 (((List.map (eInt .u8) body).length : Nat) : Int) 8))), (IntKind.u8.wrap ((((List.map (eInt .u8) body).length : Nat) : Int)))] ++ body)).length - 1) (List.drop 1 ([247, kind, (IntKind.u8.wrap ((shrI .i64 (((List.map (eInt .u8) body).length : Nat) : Int) 8))), (IntKind.u8.wrap ((((List.map (eInt .u8) body).length : Nat) : Int)))] ++ body)))).bind fun y5 => (some (.inl (.s1 y5 24 ([247, kind, (IntKind.u8.wrap ((shrI .i64 (((List.map (eInt .u8) body).length : Nat) : Int) 8))), (IntKind.u8.wrap ((((List.map (eInt .u8) body).length : Nat) : Int)))] ++ body))))) else none) else none) else none))
noncomputable def frame_Put_1 (sum : Int) (shift : Int) (b : List Int) : Option (frame_Put_S ⊕ ((List Int) × Int)) := (bif (decide ((shift : Int) ≥ 0)) then (bif (!decide ((shift : Int) < 0)) then (bif (decide (((List.map (eInt .u8) b).length + 1) * 1 ≤ bytesLim)) then (some (.inl (.s1 sum (IntKind.i64.wrap (shift - 8)) (b ++ [(IntKind.u8.wrap ((shrI .u32 sum shift)))])))) else none) else none) else (some (.inr (b, 0))))
noncomputable def frame_Put_step : frame_Put_S → Option (frame_Put_S ⊕ ((List Int) × Int))
  | .s0 kind body => frame_Put_0 kind body
  | .s1 sum shift b => frame_Put_1 sum shift b
theorem frame_Put_0_ok {kind : Int} {body : List Int} {r : (List Int) × Int} {x : frame_Put_S ⊕ ((List Int) × Int)} (h : frame_Put_0 kind body = some x) (ha : After E (Cx.of Tryd.f22 false 0) frame_Put_Q frame_Put_M r x) : FinQ E (Cx.of Tryd.f22 false 0) (QW (frame_Put_Q r)) (.go (frame_Put_M (.s0 kind body))) := by
  unfold frame_Put_0 at h
  refine adv_ok hm 18 _ ?_
  refine p_split h (by kernel_rfl) (fun h1 h => ?_) (fun h1 h => ?_)
  · -- true
    refine adv_ok hm 6 _ ?_
    obtain rfl := Option.some.inj h
    have hv := ha
    simp only [After] at hv
    subst hv
    exact r_retF [.slot 0 [some 1]] (d := D.tup [D.sl false 1 [], D.int .i64 2]) (s := []) (by kernel_rfl) Cx.fin_of ⟨rfl, rfl⟩
  · -- false
    refine adv_ok hm 13 _ ?_
    refine p_need h (by kernel_rfl) (fun h2 h => ?_)
    refine adv_ok hm 1 _ ?_
    refine r_rows ((List.map (eInt .u8) ([247, kind, (IntKind.u8.wrap ((shrI .i64 (((List.map (eInt .u8) body).length : Nat) : Int) 8))), (IntKind.u8.wrap ((((List.map (eInt .u8) body).length : Nat) : Int)))])) ++ (List.map (eInt .u8) body)) (List.map (eInt .u8) ([247, kind, (IntKind.u8.wrap ((shrI .i64 (((List.map (eInt .u8) body).length : Nat) : Int) 8))), (IntKind.u8.wrap ((((List.map (eInt .u8) body).length : Nat) : Int)))] ++ body)) (by kernel_rfl) (by simp only [take_full, take_full', List.map_append]) ?_
    refine adv_ok hm 6 _ ?_
    refine p_need h (by kernel_rfl) (fun h3 h => ?_)
    refine adv_ok hm 1 _ ?_
    refine p_need h (by kernel_rfl) (fun h4 h => ?_)
    have ok5 := fun (y : Int) (hy : crc_Sum (List.take ((List.map (eInt .u8) ([247, kind, (IntKind.u8.wrap ((shrI .i64 (((List.map (eInt .u8) body).length : Nat) : Int) 8))), (IntKind.u8.wrap ((((List.map (eInt .u8) body).length : Nat) : Int)))] ++ body)).length - 1) (List.drop 1 ([247, kind, (IntKind.u8.wrap ((shrI .i64 (((List.map (eInt .u8) body).length : Nat) : Int) 8))), (IntKind.u8.wrap ((((List.map (eInt .u8) body).length : Nat) : Int)))] ++ body))) = some y) => crc_Sum_ok hy
    refine p_callS [] (args1 := [D.sl false 1 (List.take ((List.map (eInt .u8) ([247, kind, (IntKind.u8.wrap ((shrI .i64 (((List.map (eInt .u8) body).length : Nat) : Int) 8))), (IntKind.u8.wrap ((((List.map (eInt .u8) body).length : Nat) : Int)))] ++ body)).length - 1) (List.drop 1 (List.map (eInt .u8) ([247, kind, (IntKind.u8.wrap ((shrI .i64 (((List.map (eInt .u8) body).length : Nat) : Int) 8))), (IntKind.u8.wrap ((((List.map (eInt .u8) body).length : Nat) : Int)))] ++ body))))]) h (by kernel_rfl) ⟨by simp [List.take_of_length_le, List.map_take, List.map_drop, Msg.enc, Plan.enc, reader.enc, place.enc], rfl⟩ ok5 (fun y5 h5 h => ?_)
    refine adv_ok hm 10 _ ?_
    obtain rfl := Option.some.inj h
    exact r_to (q' := .go (frame_Put_M (.s1 y5 24 ([247, kind, (IntKind.u8.wrap ((shrI .i64 (((List.map (eInt .u8) body).length : Nat) : Int) 8))), (IntKind.u8.wrap ((((List.map (eInt .u8) body).length : Nat) : Int)))] ++ body)))) (by kernel_rfl) ha
theorem frame_Put_1_ok {sum : Int} {shift : Int} {b : List Int} {r : (List Int) × Int} {x : frame_Put_S ⊕ ((List Int) × Int)} (h : frame_Put_1 sum shift b = some x) (ha : After E (Cx.of Tryd.f22 false 0) frame_Put_Q frame_Put_M r x) : FinQ E (Cx.of Tryd.f22 false 0) (QW (frame_Put_Q r)) (.go (frame_Put_M (.s1 sum shift b))) := by
  unfold frame_Put_1 at h
  refine adv_ok hm 8 _ ?_
  refine p_split h (by kernel_rfl) (fun h1 h => ?_) (fun h1 h => ?_)
  · -- true
    refine adv_ok hm 8 _ ?_
    refine p_need h (by kernel_rfl) (fun h2 h => ?_)
    refine adv_ok hm 4 _ ?_
    refine p_need h (by kernel_rfl) (fun h3 h => ?_)
    refine r_needT (b := (Nat.ble (0 + (List.map (eInt .u8) b).length) ((List.map (eInt .u8) b).length))) (by kernel_rfl) (ble_full _) ?_
    refine r_rows (List.take ((List.map (eInt .u8) b).length) (List.drop 0 (List.map (eInt .u8) b)) ++ (List.map (eInt .u8) ([(IntKind.u8.wrap ((shrI .u32 sum shift)))]))) (List.map (eInt .u8) (b ++ [(IntKind.u8.wrap ((shrI .u32 sum shift)))])) (by kernel_rfl) (rows_app _ _ _) ?_
    refine adv_ok hm 9 _ ?_
    obtain rfl := Option.some.inj h
    exact r_to (q' := .go (frame_Put_M (.s1 sum (IntKind.i64.wrap (shift - 8)) (b ++ [(IntKind.u8.wrap ((shrI .u32 sum shift)))])))) (by kernel_rfl) ha
  · -- false
    refine adv_ok hm 8 _ ?_
    refine r_needT (b := (Nat.ble (0 + (List.map (eInt .u8) b).length) ((List.map (eInt .u8) b).length))) (by kernel_rfl) (ble_full _) ?_
    obtain rfl := Option.some.inj h
    have hv := ha
    simp only [After] at hv
    subst hv
    exact r_retE [] (d1 := D.tup [D.sl false 1 (List.take ((List.map (eInt .u8) b).length) (List.drop 0 (List.map (eInt .u8) b))), D.int .i64 0]) (d := D.tup [D.sl false 1 (List.map (eInt .u8) b), D.int .i64 0]) (s1 := []) (s := []) (by kernel_rfl) ⟨by simp [List.take_of_length_le, List.map_take, List.map_drop], rfl⟩ ⟨rfl, rfl⟩ Cx.fin_of
theorem frame_Put_ev {kind : Int} {body : List Int} {r : (List Int) × Int} (h : Ev frame_Put_step (.s0 kind body) r) : Sound E 22 [D.int .u8 kind, D.sl false 1 (List.map (eInt .u8) body)] [] (frame_Put_Q r) :=
  sound_ofW (m := frame_Put_M (.s0 kind body)) (fn := Tryd.f22) (by kernel_rfl) (by kernel_rfl) (ev_run (C := (Cx.of Tryd.f22 false 0)) (fun s x r hs ha => by
    cases s with
    | s0 => exact frame_Put_0_ok hs ha
    | s1 => exact frame_Put_1_ok hs ha) h)
noncomputable def frame_Put (kind : Int) (body : List Int) : Option ((List Int) × Int) := evf frame_Put_step (.s0 kind body)
theorem frame_Put_ok {kind : Int} {body : List Int} {r : (List Int) × Int} (h : frame_Put kind body = some r) : Sound E 22 [D.int .u8 kind, D.sl false 1 (List.map (eInt .u8) body)] [] (frame_Put_Q r) := frame_Put_ev (evf_ev h)
end Go.RX.L

set_option linter.unusedSimpArgs false
set_option linter.unusedVariables false
set_option maxRecDepth 100000
set_option maxHeartbeats 4000000
namespace Go.RX.L
open Go Go.RX Go.Proofs
attribute [local irreducible] FinQ
def bytes_Clone_Q (y : List Int) (d : D) (s : Sto) : Prop := d = D.msl 0 0 ((List.map (eInt .u8) y).length) ((List.map (eInt .u8) y).length) false ∧ s = [some { sz := 1, deep := false, rows := (List.map (eInt .u8) y) }]
noncomputable def bytes_Clone (b : List Int) : Option (List Int) := (bif (decide ((0 + (List.map (eInt .u8) b).length) * 1 ≤ bytesLim)) then (some b) else none)
theorem bytes_Clone_ok {b : List Int} {r : List Int} (h : bytes_Clone b = some r) : Sound E 59 [D.sl false 1 (List.map (eInt .u8) b)] [] (bytes_Clone_Q r) := by
  refine sound_ofW (m := ⟨[.code (bodyOf Tryd.f59)], [(0, D.sl false 1 (List.map (eInt .u8) b))], []⟩) (fn := Tryd.f59) (by kernel_rfl) (by kernel_rfl) ?_
  show FinQ E (Cx.of Tryd.f59 true 0) (QW (bytes_Clone_Q r)) _
  unfold bytes_Clone at h
  refine adv_ok hm 9 _ ?_
  refine r_any (List.isEmpty (List.map (eInt .u8) b)) (by kernel_rfl) ?_ (fun h1 => ?_)
  · -- it is not nil
    refine adv_ok hm 9 _ ?_
    refine p_need h (by kernel_rfl) (fun h2 h => ?_)
    refine adv_ok hm 1 _ ?_
    refine r_rows (List.map (eInt .u8) b) (List.map (eInt .u8) b) (by kernel_rfl) (rfl) ?_
    refine adv_ok hm 3 _ ?_
    obtain rfl := Option.some.inj h
    exact r_retF [] (d := D.msl 0 0 ((List.map (eInt .u8) b).length) ((List.map (eInt .u8) b).length) false) (s := [some { sz := 1, deep := false, rows := (List.map (eInt .u8) b) }]) (by kernel_rfl) Cx.fin_of ⟨rfl, rfl⟩
  · -- nil
    obtain rfl : b = [] := by simpa using h1
    simp [bytesLim] at h
    subst h
    refine adv_ok hm 8 _ ?_
    exact r_retF [.mat 0 1] (d := D.msl 0 0 0 0 false) (s := [some { sz := 1, deep := false, rows := [] }]) (by kernel_rfl) Cx.fin_of ⟨rfl, rfl⟩
end Go.RX.L

set_option linter.unusedSimpArgs false
set_option linter.unusedVariables false
set_option maxRecDepth 100000
set_option maxHeartbeats 4000000
namespace Go.RX.L
open Go Go.RX Go.Proofs
attribute [local irreducible] FinQ
def frame_number_Q (y : Int) (d : D) (s : Sto) : Prop := d = D.int .i64 y ∧ s = []
inductive frame_number_S where
  | s0 (b : List Int)
  | s1 (n : Int) (t6 : List Int) (t7 : Int) (t8 : Int)
noncomputable def frame_number_M : frame_number_S → M
  | .s0 b => ⟨[.code (bodyOf Tryd.f58)], [(0, D.sl false 1 (List.map (eInt .u8) b))], []⟩
  | .s1 n t6 t7 t8 => { td := [It.lpc (codeAt (bodyOf Tryd.f58) [1, 1, 0, 1, 0, 0]) 456, It.blk 0, It.code (codeAt (bodyOf Tryd.f58) [1, 1, 1])], fr := [(3, D.int .i64 n), (6, D.sl false 1 (List.map (eInt .u8) t6)), (7, D.int .i64 t7), (8, D.int .i64 t8)], st := [] }
noncomputable def frame_number_0 (b : List Int) : Option (frame_number_S ⊕ Int) := (some (.inl (.s1 0 b (((List.map (eInt .u8) b).length : Nat) : Int) 0)))
noncomputable def frame_number_1 (n : Int) (t6 : List Int) (t7 : Int) (t8 : Int) : Option (frame_number_S ⊕ Int) := (bif (decide ((t8 : Int) < t7)) then (bif ((decide ((0 : Int) ≤ t8)) && (decide ((t8 : Int) < (((List.map (eInt .u8) t6).length : Nat) : Int)))) then (((t6)[t8.toNat]?).bind fun y3 => (some (.inl (.s1 (IntKind.i64.wrap ((shlI .i64 n 8) + (IntKind.i64.wrap (y3)))) t6 t7 (IntKind.i64.wrap (t8 + 1)))))) else none) else (some (.inr n)))
noncomputable def frame_number_step : frame_number_S → Option (frame_number_S ⊕ Int)
  | .s0 b => frame_number_0 b
  | .s1 n t6 t7 t8 => frame_number_1 n t6 t7 t8
theorem frame_number_0_ok {b : List Int} {r : Int} {x : frame_number_S ⊕ Int} (h : frame_number_0 b = some x) (ha : After E (Cx.of Tryd.f58 false 0) frame_number_Q frame_number_M r x) : FinQ E (Cx.of Tryd.f58 false 0) (QW (frame_number_Q r)) (.go (frame_number_M (.s0 b))) := by
  unfold frame_number_0 at h
  refine adv_ok hm 18 _ ?_
  obtain rfl := Option.some.inj h
  exact r_to (q' := .go (frame_number_M (.s1 0 b (((List.map (eInt .u8) b).length : Nat) : Int) 0))) (by kernel_rfl) ha
theorem frame_number_1_ok {n : Int} {t6 : List Int} {t7 : Int} {t8 : Int} {r : Int} {x : frame_number_S ⊕ Int} (h : frame_number_1 n t6 t7 t8 = some x) (ha : After E (Cx.of Tryd.f58 false 0) frame_number_Q frame_number_M r x) : FinQ E (Cx.of Tryd.f58 false 0) (QW (frame_number_Q r)) (.go (frame_number_M (.s1 n t6 t7 t8))) := by
  unfold frame_number_1 at h
  refine adv_ok hm 7 _ ?_
  refine p_split h (by kernel_rfl) (fun h1 h => ?_) (fun h1 h => ?_)
  · -- true
    refine adv_ok hm 6 _ ?_
    refine p_need h (by kernel_rfl) (fun h2 h => ?_)
    refine adv_ok hm 1 _ ?_
    refine p_row (((List.map (eInt .u8) t6))[t8.toNat]?) (eInt .u8) h (by kernel_rfl) List.getElem?_map (fun y3 h4 h => ?_)
    refine adv_ok hm 17 _ ?_
    obtain rfl := Option.some.inj h
    exact r_to (q' := .go (frame_number_M (.s1 (IntKind.i64.wrap ((shlI .i64 n 8) + (IntKind.i64.wrap (y3)))) t6 t7 (IntKind.i64.wrap (t8 + 1))))) (by kernel_rfl) ha
  · -- false
    refine adv_ok hm 7 _ ?_
    obtain rfl := Option.some.inj h
    have hv := ha
    simp only [After] at hv
    subst hv
    exact r_retF [] (d := D.int .i64 n) (s := []) (by kernel_rfl) Cx.fin_of ⟨rfl, rfl⟩
theorem frame_number_ev {b : List Int} {r : Int} (h : Ev frame_number_step (.s0 b) r) : Sound E 58 [D.sl false 1 (List.map (eInt .u8) b)] [] (frame_number_Q r) :=
  sound_ofW (m := frame_number_M (.s0 b)) (fn := Tryd.f58) (by kernel_rfl) (by kernel_rfl) (ev_run (C := (Cx.of Tryd.f58 false 0)) (fun s x r hs ha => by
    cases s with
    | s0 => exact frame_number_0_ok hs ha
    | s1 => exact frame_number_1_ok hs ha) h)
noncomputable def frame_number (b : List Int) : Option Int := evf frame_number_step (.s0 b)
theorem frame_number_ok {b : List Int} {r : Int} (h : frame_number b = some r) : Sound E 58 [D.sl false 1 (List.map (eInt .u8) b)] [] (frame_number_Q r) := frame_number_ev (evf_ev h)
end Go.RX.L

set_option linter.unusedSimpArgs false
set_option linter.unusedVariables false
set_option maxRecDepth 100000
set_option maxHeartbeats 4000000
namespace Go.RX.L
open Go Go.RX Go.Proofs
attribute [local irreducible] FinQ
def frame_Get_Q (y : Int × (List Int) × Int × Int) (d : D) (s : Sto) : Prop := d = D.tup [D.int .u8 y.1, D.sl false 1 (List.map (eInt .u8) y.2.1), D.int .i64 y.2.2.1, D.int .i64 y.2.2.2] ∧ s = []
noncomputable def frame_Get_2M (at_ : Int) (e : Int) (n : Int) (rest : List Int) : M := { td := [It.code (codeAt (bodyOf Tryd.f34) [1, 1, 1, 1, 1])], fr := [(1, D.int .i64 at_), (8, D.int .i64 e), (9, D.int .i64 n), (10, D.sl false 1 (List.map (eInt .u8) rest))], st := [] }
noncomputable def frame_Get_2 (at_ : Int) (e : Int) (n : Int) (rest : List Int) : Option (Int × (List Int) × Int × Int) := (bif ((e : Int) != 0) then (some (0, [], 0, e)) else (bif (decide ((1 : Int) < (((List.map (eInt .u8) rest).length : Nat) : Int))) then (((rest)[1]?).bind fun y3 => (bif ((decide (((0 : Nat) : Int) ≤ (IntKind.i64.wrap ((4 : Int) + n)))) && (decide (((IntKind.i64.wrap ((4 : Int) + n)) : Int) ≤ (((List.map (eInt .u8) rest).length : Nat) : Int)))) then (bif (decide ((4 : Int) ≤ (((IntKind.i64.wrap ((4 : Int) + n)).toNat : Nat) : Int))) then ((bytes_Clone (List.drop 4 (List.take ((IntKind.i64.wrap ((4 : Int) + n)).toNat) rest))).bind fun y7 => (some (y3, y7, (IntKind.i64.wrap ((IntKind.i64.wrap ((IntKind.i64.wrap (at_ + 4)) + n)) + 4)), 0))) else none) else none)) else none))
theorem frame_Get_2_ok {at_ : Int} {e : Int} {n : Int} {rest : List Int} {r : Int × (List Int) × Int × Int} (h : frame_Get_2 at_ e n rest = some r) : FinQ E (Cx.of Tryd.f34 false 0) (QW (frame_Get_Q r)) (.go (frame_Get_2M at_ e n rest)) := by
  unfold frame_Get_2 at h
  refine adv_ok hm 7 _ ?_
  refine p_split h (by kernel_rfl) (fun h1 h => ?_) (fun h1 h => ?_)
  · -- true
    refine adv_ok hm 9 _ ?_
    obtain rfl := Option.some.inj h
    exact r_retF [.slot 0 [some 1]] (d := D.tup [D.int .u8 0, D.sl false 1 [], D.int .i64 0, D.int .i64 e]) (s := []) (by kernel_rfl) Cx.fin_of ⟨rfl, rfl⟩
  · -- false
    refine adv_ok hm 3 _ ?_
    refine p_need h (by kernel_rfl) (fun h2 h => ?_)
    refine p_row (((List.map (eInt .u8) rest))[1]?) (eInt .u8) h (by kernel_rfl) List.getElem?_map (fun y3 h4 h => ?_)
    refine p_need h (by kernel_rfl) (fun h5 h => ?_)
    refine p_need h (by kernel_rfl) (fun h6 h => ?_)
    refine r_rows (List.drop 4 (List.take ((IntKind.i64.wrap ((4 : Int) + n)).toNat) (List.map (eInt .u8) rest))) (List.map (eInt .u8) (List.drop 4 (List.take ((IntKind.i64.wrap ((4 : Int) + n)).toNat) rest))) (by kernel_rfl) (rows_cut _ _ _ _) ?_
    have ok7 := fun (y : List Int) (hy : bytes_Clone (List.drop 4 (List.take ((IntKind.i64.wrap ((4 : Int) + n)).toNat) rest)) = some y) => bytes_Clone_ok hy
    refine p_callR [] h (by kernel_rfl) ok7 (fun y7 h7 h => ?_)
    refine adv_ok hm 1 _ ?_
    refine r_needT (b := (Nat.ble (0 + (List.map (eInt .u8) y7).length) ((List.map (eInt .u8) y7).length))) (by kernel_rfl) (ble_full _) ?_
    obtain rfl := Option.some.inj h
    exact r_retE [] (d1 := D.tup [D.int .u8 y3, D.sl false 1 (List.take ((List.map (eInt .u8) y7).length) (List.drop 0 (List.map (eInt .u8) y7))), D.int .i64 (IntKind.i64.wrap ((IntKind.i64.wrap ((IntKind.i64.wrap (at_ + 4)) + n)) + 4)), D.int .i64 0]) (d := D.tup [D.int .u8 y3, D.sl false 1 (List.map (eInt .u8) y7), D.int .i64 (IntKind.i64.wrap ((IntKind.i64.wrap ((IntKind.i64.wrap (at_ + 4)) + n)) + 4)), D.int .i64 0]) (s1 := []) (s := []) (by kernel_rfl) ⟨by simp [List.take_of_length_le, List.map_take, List.map_drop], rfl⟩ ⟨rfl, rfl⟩ Cx.fin_of
noncomputable def frame_Get_3M (at_ : Int) (rest : List Int) (t48 : Bool) : M := { td := [It.code (codeAt (bodyOf Tryd.f34) [1, 1, 1, 1, 0, 0, 1]), It.blk 0, It.code (codeAt (bodyOf Tryd.f34) [1, 1, 1, 1, 1])], fr := [(1, D.int .i64 at_), (8, D.int .i64 0), (9, D.int .i64 0), (10, D.sl false 1 (List.map (eInt .u8) rest)), (48, D.bool t48)], st := [] }
noncomputable def frame_Get_3 (at_ : Int) (rest : List Int) (t48 : Bool) : Option (Int × (List Int) × Int × Int) := (bif t48 then (frame_Get_2 at_ 32 0 rest) else (bif (decide (((((List.map (eInt .u8) rest).length : Nat) : Int) : Int) < 8)) then (frame_Get_2 at_ 31 0 rest) else (bif (decide ((4 : Int) ≤ (((List.map (eInt .u8) rest).length : Nat) : Int))) then ((frame_number (List.drop 2 (List.take 4 rest))).bind fun y4 => (bif (decide ((y4 : Int) > 8192)) then (frame_Get_2 at_ 2 y4 rest) else (bif (decide ((y4 : Int) > (IntKind.i64.wrap ((IntKind.i64.wrap ((((List.map (eInt .u8) rest).length : Nat) : Int) - 4)) - 4)))) then (frame_Get_2 at_ 31 y4 rest) else (bif ((decide (((0 : Nat) : Int) ≤ (IntKind.i64.wrap ((4 : Int) + y4)))) && (decide (((IntKind.i64.wrap ((4 : Int) + y4)) : Int) ≤ (((List.map (eInt .u8) rest).length : Nat) : Int)))) then (bif (decide ((1 : Int) ≤ (((IntKind.i64.wrap ((4 : Int) + y4)).toNat : Nat) : Int))) then ((crc_Sum (List.drop 1 (List.take ((IntKind.i64.wrap ((4 : Int) + y4)).toNat) rest))).bind fun y9 => (bif ((decide (((0 : Nat) : Int) ≤ (IntKind.i64.wrap ((IntKind.i64.wrap ((4 : Int) + y4)) + 4)))) && (decide (((IntKind.i64.wrap ((IntKind.i64.wrap ((4 : Int) + y4)) + 4)) : Int) ≤ (((List.map (eInt .u8) rest).length : Nat) : Int)))) then (bif ((decide (((0 : Nat) : Int) ≤ (IntKind.i64.wrap ((4 : Int) + y4)))) && (decide (((IntKind.i64.wrap ((4 : Int) + y4)) : Int) ≤ (((IntKind.i64.wrap ((IntKind.i64.wrap ((4 : Int) + y4)) + 4)).toNat : Nat) : Int)))) then ((frame_number (List.drop ((IntKind.i64.wrap ((4 : Int) + y4)).toNat) (List.take ((IntKind.i64.wrap ((IntKind.i64.wrap ((4 : Int) + y4)) + 4)).toNat) rest))).bind fun y12 => (bif (((IntKind.i64.wrap (y9)) : Int) != y12) then (frame_Get_2 at_ 33 y4 rest) else (frame_Get_2 at_ 0 y4 rest))) else none) else none)) else none) else none)))) else none)))
theorem frame_Get_3_ok {at_ : Int} {rest : List Int} {t48 : Bool} {r : Int × (List Int) × Int × Int} (h : frame_Get_3 at_ rest t48 = some r) : FinQ E (Cx.of Tryd.f34 false 0) (QW (frame_Get_Q r)) (.go (frame_Get_3M at_ rest t48)) := by
  unfold frame_Get_3 at h
  refine adv_ok hm 1 _ ?_
  refine p_split h (by kernel_rfl) (fun h1 h => ?_) (fun h1 h => ?_)
  · -- true
    refine adv_ok hm 4 _ ?_
    exact r_cut 1794 [] (m' := (frame_Get_2M at_ 32 0 rest)) (by kernel_rfl) (frame_Get_2_ok h)
  · -- false
    refine adv_ok hm 8 _ ?_
    refine p_split h (by kernel_rfl) (fun h2 h => ?_) (fun h2 h => ?_)
    · -- true
      refine adv_ok hm 4 _ ?_
      exact r_cut 1794 [] (m' := (frame_Get_2M at_ 31 0 rest)) (by kernel_rfl) (frame_Get_2_ok h)
    · -- false
      refine adv_ok hm 4 _ ?_
      refine p_need h (by kernel_rfl) (fun h3 h => ?_)
      refine adv_ok hm 1 _ ?_
      refine r_rows (List.drop 2 (List.take 4 (List.map (eInt .u8) rest))) (List.map (eInt .u8) (List.drop 2 (List.take 4 rest))) (by kernel_rfl) (rows_cut _ _ _ _) ?_
      refine adv_ok hm 1 _ ?_
      have ok4 := fun (y : Int) (hy : frame_number (List.drop 2 (List.take 4 rest)) = some y) => frame_number_ok hy
      refine p_callR [] h (by kernel_rfl) ok4 (fun y4 h4 h => ?_)
      refine adv_ok hm 8 _ ?_
      refine p_split h (by kernel_rfl) (fun h5 h => ?_) (fun h5 h => ?_)
      · -- true
        refine adv_ok hm 4 _ ?_
        exact r_cut 1794 [] (m' := (frame_Get_2M at_ 2 y4 rest)) (by kernel_rfl) (frame_Get_2_ok h)
      · -- false
        refine adv_ok hm 10 _ ?_
        refine p_split h (by kernel_rfl) (fun h6 h => ?_) (fun h6 h => ?_)
        · -- true
          refine adv_ok hm 4 _ ?_
          exact r_cut 1794 [] (m' := (frame_Get_2M at_ 31 y4 rest)) (by kernel_rfl) (frame_Get_2_ok h)
        · -- false
          refine adv_ok hm 2 _ ?_
          refine p_need h (by kernel_rfl) (fun h7 h => ?_)
          refine p_need h (by kernel_rfl) (fun h8 h => ?_)
          refine r_rows (List.drop 1 (List.take ((IntKind.i64.wrap ((4 : Int) + y4)).toNat) (List.map (eInt .u8) rest))) (List.map (eInt .u8) (List.drop 1 (List.take ((IntKind.i64.wrap ((4 : Int) + y4)).toNat) rest))) (by kernel_rfl) (rows_cut _ _ _ _) ?_
          have ok9 := fun (y : Int) (hy : crc_Sum (List.drop 1 (List.take ((IntKind.i64.wrap ((4 : Int) + y4)).toNat) rest)) = some y) => crc_Sum_ok hy
          refine p_callDR [] h (by kernel_rfl) ok9 (fun y9 h9 h => ?_)
          refine p_need h (by kernel_rfl) (fun h10 h => ?_)
          refine p_need h (by kernel_rfl) (fun h11 h => ?_)
          refine r_rows (List.drop ((IntKind.i64.wrap ((4 : Int) + y4)).toNat) (List.take ((IntKind.i64.wrap ((IntKind.i64.wrap ((4 : Int) + y4)) + 4)).toNat) (List.map (eInt .u8) rest))) (List.map (eInt .u8) (List.drop ((IntKind.i64.wrap ((4 : Int) + y4)).toNat) (List.take ((IntKind.i64.wrap ((IntKind.i64.wrap ((4 : Int) + y4)) + 4)).toNat) rest))) (by kernel_rfl) (rows_cut _ _ _ _) ?_
          have ok12 := fun (y : Int) (hy : frame_number (List.drop ((IntKind.i64.wrap ((4 : Int) + y4)).toNat) (List.take ((IntKind.i64.wrap ((IntKind.i64.wrap ((4 : Int) + y4)) + 4)).toNat) rest)) = some y) => frame_number_ok hy
          refine p_callDR [] h (by kernel_rfl) ok12 (fun y12 h12 h => ?_)
          refine adv_ok hm 1 _ ?_
          refine p_split h (by kernel_rfl) (fun h13 h => ?_) (fun h13 h => ?_)
          · -- true
            refine adv_ok hm 4 _ ?_
            exact r_cut 1794 [] (m' := (frame_Get_2M at_ 33 y4 rest)) (by kernel_rfl) (frame_Get_2_ok h)
          · -- false
            refine adv_ok hm 2 _ ?_
            exact r_cut 1794 [] (m' := (frame_Get_2M at_ 0 y4 rest)) (by kernel_rfl) (frame_Get_2_ok h)
noncomputable def frame_Get_1M (b : List Int) (at_ : Int) (t18 : Bool) : M := { td := [It.code (codeAt (bodyOf Tryd.f34) [1, 0, 1]), It.code (codeAt (bodyOf Tryd.f34) [1, 1])], fr := [(0, D.sl false 1 (List.map (eInt .u8) b)), (1, D.int .i64 at_), (18, D.bool t18)], st := [] }
noncomputable def frame_Get_1 (b : List Int) (at_ : Int) (t18 : Bool) : Option (Int × (List Int) × Int × Int) := (bif t18 then (some (0, [], 0, 1)) else (bif ((decide (((0 : Nat) : Int) ≤ at_)) && (decide ((at_ : Int) ≤ (((List.map (eInt .u8) b).length : Nat) : Int)))) then (bif (decide (((((List.map (eInt .u8) (List.drop at_.toNat (List.take ((List.map (eInt .u8) b).length) b))).length : Nat) : Int) : Int) > 0)) then (bif (decide ((0 : Int) < (((List.map (eInt .u8) (List.drop at_.toNat (List.take ((List.map (eInt .u8) b).length) b))).length : Nat) : Int))) then ((((List.drop at_.toNat (List.take ((List.map (eInt .u8) b).length) b)))[0]?).bind fun y5 => (frame_Get_3 at_ (List.drop at_.toNat (List.take ((List.map (eInt .u8) b).length) b)) ((y5 : Int) != 247))) else none) else (frame_Get_3 at_ (List.drop at_.toNat (List.take ((List.map (eInt .u8) b).length) b)) false)) else none))
theorem frame_Get_1_ok {b : List Int} {at_ : Int} {t18 : Bool} {r : Int × (List Int) × Int × Int} (h : frame_Get_1 b at_ t18 = some r) : FinQ E (Cx.of Tryd.f34 false 0) (QW (frame_Get_Q r)) (.go (frame_Get_1M b at_ t18)) := by
  unfold frame_Get_1 at h
  refine adv_ok hm 1 _ ?_
  refine p_split h (by kernel_rfl) (fun h1 h => ?_) (fun h1 h => ?_)
  · -- true
    refine adv_ok hm 8 _ ?_
    obtain rfl := Option.some.inj h
    exact r_retF [.slot 0 [some 1]] (d := D.tup [D.int .u8 0, D.sl false 1 [], D.int .i64 0, D.int .i64 1]) (s := []) (by kernel_rfl) Cx.fin_of ⟨rfl, rfl⟩
  · -- false
    refine adv_ok hm 11 _ ?_
    refine p_need h (by kernel_rfl) (fun h2 h => ?_)
    refine r_rows (List.drop at_.toNat (List.take ((List.map (eInt .u8) b).length) (List.map (eInt .u8) b))) (List.map (eInt .u8) (List.drop at_.toNat (List.take ((List.map (eInt .u8) b).length) b))) (by kernel_rfl) (rows_cut _ _ _ _) ?_
    refine adv_ok hm 11 _ ?_
    refine p_split h (by kernel_rfl) (fun h3 h => ?_) (fun h3 h => ?_)
    · -- true
      refine adv_ok hm 2 _ ?_
      refine p_need h (by kernel_rfl) (fun h4 h => ?_)
      refine adv_ok hm 2 _ ?_
      refine p_row (((List.map (eInt .u8) (List.drop at_.toNat (List.take ((List.map (eInt .u8) b).length) b))))[0]?) (eInt .u8) h (by kernel_rfl) List.getElem?_map (fun y5 h6 h => ?_)
      refine adv_ok hm 6 _ ?_
      exact r_cut 281474976712450 [] (m' := (frame_Get_3M at_ (List.drop at_.toNat (List.take ((List.map (eInt .u8) b).length) b)) ((y5 : Int) != 247))) (by kernel_rfl) (frame_Get_3_ok h)
    · -- false
      refine adv_ok hm 10 _ ?_
      exact r_cut 281474976712450 [] (m' := (frame_Get_3M at_ (List.drop at_.toNat (List.take ((List.map (eInt .u8) b).length) b)) false)) (by kernel_rfl) (frame_Get_3_ok h)
noncomputable def frame_Get (b : List Int) (at_ : Int) : Option (Int × (List Int) × Int × Int) := (bif (decide ((at_ : Int) < 0)) then (frame_Get_1 b at_ true) else (frame_Get_1 b at_ (decide ((at_ : Int) > (((List.map (eInt .u8) b).length : Nat) : Int)))))
theorem frame_Get_ok {b : List Int} {at_ : Int} {r : Int × (List Int) × Int × Int} (h : frame_Get b at_ = some r) : Sound E 34 [D.sl false 1 (List.map (eInt .u8) b), D.int .i64 at_] [] (frame_Get_Q r) := by
  refine sound_ofW (m := ⟨[.code (bodyOf Tryd.f34)], [(0, D.sl false 1 (List.map (eInt .u8) b)), (1, D.int .i64 at_)], []⟩) (fn := Tryd.f34) (by kernel_rfl) (by kernel_rfl) ?_
  show FinQ E (Cx.of Tryd.f34 false 0) (QW (frame_Get_Q r)) _
  unfold frame_Get at h
  refine adv_ok hm 14 _ ?_
  refine p_split h (by kernel_rfl) (fun h1 h => ?_) (fun h1 h => ?_)
  · -- true
    refine adv_ok hm 9 _ ?_
    exact r_cut 262147 [] (m' := (frame_Get_1M b at_ true)) (by kernel_rfl) (frame_Get_1_ok h)
  · -- false
    refine adv_ok hm 9 _ ?_
    exact r_cut 262147 [] (m' := (frame_Get_1M b at_ (decide ((at_ : Int) > (((List.map (eInt .u8) b).length : Nat) : Int))))) (by kernel_rfl) (frame_Get_1_ok h)
end Go.RX.L
