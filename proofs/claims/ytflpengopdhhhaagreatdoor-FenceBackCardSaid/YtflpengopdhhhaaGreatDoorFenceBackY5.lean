/-
  Words and walks for FenceBack. No condition.
-/
import Derived.Test.YtflpengopdhhhaaGreatDoorFenceBackY4
set_option linter.unusedSectionVars false
set_option linter.unnecessarySimpa false
set_option linter.unusedSimpArgs false
set_option linter.unusedVariables false
set_option maxRecDepth 100000
set_option maxHeartbeats 4000000
namespace Go.RX.L
open Go Go.RX Go.Proofs
attribute [local irreducible] FinQ
noncomputable def slices_ContainsFunc__same_e (y : Bool) : D × Sto := (.bool y, [])
noncomputable def slices_ContainsFunc__same (s_ : List (List Int)) (f : Msg) : Option Bool := ((slices_IndexFunc__same s_ f).bind fun y1 => (some (decide ((y1 : Int) ≥ 0))))
theorem slices_ContainsFunc__same_ok {s_ : List (List Int)} {f : Msg} {r : Bool} (h : slices_ContainsFunc__same s_ f = some r) : Sound E 62 [.sl false 1 (List.map (eSl 1 (eInt .i64)) s_), .fn 58 [] [.iptr 26 [[.int .i64 f.Kind, .int .i64 f.From, .int .i64 f.To, .int .i64 f.Epoch, .int .i64 f.Ballot, .int .i64 f.Accepted, .int .i64 f.Nonce, .int .i64 f.Time, .int .u64 f.Up, .int .i64 f.Code, .bool f.HasPlan, .int .i64 f.Plan.Epoch, .int .i64 f.Plan.Target, .int .i64 f.Plan.Prev, .int .i64 f.Plan.Spill, .int .i64 f.Plan.Percent, .int .i64 f.Plan.Stamp, .int .i64 f.Plan.Since, .int .i64 f.Plan.Ramped, .int .u64 f.Plan.Up, .int .u64 f.Plan.Sup, .sl false 1 (List.map (eInt .i64) f.Plan.Pen), .sl false 1 (List.map (eInt .i64) f.Plan.Changes), .sl false 1 (List.map (eInt .i64) f.ID), .sl false 1 (List.map (eInt .u8) f.Session), .sl false 1 (List.map (eInt .u8) f.Payload)]] 0 0]] [] (Rs slices_ContainsFunc__same_e r) := so (fn := Tryz.f62) (k := false) (m := 0) h <| by
 intro r h; unfold slices_ContainsFunc__same at h
 refine adv_ok hm 9 _ ?_
 have ok1 := fun (y : Int) (hy : slices_IndexFunc__same s_ f = some y) => @Eq.mp (Sound E 85 [.sl false 1 (List.map (eSl 1 (eInt .i64)) s_), .fn 58 [] [.iptr 26 [[.int .i64 f.Kind, .int .i64 f.From, .int .i64 f.To, .int .i64 f.Epoch, .int .i64 f.Ballot, .int .i64 f.Accepted, .int .i64 f.Nonce, .int .i64 f.Time, .int .u64 f.Up, .int .i64 f.Code, .bool f.HasPlan, .int .i64 f.Plan.Epoch, .int .i64 f.Plan.Target, .int .i64 f.Plan.Prev, .int .i64 f.Plan.Spill, .int .i64 f.Plan.Percent, .int .i64 f.Plan.Stamp, .int .i64 f.Plan.Since, .int .i64 f.Plan.Ramped, .int .u64 f.Plan.Up, .int .u64 f.Plan.Sup, .sl false 1 (List.map (eInt .i64) f.Plan.Pen), .sl false 1 (List.map (eInt .i64) f.Plan.Changes), .sl false 1 (List.map (eInt .i64) f.ID), .sl false 1 (List.map (eInt .u8) f.Session), .sl false 1 (List.map (eInt .u8) f.Payload)]] 0 0]] [] (Rs (slices_IndexFunc__same_e) y)) (Sound E 85 [.sl false 1 (List.map (eSl 1 (eInt .i64)) s_), .fn 58 [] [.iptr 26 [[.int .i64 f.Kind, .int .i64 f.From, .int .i64 f.To, .int .i64 f.Epoch, .int .i64 f.Ballot, .int .i64 f.Accepted, .int .i64 f.Nonce, .int .i64 f.Time, .int .u64 f.Up, .int .i64 f.Code, .bool f.HasPlan, .int .i64 f.Plan.Epoch, .int .i64 f.Plan.Target, .int .i64 f.Plan.Prev, .int .i64 f.Plan.Spill, .int .i64 f.Plan.Percent, .int .i64 f.Plan.Stamp, .int .i64 f.Plan.Since, .int .i64 f.Plan.Ramped, .int .u64 f.Plan.Up, .int .u64 f.Plan.Sup, .sl false 1 (List.map (eInt .i64) f.Plan.Pen), .sl false 1 (List.map (eInt .i64) f.Plan.Changes), .sl false 1 (List.map (eInt .i64) f.ID), .sl false 1 (List.map (eInt .u8) f.Session), .sl false 1 (List.map (eInt .u8) f.Payload)]] 0 0]] [] (Rs (slices_IndexFunc__same_e) y)) (by kernel_rfl) (slices_IndexFunc__same_ok hy)
 refine zc 0 [] h ok1 fun y1 h => ?_
 exact zu 4 h
end Go.RX.L

namespace Go.RX.L
open Go Go.RX Go.Proofs
attribute [local irreducible] FinQ
noncomputable def Target_is_e (y : Bool) : D × Sto := (.bool y, [])
noncomputable def Target_is (e : Entry) (t : Msg) : Option Bool := ((Target_same e.ID t).bind fun y1 => (some y1))
theorem Target_is_ok {e : Entry} {t : Msg} {r : Bool} (h : Target_is e t = some r) : Sound E 61 [.agg [.sl false 1 (List.map (eInt .i64) e.ID), .int .i64 e.Epoch, .sl false 1 (List.map (eInt .u8) e.Payload)], .iptr 1 [[.fn 58 [] [.iptr 26 [[.int .i64 t.Kind, .int .i64 t.From, .int .i64 t.To, .int .i64 t.Epoch, .int .i64 t.Ballot, .int .i64 t.Accepted, .int .i64 t.Nonce, .int .i64 t.Time, .int .u64 t.Up, .int .i64 t.Code, .bool t.HasPlan, .int .i64 t.Plan.Epoch, .int .i64 t.Plan.Target, .int .i64 t.Plan.Prev, .int .i64 t.Plan.Spill, .int .i64 t.Plan.Percent, .int .i64 t.Plan.Stamp, .int .i64 t.Plan.Since, .int .i64 t.Plan.Ramped, .int .u64 t.Plan.Up, .int .u64 t.Plan.Sup, .sl false 1 (List.map (eInt .i64) t.Plan.Pen), .sl false 1 (List.map (eInt .i64) t.Plan.Changes), .sl false 1 (List.map (eInt .i64) t.ID), .sl false 1 (List.map (eInt .u8) t.Session), .sl false 1 (List.map (eInt .u8) t.Payload)]] 0 0]]] 0 0] [] (Rs Target_is_e r) := so (fn := Tryz.f61) (k := false) (m := 0) h <| by
 intro r h; unfold Target_is at h
 refine zc 13 [] h (fun _ => Target_same_ok) fun y1 h => ?_
 exact zu 3 h
end Go.RX.L

namespace Go.RX.L
open Go Go.RX Go.Proofs
attribute [local irreducible] FinQ
noncomputable def slices_IndexFunc__is_c := codeAt (bodyOf Tryz.f60)
noncomputable def slices_IndexFunc__is_e (y : Int) : D × Sto := (.int .i64 y, [])
inductive slices_IndexFunc__is_S where
 | s0 (s_ : List Entry) (f : Msg)
 | s1 (s_ : List Entry) (f : Msg) (t7 t8 : Int)
noncomputable def slices_IndexFunc__is_M : slices_IndexFunc__is_S → M
 | .s0 s_ f => startM Tryz.f60 [.sl false 3 (List.map Entry.enc s_), .fn 61 [] [.iptr 1 [[.fn 58 [] [.iptr 26 [[.int .i64 f.Kind, .int .i64 f.From, .int .i64 f.To, .int .i64 f.Epoch, .int .i64 f.Ballot, .int .i64 f.Accepted, .int .i64 f.Nonce, .int .i64 f.Time, .int .u64 f.Up, .int .i64 f.Code, .bool f.HasPlan, .int .i64 f.Plan.Epoch, .int .i64 f.Plan.Target, .int .i64 f.Plan.Prev, .int .i64 f.Plan.Spill, .int .i64 f.Plan.Percent, .int .i64 f.Plan.Stamp, .int .i64 f.Plan.Since, .int .i64 f.Plan.Ramped, .int .u64 f.Plan.Up, .int .u64 f.Plan.Sup, .sl false 1 (List.map (eInt .i64) f.Plan.Pen), .sl false 1 (List.map (eInt .i64) f.Plan.Changes), .sl false 1 (List.map (eInt .i64) f.ID), .sl false 1 (List.map (eInt .u8) f.Session), .sl false 1 (List.map (eInt .u8) f.Payload)]] 0 0]]] 0 0]] []
 | .s1 s_ f t7 t8 => ⟨[.lpc (slices_IndexFunc__is_c [1, 0, 1, 0, 0]) 387, .blk 0, .code (slices_IndexFunc__is_c [1, 1])], [(0, .sl false 3 (List.map Entry.enc s_)), (1, .fn 61 [] [.iptr 1 [[.fn 58 [] [.iptr 26 [[.int .i64 f.Kind, .int .i64 f.From, .int .i64 f.To, .int .i64 f.Epoch, .int .i64 f.Ballot, .int .i64 f.Accepted, .int .i64 f.Nonce, .int .i64 f.Time, .int .u64 f.Up, .int .i64 f.Code, .bool f.HasPlan, .int .i64 f.Plan.Epoch, .int .i64 f.Plan.Target, .int .i64 f.Plan.Prev, .int .i64 f.Plan.Spill, .int .i64 f.Plan.Percent, .int .i64 f.Plan.Stamp, .int .i64 f.Plan.Since, .int .i64 f.Plan.Ramped, .int .u64 f.Plan.Up, .int .u64 f.Plan.Sup, .sl false 1 (List.map (eInt .i64) f.Plan.Pen), .sl false 1 (List.map (eInt .i64) f.Plan.Changes), .sl false 1 (List.map (eInt .i64) f.ID), .sl false 1 (List.map (eInt .u8) f.Session), .sl false 1 (List.map (eInt .u8) f.Payload)]] 0 0]]] 0 0]), (7, .int .i64 t7), (8, .int .i64 t8)], []⟩
abbrev slices_IndexFunc__is_W := SOk E (Cx.of Tryz.f60 false 0) slices_IndexFunc__is_e slices_IndexFunc__is_M
noncomputable def slices_IndexFunc__is_0 (s_ : List Entry) (f : Msg) : Option (slices_IndexFunc__is_S ⊕ Int) := (some (.inl (.s1 s_ f (((List.map Entry.enc s_).length : Nat) : Int) 0)))
noncomputable def slices_IndexFunc__is_1 (s_ : List Entry) (f : Msg) (t7 t8 : Int) : Option (slices_IndexFunc__is_S ⊕ Int) := (bif (decide ((t8 : Int) < t7)) then (bif ((decide ((0 : Int) ≤ t8)) && (decide ((t8 : Int) < (((List.map Entry.enc s_).length : Nat) : Int)))) then (((s_)[t8.toNat]?).bind fun y3 => ((Target_is y3 f).bind fun y5 => (bif y5 then (some (.inr t8)) else (some (.inl (.s1 s_ f t7 (IntKind.i64.wrap (t8 + 1)))))))) else none) else (some (.inr (-1))))
noncomputable def slices_IndexFunc__is_step : slices_IndexFunc__is_S → Option (slices_IndexFunc__is_S ⊕ Int)
 | .s0 s_ f => slices_IndexFunc__is_0 s_ f
 | .s1 s_ f t7 t8 => slices_IndexFunc__is_1 s_ f t7 t8
theorem slices_IndexFunc__is_0_ok {s_ f} : slices_IndexFunc__is_W (.s0 s_ f) (slices_IndexFunc__is_0 s_ f) := by
 intro r x h ha; unfold slices_IndexFunc__is_0 at h
 exact zj 14 h ha
theorem slices_IndexFunc__is_1_ok {s_ f t7 t8} : slices_IndexFunc__is_W (.s1 s_ f t7 t8) (slices_IndexFunc__is_1 s_ f t7 t8) := by
 intro r x h ha; unfold slices_IndexFunc__is_1 at h
 refine zs 7 h (fun h => ?_) fun h => ?_
 ·
  refine zn 14 h fun h => ?_
  refine zr 1 Entry.enc h fun y3 h => ?_
  refine zc 1 [] h (fun _ => Target_is_ok) fun y5 h => ?_
  refine zs 2 h (fun h => ?_) fun h => ?_
  ·
   exact zt 6 h ha
  exact zj 7 h ha
 exact zt 6 h ha
noncomputable def slices_IndexFunc__is (s_ : List Entry) (f : Msg) : Option Int := evf slices_IndexFunc__is_step (.s0 s_ f)
theorem slices_IndexFunc__is_ok {s_ : List Entry} {f : Msg} {r : Int} (h : slices_IndexFunc__is s_ f = some r) : Sound E 60 [.sl false 3 (List.map Entry.enc s_), .fn 61 [] [.iptr 1 [[.fn 58 [] [.iptr 26 [[.int .i64 f.Kind, .int .i64 f.From, .int .i64 f.To, .int .i64 f.Epoch, .int .i64 f.Ballot, .int .i64 f.Accepted, .int .i64 f.Nonce, .int .i64 f.Time, .int .u64 f.Up, .int .i64 f.Code, .bool f.HasPlan, .int .i64 f.Plan.Epoch, .int .i64 f.Plan.Target, .int .i64 f.Plan.Prev, .int .i64 f.Plan.Spill, .int .i64 f.Plan.Percent, .int .i64 f.Plan.Stamp, .int .i64 f.Plan.Since, .int .i64 f.Plan.Ramped, .int .u64 f.Plan.Up, .int .u64 f.Plan.Sup, .sl false 1 (List.map (eInt .i64) f.Plan.Pen), .sl false 1 (List.map (eInt .i64) f.Plan.Changes), .sl false 1 (List.map (eInt .i64) f.ID), .sl false 1 (List.map (eInt .u8) f.Session), .sl false 1 (List.map (eInt .u8) f.Payload)]] 0 0]]] 0 0]] [] (Rs slices_IndexFunc__is_e r) := sc (fn := Tryz.f60) (k := false) (m := 0) (stM := slices_IndexFunc__is_M) h fun s => by
 cases s with
 | s0 => exact slices_IndexFunc__is_0_ok
 | s1 => exact slices_IndexFunc__is_1_ok
end Go.RX.L

namespace Go.RX.L
open Go Go.RX Go.Proofs
attribute [local irreducible] FinQ
noncomputable def Target_room_c := codeAt (bodyOf Tryz.f64)
noncomputable def Target_room_e (fence : Int) (known : Plan) (hold : Hold) (c : Config) (index : Int) (well : Bool) (b1 : List Entry) (b2 : List (List Int)) (fuse : Int) (down : Bool) (b4 b5 : List Int) (y : Bool × Int × Int) : D × Sto := (.bool y.1, [some ⟨54, true, [([.int .i64 fence] ++ Plan.encL known ([.int .i64 hold.Epoch, .int .i64 hold.Nonce, .int .u64 hold.Grants, .int .i64 hold.Until, (grD 1 (List.map Entry.enc b1)), (grD 2 (List.map (eSl 1 (eInt .i64)) b2)), .int .i64 y.2.1, .int .i64 y.2.2] ++ Config.encL c [.int .i64 index, .ptr 3 0 0, .bool well]))]⟩, some ⟨3, false, (List.map Entry.enc b1)⟩, some ⟨1, false, (List.map (eSl 1 (eInt .i64)) b2)⟩, some ⟨4, true, [[(grD 4 (List.map (eInt .u8) b4)), (grD 5 (List.map (eInt .u8) b5)), .int .i64 fuse, .bool down]]⟩, some ⟨1, false, (List.map (eInt .u8) b4)⟩, some ⟨1, false, (List.map (eInt .u8) b5)⟩])
abbrev Target_room_W (fence : Int) (known : Plan) (hold : Hold) (c : Config) (index : Int) (well : Bool) (b1 : List Entry) (b2 : List (List Int)) (fuse : Int) (down : Bool) (b4 b5 : List Int) := AOk E (Cx.of Tryz.f64 true 6) (Target_room_e fence known hold c index well b1 b2 fuse down b4 b5)
noncomputable def Target_room_1M (fence : Int) (known : Plan) (hold : Hold) (c : Config) (index : Int) (well : Bool) (b1 : List Entry) (b2 : List (List Int)) (fuse : Int) (down : Bool) (b4 b5 : List Int) (begun2 filled2 : Int) : M := ⟨[.code (Target_room_c [1, 1])], [(0, .ptr 0 0 0)], [some ⟨54, true, [([.int .i64 fence] ++ Plan.encL known ([.int .i64 hold.Epoch, .int .i64 hold.Nonce, .int .u64 hold.Grants, .int .i64 hold.Until, (grD 1 (List.map Entry.enc b1)), (grD 2 (List.map (eSl 1 (eInt .i64)) b2)), .int .i64 begun2, .int .i64 filled2] ++ Config.encL c [.int .i64 index, .ptr 3 0 0, .bool well]))]⟩, some ⟨3, false, (List.map Entry.enc b1)⟩, some ⟨1, false, (List.map (eSl 1 (eInt .i64)) b2)⟩, some ⟨4, true, [[(grD 4 (List.map (eInt .u8) b4)), (grD 5 (List.map (eInt .u8) b5)), .int .i64 fuse, .bool down]]⟩, some ⟨1, false, (List.map (eInt .u8) b4)⟩, some ⟨1, false, (List.map (eInt .u8) b5)⟩]⟩
noncomputable def Target_room_1 (fence : Int) (known : Plan) (hold : Hold) (c : Config) (index : Int) (well : Bool) (b1 : List Entry) (b2 : List (List Int)) (fuse : Int) (down : Bool) (b4 b5 : List Int) (begun2 filled2 : Int) : Option (Bool × Int × Int) := (some ((decide ((filled2 : Int) < c.Cap)), begun2, filled2))
theorem Target_room_1_ok {fence known hold c index well b1 b2 fuse down b4 b5 begun2 filled2} : Target_room_W fence known hold c index well b1 b2 fuse down b4 b5 (Target_room_1M fence known hold c index well b1 b2 fuse down b4 b5 begun2 filled2) (Target_room_1 fence known hold c index well b1 b2 fuse down b4 b5 begun2 filled2) := by
 intro r h; unfold Target_room_1 at h
 exact zu 5 h
noncomputable def Target_room (now fence : Int) (known : Plan) (hold : Hold) (begun filled : Int) (c : Config) (index : Int) (well : Bool) (b1 : List Entry) (b2 : List (List Int)) (fuse : Int) (down : Bool) (b4 b5 : List Int) : Option (Bool × Int × Int) := (bif (decide (((IntKind.i64.wrap (now - begun)) : Int) ≥ c.Span)) then (Target_room_1 fence known hold c index well b1 b2 fuse down b4 b5 now 0) else (Target_room_1 fence known hold c index well b1 b2 fuse down b4 b5 begun filled))
theorem Target_room_ok {now fence : Int} {known : Plan} {hold : Hold} {begun filled : Int} {c : Config} {index : Int} {well : Bool} {b1 : List Entry} {b2 : List (List Int)} {fuse : Int} {down : Bool} {b4 b5 : List Int} {r : Bool × Int × Int} (h : Target_room now fence known hold begun filled c index well b1 b2 fuse down b4 b5 = some r) : Sound E 64 [.ptr 0 0 0, .int .i64 now] [some ⟨54, true, [([.int .i64 fence] ++ Plan.encL known ([.int .i64 hold.Epoch, .int .i64 hold.Nonce, .int .u64 hold.Grants, .int .i64 hold.Until, (grD 1 (List.map Entry.enc b1)), (grD 2 (List.map (eSl 1 (eInt .i64)) b2)), .int .i64 begun, .int .i64 filled] ++ Config.encL c [.int .i64 index, .ptr 3 0 0, .bool well]))]⟩, some ⟨3, false, (List.map Entry.enc b1)⟩, some ⟨1, false, (List.map (eSl 1 (eInt .i64)) b2)⟩, some ⟨4, true, [[(grD 4 (List.map (eInt .u8) b4)), (grD 5 (List.map (eInt .u8) b5)), .int .i64 fuse, .bool down]]⟩, some ⟨1, false, (List.map (eInt .u8) b4)⟩, some ⟨1, false, (List.map (eInt .u8) b5)⟩] (Rs (Target_room_e fence known hold c index well b1 b2 fuse down b4 b5) r) := so (fn := Tryz.f64) (k := true) (m := 6) h <| by
 intro r h; unfold Target_room at h
 refine zs 10 h (fun h => ?_) fun h => ?_
 ·
  exact zg 17 (Target_room_1_ok h)
 exact zg 1 (Target_room_1_ok h)
end Go.RX.L

namespace Go.RX.L
open Go Go.RX Go.Proofs
attribute [local irreducible] FinQ
noncomputable def Target_write_c := codeAt (bodyOf Tryz.f42)
noncomputable def Target_write_e (known : Plan) (hold : Hold) (c : Config) (index : Int) (well : Bool) (y : (List Msg) × Int × Int × Int × Int × Bool × (List Entry) × (List (List Int)) × (List Int) × (List Int)) : D × Sto := (.sl false 26 (List.map Msg.enc y.1), [some ⟨54, true, [([.int .i64 y.2.1] ++ Plan.encL known ([.int .i64 hold.Epoch, .int .i64 hold.Nonce, .int .u64 hold.Grants, .int .i64 hold.Until, (grD 6 (List.map Entry.enc y.2.2.2.2.2.2.1)), (grD 7 (List.map (eSl 1 (eInt .i64)) y.2.2.2.2.2.2.2.1)), .int .i64 y.2.2.1, .int .i64 y.2.2.2.1] ++ Config.encL c [.int .i64 index, .ptr 3 0 0, .bool well]))]⟩, none, none, some ⟨4, true, [[(grD 8 (List.map (eInt .u8) y.2.2.2.2.2.2.2.2.1)), (grD 9 (List.map (eInt .u8) y.2.2.2.2.2.2.2.2.2)), .int .i64 y.2.2.2.2.1, .bool y.2.2.2.2.2.1]]⟩, none, none, some ⟨3, false, (List.map Entry.enc y.2.2.2.2.2.2.1)⟩, some ⟨1, false, (List.map (eSl 1 (eInt .i64)) y.2.2.2.2.2.2.2.1)⟩, some ⟨1, false, (List.map (eInt .u8) y.2.2.2.2.2.2.2.2.1)⟩, some ⟨1, false, (List.map (eInt .u8) y.2.2.2.2.2.2.2.2.2)⟩])
abbrev Target_write_W (m : Msg) (now fence : Int) (known : Plan) (hold : Hold) (begun filled : Int) (c : Config) (index : Int) (well : Bool) (b1 : List Entry) (b2 : List (List Int)) (fuse : Int) (down : Bool) (b4 b5 : List Int) := AOk E (Cx.of Tryz.f42 true 6) (Target_write_e known hold c index well)
noncomputable def Target_write_1M (m : Msg) (now fence : Int) (known : Plan) (hold : Hold) (begun filled : Int) (c : Config) (index : Int) (well : Bool) (b1 : List Entry) (b2 : List (List Int)) (fuse : Int) (down : Bool) (b4 b5 : List Int) (begun2 filled2 : Int) (no : Msg) : M := ⟨[.code (Target_write_c [1, 1, 1, 1, 1, 1, 1, 1])], [(0, .ptr 0 0 0), (4, .ptr 6 0 0), (9, .ptr 7 0 0)], [some ⟨54, true, [([.int .i64 fence] ++ Plan.encL known ([.int .i64 hold.Epoch, .int .i64 hold.Nonce, .int .u64 hold.Grants, .int .i64 hold.Until, (grD 1 (List.map Entry.enc b1)), (grD 2 (List.map (eSl 1 (eInt .i64)) b2)), .int .i64 begun2, .int .i64 filled2] ++ Config.encL c [.int .i64 index, .ptr 3 0 0, .bool well]))]⟩, some ⟨3, false, (List.map Entry.enc b1)⟩, some ⟨1, false, (List.map (eSl 1 (eInt .i64)) b2)⟩, some ⟨4, true, [[(grD 4 (List.map (eInt .u8) b4)), (grD 5 (List.map (eInt .u8) b5)), .int .i64 fuse, .bool down]]⟩, some ⟨1, false, (List.map (eInt .u8) b4)⟩, some ⟨1, false, (List.map (eInt .u8) b5)⟩, some ⟨26, false, [(Msg.enc m)]⟩, some ⟨26, false, [(Msg.enc no)]⟩]⟩
noncomputable def Target_write_1 (m : Msg) (now fence : Int) (known : Plan) (hold : Hold) (begun filled : Int) (c : Config) (index : Int) (well : Bool) (b1 : List Entry) (b2 : List (List Int)) (fuse : Int) (down : Bool) (b4 b5 : List Int) (begun2 filled2 : Int) (no : Msg) : Option ((List Msg) × Int × Int × Int × Int × Bool × (List Entry) × (List (List Int)) × (List Int) × (List Int)) := ((Target_remember__take (⟨18, 0, 0, 0, 0, 0, 0, 0, 0, 0, false, (⟨0, 0, 0, 0, 0, 0, 0, 0, 0, 0, [], []⟩ : Plan), m.ID, [], []⟩ : Msg) fence known hold begun2 filled2 c index well b1 b2 fuse down b4 b5).bind fun y1 => (bif (!y1.1) then (some ([], y1.2.1, begun2, filled2, y1.2.2.1, y1.2.2.2.1, y1.2.2.2.2.1, y1.2.2.2.2.2.1, y1.2.2.2.2.2.2.1, y1.2.2.2.2.2.2.2)) else ((Target_reply m 15 no y1.2.1 known hold begun2 filled2 c index well y1.2.2.2.2.1 y1.2.2.2.2.2.1 y1.2.2.1 y1.2.2.2.1 y1.2.2.2.2.2.2.1 y1.2.2.2.2.2.2.2).bind fun y3 => (some (y3, y1.2.1, begun2, filled2, y1.2.2.1, y1.2.2.2.1, y1.2.2.2.2.1, y1.2.2.2.2.2.1, y1.2.2.2.2.2.2.1, y1.2.2.2.2.2.2.2)))))
theorem Target_write_1_ok {m now fence known hold begun filled c index well b1 b2 fuse down b4 b5 begun2 filled2 no} : Target_write_W m now fence known hold begun filled c index well b1 b2 fuse down b4 b5 (Target_write_1M m now fence known hold begun filled c index well b1 b2 fuse down b4 b5 begun2 filled2 no) (Target_write_1 m now fence known hold begun filled c index well b1 b2 fuse down b4 b5 begun2 filled2 no) := by
 intro r h; unfold Target_write_1 at h
 refine adv_ok hm 11 _ ?_
 have ok1 := fun (y : Bool × Int × Int × Bool × (List Entry) × (List (List Int)) × (List Int) × (List Int)) (hy : Target_remember__take (⟨18, 0, 0, 0, 0, 0, 0, 0, 0, 0, false, (⟨0, 0, 0, 0, 0, 0, 0, 0, 0, 0, [], []⟩ : Plan), m.ID, [], []⟩ : Msg) fence known hold begun2 filled2 c index well b1 b2 fuse down b4 b5 = some y) => @Eq.mp (Sound E 40 [.ptr 0 0 0, .agg [.int .i64 18, .int .i64 0, .int .i64 0, .int .i64 0, .int .i64 0, .int .i64 0, .int .i64 0, .int .i64 0, .int .u64 0, .int .i64 0, .bool false, .int .i64 0, .int .i64 0, .int .i64 0, .int .i64 0, .int .i64 0, .int .i64 0, .int .i64 0, .int .i64 0, .int .u64 0, .int .u64 0, .sl false 1 (List.map (eInt .i64) ([])), .sl false 1 (List.map (eInt .i64) ([])), .sl false 1 (List.map (eInt .i64) m.ID), .sl false 1 (List.map (eInt .u8) ([])), .sl false 1 (List.map (eInt .u8) ([]))], .fn 31 [.ptr 0 0 0] []] [some ⟨54, true, [([.int .i64 fence] ++ Plan.encL known ([.int .i64 hold.Epoch, .int .i64 hold.Nonce, .int .u64 hold.Grants, .int .i64 hold.Until, (grD 1 (List.map Entry.enc b1)), (grD 2 (List.map (eSl 1 (eInt .i64)) b2)), .int .i64 begun2, .int .i64 filled2] ++ Config.encL c [.int .i64 index, .ptr 3 0 0, .bool well]))]⟩, some ⟨3, false, (List.map Entry.enc b1)⟩, some ⟨1, false, (List.map (eSl 1 (eInt .i64)) b2)⟩, some ⟨4, true, [[(grD 4 (List.map (eInt .u8) b4)), (grD 5 (List.map (eInt .u8) b5)), .int .i64 fuse, .bool down]]⟩, some ⟨1, false, (List.map (eInt .u8) b4)⟩, some ⟨1, false, (List.map (eInt .u8) b5)⟩] (Rs (Target_remember__take_e known hold begun2 filled2 c index well) y)) (Sound E 40 [.ptr 0 0 0, .agg [.int .i64 18, .int .i64 0, .int .i64 0, .int .i64 0, .int .i64 0, .int .i64 0, .int .i64 0, .int .i64 0, .int .u64 0, .int .i64 0, .bool false, .int .i64 0, .int .i64 0, .int .i64 0, .int .i64 0, .int .i64 0, .int .i64 0, .int .i64 0, .int .i64 0, .int .u64 0, .int .u64 0, .sl false 1 [], .sl false 1 [], .sl false 1 (List.map (eInt .i64) m.ID), .sl false 1 [], .sl false 1 []], .fn 31 [.ptr 0 0 0] []] [some ⟨54, true, [([.int .i64 fence] ++ Plan.encL known ([.int .i64 hold.Epoch, .int .i64 hold.Nonce, .int .u64 hold.Grants, .int .i64 hold.Until, (grD 1 (List.map Entry.enc b1)), (grD 2 (List.map (eSl 1 (eInt .i64)) b2)), .int .i64 begun2, .int .i64 filled2] ++ Config.encL c [.int .i64 index, .ptr 3 0 0, .bool well]))]⟩, some ⟨3, false, (List.map Entry.enc b1)⟩, some ⟨1, false, (List.map (eSl 1 (eInt .i64)) b2)⟩, some ⟨4, true, [[(grD 4 (List.map (eInt .u8) b4)), (grD 5 (List.map (eInt .u8) b5)), .int .i64 fuse, .bool down]]⟩, some ⟨1, false, (List.map (eInt .u8) b4)⟩, some ⟨1, false, (List.map (eInt .u8) b5)⟩] (Rs (Target_remember__take_e known hold begun2 filled2 c index well) y)) (by kernel_rfl) (Target_remember__take_ok hy)
 refine zc 0 [some 1, some 1, some 1, some 1] h ok1 fun y1 h => ?_
 refine zs 3 h (fun h => ?_) fun h => ?_
 ·
  exact zu 5 h [.slot 0 [some 26]]
 refine adv_ok hm 9 _ ?_
 have ok3 := fun (y : List Msg) (hy : Target_reply m 15 no y1.2.1 known hold begun2 filled2 c index well y1.2.2.2.2.1 y1.2.2.2.2.2.1 y1.2.2.1 y1.2.2.2.1 y1.2.2.2.2.2.2.1 y1.2.2.2.2.2.2.2 = some y) => @Eq.mp (Sound E 38 [.ptr 0 0 0, .agg [.int .i64 m.Kind, .int .i64 m.From, .int .i64 m.To, .int .i64 m.Epoch, .int .i64 m.Ballot, .int .i64 m.Accepted, .int .i64 m.Nonce, .int .i64 m.Time, .int .u64 m.Up, .int .i64 m.Code, .bool m.HasPlan, .int .i64 m.Plan.Epoch, .int .i64 m.Plan.Target, .int .i64 m.Plan.Prev, .int .i64 m.Plan.Spill, .int .i64 m.Plan.Percent, .int .i64 m.Plan.Stamp, .int .i64 m.Plan.Since, .int .i64 m.Plan.Ramped, .int .u64 m.Plan.Up, .int .u64 m.Plan.Sup, .sl false 1 (List.map (eInt .i64) m.Plan.Pen), .sl false 1 (List.map (eInt .i64) m.Plan.Changes), .sl false 1 (List.map (eInt .i64) m.ID), .sl false 1 (List.map (eInt .u8) m.Session), .sl false 1 (List.map (eInt .u8) m.Payload)], .int .i64 15, .agg [.int .i64 no.Kind, .int .i64 no.From, .int .i64 no.To, .int .i64 no.Epoch, .int .i64 no.Ballot, .int .i64 no.Accepted, .int .i64 no.Nonce, .int .i64 no.Time, .int .u64 no.Up, .int .i64 no.Code, .bool no.HasPlan, .int .i64 no.Plan.Epoch, .int .i64 no.Plan.Target, .int .i64 no.Plan.Prev, .int .i64 no.Plan.Spill, .int .i64 no.Plan.Percent, .int .i64 no.Plan.Stamp, .int .i64 no.Plan.Since, .int .i64 no.Plan.Ramped, .int .u64 no.Plan.Up, .int .u64 no.Plan.Sup, .sl false 1 (List.map (eInt .i64) no.Plan.Pen), .sl false 1 (List.map (eInt .i64) no.Plan.Changes), .sl false 1 (List.map (eInt .i64) no.ID), .sl false 1 (List.map (eInt .u8) no.Session), .sl false 1 (List.map (eInt .u8) no.Payload)]] [some ⟨54, true, [([.int .i64 y1.2.1] ++ Plan.encL known ([.int .i64 hold.Epoch, .int .i64 hold.Nonce, .int .u64 hold.Grants, .int .i64 hold.Until, (grD 1 (List.map Entry.enc y1.2.2.2.2.1)), (grD 2 (List.map (eSl 1 (eInt .i64)) y1.2.2.2.2.2.1)), .int .i64 begun2, .int .i64 filled2] ++ Config.encL c [.int .i64 index, .ptr 3 0 0, .bool well]))]⟩, some ⟨3, false, (List.map Entry.enc y1.2.2.2.2.1)⟩, some ⟨1, false, (List.map (eSl 1 (eInt .i64)) y1.2.2.2.2.2.1)⟩, some ⟨4, true, [[(grD 4 (List.map (eInt .u8) y1.2.2.2.2.2.2.1)), (grD 5 (List.map (eInt .u8) y1.2.2.2.2.2.2.2)), .int .i64 y1.2.2.1, .bool y1.2.2.2.1]]⟩, some ⟨1, false, (List.map (eInt .u8) y1.2.2.2.2.2.2.1)⟩, some ⟨1, false, (List.map (eInt .u8) y1.2.2.2.2.2.2.2)⟩] (Rs (Target_reply_e y1.2.1 known hold begun2 filled2 c index well y1.2.2.2.2.1 y1.2.2.2.2.2.1 y1.2.2.1 y1.2.2.2.1 y1.2.2.2.2.2.2.1 y1.2.2.2.2.2.2.2) y)) (Sound E 38 [.ptr 0 0 0, .agg [.int .i64 m.Kind, .int .i64 m.From, .int .i64 m.To, .int .i64 m.Epoch, .int .i64 m.Ballot, .int .i64 m.Accepted, .int .i64 m.Nonce, .int .i64 m.Time, .int .u64 m.Up, .int .i64 m.Code, .bool m.HasPlan, .int .i64 m.Plan.Epoch, .int .i64 m.Plan.Target, .int .i64 m.Plan.Prev, .int .i64 m.Plan.Spill, .int .i64 m.Plan.Percent, .int .i64 m.Plan.Stamp, .int .i64 m.Plan.Since, .int .i64 m.Plan.Ramped, .int .u64 m.Plan.Up, .int .u64 m.Plan.Sup, .sl false 1 (List.map (eInt .i64) m.Plan.Pen), .sl false 1 (List.map (eInt .i64) m.Plan.Changes), .sl false 1 (List.map (eInt .i64) m.ID), .sl false 1 (List.map (eInt .u8) m.Session), .sl false 1 (List.map (eInt .u8) m.Payload)], .int .i64 15, .agg [.int .i64 no.Kind, .int .i64 no.From, .int .i64 no.To, .int .i64 no.Epoch, .int .i64 no.Ballot, .int .i64 no.Accepted, .int .i64 no.Nonce, .int .i64 no.Time, .int .u64 no.Up, .int .i64 no.Code, .bool no.HasPlan, .int .i64 no.Plan.Epoch, .int .i64 no.Plan.Target, .int .i64 no.Plan.Prev, .int .i64 no.Plan.Spill, .int .i64 no.Plan.Percent, .int .i64 no.Plan.Stamp, .int .i64 no.Plan.Since, .int .i64 no.Plan.Ramped, .int .u64 no.Plan.Up, .int .u64 no.Plan.Sup, .sl false 1 (List.map (eInt .i64) no.Plan.Pen), .sl false 1 (List.map (eInt .i64) no.Plan.Changes), .sl false 1 (List.map (eInt .i64) no.ID), .sl false 1 (List.map (eInt .u8) no.Session), .sl false 1 (List.map (eInt .u8) no.Payload)]] [some ⟨54, true, [([.int .i64 y1.2.1] ++ Plan.encL known ([.int .i64 hold.Epoch, .int .i64 hold.Nonce, .int .u64 hold.Grants, .int .i64 hold.Until, (grD 1 (List.map Entry.enc y1.2.2.2.2.1)), (grD 2 (List.map (eSl 1 (eInt .i64)) y1.2.2.2.2.2.1)), .int .i64 begun2, .int .i64 filled2] ++ Config.encL c [.int .i64 index, .ptr 3 0 0, .bool well]))]⟩, some ⟨3, false, (List.map Entry.enc y1.2.2.2.2.1)⟩, some ⟨1, false, (List.map (eSl 1 (eInt .i64)) y1.2.2.2.2.2.1)⟩, some ⟨4, true, [[(grD 4 (List.map (eInt .u8) y1.2.2.2.2.2.2.1)), (grD 5 (List.map (eInt .u8) y1.2.2.2.2.2.2.2)), .int .i64 y1.2.2.1, .bool y1.2.2.2.1]]⟩, some ⟨1, false, (List.map (eInt .u8) y1.2.2.2.2.2.2.1)⟩, some ⟨1, false, (List.map (eInt .u8) y1.2.2.2.2.2.2.2)⟩] (Rs (Target_reply_e y1.2.1 known hold begun2 filled2 c index well y1.2.2.2.2.1 y1.2.2.2.2.2.1 y1.2.2.1 y1.2.2.2.1 y1.2.2.2.2.2.2.1 y1.2.2.2.2.2.2.2) y)) (by kernel_rfl) (Target_reply_ok hy)
 refine zc 0 [] h ok3 fun y3 h => ?_
 exact zu 3 h
noncomputable def Target_write_2M (m : Msg) (now fence : Int) (known : Plan) (hold : Hold) (begun filled : Int) (c : Config) (index : Int) (well : Bool) (b1 : List Entry) (b2 : List (List Int)) (fuse : Int) (down : Bool) (b4 b5 : List Int) (t94 : Bool) (no : Msg) : M := ⟨[.code (Target_write_c [1, 1, 1, 1, 1, 1, 1, 0, 1]), .code (Target_write_c [1, 1, 1, 1, 1, 1, 1, 1])], [(0, .ptr 0 0 0), (2, .int .i64 now), (4, .ptr 6 0 0), (9, .ptr 7 0 0), (94, .bool t94)], [some ⟨54, true, [([.int .i64 fence] ++ Plan.encL known ([.int .i64 hold.Epoch, .int .i64 hold.Nonce, .int .u64 hold.Grants, .int .i64 hold.Until, (grD 1 (List.map Entry.enc b1)), (grD 2 (List.map (eSl 1 (eInt .i64)) b2)), .int .i64 begun, .int .i64 filled] ++ Config.encL c [.int .i64 index, .ptr 3 0 0, .bool well]))]⟩, some ⟨3, false, (List.map Entry.enc b1)⟩, some ⟨1, false, (List.map (eSl 1 (eInt .i64)) b2)⟩, some ⟨4, true, [[(grD 4 (List.map (eInt .u8) b4)), (grD 5 (List.map (eInt .u8) b5)), .int .i64 fuse, .bool down]]⟩, some ⟨1, false, (List.map (eInt .u8) b4)⟩, some ⟨1, false, (List.map (eInt .u8) b5)⟩, some ⟨26, false, [(Msg.enc m)]⟩, some ⟨26, false, [(Msg.enc no)]⟩]⟩
noncomputable def Target_write_2 (m : Msg) (now fence : Int) (known : Plan) (hold : Hold) (begun filled : Int) (c : Config) (index : Int) (well : Bool) (b1 : List Entry) (b2 : List (List Int)) (fuse : Int) (down : Bool) (b4 b5 : List Int) (t94 : Bool) (no : Msg) : Option ((List Msg) × Int × Int × Int × Int × Bool × (List Entry) × (List (List Int)) × (List Int) × (List Int)) := (bif t94 then ((lease_Live hold m.Epoch now).bind fun y2 => (bif (!y2) then (some ([], fence, begun, filled, fuse, down, b1, b2, b4, b5)) else ((Target_room now fence known hold begun filled c index well b1 b2 fuse down b4 b5).bind fun y4 => (bif y4.1 then ((Target_remember__take (⟨14, 0, 0, m.Epoch, 0, 0, 0, 0, 0, 0, false, (⟨0, 0, 0, 0, 0, 0, 0, 0, 0, 0, [], []⟩ : Plan), m.ID, [], m.Payload⟩ : Msg) fence known hold y4.2.1 y4.2.2 c index well b1 b2 fuse down b4 b5).bind fun y6 => (bif (!y6.1) then (some ([], y6.2.1, y4.2.1, y4.2.2, y6.2.2.1, y6.2.2.2.1, y6.2.2.2.2.1, y6.2.2.2.2.2.1, y6.2.2.2.2.2.2.1, y6.2.2.2.2.2.2.2)) else ((Target_reply m 15 (⟨0, 0, 0, m.Epoch, 0, 0, 0, 0, 0, 0, false, (⟨0, 0, 0, 0, 0, 0, 0, 0, 0, 0, [], []⟩ : Plan), m.ID, [], []⟩ : Msg) y6.2.1 known hold y4.2.1 (IntKind.i64.wrap (y4.2.2 + 1)) c index well y6.2.2.2.2.1 y6.2.2.2.2.2.1 y6.2.2.1 y6.2.2.2.1 y6.2.2.2.2.2.2.1 y6.2.2.2.2.2.2.2).bind fun y8 => (some (y8, y6.2.1, y4.2.1, (IntKind.i64.wrap (y4.2.2 + 1)), y6.2.2.1, y6.2.2.2.1, y6.2.2.2.2.1, y6.2.2.2.2.2.1, y6.2.2.2.2.2.2.1, y6.2.2.2.2.2.2.2))))) else (Target_write_1 m now fence known hold begun filled c index well b1 b2 fuse down b4 b5 y4.2.1 y4.2.2 no))))) else (Target_write_1 m now fence known hold begun filled c index well b1 b2 fuse down b4 b5 begun filled no))
theorem Target_write_2_ok {m now fence known hold begun filled c index well b1 b2 fuse down b4 b5 t94 no} : Target_write_W m now fence known hold begun filled c index well b1 b2 fuse down b4 b5 (Target_write_2M m now fence known hold begun filled c index well b1 b2 fuse down b4 b5 t94 no) (Target_write_2 m now fence known hold begun filled c index well b1 b2 fuse down b4 b5 t94 no) := by
 intro r h; unfold Target_write_2 at h
 refine zs 1 h (fun h => ?_) fun h => ?_
 ·
  refine zd 5 [] h (fun _ => lease_Live_ok) fun y2 h => ?_
  refine zs 1 h (fun h => ?_) fun h => ?_
  ·
   refine zf 4 [.mv 1, .mv 2, .mv 4, .mv 5] ?_
   exact zu 1 h [.slot 0 [some 26]]
  refine adv_ok hm 6 _ ?_
  have ok4 := fun (y : Bool × Int × Int) (hy : Target_room now fence known hold begun filled c index well b1 b2 fuse down b4 b5 = some y) => @Eq.mp (Sound E 64 [.ptr 0 0 0, .int .i64 now] [some ⟨54, true, [([.int .i64 fence] ++ Plan.encL known ([.int .i64 hold.Epoch, .int .i64 hold.Nonce, .int .u64 hold.Grants, .int .i64 hold.Until, (grD 1 (List.map Entry.enc b1)), (grD 2 (List.map (eSl 1 (eInt .i64)) b2)), .int .i64 begun, .int .i64 filled] ++ Config.encL c [.int .i64 index, .ptr 3 0 0, .bool well]))]⟩, some ⟨3, false, (List.map Entry.enc b1)⟩, some ⟨1, false, (List.map (eSl 1 (eInt .i64)) b2)⟩, some ⟨4, true, [[(grD 4 (List.map (eInt .u8) b4)), (grD 5 (List.map (eInt .u8) b5)), .int .i64 fuse, .bool down]]⟩, some ⟨1, false, (List.map (eInt .u8) b4)⟩, some ⟨1, false, (List.map (eInt .u8) b5)⟩] (Rs (Target_room_e fence known hold c index well b1 b2 fuse down b4 b5) y)) (Sound E 64 [.ptr 0 0 0, .int .i64 now] [some ⟨54, true, [([.int .i64 fence] ++ Plan.encL known ([.int .i64 hold.Epoch, .int .i64 hold.Nonce, .int .u64 hold.Grants, .int .i64 hold.Until, (grD 1 (List.map Entry.enc b1)), (grD 2 (List.map (eSl 1 (eInt .i64)) b2)), .int .i64 begun, .int .i64 filled] ++ Config.encL c [.int .i64 index, .ptr 3 0 0, .bool well]))]⟩, some ⟨3, false, (List.map Entry.enc b1)⟩, some ⟨1, false, (List.map (eSl 1 (eInt .i64)) b2)⟩, some ⟨4, true, [[(grD 4 (List.map (eInt .u8) b4)), (grD 5 (List.map (eInt .u8) b5)), .int .i64 fuse, .bool down]]⟩, some ⟨1, false, (List.map (eInt .u8) b4)⟩, some ⟨1, false, (List.map (eInt .u8) b5)⟩] (Rs (Target_room_e fence known hold c index well b1 b2 fuse down b4 b5) y)) (by kernel_rfl) (Target_room_ok hy)
  refine zc 0 [] h ok4 fun y4 h => ?_
  refine zs 2 h (fun h => ?_) fun h => ?_
  ·
   refine adv_ok hm 17 _ ?_
   have ok6 := fun (y : Bool × Int × Int × Bool × (List Entry) × (List (List Int)) × (List Int) × (List Int)) (hy : Target_remember__take (⟨14, 0, 0, m.Epoch, 0, 0, 0, 0, 0, 0, false, (⟨0, 0, 0, 0, 0, 0, 0, 0, 0, 0, [], []⟩ : Plan), m.ID, [], m.Payload⟩ : Msg) fence known hold y4.2.1 y4.2.2 c index well b1 b2 fuse down b4 b5 = some y) => @Eq.mp (Sound E 40 [.ptr 0 0 0, .agg [.int .i64 14, .int .i64 0, .int .i64 0, .int .i64 m.Epoch, .int .i64 0, .int .i64 0, .int .i64 0, .int .i64 0, .int .u64 0, .int .i64 0, .bool false, .int .i64 0, .int .i64 0, .int .i64 0, .int .i64 0, .int .i64 0, .int .i64 0, .int .i64 0, .int .i64 0, .int .u64 0, .int .u64 0, .sl false 1 (List.map (eInt .i64) ([])), .sl false 1 (List.map (eInt .i64) ([])), .sl false 1 (List.map (eInt .i64) m.ID), .sl false 1 (List.map (eInt .u8) ([])), .sl false 1 (List.map (eInt .u8) m.Payload)], .fn 31 [.ptr 0 0 0] []] [some ⟨54, true, [([.int .i64 fence] ++ Plan.encL known ([.int .i64 hold.Epoch, .int .i64 hold.Nonce, .int .u64 hold.Grants, .int .i64 hold.Until, (grD 1 (List.map Entry.enc b1)), (grD 2 (List.map (eSl 1 (eInt .i64)) b2)), .int .i64 y4.2.1, .int .i64 y4.2.2] ++ Config.encL c [.int .i64 index, .ptr 3 0 0, .bool well]))]⟩, some ⟨3, false, (List.map Entry.enc b1)⟩, some ⟨1, false, (List.map (eSl 1 (eInt .i64)) b2)⟩, some ⟨4, true, [[(grD 4 (List.map (eInt .u8) b4)), (grD 5 (List.map (eInt .u8) b5)), .int .i64 fuse, .bool down]]⟩, some ⟨1, false, (List.map (eInt .u8) b4)⟩, some ⟨1, false, (List.map (eInt .u8) b5)⟩] (Rs (Target_remember__take_e known hold y4.2.1 y4.2.2 c index well) y)) (Sound E 40 [.ptr 0 0 0, .agg [.int .i64 14, .int .i64 0, .int .i64 0, .int .i64 m.Epoch, .int .i64 0, .int .i64 0, .int .i64 0, .int .i64 0, .int .u64 0, .int .i64 0, .bool false, .int .i64 0, .int .i64 0, .int .i64 0, .int .i64 0, .int .i64 0, .int .i64 0, .int .i64 0, .int .i64 0, .int .u64 0, .int .u64 0, .sl false 1 [], .sl false 1 [], .sl false 1 (List.map (eInt .i64) m.ID), .sl false 1 [], .sl false 1 (List.map (eInt .u8) m.Payload)], .fn 31 [.ptr 0 0 0] []] [some ⟨54, true, [([.int .i64 fence] ++ Plan.encL known ([.int .i64 hold.Epoch, .int .i64 hold.Nonce, .int .u64 hold.Grants, .int .i64 hold.Until, (grD 1 (List.map Entry.enc b1)), (grD 2 (List.map (eSl 1 (eInt .i64)) b2)), .int .i64 y4.2.1, .int .i64 y4.2.2] ++ Config.encL c [.int .i64 index, .ptr 3 0 0, .bool well]))]⟩, some ⟨3, false, (List.map Entry.enc b1)⟩, some ⟨1, false, (List.map (eSl 1 (eInt .i64)) b2)⟩, some ⟨4, true, [[(grD 4 (List.map (eInt .u8) b4)), (grD 5 (List.map (eInt .u8) b5)), .int .i64 fuse, .bool down]]⟩, some ⟨1, false, (List.map (eInt .u8) b4)⟩, some ⟨1, false, (List.map (eInt .u8) b5)⟩] (Rs (Target_remember__take_e known hold y4.2.1 y4.2.2 c index well) y)) (by kernel_rfl) (Target_remember__take_ok hy)
   refine zc 0 [some 1, some 1, some 1] h ok6 fun y6 h => ?_
   refine zs 3 h (fun h => ?_) fun h => ?_
   ·
    exact zu 5 h [.slot 0 [some 26]]
   refine adv_ok hm 30 _ ?_
   have ok8 := fun (y : List Msg) (hy : Target_reply m 15 (⟨0, 0, 0, m.Epoch, 0, 0, 0, 0, 0, 0, false, (⟨0, 0, 0, 0, 0, 0, 0, 0, 0, 0, [], []⟩ : Plan), m.ID, [], []⟩ : Msg) y6.2.1 known hold y4.2.1 (IntKind.i64.wrap (y4.2.2 + 1)) c index well y6.2.2.2.2.1 y6.2.2.2.2.2.1 y6.2.2.1 y6.2.2.2.1 y6.2.2.2.2.2.2.1 y6.2.2.2.2.2.2.2 = some y) => @Eq.mp (Sound E 38 [.ptr 0 0 0, .agg [.int .i64 m.Kind, .int .i64 m.From, .int .i64 m.To, .int .i64 m.Epoch, .int .i64 m.Ballot, .int .i64 m.Accepted, .int .i64 m.Nonce, .int .i64 m.Time, .int .u64 m.Up, .int .i64 m.Code, .bool m.HasPlan, .int .i64 m.Plan.Epoch, .int .i64 m.Plan.Target, .int .i64 m.Plan.Prev, .int .i64 m.Plan.Spill, .int .i64 m.Plan.Percent, .int .i64 m.Plan.Stamp, .int .i64 m.Plan.Since, .int .i64 m.Plan.Ramped, .int .u64 m.Plan.Up, .int .u64 m.Plan.Sup, .sl false 1 (List.map (eInt .i64) m.Plan.Pen), .sl false 1 (List.map (eInt .i64) m.Plan.Changes), .sl false 1 (List.map (eInt .i64) m.ID), .sl false 1 (List.map (eInt .u8) m.Session), .sl false 1 (List.map (eInt .u8) m.Payload)], .int .i64 15, .agg [.int .i64 0, .int .i64 0, .int .i64 0, .int .i64 m.Epoch, .int .i64 0, .int .i64 0, .int .i64 0, .int .i64 0, .int .u64 0, .int .i64 0, .bool false, .int .i64 0, .int .i64 0, .int .i64 0, .int .i64 0, .int .i64 0, .int .i64 0, .int .i64 0, .int .i64 0, .int .u64 0, .int .u64 0, .sl false 1 (List.map (eInt .i64) ([])), .sl false 1 (List.map (eInt .i64) ([])), .sl false 1 (List.map (eInt .i64) m.ID), .sl false 1 (List.map (eInt .u8) ([])), .sl false 1 (List.map (eInt .u8) ([]))]] [some ⟨54, true, [([.int .i64 y6.2.1] ++ Plan.encL known ([.int .i64 hold.Epoch, .int .i64 hold.Nonce, .int .u64 hold.Grants, .int .i64 hold.Until, (grD 1 (List.map Entry.enc y6.2.2.2.2.1)), (grD 2 (List.map (eSl 1 (eInt .i64)) y6.2.2.2.2.2.1)), .int .i64 y4.2.1, .int .i64 (IntKind.i64.wrap (y4.2.2 + 1))] ++ Config.encL c [.int .i64 index, .ptr 3 0 0, .bool well]))]⟩, some ⟨3, false, (List.map Entry.enc y6.2.2.2.2.1)⟩, some ⟨1, false, (List.map (eSl 1 (eInt .i64)) y6.2.2.2.2.2.1)⟩, some ⟨4, true, [[(grD 4 (List.map (eInt .u8) y6.2.2.2.2.2.2.1)), (grD 5 (List.map (eInt .u8) y6.2.2.2.2.2.2.2)), .int .i64 y6.2.2.1, .bool y6.2.2.2.1]]⟩, some ⟨1, false, (List.map (eInt .u8) y6.2.2.2.2.2.2.1)⟩, some ⟨1, false, (List.map (eInt .u8) y6.2.2.2.2.2.2.2)⟩] (Rs (Target_reply_e y6.2.1 known hold y4.2.1 (IntKind.i64.wrap (y4.2.2 + 1)) c index well y6.2.2.2.2.1 y6.2.2.2.2.2.1 y6.2.2.1 y6.2.2.2.1 y6.2.2.2.2.2.2.1 y6.2.2.2.2.2.2.2) y)) (Sound E 38 [.ptr 0 0 0, .agg [.int .i64 m.Kind, .int .i64 m.From, .int .i64 m.To, .int .i64 m.Epoch, .int .i64 m.Ballot, .int .i64 m.Accepted, .int .i64 m.Nonce, .int .i64 m.Time, .int .u64 m.Up, .int .i64 m.Code, .bool m.HasPlan, .int .i64 m.Plan.Epoch, .int .i64 m.Plan.Target, .int .i64 m.Plan.Prev, .int .i64 m.Plan.Spill, .int .i64 m.Plan.Percent, .int .i64 m.Plan.Stamp, .int .i64 m.Plan.Since, .int .i64 m.Plan.Ramped, .int .u64 m.Plan.Up, .int .u64 m.Plan.Sup, .sl false 1 (List.map (eInt .i64) m.Plan.Pen), .sl false 1 (List.map (eInt .i64) m.Plan.Changes), .sl false 1 (List.map (eInt .i64) m.ID), .sl false 1 (List.map (eInt .u8) m.Session), .sl false 1 (List.map (eInt .u8) m.Payload)], .int .i64 15, .agg [.int .i64 0, .int .i64 0, .int .i64 0, .int .i64 m.Epoch, .int .i64 0, .int .i64 0, .int .i64 0, .int .i64 0, .int .u64 0, .int .i64 0, .bool false, .int .i64 0, .int .i64 0, .int .i64 0, .int .i64 0, .int .i64 0, .int .i64 0, .int .i64 0, .int .i64 0, .int .u64 0, .int .u64 0, .sl false 1 [], .sl false 1 [], .sl false 1 (List.map (eInt .i64) m.ID), .sl false 1 [], .sl false 1 []]] [some ⟨54, true, [([.int .i64 y6.2.1] ++ Plan.encL known ([.int .i64 hold.Epoch, .int .i64 hold.Nonce, .int .u64 hold.Grants, .int .i64 hold.Until, (grD 1 (List.map Entry.enc y6.2.2.2.2.1)), (grD 2 (List.map (eSl 1 (eInt .i64)) y6.2.2.2.2.2.1)), .int .i64 y4.2.1, .int .i64 (IntKind.i64.wrap (y4.2.2 + 1))] ++ Config.encL c [.int .i64 index, .ptr 3 0 0, .bool well]))]⟩, some ⟨3, false, (List.map Entry.enc y6.2.2.2.2.1)⟩, some ⟨1, false, (List.map (eSl 1 (eInt .i64)) y6.2.2.2.2.2.1)⟩, some ⟨4, true, [[(grD 4 (List.map (eInt .u8) y6.2.2.2.2.2.2.1)), (grD 5 (List.map (eInt .u8) y6.2.2.2.2.2.2.2)), .int .i64 y6.2.2.1, .bool y6.2.2.2.1]]⟩, some ⟨1, false, (List.map (eInt .u8) y6.2.2.2.2.2.2.1)⟩, some ⟨1, false, (List.map (eInt .u8) y6.2.2.2.2.2.2.2)⟩] (Rs (Target_reply_e y6.2.1 known hold y4.2.1 (IntKind.i64.wrap (y4.2.2 + 1)) c index well y6.2.2.2.2.1 y6.2.2.2.2.2.1 y6.2.2.1 y6.2.2.2.1 y6.2.2.2.2.2.2.1 y6.2.2.2.2.2.2.2) y)) (by kernel_rfl) (Target_reply_ok hy)
   refine zc 0 [some 1, some 1, some 1, some 1] h ok8 fun y8 h => ?_
   exact zu 3 h
  exact zg 1 (Target_write_1_ok h)
 exact zg 1 (Target_write_1_ok h)
noncomputable def Target_write (m : Msg) (now fence : Int) (known : Plan) (hold : Hold) (begun filled : Int) (c : Config) (index : Int) (well : Bool) (b1 : List Entry) (b2 : List (List Int)) (fuse : Int) (down : Bool) (b4 b5 : List Int) : Option ((List Msg) × Int × Int × Int × Int × Bool × (List Entry) × (List (List Int)) × (List Int) × (List Int)) := (bif (((((List.map (eInt .i64) m.ID).length : Nat) : Int) : Int) != 3) then (some ([], fence, begun, filled, fuse, down, b1, b2, b4, b5)) else ((slices_IndexFunc__is b1 m).bind fun y2 => (bif (decide ((y2 : Int) ≥ 0)) then (bif ((decide ((0 : Int) ≤ y2)) && (decide ((y2 : Int) < (((List.map Entry.enc b1).length : Nat) : Int)))) then (((b1)[(0 + y2.toNat)]?).bind fun y5 => ((Target_reply m 15 (⟨0, 0, 0, y5.Epoch, 0, 0, 0, 0, 0, 0, false, (⟨0, 0, 0, 0, 0, 0, 0, 0, 0, 0, [], []⟩ : Plan), m.ID, [], []⟩ : Msg) fence known hold begun filled c index well b1 b2 fuse down b4 b5).bind fun y7 => (some (y7, fence, begun, filled, fuse, down, b1, b2, b4, b5)))) else none) else ((slices_ContainsFunc__same b2 m).bind fun y8 => (bif y8 then ((Target_reply m 15 (⟨0, 0, 0, m.Epoch, 0, 0, 0, 0, 0, 1, false, (⟨0, 0, 0, 0, 0, 0, 0, 0, 0, 0, [], []⟩ : Plan), m.ID, [], []⟩ : Msg) fence known hold begun filled c index well b1 b2 fuse down b4 b5).bind fun y10 => (some (y10, fence, begun, filled, fuse, down, b1, b2, b4, b5))) else (bif (decide ((m.Epoch : Int) > known.Epoch)) then (some ([], fence, begun, filled, fuse, down, b1, b2, b4, b5)) else (bif ((m.Epoch : Int) == known.Epoch) then ((plan_Names known index).bind fun y13 => (bif y13 then (Target_write_2 m now fence known hold begun filled c index well b1 b2 fuse down b4 b5 (decide ((m.Epoch : Int) ≥ fence)) (⟨0, 0, 0, m.Epoch, 0, 0, 0, 0, 0, 1, false, (⟨0, 0, 0, 0, 0, 0, 0, 0, 0, 0, [], []⟩ : Plan), m.ID, [], []⟩ : Msg)) else (Target_write_2 m now fence known hold begun filled c index well b1 b2 fuse down b4 b5 false (⟨0, 0, 0, m.Epoch, 0, 0, 0, 0, 0, 1, false, (⟨0, 0, 0, 0, 0, 0, 0, 0, 0, 0, [], []⟩ : Plan), m.ID, [], []⟩ : Msg)))) else (Target_write_2 m now fence known hold begun filled c index well b1 b2 fuse down b4 b5 false (⟨0, 0, 0, m.Epoch, 0, 0, 0, 0, 0, 1, false, (⟨0, 0, 0, 0, 0, 0, 0, 0, 0, 0, [], []⟩ : Plan), m.ID, [], []⟩ : Msg)))))))))
theorem Target_write_ok {m : Msg} {now fence : Int} {known : Plan} {hold : Hold} {begun filled : Int} {c : Config} {index : Int} {well : Bool} {b1 : List Entry} {b2 : List (List Int)} {fuse : Int} {down : Bool} {b4 b5 : List Int} {r : (List Msg) × Int × Int × Int × Int × Bool × (List Entry) × (List (List Int)) × (List Int) × (List Int)} (h : Target_write m now fence known hold begun filled c index well b1 b2 fuse down b4 b5 = some r) : Sound E 42 [.ptr 0 0 0, .agg [.int .i64 m.Kind, .int .i64 m.From, .int .i64 m.To, .int .i64 m.Epoch, .int .i64 m.Ballot, .int .i64 m.Accepted, .int .i64 m.Nonce, .int .i64 m.Time, .int .u64 m.Up, .int .i64 m.Code, .bool m.HasPlan, .int .i64 m.Plan.Epoch, .int .i64 m.Plan.Target, .int .i64 m.Plan.Prev, .int .i64 m.Plan.Spill, .int .i64 m.Plan.Percent, .int .i64 m.Plan.Stamp, .int .i64 m.Plan.Since, .int .i64 m.Plan.Ramped, .int .u64 m.Plan.Up, .int .u64 m.Plan.Sup, .sl false 1 (List.map (eInt .i64) m.Plan.Pen), .sl false 1 (List.map (eInt .i64) m.Plan.Changes), .sl false 1 (List.map (eInt .i64) m.ID), .sl false 1 (List.map (eInt .u8) m.Session), .sl false 1 (List.map (eInt .u8) m.Payload)], .int .i64 now] [some ⟨54, true, [([.int .i64 fence] ++ Plan.encL known ([.int .i64 hold.Epoch, .int .i64 hold.Nonce, .int .u64 hold.Grants, .int .i64 hold.Until, (grD 1 (List.map Entry.enc b1)), (grD 2 (List.map (eSl 1 (eInt .i64)) b2)), .int .i64 begun, .int .i64 filled] ++ Config.encL c [.int .i64 index, .ptr 3 0 0, .bool well]))]⟩, some ⟨3, false, (List.map Entry.enc b1)⟩, some ⟨1, false, (List.map (eSl 1 (eInt .i64)) b2)⟩, some ⟨4, true, [[(grD 4 (List.map (eInt .u8) b4)), (grD 5 (List.map (eInt .u8) b5)), .int .i64 fuse, .bool down]]⟩, some ⟨1, false, (List.map (eInt .u8) b4)⟩, some ⟨1, false, (List.map (eInt .u8) b5)⟩] (Rs (Target_write_e known hold c index well) r) := so (fn := Tryz.f42) (k := true) (m := 6) h <| by
 intro r h; unfold Target_write at h
 refine zs 15 h (fun h => ?_) fun h => ?_
 ·
  refine zf 4 [.mv 1, .mv 2, .mv 4, .mv 5] ?_
  exact zu 1 h [.slot 0 [some 26]]
 refine zm 20 (ble_full ((List.map Entry.enc b1).length)) ?_
 refine zcE 0 [] (args1 := [.sl false 3 (List.take ((List.map Entry.enc b1).length) (List.drop 0 (List.map Entry.enc b1))), .fn 61 [] [.iptr 1 [[.fn 58 [] [.iptr 26 [[.int .i64 m.Kind, .int .i64 m.From, .int .i64 m.To, .int .i64 m.Epoch, .int .i64 m.Ballot, .int .i64 m.Accepted, .int .i64 m.Nonce, .int .i64 m.Time, .int .u64 m.Up, .int .i64 m.Code, .bool m.HasPlan, .int .i64 m.Plan.Epoch, .int .i64 m.Plan.Target, .int .i64 m.Plan.Prev, .int .i64 m.Plan.Spill, .int .i64 m.Plan.Percent, .int .i64 m.Plan.Stamp, .int .i64 m.Plan.Since, .int .i64 m.Plan.Ramped, .int .u64 m.Plan.Up, .int .u64 m.Plan.Sup, .sl false 1 (List.map (eInt .i64) m.Plan.Pen), .sl false 1 (List.map (eInt .i64) m.Plan.Changes), .sl false 1 (List.map (eInt .i64) m.ID), .sl false 1 (List.map (eInt .u8) m.Session), .sl false 1 (List.map (eInt .u8) m.Payload)]] 0 0]]] 0 0]]) h (fun _ => slices_IndexFunc__is_ok) ⟨by simp [List.take_of_length_le, List.map_take, List.map_drop], rfl⟩ fun y2 h => ?_
 refine zs 8 h (fun h => ?_) fun h => ?_
 ·
  refine zn 4 h fun h => ?_
  refine zr 0 Entry.enc h fun y5 h => ?_
  refine zdR 1 [some 1, some 1, some 1, some 1] h (fun _ => Target_reply_ok) fun y7 h => ?_
  refine zf 0 [.mv 1, .mv 2, .mv 4, .mv 5] ?_
  exact zu 1 h
 refine zm 20 (b := (Nat.ble (0 + (List.map (eSl 1 (eInt .i64)) b2).length) ((List.map (eSl 1 (eInt .i64)) b2).length))) (ble_full _) ?_
 refine zdE 0 [] (args1 := [.sl false 1 (List.take ((List.map (eSl 1 (eInt .i64)) b2).length) (List.drop 0 (List.map (eSl 1 (eInt .i64)) b2))), .fn 58 [] [.iptr 26 [[.int .i64 m.Kind, .int .i64 m.From, .int .i64 m.To, .int .i64 m.Epoch, .int .i64 m.Ballot, .int .i64 m.Accepted, .int .i64 m.Nonce, .int .i64 m.Time, .int .u64 m.Up, .int .i64 m.Code, .bool m.HasPlan, .int .i64 m.Plan.Epoch, .int .i64 m.Plan.Target, .int .i64 m.Plan.Prev, .int .i64 m.Plan.Spill, .int .i64 m.Plan.Percent, .int .i64 m.Plan.Stamp, .int .i64 m.Plan.Since, .int .i64 m.Plan.Ramped, .int .u64 m.Plan.Up, .int .u64 m.Plan.Sup, .sl false 1 (List.map (eInt .i64) m.Plan.Pen), .sl false 1 (List.map (eInt .i64) m.Plan.Changes), .sl false 1 (List.map (eInt .i64) m.ID), .sl false 1 (List.map (eInt .u8) m.Session), .sl false 1 (List.map (eInt .u8) m.Payload)]] 0 0]]) h (fun _ => slices_ContainsFunc__same_ok) (by simp [List.take_of_length_le, List.map_take, List.map_drop]) fun y8 h => ?_
 refine zs 1 h (fun h => ?_) fun h => ?_
 ·
  refine adv_ok hm 8 _ ?_
  have ok10 := fun (y : List Msg) (hy : Target_reply m 15 (⟨0, 0, 0, m.Epoch, 0, 0, 0, 0, 0, 1, false, (⟨0, 0, 0, 0, 0, 0, 0, 0, 0, 0, [], []⟩ : Plan), m.ID, [], []⟩ : Msg) fence known hold begun filled c index well b1 b2 fuse down b4 b5 = some y) => @Eq.mp (Sound E 38 [.ptr 0 0 0, .agg [.int .i64 m.Kind, .int .i64 m.From, .int .i64 m.To, .int .i64 m.Epoch, .int .i64 m.Ballot, .int .i64 m.Accepted, .int .i64 m.Nonce, .int .i64 m.Time, .int .u64 m.Up, .int .i64 m.Code, .bool m.HasPlan, .int .i64 m.Plan.Epoch, .int .i64 m.Plan.Target, .int .i64 m.Plan.Prev, .int .i64 m.Plan.Spill, .int .i64 m.Plan.Percent, .int .i64 m.Plan.Stamp, .int .i64 m.Plan.Since, .int .i64 m.Plan.Ramped, .int .u64 m.Plan.Up, .int .u64 m.Plan.Sup, .sl false 1 (List.map (eInt .i64) m.Plan.Pen), .sl false 1 (List.map (eInt .i64) m.Plan.Changes), .sl false 1 (List.map (eInt .i64) m.ID), .sl false 1 (List.map (eInt .u8) m.Session), .sl false 1 (List.map (eInt .u8) m.Payload)], .int .i64 15, .agg [.int .i64 0, .int .i64 0, .int .i64 0, .int .i64 m.Epoch, .int .i64 0, .int .i64 0, .int .i64 0, .int .i64 0, .int .u64 0, .int .i64 1, .bool false, .int .i64 0, .int .i64 0, .int .i64 0, .int .i64 0, .int .i64 0, .int .i64 0, .int .i64 0, .int .i64 0, .int .u64 0, .int .u64 0, .sl false 1 (List.map (eInt .i64) ([])), .sl false 1 (List.map (eInt .i64) ([])), .sl false 1 (List.map (eInt .i64) m.ID), .sl false 1 (List.map (eInt .u8) ([])), .sl false 1 (List.map (eInt .u8) ([]))]] [some ⟨54, true, [([.int .i64 fence] ++ Plan.encL known ([.int .i64 hold.Epoch, .int .i64 hold.Nonce, .int .u64 hold.Grants, .int .i64 hold.Until, (grD 1 (List.map Entry.enc b1)), (grD 2 (List.map (eSl 1 (eInt .i64)) b2)), .int .i64 begun, .int .i64 filled] ++ Config.encL c [.int .i64 index, .ptr 3 0 0, .bool well]))]⟩, some ⟨3, false, (List.map Entry.enc b1)⟩, some ⟨1, false, (List.map (eSl 1 (eInt .i64)) b2)⟩, some ⟨4, true, [[(grD 4 (List.map (eInt .u8) b4)), (grD 5 (List.map (eInt .u8) b5)), .int .i64 fuse, .bool down]]⟩, some ⟨1, false, (List.map (eInt .u8) b4)⟩, some ⟨1, false, (List.map (eInt .u8) b5)⟩] (Rs (Target_reply_e fence known hold begun filled c index well b1 b2 fuse down b4 b5) y)) (Sound E 38 [.ptr 0 0 0, .agg [.int .i64 m.Kind, .int .i64 m.From, .int .i64 m.To, .int .i64 m.Epoch, .int .i64 m.Ballot, .int .i64 m.Accepted, .int .i64 m.Nonce, .int .i64 m.Time, .int .u64 m.Up, .int .i64 m.Code, .bool m.HasPlan, .int .i64 m.Plan.Epoch, .int .i64 m.Plan.Target, .int .i64 m.Plan.Prev, .int .i64 m.Plan.Spill, .int .i64 m.Plan.Percent, .int .i64 m.Plan.Stamp, .int .i64 m.Plan.Since, .int .i64 m.Plan.Ramped, .int .u64 m.Plan.Up, .int .u64 m.Plan.Sup, .sl false 1 (List.map (eInt .i64) m.Plan.Pen), .sl false 1 (List.map (eInt .i64) m.Plan.Changes), .sl false 1 (List.map (eInt .i64) m.ID), .sl false 1 (List.map (eInt .u8) m.Session), .sl false 1 (List.map (eInt .u8) m.Payload)], .int .i64 15, .agg [.int .i64 0, .int .i64 0, .int .i64 0, .int .i64 m.Epoch, .int .i64 0, .int .i64 0, .int .i64 0, .int .i64 0, .int .u64 0, .int .i64 1, .bool false, .int .i64 0, .int .i64 0, .int .i64 0, .int .i64 0, .int .i64 0, .int .i64 0, .int .i64 0, .int .i64 0, .int .u64 0, .int .u64 0, .sl false 1 [], .sl false 1 [], .sl false 1 (List.map (eInt .i64) m.ID), .sl false 1 [], .sl false 1 []]] [some ⟨54, true, [([.int .i64 fence] ++ Plan.encL known ([.int .i64 hold.Epoch, .int .i64 hold.Nonce, .int .u64 hold.Grants, .int .i64 hold.Until, (grD 1 (List.map Entry.enc b1)), (grD 2 (List.map (eSl 1 (eInt .i64)) b2)), .int .i64 begun, .int .i64 filled] ++ Config.encL c [.int .i64 index, .ptr 3 0 0, .bool well]))]⟩, some ⟨3, false, (List.map Entry.enc b1)⟩, some ⟨1, false, (List.map (eSl 1 (eInt .i64)) b2)⟩, some ⟨4, true, [[(grD 4 (List.map (eInt .u8) b4)), (grD 5 (List.map (eInt .u8) b5)), .int .i64 fuse, .bool down]]⟩, some ⟨1, false, (List.map (eInt .u8) b4)⟩, some ⟨1, false, (List.map (eInt .u8) b5)⟩] (Rs (Target_reply_e fence known hold begun filled c index well b1 b2 fuse down b4 b5) y)) (by kernel_rfl) (Target_reply_ok hy)
  refine zc 0 [some 1, some 1, some 1, some 1] h ok10 fun y10 h => ?_
  refine zf 2 [.mv 1, .mv 2, .mv 4, .mv 5, .blk 8 [some 1, some 1, some 1, some 1]] ?_
  exact zu 1 h
 refine zs 7 h (fun h => ?_) fun h => ?_
 ·
  refine zf 4 [.mv 1, .mv 2, .mv 4, .mv 5, .blk 8 [some 1, some 1, some 1, some 1]] ?_
  exact zu 1 h [.slot 0 [some 26]]
 refine zs 6 h (fun h => ?_) fun h => ?_
 ·
  refine zd 11 [] h (fun _ => plan_Names_ok) fun y13 h => ?_
  refine zs 1 h (fun h => ?_) fun h => ?_
  ·
   exact zg 10 (Target_write_2_ok h) [.blk 8 [some 1, some 1, some 1, some 1]]
  exact zg 8 (Target_write_2_ok h) [.blk 8 [some 1, some 1, some 1, some 1]]
 exact zg 19 (Target_write_2_ok h) [.blk 8 [some 1, some 1, some 1, some 1]]
end Go.RX.L

namespace Go.RX.L
open Go Go.RX Go.Proofs
attribute [local irreducible] FinQ
noncomputable def Target_Handle_c := codeAt (bodyOf Tryz.f20)
noncomputable def Target_Handle_e (c : Config) (index : Int) (well : Bool) (y : (List Msg) × Int × Plan × Hold × Int × Int × Int × Bool × (List Entry) × (List (List Int)) × (List Int) × (List Int)) : D × Sto := (.sl false 26 (List.map Msg.enc y.1), [some ⟨54, true, [([.int .i64 y.2.1, .int .i64 y.2.2.1.Epoch, .int .i64 y.2.2.1.Target, .int .i64 y.2.2.1.Prev, .int .i64 y.2.2.1.Spill, .int .i64 y.2.2.1.Percent, .int .i64 y.2.2.1.Stamp, .int .i64 y.2.2.1.Since, .int .i64 y.2.2.1.Ramped, .int .u64 y.2.2.1.Up, .int .u64 y.2.2.1.Sup, .sl false 1 (List.map (eInt .i64) y.2.2.1.Pen), .sl false 1 (List.map (eInt .i64) y.2.2.1.Changes), .int .i64 y.2.2.2.1.Epoch, .int .i64 y.2.2.2.1.Nonce, .int .u64 y.2.2.2.1.Grants, .int .i64 y.2.2.2.1.Until, (grD 6 (List.map Entry.enc y.2.2.2.2.2.2.2.2.1)), (grD 7 (List.map (eSl 1 (eInt .i64)) y.2.2.2.2.2.2.2.2.2.1)), .int .i64 y.2.2.2.2.1, .int .i64 y.2.2.2.2.2.1] ++ Config.encL c [.int .i64 index, .ptr 3 0 0, .bool well])]⟩, none, none, some ⟨4, true, [[(grD 8 (List.map (eInt .u8) y.2.2.2.2.2.2.2.2.2.2.1)), (grD 9 (List.map (eInt .u8) y.2.2.2.2.2.2.2.2.2.2.2)), .int .i64 y.2.2.2.2.2.2.1, .bool y.2.2.2.2.2.2.2.1]]⟩, none, none, some ⟨3, false, (List.map Entry.enc y.2.2.2.2.2.2.2.2.1)⟩, some ⟨1, false, (List.map (eSl 1 (eInt .i64)) y.2.2.2.2.2.2.2.2.2.1)⟩, some ⟨1, false, (List.map (eInt .u8) y.2.2.2.2.2.2.2.2.2.2.1)⟩, some ⟨1, false, (List.map (eInt .u8) y.2.2.2.2.2.2.2.2.2.2.2)⟩])
abbrev Target_Handle_W (m : Msg) (now fence : Int) (known : Plan) (hold : Hold) (begun filled : Int) (c : Config) (index : Int) (well : Bool) (b1 : List Entry) (b2 : List (List Int)) (fuse : Int) (down : Bool) (b4 b5 : List Int) := AOk E (Cx.of Tryz.f20 true 6) (Target_Handle_e c index well)
noncomputable def Target_Handle_2M (m : Msg) (now fence : Int) (known : Plan) (hold : Hold) (begun filled : Int) (c : Config) (index : Int) (well : Bool) (b1 : List Entry) (b2 : List (List Int)) (fuse : Int) (down : Bool) (b4 b5 : List Int) (t60 : Bool) : M := ⟨[.code (Target_Handle_c [1, 1, 0, 1, 0, 1, 1, 1, 0, 1]), .blk 0, .code (Target_Handle_c [1, 1, 1])], [(0, .ptr 0 0 0), (4, .ptr 6 0 0), (60, .bool t60)], [some ⟨54, true, [([.int .i64 fence] ++ Plan.encL known ([.int .i64 hold.Epoch, .int .i64 hold.Nonce, .int .u64 hold.Grants, .int .i64 hold.Until, (grD 1 (List.map Entry.enc b1)), (grD 2 (List.map (eSl 1 (eInt .i64)) b2)), .int .i64 begun, .int .i64 filled] ++ Config.encL c [.int .i64 index, .ptr 3 0 0, .bool well]))]⟩, some ⟨3, false, (List.map Entry.enc b1)⟩, some ⟨1, false, (List.map (eSl 1 (eInt .i64)) b2)⟩, some ⟨4, true, [[(grD 4 (List.map (eInt .u8) b4)), (grD 5 (List.map (eInt .u8) b5)), .int .i64 fuse, .bool down]]⟩, some ⟨1, false, (List.map (eInt .u8) b4)⟩, some ⟨1, false, (List.map (eInt .u8) b5)⟩, some ⟨26, false, [(Msg.enc m)]⟩]⟩
noncomputable def Target_Handle_2 (m : Msg) (now fence : Int) (known : Plan) (hold : Hold) (begun filled : Int) (c : Config) (index : Int) (well : Bool) (b1 : List Entry) (b2 : List (List Int)) (fuse : Int) (down : Bool) (b4 b5 : List Int) (t60 : Bool) : Option ((List Msg) × Int × Plan × Hold × Int × Int × Int × Bool × (List Entry) × (List (List Int)) × (List Int) × (List Int)) := (bif t60 then (some ([], fence, m.Plan, hold, begun, filled, fuse, down, b1, b2, b4, b5)) else (some ([], fence, known, hold, begun, filled, fuse, down, b1, b2, b4, b5)))
theorem Target_Handle_2_ok {m now fence known hold begun filled c index well b1 b2 fuse down b4 b5 t60} : Target_Handle_W m now fence known hold begun filled c index well b1 b2 fuse down b4 b5 (Target_Handle_2M m now fence known hold begun filled c index well b1 b2 fuse down b4 b5 t60) (Target_Handle_2 m now fence known hold begun filled c index well b1 b2 fuse down b4 b5 t60) := by
 intro r h; unfold Target_Handle_2 at h
 refine zs 1 h (fun h => ?_) fun h => ?_
 ·
  refine zf 17 [.mv 1, .mv 2, .mv 4, .mv 5] ?_
  exact zu 1 h [.slot 0 [some 26]]
 refine zf 6 [.mv 1, .mv 2, .mv 4, .mv 5] ?_
 exact zu 1 h [.slot 0 [some 26]]
noncomputable def Target_Handle_3M (m : Msg) (now fence : Int) (known : Plan) (hold : Hold) (begun filled : Int) (c : Config) (index : Int) (well : Bool) (b1 : List Entry) (b2 : List (List Int)) (fuse : Int) (down : Bool) (b4 b5 : List Int) (t90 : Bool) (fence2 fuse2 : Int) (down2 : Bool) (b7 : List Entry) (b8 : List (List Int)) (b9 b10 : List Int) : M := ⟨[.code (Target_Handle_c [1, 1, 0, 1, 0, 1, 1, 1, 1, 1, 0, 1]), .blk 0, .code (Target_Handle_c [1, 1, 1])], [(0, .ptr 0 0 0), (4, .ptr 6 0 0), (90, .bool t90)], [some ⟨54, true, [([.int .i64 fence2] ++ Plan.encL known ([.int .i64 hold.Epoch, .int .i64 hold.Nonce, .int .u64 hold.Grants, .int .i64 hold.Until, (grD 7 (List.map Entry.enc b7)), (grD 8 (List.map (eSl 1 (eInt .i64)) b8)), .int .i64 begun, .int .i64 filled] ++ Config.encL c [.int .i64 index, .ptr 3 0 0, .bool well]))]⟩, none, none, some ⟨4, true, [[(grD 9 (List.map (eInt .u8) b9)), (grD 10 (List.map (eInt .u8) b10)), .int .i64 fuse2, .bool down2]]⟩, none, none, some ⟨26, false, [(Msg.enc m)]⟩, some ⟨3, false, (List.map Entry.enc b7)⟩, some ⟨1, false, (List.map (eSl 1 (eInt .i64)) b8)⟩, some ⟨1, false, (List.map (eInt .u8) b9)⟩, some ⟨1, false, (List.map (eInt .u8) b10)⟩]⟩
noncomputable def Target_Handle_3 (m : Msg) (now fence : Int) (known : Plan) (hold : Hold) (begun filled : Int) (c : Config) (index : Int) (well : Bool) (b1 : List Entry) (b2 : List (List Int)) (fuse : Int) (down : Bool) (b4 b5 : List Int) (t90 : Bool) (fence2 fuse2 : Int) (down2 : Bool) (b7 : List Entry) (b8 : List (List Int)) (b9 b10 : List Int) : Option ((List Msg) × Int × Plan × Hold × Int × Int × Int × Bool × (List Entry) × (List (List Int)) × (List Int) × (List Int)) := (bif t90 then ((Target_reply m 13 (⟨0, 0, 0, m.Epoch, 0, 0, 0, 0, 0, 0, false, (⟨0, 0, 0, 0, 0, 0, 0, 0, 0, 0, [], []⟩ : Plan), [], [], []⟩ : Msg) fence2 known hold begun filled c index well b7 b8 fuse2 down2 b9 b10).bind fun y2 => (some (y2, fence2, known, hold, begun, filled, fuse2, down2, b7, b8, b9, b10))) else (some ([], fence2, known, hold, begun, filled, fuse2, down2, b7, b8, b9, b10)))
theorem Target_Handle_3_ok {m now fence known hold begun filled c index well b1 b2 fuse down b4 b5 t90 fence2 fuse2 down2 b7 b8 b9 b10} : Target_Handle_W m now fence known hold begun filled c index well b1 b2 fuse down b4 b5 (Target_Handle_3M m now fence known hold begun filled c index well b1 b2 fuse down b4 b5 t90 fence2 fuse2 down2 b7 b8 b9 b10) (Target_Handle_3 m now fence known hold begun filled c index well b1 b2 fuse down b4 b5 t90 fence2 fuse2 down2 b7 b8 b9 b10) := by
 intro r h; unfold Target_Handle_3 at h
 refine zs 1 h (fun h => ?_) fun h => ?_
 ·
  refine adv_ok hm 10 _ ?_
  have ok2 := fun (y : List Msg) (hy : Target_reply m 13 (⟨0, 0, 0, m.Epoch, 0, 0, 0, 0, 0, 0, false, (⟨0, 0, 0, 0, 0, 0, 0, 0, 0, 0, [], []⟩ : Plan), [], [], []⟩ : Msg) fence2 known hold begun filled c index well b7 b8 fuse2 down2 b9 b10 = some y) => @Eq.mp (Sound E 38 [.ptr 0 0 0, .agg [.int .i64 m.Kind, .int .i64 m.From, .int .i64 m.To, .int .i64 m.Epoch, .int .i64 m.Ballot, .int .i64 m.Accepted, .int .i64 m.Nonce, .int .i64 m.Time, .int .u64 m.Up, .int .i64 m.Code, .bool m.HasPlan, .int .i64 m.Plan.Epoch, .int .i64 m.Plan.Target, .int .i64 m.Plan.Prev, .int .i64 m.Plan.Spill, .int .i64 m.Plan.Percent, .int .i64 m.Plan.Stamp, .int .i64 m.Plan.Since, .int .i64 m.Plan.Ramped, .int .u64 m.Plan.Up, .int .u64 m.Plan.Sup, .sl false 1 (List.map (eInt .i64) m.Plan.Pen), .sl false 1 (List.map (eInt .i64) m.Plan.Changes), .sl false 1 (List.map (eInt .i64) m.ID), .sl false 1 (List.map (eInt .u8) m.Session), .sl false 1 (List.map (eInt .u8) m.Payload)], .int .i64 13, .agg [.int .i64 0, .int .i64 0, .int .i64 0, .int .i64 m.Epoch, .int .i64 0, .int .i64 0, .int .i64 0, .int .i64 0, .int .u64 0, .int .i64 0, .bool false, .int .i64 0, .int .i64 0, .int .i64 0, .int .i64 0, .int .i64 0, .int .i64 0, .int .i64 0, .int .i64 0, .int .u64 0, .int .u64 0, .sl false 1 (List.map (eInt .i64) ([])), .sl false 1 (List.map (eInt .i64) ([])), .sl false 1 (List.map (eInt .i64) ([])), .sl false 1 (List.map (eInt .u8) ([])), .sl false 1 (List.map (eInt .u8) ([]))]] [some ⟨54, true, [([.int .i64 fence2] ++ Plan.encL known ([.int .i64 hold.Epoch, .int .i64 hold.Nonce, .int .u64 hold.Grants, .int .i64 hold.Until, (grD 1 (List.map Entry.enc b7)), (grD 2 (List.map (eSl 1 (eInt .i64)) b8)), .int .i64 begun, .int .i64 filled] ++ Config.encL c [.int .i64 index, .ptr 3 0 0, .bool well]))]⟩, some ⟨3, false, (List.map Entry.enc b7)⟩, some ⟨1, false, (List.map (eSl 1 (eInt .i64)) b8)⟩, some ⟨4, true, [[(grD 4 (List.map (eInt .u8) b9)), (grD 5 (List.map (eInt .u8) b10)), .int .i64 fuse2, .bool down2]]⟩, some ⟨1, false, (List.map (eInt .u8) b9)⟩, some ⟨1, false, (List.map (eInt .u8) b10)⟩] (Rs (Target_reply_e fence2 known hold begun filled c index well b7 b8 fuse2 down2 b9 b10) y)) (Sound E 38 [.ptr 0 0 0, .agg [.int .i64 m.Kind, .int .i64 m.From, .int .i64 m.To, .int .i64 m.Epoch, .int .i64 m.Ballot, .int .i64 m.Accepted, .int .i64 m.Nonce, .int .i64 m.Time, .int .u64 m.Up, .int .i64 m.Code, .bool m.HasPlan, .int .i64 m.Plan.Epoch, .int .i64 m.Plan.Target, .int .i64 m.Plan.Prev, .int .i64 m.Plan.Spill, .int .i64 m.Plan.Percent, .int .i64 m.Plan.Stamp, .int .i64 m.Plan.Since, .int .i64 m.Plan.Ramped, .int .u64 m.Plan.Up, .int .u64 m.Plan.Sup, .sl false 1 (List.map (eInt .i64) m.Plan.Pen), .sl false 1 (List.map (eInt .i64) m.Plan.Changes), .sl false 1 (List.map (eInt .i64) m.ID), .sl false 1 (List.map (eInt .u8) m.Session), .sl false 1 (List.map (eInt .u8) m.Payload)], .int .i64 13, .agg [.int .i64 0, .int .i64 0, .int .i64 0, .int .i64 m.Epoch, .int .i64 0, .int .i64 0, .int .i64 0, .int .i64 0, .int .u64 0, .int .i64 0, .bool false, .int .i64 0, .int .i64 0, .int .i64 0, .int .i64 0, .int .i64 0, .int .i64 0, .int .i64 0, .int .i64 0, .int .u64 0, .int .u64 0, .sl false 1 [], .sl false 1 [], .sl false 1 [], .sl false 1 [], .sl false 1 []]] [some ⟨54, true, [([.int .i64 fence2] ++ Plan.encL known ([.int .i64 hold.Epoch, .int .i64 hold.Nonce, .int .u64 hold.Grants, .int .i64 hold.Until, (grD 1 (List.map Entry.enc b7)), (grD 2 (List.map (eSl 1 (eInt .i64)) b8)), .int .i64 begun, .int .i64 filled] ++ Config.encL c [.int .i64 index, .ptr 3 0 0, .bool well]))]⟩, some ⟨3, false, (List.map Entry.enc b7)⟩, some ⟨1, false, (List.map (eSl 1 (eInt .i64)) b8)⟩, some ⟨4, true, [[(grD 4 (List.map (eInt .u8) b9)), (grD 5 (List.map (eInt .u8) b10)), .int .i64 fuse2, .bool down2]]⟩, some ⟨1, false, (List.map (eInt .u8) b9)⟩, some ⟨1, false, (List.map (eInt .u8) b10)⟩] (Rs (Target_reply_e fence2 known hold begun filled c index well b7 b8 fuse2 down2 b9 b10) y)) (by kernel_rfl) (Target_reply_ok hy)
  refine zc 0 [some 1, some 1, some 1, some 1, some 1] h ok2 fun y2 h => ?_
  exact zu 3 h
 exact zu 7 h [.slot 0 [some 26]]
noncomputable def Target_Handle_1M (m : Msg) (now fence : Int) (known : Plan) (hold : Hold) (begun filled : Int) (c : Config) (index : Int) (well : Bool) (b1 : List Entry) (b2 : List (List Int)) (fuse : Int) (down : Bool) (b4 b5 : List Int) (t24 : Bool) : M := ⟨[.code (Target_Handle_c [1, 0, 1]), .code (Target_Handle_c [1, 1])], [(0, .ptr 0 0 0), (2, .int .i64 now), (4, .ptr 6 0 0), (24, .bool t24)], [some ⟨54, true, [([.int .i64 fence] ++ Plan.encL known ([.int .i64 hold.Epoch, .int .i64 hold.Nonce, .int .u64 hold.Grants, .int .i64 hold.Until, (grD 1 (List.map Entry.enc b1)), (grD 2 (List.map (eSl 1 (eInt .i64)) b2)), .int .i64 begun, .int .i64 filled] ++ Config.encL c [.int .i64 index, .ptr 3 0 0, .bool well]))]⟩, some ⟨3, false, (List.map Entry.enc b1)⟩, some ⟨1, false, (List.map (eSl 1 (eInt .i64)) b2)⟩, some ⟨4, true, [[(grD 4 (List.map (eInt .u8) b4)), (grD 5 (List.map (eInt .u8) b5)), .int .i64 fuse, .bool down]]⟩, some ⟨1, false, (List.map (eInt .u8) b4)⟩, some ⟨1, false, (List.map (eInt .u8) b5)⟩, some ⟨26, false, [(Msg.enc m)]⟩]⟩
noncomputable def Target_Handle_1 (m : Msg) (now fence : Int) (known : Plan) (hold : Hold) (begun filled : Int) (c : Config) (index : Int) (well : Bool) (b1 : List Entry) (b2 : List (List Int)) (fuse : Int) (down : Bool) (b4 b5 : List Int) (t24 : Bool) : Option ((List Msg) × Int × Plan × Hold × Int × Int × Int × Bool × (List Entry) × (List (List Int)) × (List Int) × (List Int)) := (bif t24 then (some ([], fence, known, hold, begun, filled, fuse, down, b1, b2, b4, b5)) else (bif ((m.Kind : Int) == 1) then (bif well then ((Target_reply m 2 (⟨0, 0, 0, 0, 0, 0, m.Nonce, 0, 0, 0, false, (⟨0, 0, 0, 0, 0, 0, 0, 0, 0, 0, [], []⟩ : Plan), [], [], []⟩ : Msg) fence known hold begun filled c index well b1 b2 fuse down b4 b5).bind fun y4 => (some (y4, fence, known, hold, begun, filled, fuse, down, b1, b2, b4, b5))) else (some ([], fence, known, hold, begun, filled, fuse, down, b1, b2, b4, b5))) else (bif ((m.Kind : Int) == 9) then (bif m.HasPlan then ((Target_fits m.Plan fence known hold begun filled c index well b1 b2 fuse down b4 b5).bind fun y7 => (bif y7 then (Target_Handle_2 m now fence known hold begun filled c index well b1 b2 fuse down b4 b5 (decide ((m.Plan.Epoch : Int) > known.Epoch))) else (Target_Handle_2 m now fence known hold begun filled c index well b1 b2 fuse down b4 b5 false))) else (Target_Handle_2 m now fence known hold begun filled c index well b1 b2 fuse down b4 b5 false)) else (bif ((m.Kind : Int) == 12) then (bif (decide ((m.Epoch : Int) ≥ 1)) then (bif (decide ((m.Epoch : Int) ≤ fence)) then (Target_Handle_3 m now fence known hold begun filled c index well b1 b2 fuse down b4 b5 true fence fuse down b1 b2 b4 b5) else ((Target_remember__take (⟨19, 0, 0, m.Epoch, 0, 0, 0, 0, 0, 0, false, (⟨0, 0, 0, 0, 0, 0, 0, 0, 0, 0, [], []⟩ : Plan), [], [], []⟩ : Msg) fence known hold begun filled c index well b1 b2 fuse down b4 b5).bind fun y12 => (Target_Handle_3 m now fence known hold begun filled c index well b1 b2 fuse down b4 b5 y12.1 y12.2.1 y12.2.2.1 y12.2.2.2.1 y12.2.2.2.2.1 y12.2.2.2.2.2.1 y12.2.2.2.2.2.2.1 y12.2.2.2.2.2.2.2))) else (Target_Handle_3 m now fence known hold begun filled c index well b1 b2 fuse down b4 b5 false fence fuse down b1 b2 b4 b5)) else (bif ((m.Kind : Int) == 11) then (bif ((m.Code : Int) == 1) then ((lease_Grant hold c m).bind fun y15 => (some ([], fence, known, y15, begun, filled, fuse, down, b1, b2, b4, b5))) else (some ([], fence, known, hold, begun, filled, fuse, down, b1, b2, b4, b5))) else (bif ((m.Kind : Int) == 14) then ((Target_write m now fence known hold begun filled c index well b1 b2 fuse down b4 b5).bind fun y17 => (some (y17.1, y17.2.1, known, hold, y17.2.2.1, y17.2.2.2.1, y17.2.2.2.2.1, y17.2.2.2.2.2.1, y17.2.2.2.2.2.2.1, y17.2.2.2.2.2.2.2.1, y17.2.2.2.2.2.2.2.2.1, y17.2.2.2.2.2.2.2.2.2))) else (some ([], fence, known, hold, begun, filled, fuse, down, b1, b2, b4, b5))))))))
theorem Target_Handle_1_ok {m now fence known hold begun filled c index well b1 b2 fuse down b4 b5 t24} : Target_Handle_W m now fence known hold begun filled c index well b1 b2 fuse down b4 b5 (Target_Handle_1M m now fence known hold begun filled c index well b1 b2 fuse down b4 b5 t24) (Target_Handle_1 m now fence known hold begun filled c index well b1 b2 fuse down b4 b5 t24) := by
 intro r h; unfold Target_Handle_1 at h
 refine zs 1 h (fun h => ?_) fun h => ?_
 ·
  refine zf 4 [.mv 1, .mv 2, .mv 4, .mv 5] ?_
  exact zu 1 h [.slot 0 [some 26]]
 refine zs 15 h (fun h => ?_) fun h => ?_
 ·
  refine zs 9 h (fun h => ?_) fun h => ?_
  ·
   refine adv_ok hm 10 _ ?_
   have ok4 := fun (y : List Msg) (hy : Target_reply m 2 (⟨0, 0, 0, 0, 0, 0, m.Nonce, 0, 0, 0, false, (⟨0, 0, 0, 0, 0, 0, 0, 0, 0, 0, [], []⟩ : Plan), [], [], []⟩ : Msg) fence known hold begun filled c index well b1 b2 fuse down b4 b5 = some y) => @Eq.mp (Sound E 38 [.ptr 0 0 0, .agg [.int .i64 m.Kind, .int .i64 m.From, .int .i64 m.To, .int .i64 m.Epoch, .int .i64 m.Ballot, .int .i64 m.Accepted, .int .i64 m.Nonce, .int .i64 m.Time, .int .u64 m.Up, .int .i64 m.Code, .bool m.HasPlan, .int .i64 m.Plan.Epoch, .int .i64 m.Plan.Target, .int .i64 m.Plan.Prev, .int .i64 m.Plan.Spill, .int .i64 m.Plan.Percent, .int .i64 m.Plan.Stamp, .int .i64 m.Plan.Since, .int .i64 m.Plan.Ramped, .int .u64 m.Plan.Up, .int .u64 m.Plan.Sup, .sl false 1 (List.map (eInt .i64) m.Plan.Pen), .sl false 1 (List.map (eInt .i64) m.Plan.Changes), .sl false 1 (List.map (eInt .i64) m.ID), .sl false 1 (List.map (eInt .u8) m.Session), .sl false 1 (List.map (eInt .u8) m.Payload)], .int .i64 2, .agg [.int .i64 0, .int .i64 0, .int .i64 0, .int .i64 0, .int .i64 0, .int .i64 0, .int .i64 m.Nonce, .int .i64 0, .int .u64 0, .int .i64 0, .bool false, .int .i64 0, .int .i64 0, .int .i64 0, .int .i64 0, .int .i64 0, .int .i64 0, .int .i64 0, .int .i64 0, .int .u64 0, .int .u64 0, .sl false 1 (List.map (eInt .i64) ([])), .sl false 1 (List.map (eInt .i64) ([])), .sl false 1 (List.map (eInt .i64) ([])), .sl false 1 (List.map (eInt .u8) ([])), .sl false 1 (List.map (eInt .u8) ([]))]] [some ⟨54, true, [([.int .i64 fence] ++ Plan.encL known ([.int .i64 hold.Epoch, .int .i64 hold.Nonce, .int .u64 hold.Grants, .int .i64 hold.Until, (grD 1 (List.map Entry.enc b1)), (grD 2 (List.map (eSl 1 (eInt .i64)) b2)), .int .i64 begun, .int .i64 filled] ++ Config.encL c [.int .i64 index, .ptr 3 0 0, .bool well]))]⟩, some ⟨3, false, (List.map Entry.enc b1)⟩, some ⟨1, false, (List.map (eSl 1 (eInt .i64)) b2)⟩, some ⟨4, true, [[(grD 4 (List.map (eInt .u8) b4)), (grD 5 (List.map (eInt .u8) b5)), .int .i64 fuse, .bool down]]⟩, some ⟨1, false, (List.map (eInt .u8) b4)⟩, some ⟨1, false, (List.map (eInt .u8) b5)⟩] (Rs (Target_reply_e fence known hold begun filled c index well b1 b2 fuse down b4 b5) y)) (Sound E 38 [.ptr 0 0 0, .agg [.int .i64 m.Kind, .int .i64 m.From, .int .i64 m.To, .int .i64 m.Epoch, .int .i64 m.Ballot, .int .i64 m.Accepted, .int .i64 m.Nonce, .int .i64 m.Time, .int .u64 m.Up, .int .i64 m.Code, .bool m.HasPlan, .int .i64 m.Plan.Epoch, .int .i64 m.Plan.Target, .int .i64 m.Plan.Prev, .int .i64 m.Plan.Spill, .int .i64 m.Plan.Percent, .int .i64 m.Plan.Stamp, .int .i64 m.Plan.Since, .int .i64 m.Plan.Ramped, .int .u64 m.Plan.Up, .int .u64 m.Plan.Sup, .sl false 1 (List.map (eInt .i64) m.Plan.Pen), .sl false 1 (List.map (eInt .i64) m.Plan.Changes), .sl false 1 (List.map (eInt .i64) m.ID), .sl false 1 (List.map (eInt .u8) m.Session), .sl false 1 (List.map (eInt .u8) m.Payload)], .int .i64 2, .agg [.int .i64 0, .int .i64 0, .int .i64 0, .int .i64 0, .int .i64 0, .int .i64 0, .int .i64 m.Nonce, .int .i64 0, .int .u64 0, .int .i64 0, .bool false, .int .i64 0, .int .i64 0, .int .i64 0, .int .i64 0, .int .i64 0, .int .i64 0, .int .i64 0, .int .i64 0, .int .u64 0, .int .u64 0, .sl false 1 [], .sl false 1 [], .sl false 1 [], .sl false 1 [], .sl false 1 []]] [some ⟨54, true, [([.int .i64 fence] ++ Plan.encL known ([.int .i64 hold.Epoch, .int .i64 hold.Nonce, .int .u64 hold.Grants, .int .i64 hold.Until, (grD 1 (List.map Entry.enc b1)), (grD 2 (List.map (eSl 1 (eInt .i64)) b2)), .int .i64 begun, .int .i64 filled] ++ Config.encL c [.int .i64 index, .ptr 3 0 0, .bool well]))]⟩, some ⟨3, false, (List.map Entry.enc b1)⟩, some ⟨1, false, (List.map (eSl 1 (eInt .i64)) b2)⟩, some ⟨4, true, [[(grD 4 (List.map (eInt .u8) b4)), (grD 5 (List.map (eInt .u8) b5)), .int .i64 fuse, .bool down]]⟩, some ⟨1, false, (List.map (eInt .u8) b4)⟩, some ⟨1, false, (List.map (eInt .u8) b5)⟩] (Rs (Target_reply_e fence known hold begun filled c index well b1 b2 fuse down b4 b5) y)) (by kernel_rfl) (Target_reply_ok hy)
   refine zc 0 [some 1, some 1, some 1, some 1, some 1] h ok4 fun y4 h => ?_
   refine zf 2 [.mv 1, .mv 2, .mv 4, .mv 5] ?_
   exact zu 1 h
  refine zf 6 [.mv 1, .mv 2, .mv 4, .mv 5] ?_
  exact zu 1 h [.slot 0 [some 26]]
 refine zs 6 h (fun h => ?_) fun h => ?_
 ·
  refine zs 3 h (fun h => ?_) fun h => ?_
  ·
   refine zdR 4 [] h (fun _ => Target_fits_ok) fun y7 h => ?_
   refine zs 1 h (fun h => ?_) fun h => ?_
   ·
    exact zg 12 (Target_Handle_2_ok h)
   exact zg 10 (Target_Handle_2_ok h)
  exact zg 15 (Target_Handle_2_ok h)
 refine zs 6 h (fun h => ?_) fun h => ?_
 ·
  refine zs 3 h (fun h => ?_) fun h => ?_
  ·
   refine zs 10 h (fun h => ?_) fun h => ?_
   ·
    exact zg 9 (Target_Handle_3_ok h) [.mv 1, .mv 2, .mv 4, .mv 5]
   refine adv_ok hm 7 _ ?_
   have ok12 := fun (y : Bool × Int × Int × Bool × (List Entry) × (List (List Int)) × (List Int) × (List Int)) (hy : Target_remember__take (⟨19, 0, 0, m.Epoch, 0, 0, 0, 0, 0, 0, false, (⟨0, 0, 0, 0, 0, 0, 0, 0, 0, 0, [], []⟩ : Plan), [], [], []⟩ : Msg) fence known hold begun filled c index well b1 b2 fuse down b4 b5 = some y) => @Eq.mp (Sound E 40 [.ptr 0 0 0, .agg [.int .i64 19, .int .i64 0, .int .i64 0, .int .i64 m.Epoch, .int .i64 0, .int .i64 0, .int .i64 0, .int .i64 0, .int .u64 0, .int .i64 0, .bool false, .int .i64 0, .int .i64 0, .int .i64 0, .int .i64 0, .int .i64 0, .int .i64 0, .int .i64 0, .int .i64 0, .int .u64 0, .int .u64 0, .sl false 1 (List.map (eInt .i64) ([])), .sl false 1 (List.map (eInt .i64) ([])), .sl false 1 (List.map (eInt .i64) ([])), .sl false 1 (List.map (eInt .u8) ([])), .sl false 1 (List.map (eInt .u8) ([]))], .fn 31 [.ptr 0 0 0] []] [some ⟨54, true, [([.int .i64 fence] ++ Plan.encL known ([.int .i64 hold.Epoch, .int .i64 hold.Nonce, .int .u64 hold.Grants, .int .i64 hold.Until, (grD 1 (List.map Entry.enc b1)), (grD 2 (List.map (eSl 1 (eInt .i64)) b2)), .int .i64 begun, .int .i64 filled] ++ Config.encL c [.int .i64 index, .ptr 3 0 0, .bool well]))]⟩, some ⟨3, false, (List.map Entry.enc b1)⟩, some ⟨1, false, (List.map (eSl 1 (eInt .i64)) b2)⟩, some ⟨4, true, [[(grD 4 (List.map (eInt .u8) b4)), (grD 5 (List.map (eInt .u8) b5)), .int .i64 fuse, .bool down]]⟩, some ⟨1, false, (List.map (eInt .u8) b4)⟩, some ⟨1, false, (List.map (eInt .u8) b5)⟩] (Rs (Target_remember__take_e known hold begun filled c index well) y)) (Sound E 40 [.ptr 0 0 0, .agg [.int .i64 19, .int .i64 0, .int .i64 0, .int .i64 m.Epoch, .int .i64 0, .int .i64 0, .int .i64 0, .int .i64 0, .int .u64 0, .int .i64 0, .bool false, .int .i64 0, .int .i64 0, .int .i64 0, .int .i64 0, .int .i64 0, .int .i64 0, .int .i64 0, .int .i64 0, .int .u64 0, .int .u64 0, .sl false 1 [], .sl false 1 [], .sl false 1 [], .sl false 1 [], .sl false 1 []], .fn 31 [.ptr 0 0 0] []] [some ⟨54, true, [([.int .i64 fence] ++ Plan.encL known ([.int .i64 hold.Epoch, .int .i64 hold.Nonce, .int .u64 hold.Grants, .int .i64 hold.Until, (grD 1 (List.map Entry.enc b1)), (grD 2 (List.map (eSl 1 (eInt .i64)) b2)), .int .i64 begun, .int .i64 filled] ++ Config.encL c [.int .i64 index, .ptr 3 0 0, .bool well]))]⟩, some ⟨3, false, (List.map Entry.enc b1)⟩, some ⟨1, false, (List.map (eSl 1 (eInt .i64)) b2)⟩, some ⟨4, true, [[(grD 4 (List.map (eInt .u8) b4)), (grD 5 (List.map (eInt .u8) b5)), .int .i64 fuse, .bool down]]⟩, some ⟨1, false, (List.map (eInt .u8) b4)⟩, some ⟨1, false, (List.map (eInt .u8) b5)⟩] (Rs (Target_remember__take_e known hold begun filled c index well) y)) (by kernel_rfl) (Target_remember__take_ok hy)
   refine zc 0 [some 1, some 1, some 1, some 1, some 1] h ok12 fun y12 h => ?_
   exact zg 3 (Target_Handle_3_ok h)
  exact zg 10 (Target_Handle_3_ok h) [.mv 1, .mv 2, .mv 4, .mv 5]
 refine zs 6 h (fun h => ?_) fun h => ?_
 ·
  refine zs 8 h (fun h => ?_) fun h => ?_
  ·
   refine zd 4 [] h (fun _ => lease_Grant_ok) fun y15 h => ?_
   refine zf 7 [.mv 1, .mv 2, .mv 4, .mv 5] ?_
   exact zu 1 h [.slot 0 [some 26]]
  refine zf 6 [.mv 1, .mv 2, .mv 4, .mv 5] ?_
  exact zu 1 h [.slot 0 [some 26]]
 refine zs 6 h (fun h => ?_) fun h => ?_
 ·
  refine adv_ok hm 7 _ ?_
  have ok17 := fun (y : (List Msg) × Int × Int × Int × Int × Bool × (List Entry) × (List (List Int)) × (List Int) × (List Int)) (hy : Target_write m now fence known hold begun filled c index well b1 b2 fuse down b4 b5 = some y) => @Eq.mp (Sound E 42 [.ptr 0 0 0, .agg [.int .i64 m.Kind, .int .i64 m.From, .int .i64 m.To, .int .i64 m.Epoch, .int .i64 m.Ballot, .int .i64 m.Accepted, .int .i64 m.Nonce, .int .i64 m.Time, .int .u64 m.Up, .int .i64 m.Code, .bool m.HasPlan, .int .i64 m.Plan.Epoch, .int .i64 m.Plan.Target, .int .i64 m.Plan.Prev, .int .i64 m.Plan.Spill, .int .i64 m.Plan.Percent, .int .i64 m.Plan.Stamp, .int .i64 m.Plan.Since, .int .i64 m.Plan.Ramped, .int .u64 m.Plan.Up, .int .u64 m.Plan.Sup, .sl false 1 (List.map (eInt .i64) m.Plan.Pen), .sl false 1 (List.map (eInt .i64) m.Plan.Changes), .sl false 1 (List.map (eInt .i64) m.ID), .sl false 1 (List.map (eInt .u8) m.Session), .sl false 1 (List.map (eInt .u8) m.Payload)], .int .i64 now] [some ⟨54, true, [([.int .i64 fence] ++ Plan.encL known ([.int .i64 hold.Epoch, .int .i64 hold.Nonce, .int .u64 hold.Grants, .int .i64 hold.Until, (grD 1 (List.map Entry.enc b1)), (grD 2 (List.map (eSl 1 (eInt .i64)) b2)), .int .i64 begun, .int .i64 filled] ++ Config.encL c [.int .i64 index, .ptr 3 0 0, .bool well]))]⟩, some ⟨3, false, (List.map Entry.enc b1)⟩, some ⟨1, false, (List.map (eSl 1 (eInt .i64)) b2)⟩, some ⟨4, true, [[(grD 4 (List.map (eInt .u8) b4)), (grD 5 (List.map (eInt .u8) b5)), .int .i64 fuse, .bool down]]⟩, some ⟨1, false, (List.map (eInt .u8) b4)⟩, some ⟨1, false, (List.map (eInt .u8) b5)⟩] (Rs (Target_write_e known hold c index well) y)) (Sound E 42 [.ptr 0 0 0, .agg [.int .i64 m.Kind, .int .i64 m.From, .int .i64 m.To, .int .i64 m.Epoch, .int .i64 m.Ballot, .int .i64 m.Accepted, .int .i64 m.Nonce, .int .i64 m.Time, .int .u64 m.Up, .int .i64 m.Code, .bool m.HasPlan, .int .i64 m.Plan.Epoch, .int .i64 m.Plan.Target, .int .i64 m.Plan.Prev, .int .i64 m.Plan.Spill, .int .i64 m.Plan.Percent, .int .i64 m.Plan.Stamp, .int .i64 m.Plan.Since, .int .i64 m.Plan.Ramped, .int .u64 m.Plan.Up, .int .u64 m.Plan.Sup, .sl false 1 (List.map (eInt .i64) m.Plan.Pen), .sl false 1 (List.map (eInt .i64) m.Plan.Changes), .sl false 1 (List.map (eInt .i64) m.ID), .sl false 1 (List.map (eInt .u8) m.Session), .sl false 1 (List.map (eInt .u8) m.Payload)], .int .i64 now] [some ⟨54, true, [([.int .i64 fence] ++ Plan.encL known ([.int .i64 hold.Epoch, .int .i64 hold.Nonce, .int .u64 hold.Grants, .int .i64 hold.Until, (grD 1 (List.map Entry.enc b1)), (grD 2 (List.map (eSl 1 (eInt .i64)) b2)), .int .i64 begun, .int .i64 filled] ++ Config.encL c [.int .i64 index, .ptr 3 0 0, .bool well]))]⟩, some ⟨3, false, (List.map Entry.enc b1)⟩, some ⟨1, false, (List.map (eSl 1 (eInt .i64)) b2)⟩, some ⟨4, true, [[(grD 4 (List.map (eInt .u8) b4)), (grD 5 (List.map (eInt .u8) b5)), .int .i64 fuse, .bool down]]⟩, some ⟨1, false, (List.map (eInt .u8) b4)⟩, some ⟨1, false, (List.map (eInt .u8) b5)⟩] (Rs (Target_write_e known hold c index well) y)) (by kernel_rfl) (Target_write_ok hy)
  refine zc 0 [] h ok17 fun y17 h => ?_
  exact zu 3 h
 refine zf 6 [.mv 1, .mv 2, .mv 4, .mv 5] ?_
 exact zu 1 h [.slot 0 [some 26]]
noncomputable def Target_Handle (m : Msg) (now fence : Int) (known : Plan) (hold : Hold) (begun filled : Int) (c : Config) (index : Int) (well : Bool) (b1 : List Entry) (b2 : List (List Int)) (fuse : Int) (down : Bool) (b4 b5 : List Int) : Option ((List Msg) × Int × Plan × Hold × Int × Int × Int × Bool × (List Entry) × (List (List Int)) × (List Int) × (List Int)) := ((msg_Right m).bind fun y1 => (bif (!y1) then (Target_Handle_1 m now fence known hold begun filled c index well b1 b2 fuse down b4 b5 true) else (bif (decide ((now : Int) < 0)) then (Target_Handle_1 m now fence known hold begun filled c index well b1 b2 fuse down b4 b5 true) else (bif (decide ((now : Int) > 1099511627776)) then (Target_Handle_1 m now fence known hold begun filled c index well b1 b2 fuse down b4 b5 true) else ((Journal_Down (⟨b4, b5, fuse, down⟩ : Journal)).bind fun y5 => (Target_Handle_1 m now fence known hold begun filled c index well b1 b2 fuse down b4 b5 y5))))))
theorem Target_Handle_ok {m : Msg} {now fence : Int} {known : Plan} {hold : Hold} {begun filled : Int} {c : Config} {index : Int} {well : Bool} {b1 : List Entry} {b2 : List (List Int)} {fuse : Int} {down : Bool} {b4 b5 : List Int} {r : (List Msg) × Int × Plan × Hold × Int × Int × Int × Bool × (List Entry) × (List (List Int)) × (List Int) × (List Int)} (h : Target_Handle m now fence known hold begun filled c index well b1 b2 fuse down b4 b5 = some r) : Sound E 20 [.ptr 0 0 0, .agg [.int .i64 m.Kind, .int .i64 m.From, .int .i64 m.To, .int .i64 m.Epoch, .int .i64 m.Ballot, .int .i64 m.Accepted, .int .i64 m.Nonce, .int .i64 m.Time, .int .u64 m.Up, .int .i64 m.Code, .bool m.HasPlan, .int .i64 m.Plan.Epoch, .int .i64 m.Plan.Target, .int .i64 m.Plan.Prev, .int .i64 m.Plan.Spill, .int .i64 m.Plan.Percent, .int .i64 m.Plan.Stamp, .int .i64 m.Plan.Since, .int .i64 m.Plan.Ramped, .int .u64 m.Plan.Up, .int .u64 m.Plan.Sup, .sl false 1 (List.map (eInt .i64) m.Plan.Pen), .sl false 1 (List.map (eInt .i64) m.Plan.Changes), .sl false 1 (List.map (eInt .i64) m.ID), .sl false 1 (List.map (eInt .u8) m.Session), .sl false 1 (List.map (eInt .u8) m.Payload)], .int .i64 now] [some ⟨54, true, [([.int .i64 fence] ++ Plan.encL known ([.int .i64 hold.Epoch, .int .i64 hold.Nonce, .int .u64 hold.Grants, .int .i64 hold.Until, (grD 1 (List.map Entry.enc b1)), (grD 2 (List.map (eSl 1 (eInt .i64)) b2)), .int .i64 begun, .int .i64 filled] ++ Config.encL c [.int .i64 index, .ptr 3 0 0, .bool well]))]⟩, some ⟨3, false, (List.map Entry.enc b1)⟩, some ⟨1, false, (List.map (eSl 1 (eInt .i64)) b2)⟩, some ⟨4, true, [[(grD 4 (List.map (eInt .u8) b4)), (grD 5 (List.map (eInt .u8) b5)), .int .i64 fuse, .bool down]]⟩, some ⟨1, false, (List.map (eInt .u8) b4)⟩, some ⟨1, false, (List.map (eInt .u8) b5)⟩] (Rs (Target_Handle_e c index well) r) := so (fn := Tryz.f20) (k := true) (m := 6) h <| by
 intro r h; unfold Target_Handle at h
 refine zc 11 [] h (fun _ => msg_Right_ok) fun y1 h => ?_
 refine zs 3 h (fun h => ?_) fun h => ?_
 ·
  exact zg 25 (Target_Handle_1_ok h)
 refine zs 6 h (fun h => ?_) fun h => ?_
 ·
  exact zg 18 (Target_Handle_1_ok h)
 refine zs 6 h (fun h => ?_) fun h => ?_
 ·
  exact zg 11 (Target_Handle_1_ok h)
 refine zm 9 (b := (Nat.ble (0 + (List.map (eInt .u8) b4).length) ((List.map (eInt .u8) b4).length))) (ble_full _) ?_
 refine zm 0 (b := (Nat.ble (0 + (List.map (eInt .u8) b5).length) ((List.map (eInt .u8) b5).length))) (ble_full _) ?_
 refine zcE 0 [] (args1 := [.iptr 4 [[.sl false 1 (List.take ((List.map (eInt .u8) b4).length) (List.drop 0 (List.map (eInt .u8) b4))), .sl false 1 (List.take ((List.map (eInt .u8) b5).length) (List.drop 0 (List.map (eInt .u8) b5))), .int .i64 fuse, .bool down]] 0 0]) h (fun _ => Journal_Down_ok) ⟨by simp [List.take_of_length_le, List.map_take, List.map_drop], rfl⟩ fun y5 h => ?_
 exact zg 3 (Target_Handle_1_ok h)
end Go.RX.L

namespace Go.RX.L
open Go Go.RX Go.Proofs
attribute [local irreducible] FinQ
noncomputable def Target_Journal_e (fence : Int) (known : Plan) (hold : Hold) (begun filled : Int) (c : Config) (index : Int) (well : Bool) (b1 : List Entry) (b2 : List (List Int)) (fuse : Int) (down : Bool) (b4 b5 : List Int) (y : Unit) : D × Sto := (.ptr 3 0 0, [some ⟨54, true, [([.int .i64 fence] ++ Plan.encL known ([.int .i64 hold.Epoch, .int .i64 hold.Nonce, .int .u64 hold.Grants, .int .i64 hold.Until, (grD 1 (List.map Entry.enc b1)), (grD 2 (List.map (eSl 1 (eInt .i64)) b2)), .int .i64 begun, .int .i64 filled] ++ Config.encL c [.int .i64 index, .ptr 3 0 0, .bool well]))]⟩, some ⟨3, false, (List.map Entry.enc b1)⟩, some ⟨1, false, (List.map (eSl 1 (eInt .i64)) b2)⟩, some ⟨4, true, [[(grD 4 (List.map (eInt .u8) b4)), (grD 5 (List.map (eInt .u8) b5)), .int .i64 fuse, .bool down]]⟩, some ⟨1, false, (List.map (eInt .u8) b4)⟩, some ⟨1, false, (List.map (eInt .u8) b5)⟩])
noncomputable def Target_Journal (fence : Int) (known : Plan) (hold : Hold) (begun filled : Int) (c : Config) (index : Int) (well : Bool) (b1 : List Entry) (b2 : List (List Int)) (fuse : Int) (down : Bool) (b4 b5 : List Int) : Option Unit := (some ())
theorem Target_Journal_ok {fence : Int} {known : Plan} {hold : Hold} {begun filled : Int} {c : Config} {index : Int} {well : Bool} {b1 : List Entry} {b2 : List (List Int)} {fuse : Int} {down : Bool} {b4 b5 : List Int} {r : Unit} (h : Target_Journal fence known hold begun filled c index well b1 b2 fuse down b4 b5 = some r) : Sound E 8 [.ptr 0 0 0] [some ⟨54, true, [([.int .i64 fence] ++ Plan.encL known ([.int .i64 hold.Epoch, .int .i64 hold.Nonce, .int .u64 hold.Grants, .int .i64 hold.Until, (grD 1 (List.map Entry.enc b1)), (grD 2 (List.map (eSl 1 (eInt .i64)) b2)), .int .i64 begun, .int .i64 filled] ++ Config.encL c [.int .i64 index, .ptr 3 0 0, .bool well]))]⟩, some ⟨3, false, (List.map Entry.enc b1)⟩, some ⟨1, false, (List.map (eSl 1 (eInt .i64)) b2)⟩, some ⟨4, true, [[(grD 4 (List.map (eInt .u8) b4)), (grD 5 (List.map (eInt .u8) b5)), .int .i64 fuse, .bool down]]⟩, some ⟨1, false, (List.map (eInt .u8) b4)⟩, some ⟨1, false, (List.map (eInt .u8) b5)⟩] (Rs (Target_Journal_e fence known hold begun filled c index well b1 b2 fuse down b4 b5) r) := so (fn := Tryz.f8) (k := true) (m := 6) h <| by
 intro r h; unfold Target_Journal at h
 exact zu 14 h
end Go.RX.L

namespace Go.RX.L
open Go Go.RX Go.Proofs
attribute [local irreducible] FinQ
noncomputable def frame_each_e (b0 : List Int) (y : Unit) : D × Sto := (.fn 88 [] [.ptr 1 0 0], [some ⟨1, false, (List.map (eInt .u8) b0)⟩, some ⟨1, true, [[(grD 0 (List.map (eInt .u8) b0))]]⟩])
noncomputable def frame_each (b0 : List Int) : Option Unit := (some ())
theorem frame_each_ok {b0 : List Int} {r : Unit} (h : frame_each b0 = some r) : Sound E 69 [(grD 0 (List.map (eInt .u8) b0))] [some ⟨1, false, (List.map (eInt .u8) b0)⟩] (Rs (frame_each_e b0) r) := so (fn := Tryz.f69) (k := true) (m := 1) h <| by
 intro r h; unfold frame_each at h
 exact zu 11 h
end Go.RX.L

namespace Go.RX.L
open Go Go.RX Go.Proofs
attribute [local irreducible] FinQ
noncomputable def bytes_CloneW_e (b0 y : List Int) : D × Sto := ((grD 1 (List.map (eInt .u8) y)), [some ⟨1, false, (List.map (eInt .u8) b0)⟩, some ⟨1, false, (List.map (eInt .u8) y)⟩])
noncomputable def bytes_CloneW (b_at b_ln b_cp : Nat) (b0 : List Int) : Option (List Int) := (bif (Nat.beq ((List.take b_ln (List.drop b_at (List.map (eInt .u8) b0))).length) b_ln) then (bif (decide ((0 + (List.take b_ln (List.drop b_at (List.map (eInt .u8) b0))).length) * 1 ≤ bytesLim)) then (some ([] ++ (List.take b_ln (List.drop b_at b0)))) else none) else none)
theorem bytes_CloneW_ok {b_at b_ln b_cp : Nat} {b0 r : List Int} (h : bytes_CloneW b_at b_ln b_cp b0 = some r) : Sound E 28 [.msl 0 b_at b_ln b_cp false] [some ⟨1, false, (List.map (eInt .u8) b0)⟩] (Rs (bytes_CloneW_e b0) r) := so (fn := Tryz.f28) (k := true) (m := 1) h <| by
 intro r h; unfold bytes_CloneW at h
 refine adv_ok hm 9 _ ?_
 refine r_any (Nat.beq b_ln 0) (by kernel_rfl) ?_ (fun h1 => ?_)
 · -- it is not nil
   refine zn 9 h fun h => ?_
   refine zn 0 h fun h => ?_
   refine zw 1 (a := ((List.map (eInt .u8) ([])) ++ (List.take b_ln (List.drop b_at (List.map (eInt .u8) b0))))) (b := (List.map (eInt .u8) ([] ++ (List.take b_ln (List.drop b_at b0))))) (by simp only [take_full, take_full', List.map_append, List.map_take, List.map_drop]) ?_
   exact zu 3 h
 · -- nil
   obtain rfl : b_ln = 0 := Nat.eq_of_beq_eq_true h1
   simp [bytesLim] at h
   first | subst h | (obtain ⟨_, h⟩ := h; subst h)
   refine adv_ok hm 8 _ ?_
   exact r_retF [.mat 0 1] (d := .msl 1 0 0 0 false) (s := [some ⟨1, false, (List.map (eInt .u8) b0)⟩, some ⟨1, false, []⟩]) (by kernel_rfl) Cx.fin_of ⟨rfl, rfl⟩
end Go.RX.L

namespace Go.RX.L
open Go Go.RX Go.Proofs
attribute [local irreducible] FinQ
noncomputable def frame_number_c := codeAt (bodyOf Tryz.f98)
noncomputable def frame_number_e (y : Int) : D × Sto := (.int .i64 y, [])
inductive frame_number_S where
 | s0 (b : List Int)
 | s1 (n : Int) (t6 : List Int) (t7 t8 : Int)
noncomputable def frame_number_M : frame_number_S → M
 | .s0 b => startM Tryz.f98 [.sl false 1 (List.map (eInt .u8) b)] []
 | .s1 n t6 t7 t8 => ⟨[.lpc (frame_number_c [1, 1, 0, 1, 0, 0]) 456, .blk 0, .code (frame_number_c [1, 1, 1])], [(3, .int .i64 n), (6, .sl false 1 (List.map (eInt .u8) t6)), (7, .int .i64 t7), (8, .int .i64 t8)], []⟩
abbrev frame_number_W := SOk E (Cx.of Tryz.f98 false 0) frame_number_e frame_number_M
noncomputable def frame_number_0 (b : List Int) : Option (frame_number_S ⊕ Int) := (some (.inl (.s1 0 b (((List.map (eInt .u8) b).length : Nat) : Int) 0)))
noncomputable def frame_number_1 (n : Int) (t6 : List Int) (t7 t8 : Int) : Option (frame_number_S ⊕ Int) := (bif (decide ((t8 : Int) < t7)) then (bif ((decide ((0 : Int) ≤ t8)) && (decide ((t8 : Int) < (((List.map (eInt .u8) t6).length : Nat) : Int)))) then (((t6)[t8.toNat]?).bind fun y3 => (some (.inl (.s1 (IntKind.i64.wrap ((shlI .i64 n 8) + (IntKind.i64.wrap (y3)))) t6 t7 (IntKind.i64.wrap (t8 + 1)))))) else none) else (some (.inr n)))
noncomputable def frame_number_step : frame_number_S → Option (frame_number_S ⊕ Int)
 | .s0 b => frame_number_0 b
 | .s1 n t6 t7 t8 => frame_number_1 n t6 t7 t8
theorem frame_number_0_ok {b} : frame_number_W (.s0 b) (frame_number_0 b) := by
 intro r x h ha; unfold frame_number_0 at h
 exact zj 18 h ha
theorem frame_number_1_ok {n t6 t7 t8} : frame_number_W (.s1 n t6 t7 t8) (frame_number_1 n t6 t7 t8) := by
 intro r x h ha; unfold frame_number_1 at h
 refine zs 7 h (fun h => ?_) fun h => ?_
 ·
  refine zn 6 h fun h => ?_
  refine zr 1 (eInt .u8) h fun y3 h => ?_
  exact zj 17 h ha
 exact zt 7 h ha
noncomputable def frame_number (b : List Int) : Option Int := evf frame_number_step (.s0 b)
theorem frame_number_ok {b : List Int} {r : Int} (h : frame_number b = some r) : Sound E 98 [.sl false 1 (List.map (eInt .u8) b)] [] (Rs frame_number_e r) := sc (fn := Tryz.f98) (k := false) (m := 0) (stM := frame_number_M) h fun s => by
 cases s with
 | s0 => exact frame_number_0_ok
 | s1 => exact frame_number_1_ok
end Go.RX.L

namespace Go.RX.L
open Go Go.RX Go.Proofs
attribute [local irreducible] FinQ
noncomputable def frame_Get_c := codeAt (bodyOf Tryz.f89)
noncomputable def frame_Get_e (b0 : List Int) (y : Int × (List Int) × Int × Int) : D × Sto := (.tup [.int .u8 y.1, .sl false 1 (List.map (eInt .u8) y.2.1), .int .i64 y.2.2.1, .int .i64 y.2.2.2], [some ⟨1, false, (List.map (eInt .u8) b0)⟩])
abbrev frame_Get_W (at_ : Int) (b0 : List Int) := AOk E (Cx.of Tryz.f89 false 1) (frame_Get_e b0)
noncomputable def frame_Get_2M (at_ : Int) (b0 : List Int) (e n : Int) (restlo restln restcp : Nat) : M := ⟨[.code (frame_Get_c [1, 1, 1, 1, 1])], [(1, .int .i64 at_), (8, .int .i64 e), (9, .int .i64 n), (10, .msl 0 restlo restln restcp false)], [some ⟨1, false, (List.map (eInt .u8) b0)⟩]⟩
noncomputable def frame_Get_2 (at_ : Int) (b0 : List Int) (e n : Int) (restlo restln restcp : Nat) : Option (Int × (List Int) × Int × Int) := (bif ((e : Int) != 0) then (some (0, [], 0, e)) else (bif (decide ((1 : Int) < ((restln : Nat) : Int))) then (((b0)[(restlo + 1)]?).bind fun y3 => (bif ((decide (((0 : Nat) : Int) ≤ (IntKind.i64.wrap ((4 : Int) + n)))) && (decide (((IntKind.i64.wrap ((4 : Int) + n)) : Int) ≤ ((restcp : Nat) : Int)))) then (bif (decide ((4 : Int) ≤ (((IntKind.i64.wrap ((4 : Int) + n)).toNat : Nat) : Int))) then ((bytes_CloneW (restlo + 4) ((IntKind.i64.wrap ((4 : Int) + n)).toNat - 4) (restcp - 4) b0).bind fun y7 => (some (y3, y7, (IntKind.i64.wrap ((IntKind.i64.wrap ((IntKind.i64.wrap (at_ + 4)) + n)) + 4)), 0))) else none) else none)) else none))
theorem frame_Get_2_ok {at_ b0 e n restlo restln restcp} : frame_Get_W at_ b0 (frame_Get_2M at_ b0 e n restlo restln restcp) (frame_Get_2 at_ b0 e n restlo restln restcp) := by
 intro r h; unfold frame_Get_2 at h
 refine zs 7 h (fun h => ?_) fun h => ?_
 ·
  exact zu 9 h [.slot 0 [some 1]]
 refine zn 3 h fun h => ?_
 refine zr 0 (eInt .u8) h fun y3 h => ?_
 refine zn 0 h fun h => ?_
 refine zn 0 h fun h => ?_
 refine zdR 0 [] h (fun _ => bytes_CloneW_ok) fun y7 h => ?_
 refine zm 1 (b := (Nat.ble (0 + (List.map (eInt .u8) y7).length) ((List.map (eInt .u8) y7).length))) (ble_full _) ?_
 obtain rfl := Option.some.inj h
 exact r_retE [] (d1 := .tup [.int .u8 y3, .sl false 1 (List.take ((List.map (eInt .u8) y7).length) (List.drop 0 (List.map (eInt .u8) y7))), .int .i64 (IntKind.i64.wrap ((IntKind.i64.wrap ((IntKind.i64.wrap (at_ + 4)) + n)) + 4)), .int .i64 0]) (d := .tup [.int .u8 y3, .sl false 1 (List.map (eInt .u8) y7), .int .i64 (IntKind.i64.wrap ((IntKind.i64.wrap ((IntKind.i64.wrap (at_ + 4)) + n)) + 4)), .int .i64 0]) (s1 := [some ⟨1, false, (List.map (eInt .u8) b0)⟩]) (s := [some ⟨1, false, (List.map (eInt .u8) b0)⟩]) (by kernel_rfl) ⟨by simp [List.take_of_length_le, List.map_take, List.map_drop], rfl⟩ ⟨rfl, rfl⟩ Cx.fin_of
noncomputable def frame_Get_3M (at_ : Int) (b0 : List Int) (restlo restln restcp : Nat) (t48 : Bool) : M := ⟨[.code (frame_Get_c [1, 1, 1, 1, 0, 0, 1]), .blk 0, .code (frame_Get_c [1, 1, 1, 1, 1])], [(1, .int .i64 at_), (8, .int .i64 0), (9, .int .i64 0), (10, .msl 0 restlo restln restcp false), (48, .bool t48)], [some ⟨1, false, (List.map (eInt .u8) b0)⟩]⟩
noncomputable def frame_Get_3 (at_ : Int) (b0 : List Int) (restlo restln restcp : Nat) (t48 : Bool) : Option (Int × (List Int) × Int × Int) := (bif t48 then (frame_Get_2 at_ b0 32 0 restlo restln restcp) else (bif (decide ((((restln : Nat) : Int) : Int) < 8)) then (frame_Get_2 at_ b0 31 0 restlo restln restcp) else (bif (decide ((4 : Int) ≤ ((restcp : Nat) : Int))) then (bif (Nat.ble ((restlo + 2) + 2) ((List.map (eInt .u8) b0).length)) then ((frame_number (List.take 2 (List.drop (restlo + 2) b0))).bind fun y5 => (bif (decide ((y5 : Int) > 8192)) then (frame_Get_2 at_ b0 2 y5 restlo restln restcp) else (bif (decide ((y5 : Int) > (IntKind.i64.wrap ((IntKind.i64.wrap (((restln : Nat) : Int) - 4)) - 4)))) then (frame_Get_2 at_ b0 31 y5 restlo restln restcp) else (bif ((decide (((0 : Nat) : Int) ≤ (IntKind.i64.wrap ((4 : Int) + y5)))) && (decide (((IntKind.i64.wrap ((4 : Int) + y5)) : Int) ≤ ((restcp : Nat) : Int)))) then (bif (decide ((1 : Int) ≤ (((IntKind.i64.wrap ((4 : Int) + y5)).toNat : Nat) : Int))) then (bif (Nat.ble ((restlo + 1) + ((IntKind.i64.wrap ((4 : Int) + y5)).toNat - 1)) ((List.map (eInt .u8) b0).length)) then ((crc_Sum (List.take ((IntKind.i64.wrap ((4 : Int) + y5)).toNat - 1) (List.drop (restlo + 1) b0))).bind fun y11 => (bif ((decide (((0 : Nat) : Int) ≤ (IntKind.i64.wrap ((IntKind.i64.wrap ((4 : Int) + y5)) + 4)))) && (decide (((IntKind.i64.wrap ((IntKind.i64.wrap ((4 : Int) + y5)) + 4)) : Int) ≤ ((restcp : Nat) : Int)))) then (bif ((decide (((0 : Nat) : Int) ≤ (IntKind.i64.wrap ((4 : Int) + y5)))) && (decide (((IntKind.i64.wrap ((4 : Int) + y5)) : Int) ≤ (((IntKind.i64.wrap ((IntKind.i64.wrap ((4 : Int) + y5)) + 4)).toNat : Nat) : Int)))) then (bif (Nat.ble ((restlo + (IntKind.i64.wrap ((4 : Int) + y5)).toNat) + ((IntKind.i64.wrap ((IntKind.i64.wrap ((4 : Int) + y5)) + 4)).toNat - (IntKind.i64.wrap ((4 : Int) + y5)).toNat)) ((List.map (eInt .u8) b0).length)) then ((frame_number (List.take ((IntKind.i64.wrap ((IntKind.i64.wrap ((4 : Int) + y5)) + 4)).toNat - (IntKind.i64.wrap ((4 : Int) + y5)).toNat) (List.drop (restlo + (IntKind.i64.wrap ((4 : Int) + y5)).toNat) b0))).bind fun y15 => (bif (((IntKind.i64.wrap (y11)) : Int) != y15) then (frame_Get_2 at_ b0 33 y5 restlo restln restcp) else (frame_Get_2 at_ b0 0 y5 restlo restln restcp))) else none) else none) else none)) else none) else none) else none)))) else none) else none)))
theorem frame_Get_3_ok {at_ b0 restlo restln restcp t48} : frame_Get_W at_ b0 (frame_Get_3M at_ b0 restlo restln restcp t48) (frame_Get_3 at_ b0 restlo restln restcp t48) := by
 intro r h; unfold frame_Get_3 at h
 refine zs 1 h (fun h => ?_) fun h => ?_
 ·
  exact zg 4 (frame_Get_2_ok h)
 refine zs 8 h (fun h => ?_) fun h => ?_
 ·
  exact zg 4 (frame_Get_2_ok h)
 refine zn 4 h fun h => ?_
 refine zn 2 h fun h => ?_
 refine zcE 0 [] (args1 := [.sl false 1 (List.take 2 (List.drop (restlo + 2) (List.map (eInt .u8) b0)))]) h (fun _ => frame_number_ok) ⟨by simp [List.take_of_length_le, List.map_take, List.map_drop], rfl⟩ fun y5 h => ?_
 refine zs 8 h (fun h => ?_) fun h => ?_
 ·
  exact zg 4 (frame_Get_2_ok h)
 refine zs 10 h (fun h => ?_) fun h => ?_
 ·
  exact zg 4 (frame_Get_2_ok h)
 refine zn 2 h fun h => ?_
 refine zn 0 h fun h => ?_
 refine zn 0 h fun h => ?_
 refine zdE 0 [] (args1 := [.sl false 1 (List.take ((IntKind.i64.wrap ((4 : Int) + y5)).toNat - 1) (List.drop (restlo + 1) (List.map (eInt .u8) b0)))]) h (fun _ => crc_Sum_ok) (by simp [List.take_of_length_le, List.map_take, List.map_drop]) fun y11 h => ?_
 refine zn 0 h fun h => ?_
 refine zn 0 h fun h => ?_
 refine zn 0 h fun h => ?_
 refine zdE 0 [] (args1 := [.sl false 1 (List.take ((IntKind.i64.wrap ((IntKind.i64.wrap ((4 : Int) + y5)) + 4)).toNat - (IntKind.i64.wrap ((4 : Int) + y5)).toNat) (List.drop (restlo + (IntKind.i64.wrap ((4 : Int) + y5)).toNat) (List.map (eInt .u8) b0)))]) h (fun _ => frame_number_ok) (by simp [List.take_of_length_le, List.map_take, List.map_drop]) fun y15 h => ?_
 refine zs 1 h (fun h => ?_) fun h => ?_
 ·
  exact zg 4 (frame_Get_2_ok h)
 exact zg 2 (frame_Get_2_ok h)
noncomputable def frame_Get_1M (at_ : Int) (b0 : List Int) (t18 : Bool) : M := ⟨[.code (frame_Get_c [1, 0, 1]), .code (frame_Get_c [1, 1])], [(0, (grD 0 (List.map (eInt .u8) b0))), (1, .int .i64 at_), (18, .bool t18)], [some ⟨1, false, (List.map (eInt .u8) b0)⟩]⟩
noncomputable def frame_Get_1 (at_ : Int) (b0 : List Int) (t18 : Bool) : Option (Int × (List Int) × Int × Int) := (bif t18 then (some (0, [], 0, 1)) else (bif ((decide (((0 : Nat) : Int) ≤ at_)) && (decide ((at_ : Int) ≤ (((List.map (eInt .u8) b0).length : Nat) : Int)))) then (bif (decide ((((((List.map (eInt .u8) b0).length - at_.toNat) : Nat) : Int) : Int) > 0)) then (bif (decide ((0 : Int) < ((((List.map (eInt .u8) b0).length - at_.toNat) : Nat) : Int))) then (((b0)[(0 + at_.toNat)]?).bind fun y5 => (frame_Get_3 at_ b0 (0 + at_.toNat) ((List.map (eInt .u8) b0).length - at_.toNat) ((List.map (eInt .u8) b0).length - at_.toNat) ((y5 : Int) != 247))) else none) else (frame_Get_3 at_ b0 (0 + at_.toNat) ((List.map (eInt .u8) b0).length - at_.toNat) ((List.map (eInt .u8) b0).length - at_.toNat) false)) else none))
theorem frame_Get_1_ok {at_ b0 t18} : frame_Get_W at_ b0 (frame_Get_1M at_ b0 t18) (frame_Get_1 at_ b0 t18) := by
 intro r h; unfold frame_Get_1 at h
 refine zs 1 h (fun h => ?_) fun h => ?_
 ·
  exact zu 8 h [.slot 0 [some 1]]
 refine zn 11 h fun h => ?_
 refine zs 11 h (fun h => ?_) fun h => ?_
 ·
  refine zn 2 h fun h => ?_
  refine zr 2 (eInt .u8) h fun y5 h => ?_
  exact zg 6 (frame_Get_3_ok h)
 exact zg 10 (frame_Get_3_ok h)
noncomputable def frame_Get (at_ : Int) (b0 : List Int) : Option (Int × (List Int) × Int × Int) := (bif (decide ((at_ : Int) < 0)) then (frame_Get_1 at_ b0 true) else (frame_Get_1 at_ b0 (decide ((at_ : Int) > (((List.map (eInt .u8) b0).length : Nat) : Int)))))
theorem frame_Get_ok {at_ : Int} {b0 : List Int} {r : Int × (List Int) × Int × Int} (h : frame_Get at_ b0 = some r) : Sound E 89 [(grD 0 (List.map (eInt .u8) b0)), .int .i64 at_] [some ⟨1, false, (List.map (eInt .u8) b0)⟩] (Rs (frame_Get_e b0) r) := so (fn := Tryz.f89) (k := false) (m := 1) h <| by
 intro r h; unfold frame_Get at h
 refine zs 14 h (fun h => ?_) fun h => ?_
 ·
  exact zg 9 (frame_Get_1_ok h)
 exact zg 9 (frame_Get_1_ok h)
end Go.RX.L

namespace Go.RX.L
open Go Go.RX Go.Proofs
attribute [local irreducible] FinQ
noncomputable def frame_each_1_c := codeAt (bodyOf Tryz.f88)
def frame_each_1_en (y : Int × oneT) : List D := [D.int .i64 y.1, D.agg (oneT.enc y.2)]
inductive frame_each_1_S where
  | s0 (b1 : List Int)
  | s1 (at_ : Int) (b12 : List Int)
noncomputable def frame_each_1_M (l : Nat) : frame_each_1_S → M
  | .s0 b1 => ⟨[.code (bodyOf Tryz.f88)], [(0, D.yld l), (1, D.ptr 0 0 0)], [some ⟨1, true, [[(grD 1 (List.map (eInt .u8) b1))]]⟩, some ⟨1, false, (List.map (eInt .u8) b1)⟩]⟩
  | .s1 at_ b12 => ⟨[.lpc (frame_each_1_c [1, 0, 0]) 11, .blk 0], [(0, D.yld l), (1, D.ptr 0 0 0), (3, D.int .i64 at_)], [some ⟨1, true, [[(grD 1 (List.map (eInt .u8) b12))]]⟩, some ⟨1, false, (List.map (eInt .u8) b12)⟩]⟩
noncomputable def frame_each_1_0 (b1 : List Int) : Option (List (Int × oneT) × Option frame_each_1_S) := (some ([], some (.s1 0 b1)))
noncomputable def frame_each_1_1 (at_ : Int) (b12 : List Int) : Option (List (Int × oneT) × Option frame_each_1_S) := ((frame_Get at_ b12).bind fun y1 => (bif ((y1.2.2.2 : Int) != 0) then (some ([], none)) else (Option.map (fun p => ((y1.2.2.1, (⟨y1.1, y1.2.1⟩ : oneT)) :: p.1, p.2)) (some ([], some (.s1 y1.2.2.1 b12))))))
noncomputable def frame_each_1_ln : frame_each_1_S → Sto
  | .s0 b1 => [some ⟨1, true, [[(grD 1 (List.map (eInt .u8) b1))]]⟩, some ⟨1, false, (List.map (eInt .u8) b1)⟩]
  | .s1 at_ b12 => [some ⟨1, true, [[(grD 1 (List.map (eInt .u8) b12))]]⟩, some ⟨1, false, (List.map (eInt .u8) b12)⟩]
noncomputable def frame_each_1_step : frame_each_1_S → Option (List (Int × oneT) × Option frame_each_1_S)
  | .s0 b1 => frame_each_1_0 b1
  | .s1 at_ b12 => frame_each_1_1 at_ b12
theorem frame_each_1_0_ok {l : Nat} {ln : Sto} {φ0 : Phi} {J : Option (List (List D)) → World → (Nat → Prop) → (Nat → Prop) → Prop} {b1 : List Int} {x : List (Int × oneT) × Option frame_each_1_S} {Y : List (List D)} (hl : frame_each_1_ln (.s0 b1) = ln) (h : frame_each_1_0 b1 = some x) (ha : AfterL E ln (Cx.seq Tryz.f88 2 ln l φ0 J) frame_each_1_en (frame_each_1_M l) frame_each_1_ln x Y) : FinQ E (Cx.seq Tryz.f88 2 ln l φ0 J (some Y)) (fun _ s => Lent ln s) (.go (frame_each_1_M l (.s0 b1))) := by
 subst hl
 unfold frame_each_1_0 at h
 refine adv_ok hm 7 _ ?_
 obtain rfl := Option.some.inj h
 exact r_to (q' := .go (frame_each_1_M l (.s1 0 b1))) (by kernel_rfl) (afterL_jump (by kernel_rfl) ha)
theorem frame_each_1_1_ok {l : Nat} {ln : Sto} {φ0 : Phi} {J : Option (List (List D)) → World → (Nat → Prop) → (Nat → Prop) → Prop} {at_ : Int} {b12 : List Int} {x : List (Int × oneT) × Option frame_each_1_S} {Y : List (List D)} (hl : frame_each_1_ln (.s1 at_ b12) = ln) (h : frame_each_1_1 at_ b12 = some x) (ha : AfterL E ln (Cx.seq Tryz.f88 2 ln l φ0 J) frame_each_1_en (frame_each_1_M l) frame_each_1_ln x Y) : FinQ E (Cx.seq Tryz.f88 2 ln l φ0 J (some Y)) (fun _ s => Lent ln s) (.go (frame_each_1_M l (.s1 at_ b12))) := by
 subst hl
 unfold frame_each_1_1 at h
 refine zc 8 [] h (fun _ => frame_Get_ok) fun y1 h => ?_
 refine zs 17 h (fun h => ?_) fun h => ?_
 ·
  refine adv_ok hm 18 _ ?_
  obtain rfl := Option.some.inj h
  exact p_retY (d := D.tup []) (s := [some ⟨1, true, [[(grD 1 (List.map (eInt .u8) b12))]]⟩, some ⟨1, false, (List.map (eInt .u8) b12)⟩]) (by kernel_rfl) (by kernel_rfl) ha
 refine adv_ok hm 10 _ ?_
 refine p_yld (x := (y1.2.2.1, (⟨y1.1, y1.2.1⟩ : oneT))) (s := [some ⟨1, true, [[(grD 1 (List.map (eInt .u8) b12))]]⟩, some ⟨1, false, (List.map (eInt .u8) b12)⟩]) h ha (by kernel_rfl) (by kernel_rfl) ?_ (fun p Y h ha => ?_)
 · -- it is stopped
   refine adv_ok hm 8 _ ?_
   exact p_retN (d := D.tup []) (s := [some ⟨1, true, [[(grD 1 (List.map (eInt .u8) b12))]]⟩, some ⟨1, false, (List.map (eInt .u8) b12)⟩]) (by kernel_rfl) (by kernel_rfl)
 · -- it goes on
   refine adv_ok hm 14 _ ?_
   obtain rfl := Option.some.inj h
   exact r_to (q' := .go (frame_each_1_M l (.s1 y1.2.2.1 b12))) (by kernel_rfl) (afterL_jump (by kernel_rfl) ha)
noncomputable def frame_each_1 (b1 : List Int) : Option (List (Int × oneT)) := evl frame_each_1_step (.s0 b1)
theorem frame_each_1_ok {b1 : List Int} {r : List (Int × oneT)} (h : frame_each_1 b1 = some r) : SoundSeq E 88 [D.ptr 0 0 0] [some ⟨1, true, [[(grD 1 (List.map (eInt .u8) b1))]]⟩, some ⟨1, false, (List.map (eInt .u8) b1)⟩] [some ⟨1, true, [[(grD 1 (List.map (eInt .u8) b1))]]⟩, some ⟨1, false, (List.map (eInt .u8) b1)⟩] (List.map frame_each_1_en r) :=
  seq_of (m := fun l => frame_each_1_M l (.s0 b1)) (fn := Tryz.f88) (by kernel_rfl) (fun l => by kernel_rfl) (show List.take _ _ = _ by kernel_rfl) (show mapSto _ _ = _ by kernel_rfl) (fun l φ0 J => evl_run (step := frame_each_1_step) (lnS := frame_each_1_ln) (fun s x Y hl hs ha => by
    cases s with
    | s0 => exact frame_each_1_0_ok hl hs ha
    | s1 => exact frame_each_1_1_ok hl hs ha) (by kernel_rfl) (evl_ev h))
end Go.RX.L

namespace Go.RX.L
open Go Go.RX Go.Proofs
attribute [local irreducible] FinQ
noncomputable def frame_All_c := codeAt (bodyOf Tryz.f45)
noncomputable def frame_All_e (b0 : List Int) (y : (List Int) × (List (List Int)) × Int) : D × Sto := (.tup [.sl false 1 (List.map (eInt .u8) y.1), .sl false 1 (List.map (eSl 1 (eInt .u8)) y.2.1), .int .i64 y.2.2], [some ⟨1, false, (List.map (eInt .u8) b0)⟩])
inductive frame_All_S where
 | s0
 | s1 (behind : Int) (b5 : List Int) (b6 : List (List Int))
 | s2 (behind : Int) (b5 : List Int) (b6 : List (List Int)) (Y : List (Int × oneT))
noncomputable def frame_All_M (b0 : List Int) : frame_All_S → M
 | .s0 => startM Tryz.f45 [(grD 0 (List.map (eInt .u8) b0))] [some ⟨1, false, (List.map (eInt .u8) b0)⟩]
 | .s1 behind b5 b6 => ⟨[.code (frame_All_c [1, 1, 1, 1, 0, 1, 0]), .blk 0, .code (frame_All_c [1, 1, 1, 1, 1])], [(5, .ptr 1 0 0), (6, .ptr 2 0 0), (7, .ptr 3 0 0), (11, .fn 88 [] [.ptr 4 0 0])], [some ⟨1, false, (List.map (eInt .u8) b0)⟩, some ⟨1, true, [[(grD 5 (List.map (eInt .u8) b5))]]⟩, some ⟨1, true, [[(grD 6 (List.map (eSl 1 (eInt .u8)) b6))]]⟩, some ⟨1, false, [[.int .i64 behind]]⟩, some ⟨1, true, [[(grD 0 (List.map (eInt .u8) b0))]]⟩, some ⟨1, false, (List.map (eInt .u8) b5)⟩, some ⟨1, false, (List.map (eSl 1 (eInt .u8)) b6)⟩]⟩
 | .s2 behind b5 b6 Y => ⟨[.blk 0, .code (frame_All_c [1, 1, 1, 1, 1])], [(5, .ptr 1 0 0), (6, .ptr 2 0 0), (7, .ptr 3 0 0), (11, .fn 88 [] [.ptr 4 0 0])], [some ⟨1, false, (List.map (eInt .u8) b0)⟩, some ⟨1, true, [[(grD 5 (List.map (eInt .u8) b5))]]⟩, some ⟨1, true, [[(grD 6 (List.map (eSl 1 (eInt .u8)) b6))]]⟩, some ⟨1, false, [[.int .i64 behind]]⟩, some ⟨1, true, [[(grD 0 (List.map (eInt .u8) b0))]]⟩, some ⟨1, false, (List.map (eInt .u8) b5)⟩, some ⟨1, false, (List.map (eSl 1 (eInt .u8)) b6)⟩]⟩
noncomputable def frame_All_Pd (b0 : List Int) : frame_All_S → ((List Int) × (List (List Int)) × Int) → Prop
 | .s0, r_ => FinQ E (Cx.of Tryz.f45 false 1) (QW (Rs (frame_All_e b0) r_)) (.go ((frame_All_M b0) (.s0)))
 | .s1 behind b5 b6, r_ => FinQ E (Cx.of Tryz.f45 false 1) (QW (Rs (frame_All_e b0) r_)) (.go ((frame_All_M b0) (.s1 behind b5 b6)))
 | .s2 behind b5 b6 Y, r_ => RngQ E (Cx.of Tryz.f45 false 1) (QW (Rs (frame_All_e b0) r_)) 5 (frame_All_c [1, 1, 1, 1, 0, 1, 0]) [.blk 0, .code (frame_All_c [1, 1, 1, 1, 1])] [(5, .ptr 1 0 0), (6, .ptr 2 0 0), (7, .ptr 3 0 0), (11, .fn 88 [] [.ptr 4 0 0])] [4, 0] [some ⟨1, true, [[(grD 0 (List.map (eInt .u8) b0))]]⟩, some ⟨1, false, (List.map (eInt .u8) b0)⟩] (List.map frame_each_1_en Y) [some ⟨1, false, (List.map (eInt .u8) b0)⟩, some ⟨1, true, [[(grD 5 (List.map (eInt .u8) b5))]]⟩, some ⟨1, true, [[(grD 6 (List.map (eSl 1 (eInt .u8)) b6))]]⟩, some ⟨1, false, [[.int .i64 behind]]⟩, some ⟨1, true, [[(grD 0 (List.map (eInt .u8) b0))]]⟩, some ⟨1, false, (List.map (eInt .u8) b5)⟩, some ⟨1, false, (List.map (eSl 1 (eInt .u8)) b6)⟩]
noncomputable def frame_All_0 (b0 : List Int) : Option (frame_All_S ⊕ ((List Int) × (List (List Int)) × Int)) := ((frame_each b0).bind fun y1 => (some (.inl (.s1 0 ([]) ([])))))
noncomputable def frame_All_1 (b0 : List Int) (behind : Int) (b5 : List Int) (b6 : List (List Int)) : Option (frame_All_S ⊕ ((List Int) × (List (List Int)) × Int)) := ((frame_each_1 b0).bind fun y1 => (some (.inl (.s2 behind b5 b6 y1))))
noncomputable def frame_All_2n (b0 : List Int) (behind : Int) (b5 : List Int) (b6 : List (List Int)) : Option (frame_All_S ⊕ ((List Int) × (List (List Int)) × Int)) := (some (.inr (b5, b6, behind)))
noncomputable def frame_All_2c (b0 : List Int) (behind : Int) (b5 : List Int) (b6 : List (List Int)) (y : Int × oneT) (Y : List (Int × oneT)) : Option (frame_All_S ⊕ ((List Int) × (List (List Int)) × Int)) := (bif (decide (((List.map (eInt .u8) b5).length + 1) * 1 ≤ bytesLim)) then (bif (decide (((List.map (eSl 1 (eInt .u8)) b6).length + 1) * 24 ≤ bytesLim)) then (some (.inl (.s2 y.1 (b5 ++ [y.2.kind]) (b6 ++ [y.2.body]) Y))) else none) else none)
noncomputable def frame_All_2 (b0 : List Int) (behind : Int) (b5 : List Int) (b6 : List (List Int)) : List (Int × oneT) → Option (frame_All_S ⊕ ((List Int) × (List (List Int)) × Int))
 | [] => frame_All_2n b0 behind b5 b6
 | y :: Y => frame_All_2c b0 behind b5 b6 y Y
noncomputable def frame_All_step (b0 : List Int) : frame_All_S → Option (frame_All_S ⊕ ((List Int) × (List (List Int)) × Int))
 | .s0 => frame_All_0 b0
 | .s1 behind b5 b6 => frame_All_1 b0 behind b5 b6
 | .s2 behind b5 b6 Y => frame_All_2 b0 behind b5 b6 Y
theorem frame_All_0_ok {b0 : List Int} {r : (List Int) × (List (List Int)) × Int} {x : frame_All_S ⊕ ((List Int) × (List (List Int)) × Int)} (h : frame_All_0 b0 = some x) (ha : AfterP (frame_All_Pd b0) r x) : FinQ E (Cx.of Tryz.f45 false 1) (QW (Rs (frame_All_e b0) r)) (.go ((frame_All_M b0) (.s0))) := by
 unfold frame_All_0 at h
 refine zc 26 [] h (fun _ => frame_each_ok) fun y1 h => ?_
 refine adv_ok hm 2 _ ?_
 obtain rfl := Option.some.inj h
 refine r_cut 14560 [.matc 1 0 0 1, .matc 2 0 0 1] (m' := ⟨[.code (frame_All_c [1, 1, 1, 1, 0, 1, 0]), .blk 0, .code (frame_All_c [1, 1, 1, 1, 1])], [(5, .ptr 1 0 0), (6, .ptr 2 0 0), (7, .ptr 3 0 0), (11, .fn 88 [] [.ptr 4 0 0])], [some ⟨1, false, (List.map (eInt .u8) b0)⟩, some ⟨1, true, [[.msl 5 0 0 0 false]]⟩, some ⟨1, true, [[.msl 6 0 0 0 false]]⟩, some ⟨1, false, [[.int .i64 0]]⟩, some ⟨1, true, [[(grD 0 (List.map (eInt .u8) b0))]]⟩, some ⟨1, false, []⟩, some ⟨1, false, []⟩]⟩) (by kernel_rfl) ?_
 refine r_len (n1 := 0) (n2 := (List.map (eInt .u8) ([])).length) (fun n_len => .go ⟨[.code (frame_All_c [1, 1, 1, 1, 0, 1, 0]), .blk 0, .code (frame_All_c [1, 1, 1, 1, 1])], [(5, .ptr 1 0 0), (6, .ptr 2 0 0), (7, .ptr 3 0 0), (11, .fn 88 [] [.ptr 4 0 0])], [some ⟨1, false, (List.map (eInt .u8) b0)⟩, some ⟨1, true, [[.msl 5 0 n_len n_len false]]⟩, some ⟨1, true, [[.msl 6 0 0 0 false]]⟩, some ⟨1, false, [[.int .i64 0]]⟩, some ⟨1, true, [[(grD 0 (List.map (eInt .u8) b0))]]⟩, some ⟨1, false, []⟩, some ⟨1, false, []⟩]⟩) (by simp) ?_
 refine r_len (n1 := 0) (n2 := (List.map (eSl 1 (eInt .u8)) ([])).length) (fun n_len => .go ⟨[.code (frame_All_c [1, 1, 1, 1, 0, 1, 0]), .blk 0, .code (frame_All_c [1, 1, 1, 1, 1])], [(5, .ptr 1 0 0), (6, .ptr 2 0 0), (7, .ptr 3 0 0), (11, .fn 88 [] [.ptr 4 0 0])], [some ⟨1, false, (List.map (eInt .u8) b0)⟩, some ⟨1, true, [[.msl 5 0 ((List.map (eInt .u8) ([])).length) ((List.map (eInt .u8) ([])).length) false]]⟩, some ⟨1, true, [[.msl 6 0 n_len n_len false]]⟩, some ⟨1, false, [[.int .i64 0]]⟩, some ⟨1, true, [[(grD 0 (List.map (eInt .u8) b0))]]⟩, some ⟨1, false, []⟩, some ⟨1, false, []⟩]⟩) (by simp) ?_
 exact ha
theorem frame_All_1_ok {b0 : List Int} {behind : Int} {b5 : List Int} {b6 : List (List Int)} {r : (List Int) × (List (List Int)) × Int} {x : frame_All_S ⊕ ((List Int) × (List (List Int)) × Int)} (h : frame_All_1 b0 behind b5 b6 = some x) (ha : AfterP (frame_All_Pd b0) r x) : FinQ E (Cx.of Tryz.f45 false 1) (QW (Rs (frame_All_e b0) r)) (.go ((frame_All_M b0) (.s1 behind b5 b6))) := by
 unfold frame_All_1 at h
 refine adv_ok hm 1 _ ?_
 have ok1 := fun (y : List (Int × oneT)) (hy : frame_each_1 b0 = some y) => frame_each_1_ok hy
 refine p_rngL (m := 5) (c := frame_All_c [1, 1, 1, 1, 0, 1, 0]) (t := [.blk 0, .code (frame_All_c [1, 1, 1, 1, 1])]) (fr := [(5, .ptr 1 0 0), (6, .ptr 2 0 0), (7, .ptr 3 0 0), (11, .fn 88 [] [.ptr 4 0 0])]) (σ := [some ⟨1, false, (List.map (eInt .u8) b0)⟩, some ⟨1, true, [[(grD 5 (List.map (eInt .u8) b5))]]⟩, some ⟨1, true, [[(grD 6 (List.map (eSl 1 (eInt .u8)) b6))]]⟩, some ⟨1, false, [[.int .i64 behind]]⟩, some ⟨1, true, [[(grD 0 (List.map (eInt .u8) b0))]]⟩, some ⟨1, false, (List.map (eInt .u8) b5)⟩, some ⟨1, false, (List.map (eSl 1 (eInt .u8)) b6)⟩]) (ids := [4, 0]) (bs := [some ⟨1, true, [[(grD 0 (List.map (eInt .u8) b0))]]⟩, some ⟨1, false, (List.map (eInt .u8) b0)⟩]) (caps1 := [.ptr 0 0 0]) (caps := [.ptr 0 0 0]) (sub1 := [some ⟨1, true, [[(grD 1 (List.map (eInt .u8) b0))]]⟩, some ⟨1, false, (List.map (eInt .u8) b0)⟩]) (sub := [some ⟨1, true, [[(grD 1 (List.map (eInt .u8) b0))]]⟩, some ⟨1, false, (List.map (eInt .u8) b0)⟩]) frame_each_1_en h (by kernel_rfl) ⟨rfl, rfl⟩ (by kernel_rfl) (by kernel_rfl) (by kernel_rfl) (by kernel_rfl) (by kernel_rfl) ok1 (fun y1 h1 h => ?_)
 obtain rfl := Option.some.inj h
 exact ha
theorem frame_All_2n_ok {b0 : List Int} {behind : Int} {b5 : List Int} {b6 : List (List Int)} {r : (List Int) × (List (List Int)) × Int} {x : frame_All_S ⊕ ((List Int) × (List (List Int)) × Int)} (h : frame_All_2n b0 behind b5 b6 = some x) (ha : AfterP (frame_All_Pd b0) r x) : RngQ E (Cx.of Tryz.f45 false 1) (QW (Rs (frame_All_e b0) r)) 5 (frame_All_c [1, 1, 1, 1, 0, 1, 0]) [.blk 0, .code (frame_All_c [1, 1, 1, 1, 1])] [(5, .ptr 1 0 0), (6, .ptr 2 0 0), (7, .ptr 3 0 0), (11, .fn 88 [] [.ptr 4 0 0])] [4, 0] [some ⟨1, true, [[(grD 0 (List.map (eInt .u8) b0))]]⟩, some ⟨1, false, (List.map (eInt .u8) b0)⟩] ([]) [some ⟨1, false, (List.map (eInt .u8) b0)⟩, some ⟨1, true, [[(grD 5 (List.map (eInt .u8) b5))]]⟩, some ⟨1, true, [[(grD 6 (List.map (eSl 1 (eInt .u8)) b6))]]⟩, some ⟨1, false, [[.int .i64 behind]]⟩, some ⟨1, true, [[(grD 0 (List.map (eInt .u8) b0))]]⟩, some ⟨1, false, (List.map (eInt .u8) b5)⟩, some ⟨1, false, (List.map (eSl 1 (eInt .u8)) b6)⟩] := by
 unfold frame_All_2n at h
 refine rng_nil ?_
 refine zm 7 (b := (Nat.ble (0 + (List.map (eInt .u8) b5).length) ((List.map (eInt .u8) b5).length))) (ble_full _) ?_
 refine zm 0 (b := (Nat.ble (0 + (List.map (eSl 1 (eInt .u8)) b6).length) ((List.map (eSl 1 (eInt .u8)) b6).length))) (ble_full _) ?_
 obtain rfl := Option.some.inj h
 have hv := ha
 simp only [AfterP] at hv
 subst hv
 exact r_retE [] (d1 := .tup [.sl false 1 (List.take ((List.map (eInt .u8) b5).length) (List.drop 0 (List.map (eInt .u8) b5))), .sl false 1 (List.take ((List.map (eSl 1 (eInt .u8)) b6).length) (List.drop 0 (List.map (eSl 1 (eInt .u8)) b6))), .int .i64 behind]) (d := .tup [.sl false 1 (List.map (eInt .u8) b5), .sl false 1 (List.map (eSl 1 (eInt .u8)) b6), .int .i64 behind]) (s1 := [some ⟨1, false, (List.map (eInt .u8) b0)⟩]) (s := [some ⟨1, false, (List.map (eInt .u8) b0)⟩]) (by kernel_rfl) ⟨by simp [List.take_of_length_le, List.map_take, List.map_drop], rfl⟩ ⟨rfl, rfl⟩ Cx.fin_of
theorem frame_All_2c_ok {b0 : List Int} {behind : Int} {b5 : List Int} {b6 : List (List Int)} {y : Int × oneT} {Y : List (Int × oneT)} {r : (List Int) × (List (List Int)) × Int} {x : frame_All_S ⊕ ((List Int) × (List (List Int)) × Int)} (h : frame_All_2c b0 behind b5 b6 y Y = some x) (ha : AfterP (frame_All_Pd b0) r x) : RngQ E (Cx.of Tryz.f45 false 1) (QW (Rs (frame_All_e b0) r)) 5 (frame_All_c [1, 1, 1, 1, 0, 1, 0]) [.blk 0, .code (frame_All_c [1, 1, 1, 1, 1])] [(5, .ptr 1 0 0), (6, .ptr 2 0 0), (7, .ptr 3 0 0), (11, .fn 88 [] [.ptr 4 0 0])] [4, 0] [some ⟨1, true, [[(grD 0 (List.map (eInt .u8) b0))]]⟩, some ⟨1, false, (List.map (eInt .u8) b0)⟩] (frame_each_1_en y :: List.map frame_each_1_en Y) [some ⟨1, false, (List.map (eInt .u8) b0)⟩, some ⟨1, true, [[(grD 5 (List.map (eInt .u8) b5))]]⟩, some ⟨1, true, [[(grD 6 (List.map (eSl 1 (eInt .u8)) b6))]]⟩, some ⟨1, false, [[.int .i64 behind]]⟩, some ⟨1, true, [[(grD 0 (List.map (eInt .u8) b0))]]⟩, some ⟨1, false, (List.map (eInt .u8) b5)⟩, some ⟨1, false, (List.map (eSl 1 (eInt .u8)) b6)⟩] := by
 unfold frame_All_2c at h
 refine rng_cons ?_
 refine zn 4 h fun h => ?_
 refine za 0 (eInt .u8) b5 ([y.2.kind]) ?_
 refine zn 2 h fun h => ?_
 refine za 0 (eSl 1 (eInt .u8)) b6 ([y.2.body]) ?_
 refine adv_ok hm 8 _ ?_
 obtain rfl := Option.some.inj h
 exact p_rend0 [] (s1 := [some ⟨1, false, (List.map (eInt .u8) b0)⟩, some ⟨1, true, [[.msl 5 0 ((List.map (eInt .u8) (b5 ++ [y.2.kind])).length) ((List.map (eInt .u8) (b5 ++ [y.2.kind])).length) false]]⟩, some ⟨1, true, [[.msl 6 0 ((List.map (eSl 1 (eInt .u8)) (b6 ++ [y.2.body])).length) ((List.map (eSl 1 (eInt .u8)) (b6 ++ [y.2.body])).length) false]]⟩, some ⟨1, false, [[.int .i64 y.1]]⟩, some ⟨1, true, [[(grD 0 (List.map (eInt .u8) b0))]]⟩, some ⟨1, false, (List.map (eInt .u8) (b5 ++ [y.2.kind]))⟩, some ⟨1, false, (List.map (eSl 1 (eInt .u8)) (b6 ++ [y.2.body]))⟩]) (s := [some ⟨1, false, (List.map (eInt .u8) b0)⟩, some ⟨1, true, [[.msl 5 0 ((List.map (eInt .u8) (b5 ++ [y.2.kind])).length) ((List.map (eInt .u8) (b5 ++ [y.2.kind])).length) false]]⟩, some ⟨1, true, [[.msl 6 0 ((List.map (eSl 1 (eInt .u8)) (b6 ++ [y.2.body])).length) ((List.map (eSl 1 (eInt .u8)) (b6 ++ [y.2.body])).length) false]]⟩, some ⟨1, false, [[.int .i64 y.1]]⟩, some ⟨1, true, [[(grD 0 (List.map (eInt .u8) b0))]]⟩, some ⟨1, false, (List.map (eInt .u8) (b5 ++ [y.2.kind]))⟩, some ⟨1, false, (List.map (eSl 1 (eInt .u8)) (b6 ++ [y.2.body]))⟩]) (by kernel_rfl) (rfl) (by kernel_rfl) ha
theorem frame_All_2_ok {b0 : List Int} {behind : Int} {b5 : List Int} {b6 : List (List Int)} {Y : List (Int × oneT)} {r : (List Int) × (List (List Int)) × Int} {x : frame_All_S ⊕ ((List Int) × (List (List Int)) × Int)} (h : frame_All_2 b0 behind b5 b6 Y = some x) (ha : AfterP (frame_All_Pd b0) r x) : RngQ E (Cx.of Tryz.f45 false 1) (QW (Rs (frame_All_e b0) r)) 5 (frame_All_c [1, 1, 1, 1, 0, 1, 0]) [.blk 0, .code (frame_All_c [1, 1, 1, 1, 1])] [(5, .ptr 1 0 0), (6, .ptr 2 0 0), (7, .ptr 3 0 0), (11, .fn 88 [] [.ptr 4 0 0])] [4, 0] [some ⟨1, true, [[(grD 0 (List.map (eInt .u8) b0))]]⟩, some ⟨1, false, (List.map (eInt .u8) b0)⟩] (List.map frame_each_1_en Y) [some ⟨1, false, (List.map (eInt .u8) b0)⟩, some ⟨1, true, [[(grD 5 (List.map (eInt .u8) b5))]]⟩, some ⟨1, true, [[(grD 6 (List.map (eSl 1 (eInt .u8)) b6))]]⟩, some ⟨1, false, [[.int .i64 behind]]⟩, some ⟨1, true, [[(grD 0 (List.map (eInt .u8) b0))]]⟩, some ⟨1, false, (List.map (eInt .u8) b5)⟩, some ⟨1, false, (List.map (eSl 1 (eInt .u8)) b6)⟩] := by
 cases Y with
 | nil => exact frame_All_2n_ok h ha
 | cons y Y => exact frame_All_2c_ok h ha
noncomputable def frame_All (b0 : List Int) : Option ((List Int) × (List (List Int)) × Int) := evf (frame_All_step b0) (.s0)
theorem frame_All_ev {b0 : List Int} {r : (List Int) × (List (List Int)) × Int} (h : Ev (frame_All_step b0) (.s0) r) : Sound E 45 [(grD 0 (List.map (eInt .u8) b0))] [some ⟨1, false, (List.map (eInt .u8) b0)⟩] (Rs (frame_All_e b0) r) :=
 sound_ofW (m := (frame_All_M b0) (.s0)) (fn := Tryz.f45) (by kernel_rfl) (by kernel_rfl) (ev_runP (Pd := (frame_All_Pd b0)) (fun s x r hs ha => by
  cases s with
  | s0 => exact frame_All_0_ok hs ha
  | s1 => exact frame_All_1_ok hs ha
  | s2 => exact frame_All_2_ok hs ha) h)
theorem frame_All_ok {b0 : List Int} {r : (List Int) × (List (List Int)) × Int} (h : frame_All b0 = some r) : Sound E 45 [(grD 0 (List.map (eInt .u8) b0))] [some ⟨1, false, (List.map (eInt .u8) b0)⟩] (Rs (frame_All_e b0) r) := frame_All_ev (evf_ev h)
end Go.RX.L

namespace Go.RX.L
open Go Go.RX Go.Proofs
attribute [local irreducible] FinQ
noncomputable def bytes_CloneW_v2_e (b0 y : List Int) : D × Sto := ((grD 1 (List.map (eInt .u8) y)), [some ⟨1, false, (List.map (eInt .u8) b0)⟩, some ⟨1, false, (List.map (eInt .u8) y)⟩])
noncomputable def bytes_CloneW_v2 (b_ln b_cp : Nat) (b0 : List Int) : Option (List Int) := (bif (Nat.beq ((List.take b_ln (List.drop 0 (List.map (eInt .u8) b0))).length) b_ln) then (bif (decide ((0 + (List.take b_ln (List.drop 0 (List.map (eInt .u8) b0))).length) * 1 ≤ bytesLim)) then (some ([] ++ (List.take b_ln (List.drop 0 b0)))) else none) else none)
theorem bytes_CloneW_v2_ok {b_ln b_cp : Nat} {b0 r : List Int} (h : bytes_CloneW_v2 b_ln b_cp b0 = some r) : Sound E 28 [.msl 0 0 b_ln b_cp false] [some ⟨1, false, (List.map (eInt .u8) b0)⟩] (Rs (bytes_CloneW_v2_e b0) r) := so (fn := Tryz.f28) (k := true) (m := 1) h <| by
 intro r h; unfold bytes_CloneW_v2 at h
 refine adv_ok hm 9 _ ?_
 refine r_any (Nat.beq b_ln 0) (by kernel_rfl) ?_ (fun h1 => ?_)
 · -- it is not nil
   refine zn 9 h fun h => ?_
   refine zn 0 h fun h => ?_
   refine zw 1 (a := ((List.map (eInt .u8) ([])) ++ (List.take b_ln (List.drop 0 (List.map (eInt .u8) b0))))) (b := (List.map (eInt .u8) ([] ++ (List.take b_ln (List.drop 0 b0))))) (by simp only [take_full, take_full', List.map_append, List.map_take, List.map_drop]) ?_
   exact zu 3 h
 · -- nil
   obtain rfl : b_ln = 0 := Nat.eq_of_beq_eq_true h1
   simp [bytesLim] at h
   first | subst h | (obtain ⟨_, h⟩ := h; subst h)
   refine adv_ok hm 8 _ ?_
   exact r_retF [.mat 0 1] (d := .msl 1 0 0 0 false) (s := [some ⟨1, false, (List.map (eInt .u8) b0)⟩, some ⟨1, false, []⟩]) (by kernel_rfl) Cx.fin_of ⟨rfl, rfl⟩
end Go.RX.L

namespace Go.RX.L
open Go Go.RX Go.Proofs
attribute [local irreducible] FinQ
noncomputable def Journal_Open_1_e (b1 fuse : Int) (down : Bool) (b3 b4 y : List Int) : D × Sto := (.tup [], [some ⟨1, true, [[.ptr 2 0 0]]⟩, some ⟨1, false, [[.int .i64 b1]]⟩, some ⟨4, true, [[(grD 5 (List.map (eInt .u8) y)), .msl 4 0 0 0 false, .int .i64 fuse, .bool down]]⟩, some ⟨1, false, (List.map (eInt .u8) b3)⟩, some ⟨1, false, (List.map (eInt .u8) b4)⟩, some ⟨1, false, (List.map (eInt .u8) y)⟩])
noncomputable def Journal_Open_1 (b1 fuse : Int) (down : Bool) (b3 b4 : List Int) : Option (List Int) := (bif ((decide (((0 : Nat) : Int) ≤ b1)) && (decide ((b1 : Int) ≤ (((List.map (eInt .u8) b3).length : Nat) : Int)))) then ((bytes_CloneW_v2 b1.toNat ((List.map (eInt .u8) b3).length) b3).bind fun y2 => (some y2)) else none)
theorem Journal_Open_1_ok {b1 fuse : Int} {down : Bool} {b3 b4 r : List Int} (h : Journal_Open_1 b1 fuse down b3 b4 = some r) : Sound E 47 [.ptr 0 0 0, .ptr 1 0 0] [some ⟨1, true, [[.ptr 2 0 0]]⟩, some ⟨1, false, [[.int .i64 b1]]⟩, some ⟨4, true, [[(grD 3 (List.map (eInt .u8) b3)), .msl 4 0 0 0 false, .int .i64 fuse, .bool down]]⟩, some ⟨1, false, (List.map (eInt .u8) b3)⟩, some ⟨1, false, (List.map (eInt .u8) b4)⟩] (Rs (Journal_Open_1_e b1 fuse down b3 b4) r) := so (fn := Tryz.f47) (k := true) (m := 5) h <| by
 intro r h; unfold Journal_Open_1 at h
 refine zn 5 h fun h => ?_
 refine zdR 0 [] h (fun _ => bytes_CloneW_v2_ok) fun y2 h => ?_
 exact zu 3 h
end Go.RX.L

namespace Go.RX.L
open Go Go.RX Go.Proofs
attribute [local irreducible] FinQ
noncomputable def Journal_effect__Open_1_c := codeAt (bodyOf Tryz.f46)
noncomputable def Journal_effect__Open_1_e (b2 : Int) (b4 : List Int) (y : Int × Int × Bool × (List Int)) : D × Sto := (.int .i64 y.1, [some ⟨4, true, [[(grD 5 (List.map (eInt .u8) y.2.2.2)), .msl 6 0 0 0 false, .int .i64 y.2.1, .bool y.2.2.1]]⟩, some ⟨1, true, [[.ptr 0 0 0]]⟩, some ⟨1, false, [[.int .i64 b2]]⟩, none, none, some ⟨1, false, (List.map (eInt .u8) y.2.2.2)⟩, some ⟨1, false, (List.map (eInt .u8) b4)⟩])
abbrev Journal_effect__Open_1_W (fuse : Int) (down : Bool) (b2 : Int) (b3 b4 : List Int) := AOk E (Cx.of Tryz.f46 true 5) (Journal_effect__Open_1_e b2 b4)
noncomputable def Journal_effect__Open_1_1M (fuse : Int) (down : Bool) (b2 : Int) (b3 b4 : List Int) (fuse2 : Int) (down2 : Bool) : M := ⟨[.code (Journal_effect__Open_1_c [1, 1])], [(0, .ptr 0 0 0), (1, .fn 47 [] [.ptr 1 0 0, .ptr 2 0 0])], [some ⟨4, true, [[(grD 3 (List.map (eInt .u8) b3)), .msl 4 0 0 0 false, .int .i64 fuse2, .bool down2]]⟩, some ⟨1, true, [[.ptr 0 0 0]]⟩, some ⟨1, false, [[.int .i64 b2]]⟩, some ⟨1, false, (List.map (eInt .u8) b3)⟩, some ⟨1, false, (List.map (eInt .u8) b4)⟩]⟩
noncomputable def Journal_effect__Open_1_1 (fuse : Int) (down : Bool) (b2 : Int) (b3 b4 : List Int) (fuse2 : Int) (down2 : Bool) : Option (Int × Int × Bool × (List Int)) := (bif down2 then (some (61, fuse2, down2, b3)) else (bif (decide ((fuse2 : Int) > 0)) then ((Journal_Open_1 b2 (IntKind.i64.wrap (fuse2 - 1)) down2 b3 b4).bind fun y3 => (some (0, (IntKind.i64.wrap (fuse2 - 1)), down2, y3))) else ((Journal_Open_1 b2 fuse2 down2 b3 b4).bind fun y4 => (some (0, fuse2, down2, y4)))))
theorem Journal_effect__Open_1_1_ok {fuse down b2 b3 b4 fuse2 down2} : Journal_effect__Open_1_W fuse down b2 b3 b4 (Journal_effect__Open_1_1M fuse down b2 b3 b4 fuse2 down2) (Journal_effect__Open_1_1 fuse down b2 b3 b4 fuse2 down2) := by
 intro r h; unfold Journal_effect__Open_1_1 at h
 refine zs 10 h (fun h => ?_) fun h => ?_
 ·
  refine zf 4 [.mv 3, .mv 4] ?_
  exact zu 1 h
 refine zs 12 h (fun h => ?_) fun h => ?_
 ·
  refine zc 17 [] h (fun _ => Journal_Open_1_ok) fun y3 h => ?_
  refine zf 5 [.mv 3, .mv 4] ?_
  exact zu 1 h
 refine zc 5 [] h (fun _ => Journal_Open_1_ok) fun y4 h => ?_
 refine zf 5 [.mv 3, .mv 4] ?_
 exact zu 1 h
noncomputable def Journal_effect__Open_1_2M (fuse : Int) (down : Bool) (b2 : Int) (b3 b4 : List Int) (t16 : Bool) : M := ⟨[.code (Journal_effect__Open_1_c [1, 0, 1]), .code (Journal_effect__Open_1_c [1, 1])], [(0, .ptr 0 0 0), (1, .fn 47 [] [.ptr 1 0 0, .ptr 2 0 0]), (16, .bool t16)], [some ⟨4, true, [[(grD 3 (List.map (eInt .u8) b3)), .msl 4 0 0 0 false, .int .i64 fuse, .bool down]]⟩, some ⟨1, true, [[.ptr 0 0 0]]⟩, some ⟨1, false, [[.int .i64 b2]]⟩, some ⟨1, false, (List.map (eInt .u8) b3)⟩, some ⟨1, false, (List.map (eInt .u8) b4)⟩]⟩
noncomputable def Journal_effect__Open_1_2 (fuse : Int) (down : Bool) (b2 : Int) (b3 b4 : List Int) (t16 : Bool) : Option (Int × Int × Bool × (List Int)) := (bif t16 then (Journal_effect__Open_1_1 fuse down b2 b3 b4 (-1) true) else (Journal_effect__Open_1_1 fuse down b2 b3 b4 fuse down))
theorem Journal_effect__Open_1_2_ok {fuse down b2 b3 b4 t16} : Journal_effect__Open_1_W fuse down b2 b3 b4 (Journal_effect__Open_1_2M fuse down b2 b3 b4 t16) (Journal_effect__Open_1_2 fuse down b2 b3 b4 t16) := by
 intro r h; unfold Journal_effect__Open_1_2 at h
 refine zs 1 h (fun h => ?_) fun h => ?_
 ·
  exact zg 14 (Journal_effect__Open_1_1_ok h)
 exact zg 1 (Journal_effect__Open_1_1_ok h)
noncomputable def Journal_effect__Open_1 (fuse : Int) (down : Bool) (b2 : Int) (b3 b4 : List Int) : Option (Int × Int × Bool × (List Int)) := (bif (!down) then (Journal_effect__Open_1_2 fuse down b2 b3 b4 ((fuse : Int) == 0)) else (Journal_effect__Open_1_2 fuse down b2 b3 b4 false))
theorem Journal_effect__Open_1_ok {fuse : Int} {down : Bool} {b2 : Int} {b3 b4 : List Int} {r : Int × Int × Bool × (List Int)} (h : Journal_effect__Open_1 fuse down b2 b3 b4 = some r) : Sound E 46 [.ptr 0 0 0, .fn 47 [] [.ptr 1 0 0, .ptr 2 0 0]] [some ⟨4, true, [[(grD 3 (List.map (eInt .u8) b3)), .msl 4 0 0 0 false, .int .i64 fuse, .bool down]]⟩, some ⟨1, true, [[.ptr 0 0 0]]⟩, some ⟨1, false, [[.int .i64 b2]]⟩, some ⟨1, false, (List.map (eInt .u8) b3)⟩, some ⟨1, false, (List.map (eInt .u8) b4)⟩] (Rs (Journal_effect__Open_1_e b2 b4) r) := so (fn := Tryz.f46) (k := true) (m := 5) h <| by
 intro r h; unfold Journal_effect__Open_1 at h
 refine zs 15 h (fun h => ?_) fun h => ?_
 ·
  exact zg 12 (Journal_effect__Open_1_2_ok h)
 exact zg 11 (Journal_effect__Open_1_2_ok h)
end Go.RX.L

namespace Go.RX.L
open Go Go.RX Go.Proofs
attribute [local irreducible] FinQ
noncomputable def Journal_Open_e (y : (List Int) × (List (List Int)) × Int × Int × Bool × (List Int) × (List Int)) : D × Sto := (.tup [.sl false 1 (List.map (eInt .u8) y.1), .sl false 1 (List.map (eSl 1 (eInt .u8)) y.2.1), .int .i64 y.2.2.1], [some ⟨4, true, [[(grD 3 (List.map (eInt .u8) y.2.2.2.2.2.1)), (grD 4 (List.map (eInt .u8) y.2.2.2.2.2.2)), .int .i64 y.2.2.2.1, .bool y.2.2.2.2.1]]⟩, none, none, some ⟨1, false, (List.map (eInt .u8) y.2.2.2.2.2.1)⟩, some ⟨1, false, (List.map (eInt .u8) y.2.2.2.2.2.2)⟩])
noncomputable def Journal_Open (fuse : Int) (down : Bool) (b1 b2 : List Int) : Option ((List Int) × (List (List Int)) × Int × Int × Bool × (List Int) × (List Int)) := ((frame_All b1).bind fun y1 => (bif (decide ((y1.2.2 : Int) < (((List.map (eInt .u8) b1).length : Nat) : Int))) then ((Journal_effect__Open_1 fuse false y1.2.2 b1 ([])).bind fun y3 => (bif ((y3.1 : Int) != 0) then (some ([], [], y3.1, y3.2.1, y3.2.2.1, y3.2.2.2, ([]))) else (some (y1.1, y1.2.1, 0, y3.2.1, y3.2.2.1, y3.2.2.2, ([]))))) else (some (y1.1, y1.2.1, 0, fuse, false, b1, []))))
theorem Journal_Open_ok {fuse : Int} {down : Bool} {b1 b2 : List Int} {r : (List Int) × (List (List Int)) × Int × Int × Bool × (List Int) × (List Int)} (h : Journal_Open fuse down b1 b2 = some r) : Sound E 29 [.ptr 0 0 0] [some ⟨4, true, [[(grD 1 (List.map (eInt .u8) b1)), (grD 2 (List.map (eInt .u8) b2)), .int .i64 fuse, .bool down]]⟩, some ⟨1, false, (List.map (eInt .u8) b1)⟩, some ⟨1, false, (List.map (eInt .u8) b2)⟩] (Rs Journal_Open_e r) := so (fn := Tryz.f29) (k := true) (m := 3) h <| by
 intro r h; unfold Journal_Open at h
 refine zc 24 [] h (fun _ => frame_All_ok) fun y1 h => ?_
 refine zs 18 h (fun h => ?_) fun h => ?_
 ·
  refine zcx 6 [] [.matc 0 0 1 1] h (fun _ => Journal_effect__Open_1_ok) (fun y3 h => ?_)
  refine zs 8 h (fun h => ?_) fun h => ?_
  ·
   refine zf 7 [.mv 2] ?_
   exact zu 1 h [.slot 0 [some 1, some 1]]
  refine zf 9 [.mv 2] ?_
  exact zu 1 h
 refine zf 9 [.matc 0 0 1 1, .mv 1, .mv 2] ?_
 exact zu 1 h
end Go.RX.L

namespace Go.RX.L
open Go Go.RX Go.Proofs
attribute [local irreducible] FinQ
noncomputable def wire_Int_c := codeAt (bodyOf Tryz.f91)
noncomputable def wire_Int_e (y : Int × Int × Int) : D × Sto := (.tup [.int .i64 y.1, .int .i64 y.2.1, .int .i64 y.2.2], [])
inductive wire_Int_S where
 | s0 (b : List Int) (at_ : Int)
 | s1 (b : List Int) (at_ : Int) (t19 : Bool)
 | s2 (at_ u shift : Int) (t22 : List Int) (t23 t24 : Int)
 | s4 (at_ u : Int) (shift i c : Int) (t22 : List Int) (t23 t24 : Int) (t36 : Bool)
 | s3 (at_ u : Int) (shift i c : Int) (t22 : List Int) (t23 t24 : Int) (t36 : Bool)
noncomputable def wire_Int_M : wire_Int_S → M
 | .s0 b at_ => startM Tryz.f91 [.sl false 1 (List.map (eInt .u8) b), .int .i64 at_] []
 | .s1 b at_ t19 => ⟨[.code (wire_Int_c [1, 0, 0, 1]), .code (wire_Int_c [1, 0, 1]), .sc], [(0, .sl false 1 (List.map (eInt .u8) b)), (1, .int .i64 at_), (19, .bool t19)], []⟩
 | .s2 at_ u shift t22 t23 t24 => ⟨[.lpc (wire_Int_c [1, 0, 1, 1, 1, 1, 0, 1, 0, 0]) 29361026, .blk 0, .code (wire_Int_c [1, 0, 1, 1, 1, 1, 1]), .sc], [(1, .int .i64 at_), (7, .int .i64 11), (8, .int .u64 u), (9, .int .i64 shift), (22, .sl false 1 (List.map (eInt .u8) t22)), (23, .int .i64 t23), (24, .int .i64 t24)], []⟩
 | .s4 at_ u shift i c t22 t23 t24 t36 => ⟨[.code (wire_Int_c [1, 0, 1, 1, 1, 1, 0, 1, 0, 0, 1, 1, 0, 0, 1, 1, 0, 0, 0, 1]), .code (wire_Int_c [1, 0, 1, 1, 1, 1, 0, 1, 0, 0, 1, 1, 0, 0, 1, 1, 0, 0, 1]), .blk 2, .code (wire_Int_c [1, 0, 1, 1, 1, 1, 0, 1, 0, 0, 1, 1, 0, 0, 1, 1, 1]), .blk 1, .code (wire_Int_c [1, 0, 1, 1, 1, 1, 0, 1, 0, 0, 1, 1, 1]), .lp (wire_Int_c [1, 0, 1, 1, 1, 1, 0, 1, 0, 0]) 29361026, .blk 0, .code (wire_Int_c [1, 0, 1, 1, 1, 1, 1]), .sc], [(1, .int .i64 at_), (7, .int .i64 11), (8, .int .u64 u), (9, .int .i64 shift), (10, .int .i64 i), (11, .int .u8 c), (22, .sl false 1 (List.map (eInt .u8) t22)), (23, .int .i64 t23), (24, .int .i64 t24), (36, .bool t36)], []⟩
 | .s3 at_ u shift i c t22 t23 t24 t36 => ⟨[.code (wire_Int_c [1, 0, 1, 1, 1, 1, 0, 1, 0, 0, 1, 1, 0, 0, 1, 1, 0, 0, 1]), .blk 2, .code (wire_Int_c [1, 0, 1, 1, 1, 1, 0, 1, 0, 0, 1, 1, 0, 0, 1, 1, 1]), .blk 1, .code (wire_Int_c [1, 0, 1, 1, 1, 1, 0, 1, 0, 0, 1, 1, 1]), .lp (wire_Int_c [1, 0, 1, 1, 1, 1, 0, 1, 0, 0]) 29361026, .blk 0, .code (wire_Int_c [1, 0, 1, 1, 1, 1, 1]), .sc], [(1, .int .i64 at_), (7, .int .i64 11), (8, .int .u64 u), (9, .int .i64 shift), (10, .int .i64 i), (11, .int .u8 c), (22, .sl false 1 (List.map (eInt .u8) t22)), (23, .int .i64 t23), (24, .int .i64 t24), (36, .bool t36)], []⟩
abbrev wire_Int_W := SOk E (Cx.of Tryz.f91 false 0) wire_Int_e wire_Int_M
noncomputable def wire_Int_0 (b : List Int) (at_ : Int) : Option (wire_Int_S ⊕ (Int × Int × Int)) := (bif (decide ((at_ : Int) < 0)) then (some (.inl (.s1 b at_ true))) else (some (.inl (.s1 b at_ (decide ((at_ : Int) > (((List.map (eInt .u8) b).length : Nat) : Int)))))))
noncomputable def wire_Int_1 (b : List Int) (at_ : Int) (t19 : Bool) : Option (wire_Int_S ⊕ (Int × Int × Int)) := (bif t19 then (some (.inr (0, 0, 1))) else (bif ((decide (((0 : Nat) : Int) ≤ at_)) && (decide ((at_ : Int) ≤ (((List.map (eInt .u8) b).length : Nat) : Int)))) then (some (.inl (.s2 at_ 0 0 (List.drop at_.toNat (List.take ((List.map (eInt .u8) b).length) b)) (((List.map (eInt .u8) (List.drop at_.toNat (List.take ((List.map (eInt .u8) b).length) b))).length : Nat) : Int) 0))) else none))
noncomputable def wire_Int_2 (at_ u shift : Int) (t22 : List Int) (t23 t24 : Int) : Option (wire_Int_S ⊕ (Int × Int × Int)) := (bif (decide ((t24 : Int) < t23)) then (bif ((decide ((0 : Int) ≤ t24)) && (decide ((t24 : Int) < (((List.map (eInt .u8) t22).length : Nat) : Int)))) then (((t22)[t24.toNat]?).bind fun y3 => (bif (!decide ((shift : Int) < 0)) then (bif ((shift : Int) == 63) then (some (.inl (.s4 at_ (orI .u64 u (shlI .u64 (IntKind.u64.wrap ((andI .u8 y3 127))) shift)) shift t24 y3 t22 t23 t24 (decide ((y3 : Int) > 1))))) else (some (.inl (.s4 at_ (orI .u64 u (shlI .u64 (IntKind.u64.wrap ((andI .u8 y3 127))) shift)) shift t24 y3 t22 t23 t24 false)))) else none)) else none) else (some (.inr (0, 0, 11))))
noncomputable def wire_Int_4 (at_ u : Int) (shift i c : Int) (t22 : List Int) (t23 t24 : Int) (t36 : Bool) : Option (wire_Int_S ⊕ (Int × Int × Int)) := (bif t36 then (some (.inl (.s3 at_ u shift i c t22 t23 t24 t36))) else (bif ((c : Int) == 0) then (some (.inl (.s3 at_ u shift i c t22 t23 t24 (decide ((i : Int) > 0))))) else (some (.inl (.s3 at_ u shift i c t22 t23 t24 false)))))
noncomputable def wire_Int_3 (at_ u : Int) (shift i c : Int) (t22 : List Int) (t23 t24 : Int) (t36 : Bool) : Option (wire_Int_S ⊕ (Int × Int × Int)) := (bif t36 then (some (.inr (0, 0, 12))) else (bif (decide ((c : Int) < 128)) then (some (.inr ((xorI .i64 (IntKind.i64.wrap ((shrI .u64 u 1))) (IntKind.i64.wrap ((0 : Int) - (IntKind.i64.wrap ((andI .u64 u 1)))))), (IntKind.i64.wrap ((IntKind.i64.wrap (at_ + i)) + 1)), 0))) else (some (.inl (.s2 at_ u (IntKind.i64.wrap (shift + 7)) t22 t23 (IntKind.i64.wrap (t24 + 1)))))))
noncomputable def wire_Int_step : wire_Int_S → Option (wire_Int_S ⊕ (Int × Int × Int))
 | .s0 b at_ => wire_Int_0 b at_
 | .s1 b at_ t19 => wire_Int_1 b at_ t19
 | .s2 at_ u shift t22 t23 t24 => wire_Int_2 at_ u shift t22 t23 t24
 | .s4 at_ u shift i c t22 t23 t24 t36 => wire_Int_4 at_ u shift i c t22 t23 t24 t36
 | .s3 at_ u shift i c t22 t23 t24 t36 => wire_Int_3 at_ u shift i c t22 t23 t24 t36
theorem wire_Int_0_ok {b at_} : wire_Int_W (.s0 b at_) (wire_Int_0 b at_) := by
 intro r x h ha; unfold wire_Int_0 at h
 refine zs 14 h (fun h => ?_) fun h => ?_
 ·
  exact zk 9 h ha
 exact zk 9 h ha
theorem wire_Int_1_ok {b at_ t19} : wire_Int_W (.s1 b at_ t19) (wire_Int_1 b at_ t19) := by
 intro r x h ha; unfold wire_Int_1 at h
 refine zs 1 h (fun h => ?_) fun h => ?_
 ·
  exact zt 7 h ha
 refine zn 18 h fun h => ?_
 refine zw 0 (a := (List.drop at_.toNat (List.take ((List.map (eInt .u8) b).length) (List.map (eInt .u8) b)))) (b := (List.map (eInt .u8) (List.drop at_.toNat (List.take ((List.map (eInt .u8) b).length) b)))) (rows_cut _ _ _ _) ?_
 exact zj 6 h ha
theorem wire_Int_2_ok {at_ u shift t22 t23 t24} : wire_Int_W (.s2 at_ u shift t22 t23 t24) (wire_Int_2 at_ u shift t22 t23 t24) := by
 intro r x h ha; unfold wire_Int_2 at h
 refine zs 7 h (fun h => ?_) fun h => ?_
 ·
  refine zn 7 h fun h => ?_
  refine zr 1 (eInt .u8) h fun y3 h => ?_
  refine zn 11 h fun h => ?_
  refine zs 12 h (fun h => ?_) fun h => ?_
  ·
   exact zk 6 h ha
  exact zk 6 h ha
 exact zt 9 h ha
theorem wire_Int_4_ok {at_ u shift i c t22 t23 t24 t36} : wire_Int_W (.s4 at_ u shift i c t22 t23 t24 t36) (wire_Int_4 at_ u shift i c t22 t23 t24 t36) := by
 intro r x h ha; unfold wire_Int_4 at h
 refine zs 1 h (fun h => ?_) fun h => ?_
 ·
  exact zk 1 h ha
 refine zs 5 h (fun h => ?_) fun h => ?_
 ·
  exact zk 6 h ha
 exact zk 6 h ha
theorem wire_Int_3_ok {at_ u shift i c t22 t23 t24 t36} : wire_Int_W (.s3 at_ u shift i c t22 t23 t24 t36) (wire_Int_3 at_ u shift i c t22 t23 t24 t36) := by
 intro r x h ha; unfold wire_Int_3 at h
 refine zs 1 h (fun h => ?_) fun h => ?_
 ·
  exact zt 13 h ha
 refine zs 7 h (fun h => ?_) fun h => ?_
 ·
  exact zt 20 h ha
 exact zj 13 h ha
noncomputable def wire_Int (b : List Int) (at_ : Int) : Option (Int × Int × Int) := evf wire_Int_step (.s0 b at_)
theorem wire_Int_ok {b : List Int} {at_ : Int} {r : Int × Int × Int} (h : wire_Int b at_ = some r) : Sound E 91 [.sl false 1 (List.map (eInt .u8) b), .int .i64 at_] [] (Rs wire_Int_e r) := sc (fn := Tryz.f91) (k := false) (m := 0) (stM := wire_Int_M) h fun s => by
 cases s with
 | s0 => exact wire_Int_0_ok
 | s1 => exact wire_Int_1_ok
 | s2 => exact wire_Int_2_ok
 | s4 => exact wire_Int_4_ok
 | s3 => exact wire_Int_3_ok
end Go.RX.L

namespace Go.RX.L
open Go Go.RX Go.Proofs
attribute [local irreducible] FinQ
noncomputable def wire_sized_c := codeAt (bodyOf Tryz.f90)
noncomputable def wire_sized_e (y : Int × Int × Int) : D × Sto := (.tup [.int .i64 y.1, .int .i64 y.2.1, .int .i64 y.2.2], [])
abbrev wire_sized_W := AOk E (Cx.of Tryz.f90 false 0) wire_sized_e
noncomputable def wire_sized_1M (n next : Int) (t23 : Bool) : M := ⟨[.code (wire_sized_c [1, 1, 0, 0, 1, 1, 1]), .blk 0, .code (wire_sized_c [1, 1, 1])], [(9, .int .i64 n), (10, .int .i64 next), (23, .bool t23)], []⟩
noncomputable def wire_sized_1 (n next : Int) (t23 : Bool) : Option (Int × Int × Int) := (bif t23 then (some (0, 0, 2)) else (some (n, next, 0)))
theorem wire_sized_1_ok {n next t23} : wire_sized_W (wire_sized_1M n next t23) (wire_sized_1 n next t23) := by
 intro r h; unfold wire_sized_1 at h
 refine zs 1 h (fun h => ?_) fun h => ?_
 ·
  exact zu 7 h
 exact zu 11 h
noncomputable def wire_sized (b : List Int) (at_ most : Int) : Option (Int × Int × Int) := ((wire_Int b at_).bind fun y1 => (bif ((y1.2.2 : Int) != 0) then (some (0, 0, y1.2.2)) else (bif (decide ((y1.1 : Int) < 0)) then (wire_sized_1 y1.1 y1.2.1 (decide ((y1.1 : Int) < 0))) else (wire_sized_1 y1.1 y1.2.1 (decide ((y1.1 : Int) > most))))))
theorem wire_sized_ok {b : List Int} {at_ most : Int} {r : Int × Int × Int} (h : wire_sized b at_ most = some r) : Sound E 90 [.sl false 1 (List.map (eInt .u8) b), .int .i64 at_, .int .i64 most] [] (Rs wire_sized_e r) := so (fn := Tryz.f90) (k := false) (m := 0) h <| by
 intro r h; unfold wire_sized at h
 refine zc 11 [] h (fun _ => wire_Int_ok) fun y1 h => ?_
 refine zs 17 h (fun h => ?_) fun h => ?_
 ·
  exact zu 8 h
 refine zs 8 h (fun h => ?_) fun h => ?_
 ·
  exact zg 1 (wire_sized_1_ok h)
 exact zg 6 (wire_sized_1_ok h)
end Go.RX.L

namespace Go.RX.L
open Go Go.RX Go.Proofs
attribute [local irreducible] FinQ
noncomputable def wire_Ints_c := codeAt (bodyOf Tryz.f70)
noncomputable def wire_Ints_e (y : (List Int) × Int × Int) : D × Sto := (.tup [.sl false 1 (List.map (eInt .i64) y.1), .int .i64 y.2.1, .int .i64 y.2.2], [])
inductive wire_Ints_S where
 | s0 (b : List Int) (at_ : Int)
 | s1 (b : List Int) (next e : Int) (t19 t20 : Int) (out : List Int)
 | s2 (next e : Int) (out : List Int)
noncomputable def wire_Ints_M : wire_Ints_S → M
 | .s0 b at_ => startM Tryz.f70 [.sl false 1 (List.map (eInt .u8) b), .int .i64 at_] []
 | .s1 b next e t19 t20 out => ⟨[.lpc (wire_Ints_c [1, 1, 1, 0, 1, 0, 0]) 1574657, .blk 0, .code (wire_Ints_c [1, 1, 1, 1])], [(0, .sl false 1 (List.map (eInt .u8) b)), (8, .int .i64 next), (9, .int .i64 e), (10, (grD 0 (List.map (eInt .i64) out))), (19, .int .i64 t19), (20, .int .i64 t20)], [some ⟨1, false, (List.map (eInt .i64) out)⟩]⟩
 | .s2 next e out => ⟨[.code (wire_Ints_c [1, 1, 1, 1])], [(8, .int .i64 next), (9, .int .i64 e), (10, (grD 0 (List.map (eInt .i64) out)))], [some ⟨1, false, (List.map (eInt .i64) out)⟩]⟩
abbrev wire_Ints_W := SOk E (Cx.of Tryz.f70 false 0) wire_Ints_e wire_Ints_M
noncomputable def wire_Ints_0 (b : List Int) (at_ : Int) : Option (wire_Ints_S ⊕ ((List Int) × Int × Int)) := ((wire_sized b at_ 64).bind fun y1 => (some (.inl (.s1 b y1.2.1 y1.2.2 y1.1 0 ([])))))
noncomputable def wire_Ints_1 (b : List Int) (next e : Int) (t19 t20 : Int) (out : List Int) : Option (wire_Ints_S ⊕ ((List Int) × Int × Int)) := (bif (decide ((t20 : Int) < t19)) then ((wire_Int b next).bind fun y2 => (bif ((y2.2.2 : Int) != 0) then (some (.inl (.s2 y2.2.1 y2.2.2 out))) else (bif (decide (((List.map (eInt .i64) out).length + 1) * 8 ≤ bytesLim)) then (some (.inl (.s1 b y2.2.1 y2.2.2 t19 (IntKind.i64.wrap (t20 + 1)) (out ++ [y2.1])))) else none))) else (some (.inl (.s2 next e out))))
noncomputable def wire_Ints_2 (next e : Int) (out : List Int) : Option (wire_Ints_S ⊕ ((List Int) × Int × Int)) := (bif ((e : Int) != 0) then (some (.inr ([], 0, e))) else (some (.inr (out, next, 0))))
noncomputable def wire_Ints_step : wire_Ints_S → Option (wire_Ints_S ⊕ ((List Int) × Int × Int))
 | .s0 b at_ => wire_Ints_0 b at_
 | .s1 b next e t19 t20 out => wire_Ints_1 b next e t19 t20 out
 | .s2 next e out => wire_Ints_2 next e out
theorem wire_Ints_0_ok {b at_} : wire_Ints_W (.s0 b at_) (wire_Ints_0 b at_) := by
 intro r x h ha; unfold wire_Ints_0 at h
 refine zc 11 [] h (fun _ => wire_sized_ok) fun y1 h => ?_
 refine adv_ok hm 21 _ ?_
 obtain rfl := Option.some.inj h
 refine r_cut 1574657 [.mat 10 1] (m' := ⟨[.lpc (wire_Ints_c [1, 1, 1, 0, 1, 0, 0]) 1574657, .blk 0, .code (wire_Ints_c [1, 1, 1, 1])], [(0, .sl false 1 (List.map (eInt .u8) b)), (8, .int .i64 y1.2.1), (9, .int .i64 y1.2.2), (10, .msl 0 0 0 0 false), (19, .int .i64 y1.1), (20, .int .i64 0)], [some ⟨1, false, []⟩]⟩) (by kernel_rfl) ?_
 refine r_len (n1 := 0) (n2 := (List.map (eInt .i64) ([])).length) (fun n_len => .go ⟨[.lpc (wire_Ints_c [1, 1, 1, 0, 1, 0, 0]) 1574657, .blk 0, .code (wire_Ints_c [1, 1, 1, 1])], [(0, .sl false 1 (List.map (eInt .u8) b)), (8, .int .i64 y1.2.1), (9, .int .i64 y1.2.2), (10, .msl 0 0 n_len n_len false), (19, .int .i64 y1.1), (20, .int .i64 0)], [some ⟨1, false, []⟩]⟩) (by simp) ?_
 exact ha
theorem wire_Ints_1_ok {b next e t19 t20 out} : wire_Ints_W (.s1 b next e t19 t20 out) (wire_Ints_1 b next e t19 t20 out) := by
 intro r x h ha; unfold wire_Ints_1 at h
 refine zs 7 h (fun h => ?_) fun h => ?_
 ·
  refine zc 13 [] h (fun _ => wire_Int_ok) fun y2 h => ?_
  refine zs 14 h (fun h => ?_) fun h => ?_
  ·
   exact zk 1 h ha
  refine zn 7 h fun h => ?_
  refine za 0 (eInt .i64) out ([y2.1]) ?_
  exact zj 8 h ha
 exact zk 1 h ha
theorem wire_Ints_2_ok {next e out} : wire_Ints_W (.s2 next e out) (wire_Ints_2 next e out) := by
 intro r x h ha; unfold wire_Ints_2 at h
 refine zs 7 h (fun h => ?_) fun h => ?_
 ·
  exact zt 8 h ha [.slot 0 [some 1]]
 refine zm 10 (b := (Nat.ble (0 + (List.map (eInt .i64) out).length) ((List.map (eInt .i64) out).length))) (ble_full _) ?_
 obtain rfl := Option.some.inj h
 have hv := ha
 simp only [After] at hv
 subst hv
 exact r_retE [] (d1 := .tup [.sl false 1 (List.take ((List.map (eInt .i64) out).length) (List.drop 0 (List.map (eInt .i64) out))), .int .i64 next, .int .i64 0]) (d := .tup [.sl false 1 (List.map (eInt .i64) out), .int .i64 next, .int .i64 0]) (s1 := []) (s := []) (by kernel_rfl) ⟨by simp [List.take_of_length_le, List.map_take, List.map_drop], rfl⟩ ⟨rfl, rfl⟩ Cx.fin_of
noncomputable def wire_Ints (b : List Int) (at_ : Int) : Option ((List Int) × Int × Int) := evf wire_Ints_step (.s0 b at_)
theorem wire_Ints_ok {b : List Int} {at_ : Int} {r : (List Int) × Int × Int} (h : wire_Ints b at_ = some r) : Sound E 70 [.sl false 1 (List.map (eInt .u8) b), .int .i64 at_] [] (Rs wire_Ints_e r) := sc (fn := Tryz.f70) (k := false) (m := 0) (stM := wire_Ints_M) h fun s => by
 cases s with
 | s0 => exact wire_Ints_0_ok
 | s1 => exact wire_Ints_1_ok
 | s2 => exact wire_Ints_2_ok
end Go.RX.L

namespace Go.RX.L
open Go Go.RX Go.Proofs
attribute [local irreducible] FinQ
noncomputable def msg_reader_ints_e (y : (List Int) × readerT) : D × Sto := (.sl false 1 (List.map (eInt .i64) y.1), [some ⟨3, false, [[.int .i64 y.2.place.at_, .int .i64 y.2.place.e, .sl false 1 (List.map (eInt .u8) y.2.b)]]⟩])
noncomputable def msg_reader_ints (b0 : readerT) : Option ((List Int) × readerT) := (bif ((b0.place.e : Int) != 0) then (some ([], b0)) else ((wire_Ints b0.b b0.place.at_).bind fun y2 => (some (y2.1, (⟨(⟨y2.2.1, y2.2.2⟩ : placeT), b0.b⟩ : readerT)))))
theorem msg_reader_ints_ok {b0 : readerT} {r : (List Int) × readerT} (h : msg_reader_ints b0 = some r) : Sound E 48 [.ptr 0 0 0] [some ⟨3, false, [[.int .i64 b0.place.at_, .int .i64 b0.place.e, .sl false 1 (List.map (eInt .u8) b0.b)]]⟩] (Rs msg_reader_ints_e r) := so (fn := Tryz.f48) (k := false) (m := 1) h <| by
 intro r h; unfold msg_reader_ints at h
 refine zs 16 h (fun h => ?_) fun h => ?_
 ·
  exact zu 5 h [.slot 0 [some 1]]
 refine zd 9 [] h (fun _ => wire_Ints_ok) fun y2 h => ?_
 exact zu 10 h
end Go.RX.L

namespace Go.RX.L
open Go Go.RX Go.Proofs
attribute [local irreducible] FinQ
noncomputable def wire_Text_e (y : (List Int) × Int × Int) : D × Sto := (.tup [.sl false 1 (List.map (eInt .u8) y.1), .int .i64 y.2.1, .int .i64 y.2.2], [])
noncomputable def wire_Text (b : List Int) (at_ : Int) : Option ((List Int) × Int × Int) := ((wire_sized b at_ 4096).bind fun y1 => (bif ((y1.2.2 : Int) != 0) then (some ([], 0, y1.2.2)) else (bif (decide ((y1.1 : Int) > (IntKind.i64.wrap ((((List.map (eInt .u8) b).length : Nat) : Int) - y1.2.1)))) then (some ([], 0, 11)) else (bif ((decide (((0 : Nat) : Int) ≤ (IntKind.i64.wrap (y1.2.1 + y1.1)))) && (decide (((IntKind.i64.wrap (y1.2.1 + y1.1)) : Int) ≤ (((List.map (eInt .u8) b).length : Nat) : Int)))) then (bif ((decide (((0 : Nat) : Int) ≤ y1.2.1)) && (decide ((y1.2.1 : Int) ≤ (((IntKind.i64.wrap (y1.2.1 + y1.1)).toNat : Nat) : Int)))) then (bif (decide (((List.map (eInt .u8) (List.drop y1.2.1.toNat (List.take ((IntKind.i64.wrap (y1.2.1 + y1.1)).toNat) b))).length) * 1 ≤ bytesLim)) then (some ((List.drop y1.2.1.toNat (List.take ((IntKind.i64.wrap (y1.2.1 + y1.1)).toNat) b)), (IntKind.i64.wrap (y1.2.1 + y1.1)), 0)) else none) else none) else none))))
theorem wire_Text_ok {b : List Int} {at_ : Int} {r : (List Int) × Int × Int} (h : wire_Text b at_ = some r) : Sound E 72 [.sl false 1 (List.map (eInt .u8) b), .int .i64 at_] [] (Rs wire_Text_e r) := so (fn := Tryz.f72) (k := false) (m := 0) h <| by
 intro r h; unfold wire_Text at h
 refine zc 11 [] h (fun _ => wire_sized_ok) fun y1 h => ?_
 refine zs 17 h (fun h => ?_) fun h => ?_
 ·
  exact zu 8 h [.slot 0 [some 1]]
 refine zs 11 h (fun h => ?_) fun h => ?_
 ·
  exact zu 7 h [.slot 0 [some 1]]
 refine zn 10 h fun h => ?_
 refine zn 0 h fun h => ?_
 refine zw 0 (a := (List.drop y1.2.1.toNat (List.take ((IntKind.i64.wrap (y1.2.1 + y1.1)).toNat) (List.map (eInt .u8) b)))) (b := (List.map (eInt .u8) (List.drop y1.2.1.toNat (List.take ((IntKind.i64.wrap (y1.2.1 + y1.1)).toNat) b)))) (rows_cut _ _ _ _) ?_
 refine zn 1 h fun h => ?_
 refine zm 9 (b := (Nat.ble (0 + (List.map (eInt .u8) (List.drop y1.2.1.toNat (List.take ((IntKind.i64.wrap (y1.2.1 + y1.1)).toNat) b))).length) ((List.map (eInt .u8) (List.drop y1.2.1.toNat (List.take ((IntKind.i64.wrap (y1.2.1 + y1.1)).toNat) b))).length))) (ble_full _) ?_
 obtain rfl := Option.some.inj h
 exact r_retE [] (d1 := .tup [.sl false 1 (List.take ((List.map (eInt .u8) (List.drop y1.2.1.toNat (List.take ((IntKind.i64.wrap (y1.2.1 + y1.1)).toNat) b))).length) (List.drop 0 (List.map (eInt .u8) (List.drop y1.2.1.toNat (List.take ((IntKind.i64.wrap (y1.2.1 + y1.1)).toNat) b))))), .int .i64 (IntKind.i64.wrap (y1.2.1 + y1.1)), .int .i64 0]) (d := .tup [.sl false 1 (List.map (eInt .u8) (List.drop y1.2.1.toNat (List.take ((IntKind.i64.wrap (y1.2.1 + y1.1)).toNat) b))), .int .i64 (IntKind.i64.wrap (y1.2.1 + y1.1)), .int .i64 0]) (s1 := []) (s := []) (by kernel_rfl) ⟨by simp [List.take_of_length_le, List.map_take, List.map_drop], rfl⟩ ⟨rfl, rfl⟩ Cx.fin_of
end Go.RX.L

namespace Go.RX.L
open Go Go.RX Go.Proofs
attribute [local irreducible] FinQ
noncomputable def msg_reader_text_e (y : (List Int) × readerT) : D × Sto := (.sl false 1 (List.map (eInt .u8) y.1), [some ⟨3, false, [[.int .i64 y.2.place.at_, .int .i64 y.2.place.e, .sl false 1 (List.map (eInt .u8) y.2.b)]]⟩])
noncomputable def msg_reader_text (b0 : readerT) : Option ((List Int) × readerT) := (bif ((b0.place.e : Int) != 0) then (some ([], b0)) else ((wire_Text b0.b b0.place.at_).bind fun y2 => (some (y2.1, (⟨(⟨y2.2.1, y2.2.2⟩ : placeT), b0.b⟩ : readerT)))))
theorem msg_reader_text_ok {b0 : readerT} {r : (List Int) × readerT} (h : msg_reader_text b0 = some r) : Sound E 50 [.ptr 0 0 0] [some ⟨3, false, [[.int .i64 b0.place.at_, .int .i64 b0.place.e, .sl false 1 (List.map (eInt .u8) b0.b)]]⟩] (Rs msg_reader_text_e r) := so (fn := Tryz.f50) (k := false) (m := 1) h <| by
 intro r h; unfold msg_reader_text at h
 refine zs 16 h (fun h => ?_) fun h => ?_
 ·
  exact zu 5 h [.slot 0 [some 1]]
 refine zd 9 [] h (fun _ => wire_Text_ok) fun y2 h => ?_
 exact zu 10 h
end Go.RX.L

namespace Go.RX.L
open Go Go.RX Go.Proofs
attribute [local irreducible] FinQ
noncomputable def plan_Get_c := codeAt (bodyOf Tryz.f49)
noncomputable def plan_Get_e (y : Plan × Int) : D × Sto := (.tup [.agg [.int .i64 y.1.Epoch, .int .i64 y.1.Target, .int .i64 y.1.Prev, .int .i64 y.1.Spill, .int .i64 y.1.Percent, .int .i64 y.1.Stamp, .int .i64 y.1.Since, .int .i64 y.1.Ramped, .int .u64 y.1.Up, .int .u64 y.1.Sup, .sl false 1 (List.map (eInt .i64) y.1.Pen), .sl false 1 (List.map (eInt .i64) y.1.Changes)], .int .i64 y.2], [])
inductive plan_Get_S where
 | s0 (b : List Int)
 | s1 (b : List Int) (at_ t12 : Int) (b0 : Plan) (lists : List (List Int))
 | s2 (l_ : List Int) (t67 : Bool) (b0 : Plan) (lists : List (List Int))
 | s3 (t105 : List Int) (t106 t107 : Int) (b0 : Plan) (Epoch_ Target_ : Int) (Prev_ Spill_ : Int) (Percent_ Stamp_ : Int) (Since_ Ramped_ : Int) (Up_ Sup_ : Int) (Changes_ b2 : List Int)
noncomputable def plan_Get_M : plan_Get_S → M
 | .s0 b => startM Tryz.f49 [.sl false 1 (List.map (eInt .u8) b)] []
 | .s1 b at_ t12 b0 lists => ⟨[.lpc (plan_Get_c [1, 1, 1, 0, 1, 0, 0]) 4149, .blk 0, .code (plan_Get_c [1, 1, 1, 1])], [(0, .sl false 1 (List.map (eInt .u8) b)), (2, .ptr 0 0 0), (4, .ptr 1 0 0), (5, .int .i64 at_), (12, .int .i64 t12)], [some ⟨12, false, [(Plan.enc b0)]⟩, some ⟨1, false, (List.map (eSl 1 (eInt .i64)) lists)⟩]⟩
 | .s2 l_ t67 b0 lists => ⟨[.code (plan_Get_c [1, 1, 1, 1, 1, 0, 1]), .code (plan_Get_c [1, 1, 1, 1, 1, 1])], [(2, .ptr 0 0 0), (4, .ptr 1 0 0), (8, .sl false 1 (List.map (eInt .i64) l_)), (67, .bool t67)], [some ⟨12, false, [(Plan.enc b0)]⟩, some ⟨1, false, (List.map (eSl 1 (eInt .i64)) lists)⟩]⟩
 | .s3 t105 t106 t107 b0 Epoch_ Target_ Prev_ Spill_ Percent_ Stamp_ Since_ Ramped_ Up_ Sup_ Changes_ b2 => ⟨[.lpc (plan_Get_c [1, 1, 1, 1, 1, 1, 1, 0, 1, 0, 0]) 283953734451123385935261518004740, .blk 2, .code (plan_Get_c [1, 1, 1, 1, 1, 1, 1, 1])], [(2, .ptr 0 0 0), (9, .ptr 1 0 0), (105, .sl false 1 (List.map (eInt .i64) t105)), (106, .int .i64 t106), (107, .int .i64 t107)], [some ⟨12, false, [(Plan.enc b0)]⟩, some ⟨12, true, [[.int .i64 Epoch_, .int .i64 Target_, .int .i64 Prev_, .int .i64 Spill_, .int .i64 Percent_, .int .i64 Stamp_, .int .i64 Since_, .int .i64 Ramped_, .int .u64 Up_, .int .u64 Sup_, (grD 2 (List.map (eInt .i64) b2)), .sl false 1 (List.map (eInt .i64) Changes_)]]⟩, some ⟨1, false, (List.map (eInt .i64) b2)⟩]⟩
abbrev plan_Get_W := SOk E (Cx.of Tryz.f49 false 0) plan_Get_e plan_Get_M
noncomputable def plan_Get_0 (b : List Int) : Option (plan_Get_S ⊕ (Plan × Int)) := (some (.inl (.s1 b 0 0 (⟨0, 0, 0, 0, 0, 0, 0, 0, 0, 0, [], []⟩ : Plan) ([[], [], []]))))
noncomputable def plan_Get_1 (b : List Int) (at_ t12 : Int) (b0 : Plan) (lists : List (List Int)) : Option (plan_Get_S ⊕ (Plan × Int)) := (bif (decide ((t12 : Int) < 3)) then ((wire_Ints b at_).bind fun y2 => (bif ((decide ((0 : Int) ≤ t12)) && (decide ((t12 : Int) < ((3 : Nat) : Int)))) then (((lists)[(0 + t12.toNat)]?).bind fun y4 => (bif ((y2.2.2 : Int) != 0) then (some (.inr ((⟨0, 0, 0, 0, 0, 0, 0, 0, 0, 0, [], []⟩ : Plan), 41))) else (some (.inl (.s1 b y2.2.1 (IntKind.i64.wrap (t12 + 1)) b0 (List.set lists (0 + t12.toNat) y2.1)))))) else none)) else (((lists)[0]?).bind fun y7 => (bif ((at_ : Int) != (((List.map (eInt .u8) b).length : Nat) : Int)) then (some (.inl (.s2 y7 true b0 lists))) else (bif (((((List.map (eInt .i64) y7).length : Nat) : Int) : Int) != 10) then (some (.inl (.s2 y7 true b0 lists))) else (bif (decide ((1 : Int) < (((List.map (eInt .i64) y7).length : Nat) : Int))) then (((y7)[1]?).bind fun y12 => (bif (decide ((2 : Int) < (((List.map (eInt .i64) y7).length : Nat) : Int))) then (((y7)[2]?).bind fun y15 => (bif (decide ((3 : Int) < (((List.map (eInt .i64) y7).length : Nat) : Int))) then (((y7)[3]?).bind fun y18 => (bif (decide ((4 : Int) < (((List.map (eInt .i64) y7).length : Nat) : Int))) then (((y7)[4]?).bind fun y21 => ((plan_all (-1) 1048576 ([y12, y15, y18, y21])).bind fun y23 => (bif (!y23) then (some (.inl (.s2 y7 true b0 lists))) else (bif (decide ((8 : Int) ≤ (((List.map (eInt .i64) y7).length : Nat) : Int))) then ((plan_all 0 1048576 (List.drop 8 (List.take ((List.map (eInt .i64) y7).length) y7))).bind fun y26 => (bif (!y26) then (some (.inl (.s2 y7 true b0 lists))) else (((lists)[1]?).bind fun y28 => ((plan_all 0 1000000 y28).bind fun y30 => (some (.inl (.s2 y7 (!y30) b0 lists))))))) else none)))) else none)) else none)) else none)) else none)))))
noncomputable def plan_Get_2 (l_ : List Int) (t67 : Bool) (b0 : Plan) (lists : List (List Int)) : Option (plan_Get_S ⊕ (Plan × Int)) := (bif t67 then (some (.inr ((⟨0, 0, 0, 0, 0, 0, 0, 0, 0, 0, [], []⟩ : Plan), 41))) else (bif (decide ((0 : Int) < (((List.map (eInt .i64) l_).length : Nat) : Int))) then (((l_)[0]?).bind fun y3 => (bif (decide ((1 : Int) < (((List.map (eInt .i64) l_).length : Nat) : Int))) then (((l_)[1]?).bind fun y6 => (bif (decide ((2 : Int) < (((List.map (eInt .i64) l_).length : Nat) : Int))) then (((l_)[2]?).bind fun y9 => (bif (decide ((3 : Int) < (((List.map (eInt .i64) l_).length : Nat) : Int))) then (((l_)[3]?).bind fun y12 => (bif (decide ((4 : Int) < (((List.map (eInt .i64) l_).length : Nat) : Int))) then (((l_)[4]?).bind fun y15 => (bif (decide ((5 : Int) < (((List.map (eInt .i64) l_).length : Nat) : Int))) then (((l_)[5]?).bind fun y18 => (bif (decide ((6 : Int) < (((List.map (eInt .i64) l_).length : Nat) : Int))) then (((l_)[6]?).bind fun y21 => (bif (decide ((7 : Int) < (((List.map (eInt .i64) l_).length : Nat) : Int))) then (((l_)[7]?).bind fun y24 => (bif (decide ((8 : Int) < (((List.map (eInt .i64) l_).length : Nat) : Int))) then (((l_)[8]?).bind fun y27 => (bif (decide ((9 : Int) < (((List.map (eInt .i64) l_).length : Nat) : Int))) then (((l_)[9]?).bind fun y30 => (((lists)[2]?).bind fun y32 => (((lists)[1]?).bind fun y34 => (some (.inl (.s3 y34 (((List.map (eInt .i64) y34).length : Nat) : Int) 0 b0 y3 y6 y9 y12 y15 y18 y21 y24 (IntKind.u64.wrap (y27)) (IntKind.u64.wrap (y30)) y32 ([]))))))) else none)) else none)) else none)) else none)) else none)) else none)) else none)) else none)) else none)) else none))
noncomputable def plan_Get_3 (t105 : List Int) (t106 t107 : Int) (b0 : Plan) (Epoch_ Target_ : Int) (Prev_ Spill_ : Int) (Percent_ Stamp_ : Int) (Since_ Ramped_ : Int) (Up_ Sup_ : Int) (Changes_ b2 : List Int) : Option (plan_Get_S ⊕ (Plan × Int)) := (bif (decide ((t107 : Int) < t106)) then (bif ((decide ((0 : Int) ≤ t107)) && (decide ((t107 : Int) < (((List.map (eInt .i64) t105).length : Nat) : Int)))) then (((t105)[t107.toNat]?).bind fun y3 => (bif (decide (((List.map (eInt .i64) b2).length + 1) * 8 ≤ bytesLim)) then (some (.inl (.s3 t105 t106 (IntKind.i64.wrap (t107 + 1)) b0 Epoch_ Target_ Prev_ Spill_ Percent_ Stamp_ Since_ Ramped_ Up_ Sup_ Changes_ (b2 ++ [y3])))) else none)) else none) else ((plan_Right (⟨Epoch_, Target_, Prev_, Spill_, Percent_, Stamp_, Since_, Ramped_, Up_, Sup_, b2, Changes_⟩ : Plan)).bind fun y6 => (bif (!y6) then (some (.inr ((⟨0, 0, 0, 0, 0, 0, 0, 0, 0, 0, [], []⟩ : Plan), 41))) else (some (.inr ((⟨Epoch_, Target_, Prev_, Spill_, Percent_, Stamp_, Since_, Ramped_, Up_, Sup_, b2, Changes_⟩ : Plan), 0))))))
noncomputable def plan_Get_step : plan_Get_S → Option (plan_Get_S ⊕ (Plan × Int))
 | .s0 b => plan_Get_0 b
 | .s1 b at_ t12 b0 lists => plan_Get_1 b at_ t12 b0 lists
 | .s2 l_ t67 b0 lists => plan_Get_2 l_ t67 b0 lists
 | .s3 t105 t106 t107 b0 Epoch_ Target_ Prev_ Spill_ Percent_ Stamp_ Since_ Ramped_ Up_ Sup_ Changes_ b2 => plan_Get_3 t105 t106 t107 b0 Epoch_ Target_ Prev_ Spill_ Percent_ Stamp_ Since_ Ramped_ Up_ Sup_ Changes_ b2
theorem plan_Get_0_ok {b} : plan_Get_W (.s0 b) (plan_Get_0 b) := by
 intro r x h ha; unfold plan_Get_0 at h
 exact zk 21 h ha [.blk 0 [some 1, some 1], .blk 1 [some 1, some 1, some 1]]
theorem plan_Get_1_ok {b at_ t12 b0 lists} : plan_Get_W (.s1 b at_ t12 b0 lists) (plan_Get_1 b at_ t12 b0 lists) := by
 intro r x h ha; unfold plan_Get_1 at h
 refine zs 7 h (fun h => ?_) fun h => ?_
 ·
  refine zc 18 [] h (fun _ => wire_Ints_ok) fun y2 h => ?_
  refine zn 5 h fun h => ?_
  refine zr 1 (eSl 1 (eInt .i64)) h fun y4 h => ?_
  refine zw 0 (a := (List.set (List.map (eSl 1 (eInt .i64)) lists) (0 + t12.toNat) ((eSl 1 (eInt .i64)) y2.1))) (b := (List.map (eSl 1 (eInt .i64)) (List.set lists (0 + t12.toNat) y2.1))) (rows_set _ _ _ _) ?_
  refine zs 9 h (fun h => ?_) fun h => ?_
  ·
   exact zt 10 h ha [.slot 0 [some 1, some 1]]
  exact zj 7 h ha
 refine zr 6 (eSl 1 (eInt .i64)) h fun y7 h => ?_
 refine zs 5 h (fun h => ?_) fun h => ?_
 ·
  exact zk 29 h ha
 refine zs 3 h (fun h => ?_) fun h => ?_
 ·
  exact zk 25 h ha
 refine zn 1 h fun h => ?_
 refine zr 1 (eInt .i64) h fun y12 h => ?_
 refine zn 2 h fun h => ?_
 refine zr 1 (eInt .i64) h fun y15 h => ?_
 refine zn 2 h fun h => ?_
 refine zr 1 (eInt .i64) h fun y18 h => ?_
 refine zn 2 h fun h => ?_
 refine zr 1 (eInt .i64) h fun y21 h => ?_
 refine zd 3 [] h (fun _ => plan_all_ok) fun y23 h => ?_
 refine zs 2 h (fun h => ?_) fun h => ?_
 ·
  exact zk 9 h ha
 refine zn 1 h fun h => ?_
 refine zw 0 (a := (List.drop 8 (List.take ((List.map (eInt .i64) y7).length) (List.map (eInt .i64) y7)))) (b := (List.map (eInt .i64) (List.drop 8 (List.take ((List.map (eInt .i64) y7).length) y7)))) (rows_cut _ _ _ _) ?_
 refine zd 1 [] h (fun _ => plan_all_ok) fun y26 h => ?_
 refine zs 2 h (fun h => ?_) fun h => ?_
 ·
  exact zk 4 h ha
 refine zr 2 (eSl 1 (eInt .i64)) h fun y28 h => ?_
 refine zd 1 [] h (fun _ => plan_all_ok) fun y30 h => ?_
 exact zk 2 h ha
theorem plan_Get_2_ok {l_ t67 b0 lists} : plan_Get_W (.s2 l_ t67 b0 lists) (plan_Get_2 l_ t67 b0 lists) := by
 intro r x h ha; unfold plan_Get_2 at h
 refine zs 1 h (fun h => ?_) fun h => ?_
 ·
  exact zt 10 h ha [.slot 0 [some 1, some 1]]
 refine zn 3 h fun h => ?_
 refine zr 0 (eInt .i64) h fun y3 h => ?_
 refine zn 0 h fun h => ?_
 refine zr 0 (eInt .i64) h fun y6 h => ?_
 refine zn 0 h fun h => ?_
 refine zr 0 (eInt .i64) h fun y9 h => ?_
 refine zn 0 h fun h => ?_
 refine zr 0 (eInt .i64) h fun y12 h => ?_
 refine zn 0 h fun h => ?_
 refine zr 0 (eInt .i64) h fun y15 h => ?_
 refine zn 0 h fun h => ?_
 refine zr 0 (eInt .i64) h fun y18 h => ?_
 refine zn 0 h fun h => ?_
 refine zr 0 (eInt .i64) h fun y21 h => ?_
 refine zn 0 h fun h => ?_
 refine zr 0 (eInt .i64) h fun y24 h => ?_
 refine zn 0 h fun h => ?_
 refine zr 0 (eInt .i64) h fun y27 h => ?_
 refine zn 0 h fun h => ?_
 refine zr 0 (eInt .i64) h fun y30 h => ?_
 refine zr 1 (eSl 1 (eInt .i64)) h fun y32 h => ?_
 refine zr 8 (eSl 1 (eInt .i64)) h fun y34 h => ?_
 refine adv_ok hm 6 _ ?_
 obtain rfl := Option.some.inj h
 refine r_cut 283953734451123385935261518004740 [.matc 1 0 10 1] (m' := ⟨[.lpc (plan_Get_c [1, 1, 1, 1, 1, 1, 1, 0, 1, 0, 0]) 283953734451123385935261518004740, .blk 2, .code (plan_Get_c [1, 1, 1, 1, 1, 1, 1, 1])], [(2, .ptr 0 0 0), (9, .ptr 1 0 0), (105, .sl false 1 (List.map (eInt .i64) y34)), (106, .int .i64 (((List.map (eInt .i64) y34).length : Nat) : Int)), (107, .int .i64 0)], [some ⟨12, false, [(Plan.enc b0)]⟩, some ⟨12, true, [[.int .i64 y3, .int .i64 y6, .int .i64 y9, .int .i64 y12, .int .i64 y15, .int .i64 y18, .int .i64 y21, .int .i64 y24, .int .u64 (IntKind.u64.wrap (y27)), .int .u64 (IntKind.u64.wrap (y30)), .msl 2 0 0 0 false, .sl false 1 (List.map (eInt .i64) y32)]]⟩, some ⟨1, false, []⟩]⟩) (by kernel_rfl) ?_
 refine r_len (n1 := 0) (n2 := (List.map (eInt .i64) ([])).length) (fun n_len => .go ⟨[.lpc (plan_Get_c [1, 1, 1, 1, 1, 1, 1, 0, 1, 0, 0]) 283953734451123385935261518004740, .blk 2, .code (plan_Get_c [1, 1, 1, 1, 1, 1, 1, 1])], [(2, .ptr 0 0 0), (9, .ptr 1 0 0), (105, .sl false 1 (List.map (eInt .i64) y34)), (106, .int .i64 (((List.map (eInt .i64) y34).length : Nat) : Int)), (107, .int .i64 0)], [some ⟨12, false, [(Plan.enc b0)]⟩, some ⟨12, true, [[.int .i64 y3, .int .i64 y6, .int .i64 y9, .int .i64 y12, .int .i64 y15, .int .i64 y18, .int .i64 y21, .int .i64 y24, .int .u64 (IntKind.u64.wrap (y27)), .int .u64 (IntKind.u64.wrap (y30)), .msl 2 0 n_len n_len false, .sl false 1 (List.map (eInt .i64) y32)]]⟩, some ⟨1, false, []⟩]⟩) (by simp) ?_
 exact ha
theorem plan_Get_3_ok {t105 t106 t107 b0 Epoch_ Target_ Prev_ Spill_ Percent_ Stamp_ Since_ Ramped_ Up_ Sup_ Changes_ b2} : plan_Get_W (.s3 t105 t106 t107 b0 Epoch_ Target_ Prev_ Spill_ Percent_ Stamp_ Since_ Ramped_ Up_ Sup_ Changes_ b2) (plan_Get_3 t105 t106 t107 b0 Epoch_ Target_ Prev_ Spill_ Percent_ Stamp_ Since_ Ramped_ Up_ Sup_ Changes_ b2) := by
 intro r x h ha; unfold plan_Get_3 at h
 refine zs 7 h (fun h => ?_) fun h => ?_
 ·
  refine zn 6 h fun h => ?_
  refine zr 1 (eInt .i64) h fun y3 h => ?_
  refine zn 10 h fun h => ?_
  refine za 0 (eInt .i64) b2 ([y3]) ?_
  exact zj 11 h ha
 refine zm 7 (b := (Nat.ble (0 + (List.map (eInt .i64) b2).length) ((List.map (eInt .i64) b2).length))) (ble_full _) ?_
 refine zcE 0 [] (args1 := [.agg [.int .i64 Epoch_, .int .i64 Target_, .int .i64 Prev_, .int .i64 Spill_, .int .i64 Percent_, .int .i64 Stamp_, .int .i64 Since_, .int .i64 Ramped_, .int .u64 Up_, .int .u64 Sup_, .sl false 1 (List.take ((List.map (eInt .i64) b2).length) (List.drop 0 (List.map (eInt .i64) b2))), .sl false 1 (List.map (eInt .i64) Changes_)]]) h (fun _ => plan_Right_ok) ⟨by simp [List.take_of_length_le, List.map_take, List.map_drop], rfl⟩ fun y6 h => ?_
 refine zs 3 h (fun h => ?_) fun h => ?_
 ·
  exact zt 10 h ha [.slot 0 [some 1, some 1]]
 refine zm 12 (b := (Nat.ble (0 + (List.map (eInt .i64) b2).length) ((List.map (eInt .i64) b2).length))) (ble_full _) ?_
 obtain rfl := Option.some.inj h
 have hv := ha
 simp only [After] at hv
 subst hv
 exact r_retE [] (d1 := .tup [.agg [.int .i64 Epoch_, .int .i64 Target_, .int .i64 Prev_, .int .i64 Spill_, .int .i64 Percent_, .int .i64 Stamp_, .int .i64 Since_, .int .i64 Ramped_, .int .u64 Up_, .int .u64 Sup_, .sl false 1 (List.take ((List.map (eInt .i64) b2).length) (List.drop 0 (List.map (eInt .i64) b2))), .sl false 1 (List.map (eInt .i64) Changes_)], .int .i64 0]) (d := .tup [.agg [.int .i64 Epoch_, .int .i64 Target_, .int .i64 Prev_, .int .i64 Spill_, .int .i64 Percent_, .int .i64 Stamp_, .int .i64 Since_, .int .i64 Ramped_, .int .u64 Up_, .int .u64 Sup_, .sl false 1 (List.map (eInt .i64) b2), .sl false 1 (List.map (eInt .i64) Changes_)], .int .i64 0]) (s1 := []) (s := []) (by kernel_rfl) ⟨by simp [List.take_of_length_le, List.map_take, List.map_drop], rfl⟩ ⟨rfl, rfl⟩ Cx.fin_of
noncomputable def plan_Get (b : List Int) : Option (Plan × Int) := evf plan_Get_step (.s0 b)
theorem plan_Get_ok {b : List Int} {r : Plan × Int} (h : plan_Get b = some r) : Sound E 49 [.sl false 1 (List.map (eInt .u8) b)] [] (Rs plan_Get_e r) := sc (fn := Tryz.f49) (k := false) (m := 0) (stM := plan_Get_M) h fun s => by
 cases s with
 | s0 => exact plan_Get_0_ok
 | s1 => exact plan_Get_1_ok
 | s2 => exact plan_Get_2_ok
 | s3 => exact plan_Get_3_ok
end Go.RX.L

namespace Go.RX.L
open Go Go.RX Go.Proofs
attribute [local irreducible] FinQ
noncomputable def msg_Of_c := codeAt (bodyOf Tryz.f30)
noncomputable def msg_Of_e (y : Msg × Int) : D × Sto := (.tup [.agg [.int .i64 y.1.Kind, .int .i64 y.1.From, .int .i64 y.1.To, .int .i64 y.1.Epoch, .int .i64 y.1.Ballot, .int .i64 y.1.Accepted, .int .i64 y.1.Nonce, .int .i64 y.1.Time, .int .u64 y.1.Up, .int .i64 y.1.Code, .bool y.1.HasPlan, .int .i64 y.1.Plan.Epoch, .int .i64 y.1.Plan.Target, .int .i64 y.1.Plan.Prev, .int .i64 y.1.Plan.Spill, .int .i64 y.1.Plan.Percent, .int .i64 y.1.Plan.Stamp, .int .i64 y.1.Plan.Since, .int .i64 y.1.Plan.Ramped, .int .u64 y.1.Plan.Up, .int .u64 y.1.Plan.Sup, .sl false 1 (List.map (eInt .i64) y.1.Plan.Pen), .sl false 1 (List.map (eInt .i64) y.1.Plan.Changes), .sl false 1 (List.map (eInt .i64) y.1.ID), .sl false 1 (List.map (eInt .u8) y.1.Session), .sl false 1 (List.map (eInt .u8) y.1.Payload)], .int .i64 y.2], [])
abbrev msg_Of_W := AOk E (Cx.of Tryz.f30 false 0) msg_Of_e
noncomputable def msg_Of_2M (t149 : Bool) (b0 m : Msg) : M := ⟨[.code (msg_Of_c [1, 1, 1, 1, 1, 1, 1, 1, 1, 0, 1]), .code (msg_Of_c [1, 1, 1, 1, 1, 1, 1, 1, 1, 1])], [(4, .ptr 0 0 0), (8, .ptr 1 0 0), (149, .bool t149)], [some ⟨26, false, [(Msg.enc b0)]⟩, some ⟨26, false, [(Msg.enc m)]⟩]⟩
noncomputable def msg_Of_2 (t149 : Bool) (b0 m : Msg) : Option (Msg × Int) := (bif t149 then (some ((⟨0, 0, 0, 0, 0, 0, 0, 0, 0, 0, false, (⟨0, 0, 0, 0, 0, 0, 0, 0, 0, 0, [], []⟩ : Plan), [], [], []⟩ : Msg), 51)) else (some (m, 0)))
theorem msg_Of_2_ok {t149 b0 m} : msg_Of_W (msg_Of_2M t149 b0 m) (msg_Of_2 t149 b0 m) := by
 intro r h; unfold msg_Of_2 at h
 refine zs 1 h (fun h => ?_) fun h => ?_
 ·
  exact zu 10 h [.slot 0 [some 1, some 1, some 1, some 1, some 1]]
 exact zu 12 h
noncomputable def msg_Of_3M (body : List Int) (b0 : Msg) (r_ : readerT) (m : Msg) : M := ⟨[.code (msg_Of_c [1, 1, 1, 1, 1, 1])], [(1, .sl false 1 (List.map (eInt .u8) body)), (4, .ptr 0 0 0), (6, .ptr 1 0 0), (8, .ptr 2 0 0)], [some ⟨26, false, [(Msg.enc b0)]⟩, some ⟨3, false, [[.int .i64 r_.place.at_, .int .i64 r_.place.e, .sl false 1 (List.map (eInt .u8) r_.b)]]⟩, some ⟨26, false, [(Msg.enc m)]⟩]⟩
noncomputable def msg_Of_3 (body : List Int) (b0 : Msg) (r_ : readerT) (m : Msg) : Option (Msg × Int) := ((msg_reader_ints r_).bind fun y1 => ((msg_reader_text y1.2).bind fun y2 => ((msg_reader_text y2.2).bind fun y3 => (bif ((y3.2.place.e : Int) != 0) then (msg_Of_2 true b0 (⟨m.Kind, m.From, m.To, m.Epoch, m.Ballot, m.Accepted, m.Nonce, m.Time, m.Up, m.Code, m.HasPlan, m.Plan, y1.1, y2.1, y3.1⟩ : Msg)) else (bif ((y3.2.place.at_ : Int) != (((List.map (eInt .u8) body).length : Nat) : Int)) then (msg_Of_2 true b0 (⟨m.Kind, m.From, m.To, m.Epoch, m.Ballot, m.Accepted, m.Nonce, m.Time, m.Up, m.Code, m.HasPlan, m.Plan, y1.1, y2.1, y3.1⟩ : Msg)) else ((msg_Right (⟨m.Kind, m.From, m.To, m.Epoch, m.Ballot, m.Accepted, m.Nonce, m.Time, m.Up, m.Code, m.HasPlan, m.Plan, y1.1, y2.1, y3.1⟩ : Msg)).bind fun y6 => (msg_Of_2 (!y6) b0 (⟨m.Kind, m.From, m.To, m.Epoch, m.Ballot, m.Accepted, m.Nonce, m.Time, m.Up, m.Code, m.HasPlan, m.Plan, y1.1, y2.1, y3.1⟩ : Msg))))))))
theorem msg_Of_3_ok {body b0 r_ m} : msg_Of_W (msg_Of_3M body b0 r_ m) (msg_Of_3 body b0 r_ m) := by
 intro r h; unfold msg_Of_3 at h
 refine zc 4 [] h (fun _ => msg_reader_ints_ok) fun y1 h => ?_
 refine zc 9 [] h (fun _ => msg_reader_text_ok) fun y2 h => ?_
 refine zc 9 [] h (fun _ => msg_reader_text_ok) fun y3 h => ?_
 refine zs 17 h (fun h => ?_) fun h => ?_
 ·
  exact zg 26 (msg_Of_2_ok h)
 refine zs 19 h (fun h => ?_) fun h => ?_
 ·
  exact zg 7 (msg_Of_2_ok h)
 refine zc 3 [] h (fun _ => msg_Right_ok) fun y6 h => ?_
 exact zg 5 (msg_Of_2_ok h)
noncomputable def msg_Of_1M (kind : Int) (body l_ : List Int) (t70 : Bool) (b0 : Msg) (r_ : readerT) : M := ⟨[.code (msg_Of_c [1, 1, 1, 0, 1]), .code (msg_Of_c [1, 1, 1, 1])], [(0, .int .u8 kind), (1, .sl false 1 (List.map (eInt .u8) body)), (4, .ptr 0 0 0), (6, .ptr 1 0 0), (7, .sl false 1 (List.map (eInt .i64) l_)), (70, .bool t70)], [some ⟨26, false, [(Msg.enc b0)]⟩, some ⟨3, false, [[.int .i64 r_.place.at_, .int .i64 r_.place.e, .sl false 1 (List.map (eInt .u8) r_.b)]]⟩]⟩
noncomputable def msg_Of_1 (kind : Int) (body l_ : List Int) (t70 : Bool) (b0 : Msg) (r_ : readerT) : Option (Msg × Int) := (bif t70 then (some ((⟨0, 0, 0, 0, 0, 0, 0, 0, 0, 0, false, (⟨0, 0, 0, 0, 0, 0, 0, 0, 0, 0, [], []⟩ : Plan), [], [], []⟩ : Msg), 51)) else (bif (decide ((0 : Int) < (((List.map (eInt .i64) l_).length : Nat) : Int))) then (((l_)[0]?).bind fun y3 => (bif (decide ((1 : Int) < (((List.map (eInt .i64) l_).length : Nat) : Int))) then (((l_)[1]?).bind fun y6 => (bif (decide ((2 : Int) < (((List.map (eInt .i64) l_).length : Nat) : Int))) then (((l_)[2]?).bind fun y9 => (bif (decide ((3 : Int) < (((List.map (eInt .i64) l_).length : Nat) : Int))) then (((l_)[3]?).bind fun y12 => (bif (decide ((4 : Int) < (((List.map (eInt .i64) l_).length : Nat) : Int))) then (((l_)[4]?).bind fun y15 => (bif (decide ((5 : Int) < (((List.map (eInt .i64) l_).length : Nat) : Int))) then (((l_)[5]?).bind fun y18 => (bif (decide ((6 : Int) < (((List.map (eInt .i64) l_).length : Nat) : Int))) then (((l_)[6]?).bind fun y21 => (bif (decide ((7 : Int) < (((List.map (eInt .i64) l_).length : Nat) : Int))) then (((l_)[7]?).bind fun y24 => (bif (decide ((8 : Int) < (((List.map (eInt .i64) l_).length : Nat) : Int))) then (((l_)[8]?).bind fun y27 => (bif (decide ((9 : Int) < (((List.map (eInt .i64) l_).length : Nat) : Int))) then (((l_)[9]?).bind fun y30 => (bif ((y30 : Int) == 1) then ((msg_reader_text r_).bind fun y33 => ((plan_Get y33.1).bind fun y34 => (bif ((y34.2 : Int) != 0) then (some ((⟨0, 0, 0, 0, 0, 0, 0, 0, 0, 0, false, (⟨0, 0, 0, 0, 0, 0, 0, 0, 0, 0, [], []⟩ : Plan), [], [], []⟩ : Msg), 51)) else (msg_Of_3 body b0 y33.2 (⟨(IntKind.i64.wrap (kind)), y3, y6, y9, y12, y15, y18, y21, (IntKind.u64.wrap (y24)), y27, ((y30 : Int) == 1), y34.1, [], [], []⟩ : Msg))))) else (msg_Of_3 body b0 r_ (⟨(IntKind.i64.wrap (kind)), y3, y6, y9, y12, y15, y18, y21, (IntKind.u64.wrap (y24)), y27, ((y30 : Int) == 1), (⟨0, 0, 0, 0, 0, 0, 0, 0, 0, 0, [], []⟩ : Plan), [], [], []⟩ : Msg)))) else none)) else none)) else none)) else none)) else none)) else none)) else none)) else none)) else none)) else none))
theorem msg_Of_1_ok {kind body l_ t70 b0 r_} : msg_Of_W (msg_Of_1M kind body l_ t70 b0 r_) (msg_Of_1 kind body l_ t70 b0 r_) := by
 intro r h; unfold msg_Of_1 at h
 refine zs 1 h (fun h => ?_) fun h => ?_
 ·
  exact zu 10 h [.slot 0 [some 1, some 1, some 1, some 1, some 1]]
 refine zn 3 h fun h => ?_
 refine zr 0 (eInt .i64) h fun y3 h => ?_
 refine zn 0 h fun h => ?_
 refine zr 0 (eInt .i64) h fun y6 h => ?_
 refine zn 0 h fun h => ?_
 refine zr 0 (eInt .i64) h fun y9 h => ?_
 refine zn 0 h fun h => ?_
 refine zr 0 (eInt .i64) h fun y12 h => ?_
 refine zn 0 h fun h => ?_
 refine zr 0 (eInt .i64) h fun y15 h => ?_
 refine zn 0 h fun h => ?_
 refine zr 0 (eInt .i64) h fun y18 h => ?_
 refine zn 0 h fun h => ?_
 refine zr 0 (eInt .i64) h fun y21 h => ?_
 refine zn 0 h fun h => ?_
 refine zr 0 (eInt .i64) h fun y24 h => ?_
 refine zn 0 h fun h => ?_
 refine zr 0 (eInt .i64) h fun y27 h => ?_
 refine zn 7 h fun h => ?_
 refine zr 1 (eInt .i64) h fun y30 h => ?_
 refine zs 13 h (fun h => ?_) fun h => ?_
 ·
  refine zc 8 [] h (fun _ => msg_reader_text_ok) fun y33 h => ?_
  refine zc 1 [] h (fun _ => plan_Get_ok) fun y34 h => ?_
  refine zs 15 h (fun h => ?_) fun h => ?_
  ·
   exact zu 10 h [.slot 0 [some 1, some 1, some 1, some 1, some 1]]
  exact zg 1 (msg_Of_3_ok h) [.blk 2 [some 1, some 1, some 1]]
 exact zg 1 (msg_Of_3_ok h) [.blk 2 [some 1, some 1, some 1, some 1, some 1]]
noncomputable def msg_Of (kind : Int) (body : List Int) : Option (Msg × Int) := ((msg_reader_ints (⟨(⟨0, 0⟩ : placeT), body⟩ : readerT)).bind fun y1 => (bif ((y1.2.place.e : Int) != 0) then (msg_Of_1 kind body y1.1 true (⟨0, 0, 0, 0, 0, 0, 0, 0, 0, 0, false, (⟨0, 0, 0, 0, 0, 0, 0, 0, 0, 0, [], []⟩ : Plan), [], [], []⟩ : Msg) y1.2) else (bif (((((List.map (eInt .i64) y1.1).length : Nat) : Int) : Int) != 10) then (msg_Of_1 kind body y1.1 true (⟨0, 0, 0, 0, 0, 0, 0, 0, 0, 0, false, (⟨0, 0, 0, 0, 0, 0, 0, 0, 0, 0, [], []⟩ : Plan), [], [], []⟩ : Msg) y1.2) else (bif (decide ((0 : Int) < (((List.map (eInt .i64) y1.1).length : Nat) : Int))) then (((y1.1)[0]?).bind fun y5 => (bif (decide ((1 : Int) < (((List.map (eInt .i64) y1.1).length : Nat) : Int))) then (((y1.1)[1]?).bind fun y8 => (bif (decide ((7 : Int) < (((List.map (eInt .i64) y1.1).length : Nat) : Int))) then (((y1.1)[7]?).bind fun y11 => (bif (decide ((8 : Int) < (((List.map (eInt .i64) y1.1).length : Nat) : Int))) then (((y1.1)[8]?).bind fun y14 => (bif (decide ((9 : Int) < (((List.map (eInt .i64) y1.1).length : Nat) : Int))) then (((y1.1)[9]?).bind fun y17 => (bif (decide (((mnI (mnI (mnI (mnI y5 y8) y11) y14) y17) : Int) < 0)) then (msg_Of_1 kind body y1.1 true (⟨0, 0, 0, 0, 0, 0, 0, 0, 0, 0, false, (⟨0, 0, 0, 0, 0, 0, 0, 0, 0, 0, [], []⟩ : Plan), [], [], []⟩ : Msg) y1.2) else (bif (decide ((0 : Int) < (((List.map (eInt .i64) y1.1).length : Nat) : Int))) then (((y1.1)[0]?).bind fun y21 => (bif (decide ((1 : Int) < (((List.map (eInt .i64) y1.1).length : Nat) : Int))) then (((y1.1)[1]?).bind fun y24 => (bif (decide (((mxI y21 y24) : Int) > 255)) then (msg_Of_1 kind body y1.1 true (⟨0, 0, 0, 0, 0, 0, 0, 0, 0, 0, false, (⟨0, 0, 0, 0, 0, 0, 0, 0, 0, 0, [], []⟩ : Plan), [], [], []⟩ : Msg) y1.2) else (bif (decide ((7 : Int) < (((List.map (eInt .i64) y1.1).length : Nat) : Int))) then (((y1.1)[7]?).bind fun y28 => (bif (decide ((8 : Int) < (((List.map (eInt .i64) y1.1).length : Nat) : Int))) then (((y1.1)[8]?).bind fun y31 => (bif (decide (((mxI y28 y31) : Int) ≥ 65536)) then (msg_Of_1 kind body y1.1 true (⟨0, 0, 0, 0, 0, 0, 0, 0, 0, 0, false, (⟨0, 0, 0, 0, 0, 0, 0, 0, 0, 0, [], []⟩ : Plan), [], [], []⟩ : Msg) y1.2) else (bif (decide ((9 : Int) < (((List.map (eInt .i64) y1.1).length : Nat) : Int))) then (((y1.1)[9]?).bind fun y35 => (msg_Of_1 kind body y1.1 (decide ((y35 : Int) > 1)) (⟨0, 0, 0, 0, 0, 0, 0, 0, 0, 0, false, (⟨0, 0, 0, 0, 0, 0, 0, 0, 0, 0, [], []⟩ : Plan), [], [], []⟩ : Msg) y1.2)) else none))) else none)) else none))) else none)) else none))) else none)) else none)) else none)) else none)) else none))))
theorem msg_Of_ok {kind : Int} {body : List Int} {r : Msg × Int} (h : msg_Of kind body = some r) : Sound E 30 [.int .u8 kind, .sl false 1 (List.map (eInt .u8) body)] [] (Rs msg_Of_e r) := so (fn := Tryz.f30) (k := false) (m := 0) h <| by
 intro r h; unfold msg_Of at h
 refine zc 16 [] h (fun _ => msg_reader_ints_ok) fun y1 h => ?_
 refine zs 6 h (fun h => ?_) fun h => ?_
 ·
  exact zg 44 (msg_Of_1_ok h) [.blk 0 [some 1, some 1, some 1, some 1, some 1]]
 refine zs 3 h (fun h => ?_) fun h => ?_
 ·
  exact zg 40 (msg_Of_1_ok h) [.blk 0 [some 1, some 1, some 1, some 1, some 1]]
 refine zn 1 h fun h => ?_
 refine zr 1 (eInt .i64) h fun y5 h => ?_
 refine zn 2 h fun h => ?_
 refine zr 1 (eInt .i64) h fun y8 h => ?_
 refine zn 2 h fun h => ?_
 refine zr 1 (eInt .i64) h fun y11 h => ?_
 refine zn 2 h fun h => ?_
 refine zr 1 (eInt .i64) h fun y14 h => ?_
 refine zn 2 h fun h => ?_
 refine zr 1 (eInt .i64) h fun y17 h => ?_
 refine zs 3 h (fun h => ?_) fun h => ?_
 ·
  exact zg 22 (msg_Of_1_ok h) [.blk 0 [some 1, some 1, some 1, some 1, some 1]]
 refine zn 1 h fun h => ?_
 refine zr 1 (eInt .i64) h fun y21 h => ?_
 refine zn 2 h fun h => ?_
 refine zr 1 (eInt .i64) h fun y24 h => ?_
 refine zs 3 h (fun h => ?_) fun h => ?_
 ·
  exact zg 13 (msg_Of_1_ok h) [.blk 0 [some 1, some 1, some 1, some 1, some 1]]
 refine zn 1 h fun h => ?_
 refine zr 1 (eInt .i64) h fun y28 h => ?_
 refine zn 2 h fun h => ?_
 refine zr 1 (eInt .i64) h fun y31 h => ?_
 refine zs 3 h (fun h => ?_) fun h => ?_
 ·
  exact zg 4 (msg_Of_1_ok h) [.blk 0 [some 1, some 1, some 1, some 1, some 1]]
 refine zn 1 h fun h => ?_
 refine zr 1 (eInt .i64) h fun y35 h => ?_
 exact zg 2 (msg_Of_1_ok h) [.blk 0 [some 1, some 1, some 1, some 1, some 1]]
end Go.RX.L

namespace Go.RX.L
open Go Go.RX Go.Proofs
attribute [local irreducible] FinQ
noncomputable def policy_all_1_e (y : Bool) : D × Sto := (.bool y, [])
noncomputable def policy_all_1 (n t t2 : Int) : Option Bool := (bif (decide ((n : Int) < t)) then (some true) else (some (decide ((n : Int) > t2))))
theorem policy_all_1_ok {n t t2 : Int} {r : Bool} (h : policy_all_1 n t t2 = some r) : Sound E 66 [.int .i64 n, .iptr 1 [[.int .i64 t]] 0 0, .iptr 1 [[.int .i64 t2]] 0 0] [] (Rs policy_all_1_e r) := so (fn := Tryz.f66) (k := false) (m := 0) h <| by
 intro r h; unfold policy_all_1 at h
 refine zs 12 h (fun h => ?_) fun h => ?_
 ·
  exact zu 9 h
 exact zu 10 h
end Go.RX.L

namespace Go.RX.L
open Go Go.RX Go.Proofs
attribute [local irreducible] FinQ
noncomputable def slices_IndexFunc__policy_all_1_c := codeAt (bodyOf Tryz.f86)
noncomputable def slices_IndexFunc__policy_all_1_e (y : Int) : D × Sto := (.int .i64 y, [])
inductive slices_IndexFunc__policy_all_1_S where
 | s0 (s_ : List Int) (f f2 : Int)
 | s1 (s_ : List Int) (f f2 : Int) (t7 t8 : Int)
noncomputable def slices_IndexFunc__policy_all_1_M : slices_IndexFunc__policy_all_1_S → M
 | .s0 s_ f f2 => startM Tryz.f86 [.sl false 1 (List.map (eInt .i64) s_), .fn 66 [] [.iptr 1 [[.int .i64 f]] 0 0, .iptr 1 [[.int .i64 f2]] 0 0]] []
 | .s1 s_ f f2 t7 t8 => ⟨[.lpc (slices_IndexFunc__policy_all_1_c [1, 0, 1, 0, 0]) 387, .blk 0, .code (slices_IndexFunc__policy_all_1_c [1, 1])], [(0, .sl false 1 (List.map (eInt .i64) s_)), (1, .fn 66 [] [.iptr 1 [[.int .i64 f]] 0 0, .iptr 1 [[.int .i64 f2]] 0 0]), (7, .int .i64 t7), (8, .int .i64 t8)], []⟩
abbrev slices_IndexFunc__policy_all_1_W := SOk E (Cx.of Tryz.f86 false 0) slices_IndexFunc__policy_all_1_e slices_IndexFunc__policy_all_1_M
noncomputable def slices_IndexFunc__policy_all_1_0 (s_ : List Int) (f f2 : Int) : Option (slices_IndexFunc__policy_all_1_S ⊕ Int) := (some (.inl (.s1 s_ f f2 (((List.map (eInt .i64) s_).length : Nat) : Int) 0)))
noncomputable def slices_IndexFunc__policy_all_1_1 (s_ : List Int) (f f2 : Int) (t7 t8 : Int) : Option (slices_IndexFunc__policy_all_1_S ⊕ Int) := (bif (decide ((t8 : Int) < t7)) then (bif ((decide ((0 : Int) ≤ t8)) && (decide ((t8 : Int) < (((List.map (eInt .i64) s_).length : Nat) : Int)))) then (((s_)[t8.toNat]?).bind fun y3 => ((policy_all_1 y3 f f2).bind fun y5 => (bif y5 then (some (.inr t8)) else (some (.inl (.s1 s_ f f2 t7 (IntKind.i64.wrap (t8 + 1)))))))) else none) else (some (.inr (-1))))
noncomputable def slices_IndexFunc__policy_all_1_step : slices_IndexFunc__policy_all_1_S → Option (slices_IndexFunc__policy_all_1_S ⊕ Int)
 | .s0 s_ f f2 => slices_IndexFunc__policy_all_1_0 s_ f f2
 | .s1 s_ f f2 t7 t8 => slices_IndexFunc__policy_all_1_1 s_ f f2 t7 t8
theorem slices_IndexFunc__policy_all_1_0_ok {s_ f f2} : slices_IndexFunc__policy_all_1_W (.s0 s_ f f2) (slices_IndexFunc__policy_all_1_0 s_ f f2) := by
 intro r x h ha; unfold slices_IndexFunc__policy_all_1_0 at h
 exact zj 14 h ha
theorem slices_IndexFunc__policy_all_1_1_ok {s_ f f2 t7 t8} : slices_IndexFunc__policy_all_1_W (.s1 s_ f f2 t7 t8) (slices_IndexFunc__policy_all_1_1 s_ f f2 t7 t8) := by
 intro r x h ha; unfold slices_IndexFunc__policy_all_1_1 at h
 refine zs 7 h (fun h => ?_) fun h => ?_
 ·
  refine zn 14 h fun h => ?_
  refine zr 1 (eInt .i64) h fun y3 h => ?_
  refine zc 1 [] h (fun _ => policy_all_1_ok) fun y5 h => ?_
  refine zs 2 h (fun h => ?_) fun h => ?_
  ·
   exact zt 6 h ha
  exact zj 7 h ha
 exact zt 6 h ha
noncomputable def slices_IndexFunc__policy_all_1 (s_ : List Int) (f f2 : Int) : Option Int := evf slices_IndexFunc__policy_all_1_step (.s0 s_ f f2)
theorem slices_IndexFunc__policy_all_1_ok {s_ : List Int} {f f2 r : Int} (h : slices_IndexFunc__policy_all_1 s_ f f2 = some r) : Sound E 86 [.sl false 1 (List.map (eInt .i64) s_), .fn 66 [] [.iptr 1 [[.int .i64 f]] 0 0, .iptr 1 [[.int .i64 f2]] 0 0]] [] (Rs slices_IndexFunc__policy_all_1_e r) := sc (fn := Tryz.f86) (k := false) (m := 0) (stM := slices_IndexFunc__policy_all_1_M) h fun s => by
 cases s with
 | s0 => exact slices_IndexFunc__policy_all_1_0_ok
 | s1 => exact slices_IndexFunc__policy_all_1_1_ok
end Go.RX.L

namespace Go.RX.L
open Go Go.RX Go.Proofs
attribute [local irreducible] FinQ
noncomputable def slices_ContainsFunc__policy_all_1_e (y : Bool) : D × Sto := (.bool y, [])
noncomputable def slices_ContainsFunc__policy_all_1 (s_ : List Int) (f f2 : Int) : Option Bool := ((slices_IndexFunc__policy_all_1 s_ f f2).bind fun y1 => (some (decide ((y1 : Int) ≥ 0))))
theorem slices_ContainsFunc__policy_all_1_ok {s_ : List Int} {f f2 : Int} {r : Bool} (h : slices_ContainsFunc__policy_all_1 s_ f f2 = some r) : Sound E 65 [.sl false 1 (List.map (eInt .i64) s_), .fn 66 [] [.iptr 1 [[.int .i64 f]] 0 0, .iptr 1 [[.int .i64 f2]] 0 0]] [] (Rs slices_ContainsFunc__policy_all_1_e r) := so (fn := Tryz.f65) (k := false) (m := 0) h <| by
 intro r h; unfold slices_ContainsFunc__policy_all_1 at h
 refine zc 9 [] h (fun _ => slices_IndexFunc__policy_all_1_ok) fun y1 h => ?_
 exact zu 4 h
end Go.RX.L
