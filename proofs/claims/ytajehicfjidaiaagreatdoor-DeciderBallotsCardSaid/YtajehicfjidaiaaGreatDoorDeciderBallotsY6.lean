/-
  Words and walks for DeciderBallots. No condition.
-/
import Derived.Test.YtajehicfjidaiaaGreatDoorDeciderBallotsY5
set_option linter.unusedSectionVars false
set_option linter.unnecessarySimpa false
set_option linter.unusedSimpArgs false
set_option linter.unusedVariables false
set_option maxRecDepth 100000
set_option maxHeartbeats 4000000
namespace Go.RX.L
open Go Go.RX Go.Proofs
attribute [local irreducible] f6
noncomputable def bT4:=p8 (q0 Tryz.f138)
def H3 (y:Int):List D:= [D.int .i64 y]
inductive J0 where
 | s0 (state:d9) (c:d8) (index:Int) (fuse:Int) (down:Bool) (b3:List Int) (b4:List Int)
 | s1 (n:Int) (state2:d9) (c2:d8) (index2:Int) (fuse2:Int) (down2:Bool) (b32:List Int) (b42:List Int)
noncomputable def I9 (l:Nat):J0→M
 | .s0 state c index fuse down b3 b4=>⟨[.code (q0 Tryz.f138)],[(0,D.yld l),(1,D.ptr 0 0 0)],[some ⟨1,true,[[D.ptr 1 0 0]]⟩,some ⟨88,true,[[D.int .i64 state.boot,D.int .i64 state.known.Epoch,D.int .i64 state.known.Target,D.int .i64 state.known.Prev,D.int .i64 state.known.Spill,D.int .i64 state.known.Percent,D.int .i64 state.known.Stamp,D.int .i64 state.known.Since,D.int .i64 state.known.Ramped,D.int .u64 state.known.Up,D.int .u64 state.known.Sup,D.sl false 1 (List.map (d7 .i64) state.known.Pen),D.sl false 1 (List.map (d7 .i64) state.known.Changes),D.int .i64 state.heard,D.sl false 3 (List.map i8.enc state.votes),D.int .i64 state.hold.Epoch,D.int .i64 state.hold.Nonce,D.int .u64 state.hold.Grants,D.int .i64 state.hold.Until,D.bool state.asked.ever,D.int .i64 state.asked.at_,D.int .i64 state.prop.Epoch,D.int .i64 state.prop.Ballot,D.int .i64 state.prop.Phase,D.int .i64 state.prop.Own.Epoch,D.int .i64 state.prop.Own.Target,D.int .i64 state.prop.Own.Prev,D.int .i64 state.prop.Own.Spill,D.int .i64 state.prop.Own.Percent,D.int .i64 state.prop.Own.Stamp,D.int .i64 state.prop.Own.Since,D.int .i64 state.prop.Own.Ramped,D.int .u64 state.prop.Own.Up,D.int .u64 state.prop.Own.Sup,D.sl false 1 (List.map (d7 .i64) state.prop.Own.Pen),D.sl false 1 (List.map (d7 .i64) state.prop.Own.Changes),D.int .i64 state.prop.Best,D.int .i64 state.prop.Value.Epoch,D.int .i64 state.prop.Value.Target,D.int .i64 state.prop.Value.Prev,D.int .i64 state.prop.Value.Spill,D.int .i64 state.prop.Value.Percent,D.int .i64 state.prop.Value.Stamp,D.int .i64 state.prop.Value.Since,D.int .i64 state.prop.Value.Ramped,D.int .u64 state.prop.Value.Up,D.int .u64 state.prop.Value.Sup,D.sl false 1 (List.map (d7 .i64) state.prop.Value.Pen),D.sl false 1 (List.map (d7 .i64) state.prop.Value.Changes),D.int .u64 state.prop.Promises,D.int .u64 state.prop.Accepts,D.int .i64 state.made,D.int .i64 state.top,D.int .u64 state.sealed,D.bool state.told.ever,D.int .i64 state.told.at_,D.int .i64 c.F_,D.int .i64 c.Deciders,D.int .i64 c.Targets,D.int .i64 c.Routers,D.int .i64 c.Observers,D.sl false 1 (List.map (d7 .i64) c.Tiers),D.int .i64 c.Every,D.int .i64 c.Wait,D.int .i64 c.Rise,D.int .i64 c.Fall,D.int .i64 c.Fresh,D.int .i64 c.L_,D.int .i64 c.M_,D.int .i64 c.Dwell,D.int .i64 c.D_,D.int .i64 c.W_,D.int .i64 c.B_,D.int .i64 c.Hit,D.int .i64 c.Suppress,D.int .i64 c.Reuse,D.int .i64 c.Half,D.int .i64 c.First,D.int .i64 c.Step,D.int .i64 c.StepTime,D.int .i64 c.S_,D.int .i64 c.Cap,D.int .i64 c.Span,D.int .i64 c.Room,D.int .i64 c.Tries,D.int .i64 c.Retry,D.int .i64 index,D.ptr 2 0 0]]⟩,some ⟨4,true,[[(f5 3 (List.map (d7 .u8) b3)),(f5 4 (List.map (d7 .u8) b4)),D.int .i64 fuse,D.bool down]]⟩,some ⟨1,false,(List.map (d7 .u8) b3)⟩,some ⟨1,false,(List.map (d7 .u8) b4)⟩]⟩
 | .s1 n state2 c2 index2 fuse2 down2 b32 b42=>⟨[.lpc (bT4 [1,0,0]) 11,.blk 0],[(0,D.yld l),(1,D.ptr 0 0 0),(3,D.int .i64 n)],[some ⟨1,true,[[D.ptr 1 0 0]]⟩,some ⟨88,true,[[D.int .i64 state2.boot,D.int .i64 state2.known.Epoch,D.int .i64 state2.known.Target,D.int .i64 state2.known.Prev,D.int .i64 state2.known.Spill,D.int .i64 state2.known.Percent,D.int .i64 state2.known.Stamp,D.int .i64 state2.known.Since,D.int .i64 state2.known.Ramped,D.int .u64 state2.known.Up,D.int .u64 state2.known.Sup,D.sl false 1 (List.map (d7 .i64) state2.known.Pen),D.sl false 1 (List.map (d7 .i64) state2.known.Changes),D.int .i64 state2.heard,D.sl false 3 (List.map i8.enc state2.votes),D.int .i64 state2.hold.Epoch,D.int .i64 state2.hold.Nonce,D.int .u64 state2.hold.Grants,D.int .i64 state2.hold.Until,D.bool state2.asked.ever,D.int .i64 state2.asked.at_,D.int .i64 state2.prop.Epoch,D.int .i64 state2.prop.Ballot,D.int .i64 state2.prop.Phase,D.int .i64 state2.prop.Own.Epoch,D.int .i64 state2.prop.Own.Target,D.int .i64 state2.prop.Own.Prev,D.int .i64 state2.prop.Own.Spill,D.int .i64 state2.prop.Own.Percent,D.int .i64 state2.prop.Own.Stamp,D.int .i64 state2.prop.Own.Since,D.int .i64 state2.prop.Own.Ramped,D.int .u64 state2.prop.Own.Up,D.int .u64 state2.prop.Own.Sup,D.sl false 1 (List.map (d7 .i64) state2.prop.Own.Pen),D.sl false 1 (List.map (d7 .i64) state2.prop.Own.Changes),D.int .i64 state2.prop.Best,D.int .i64 state2.prop.Value.Epoch,D.int .i64 state2.prop.Value.Target,D.int .i64 state2.prop.Value.Prev,D.int .i64 state2.prop.Value.Spill,D.int .i64 state2.prop.Value.Percent,D.int .i64 state2.prop.Value.Stamp,D.int .i64 state2.prop.Value.Since,D.int .i64 state2.prop.Value.Ramped,D.int .u64 state2.prop.Value.Up,D.int .u64 state2.prop.Value.Sup,D.sl false 1 (List.map (d7 .i64) state2.prop.Value.Pen),D.sl false 1 (List.map (d7 .i64) state2.prop.Value.Changes),D.int .u64 state2.prop.Promises,D.int .u64 state2.prop.Accepts,D.int .i64 state2.made,D.int .i64 state2.top,D.int .u64 state2.sealed,D.bool state2.told.ever,D.int .i64 state2.told.at_,D.int .i64 c2.F_,D.int .i64 c2.Deciders,D.int .i64 c2.Targets,D.int .i64 c2.Routers,D.int .i64 c2.Observers,D.sl false 1 (List.map (d7 .i64) c2.Tiers),D.int .i64 c2.Every,D.int .i64 c2.Wait,D.int .i64 c2.Rise,D.int .i64 c2.Fall,D.int .i64 c2.Fresh,D.int .i64 c2.L_,D.int .i64 c2.M_,D.int .i64 c2.Dwell,D.int .i64 c2.D_,D.int .i64 c2.W_,D.int .i64 c2.B_,D.int .i64 c2.Hit,D.int .i64 c2.Suppress,D.int .i64 c2.Reuse,D.int .i64 c2.Half,D.int .i64 c2.First,D.int .i64 c2.Step,D.int .i64 c2.StepTime,D.int .i64 c2.S_,D.int .i64 c2.Cap,D.int .i64 c2.Span,D.int .i64 c2.Room,D.int .i64 c2.Tries,D.int .i64 c2.Retry,D.int .i64 index2,D.ptr 2 0 0]]⟩,some ⟨4,true,[[(f5 3 (List.map (d7 .u8) b32)),(f5 4 (List.map (d7 .u8) b42)),D.int .i64 fuse2,D.bool down2]]⟩,some ⟨1,false,(List.map (d7 .u8) b32)⟩,some ⟨1,false,(List.map (d7 .u8) b42)⟩]⟩
noncomputable def ao2 (state:d9) (c:d8) (index fuse:Int) (down:Bool) (b3 b4:List Int):Option (List Int×Option J0):=((I7 c 0).bind fun y1=>(some ([],some (.s1 y1 state c index fuse down b3 b4))))
noncomputable def S5 (n:Int) (state2:d9) (c2:d8) (index2 fuse2:Int) (down2:Bool) (b32 b42:List Int):Option (List Int×Option J0):=((X4 c2 0).bind fun y1=>(bif (decide ((n:Int)<y1)) then ((I7 c2 index2).bind fun y3=>(bif ((n:Int) !=y3) then (Option.map (fun p=>(n::p.1,p.2)) (some ([],some (.s1 (IntKind.i64.wrap (n+1)) state2 c2 index2 fuse2 down2 b32 b42)))) else (some ([],some (.s1 (IntKind.i64.wrap (n+1)) state2 c2 index2 fuse2 down2 b32 b42))))) else (some ([],none))))
noncomputable def W9:J0→f4
 | .s0 state c index fuse down b3 b4=> [some ⟨1,true,[[D.ptr 1 0 0]]⟩,some ⟨88,true,[[D.int .i64 state.boot,D.int .i64 state.known.Epoch,D.int .i64 state.known.Target,D.int .i64 state.known.Prev,D.int .i64 state.known.Spill,D.int .i64 state.known.Percent,D.int .i64 state.known.Stamp,D.int .i64 state.known.Since,D.int .i64 state.known.Ramped,D.int .u64 state.known.Up,D.int .u64 state.known.Sup,D.sl false 1 (List.map (d7 .i64) state.known.Pen),D.sl false 1 (List.map (d7 .i64) state.known.Changes),D.int .i64 state.heard,D.sl false 3 (List.map i8.enc state.votes),D.int .i64 state.hold.Epoch,D.int .i64 state.hold.Nonce,D.int .u64 state.hold.Grants,D.int .i64 state.hold.Until,D.bool state.asked.ever,D.int .i64 state.asked.at_,D.int .i64 state.prop.Epoch,D.int .i64 state.prop.Ballot,D.int .i64 state.prop.Phase,D.int .i64 state.prop.Own.Epoch,D.int .i64 state.prop.Own.Target,D.int .i64 state.prop.Own.Prev,D.int .i64 state.prop.Own.Spill,D.int .i64 state.prop.Own.Percent,D.int .i64 state.prop.Own.Stamp,D.int .i64 state.prop.Own.Since,D.int .i64 state.prop.Own.Ramped,D.int .u64 state.prop.Own.Up,D.int .u64 state.prop.Own.Sup,D.sl false 1 (List.map (d7 .i64) state.prop.Own.Pen),D.sl false 1 (List.map (d7 .i64) state.prop.Own.Changes),D.int .i64 state.prop.Best,D.int .i64 state.prop.Value.Epoch,D.int .i64 state.prop.Value.Target,D.int .i64 state.prop.Value.Prev,D.int .i64 state.prop.Value.Spill,D.int .i64 state.prop.Value.Percent,D.int .i64 state.prop.Value.Stamp,D.int .i64 state.prop.Value.Since,D.int .i64 state.prop.Value.Ramped,D.int .u64 state.prop.Value.Up,D.int .u64 state.prop.Value.Sup,D.sl false 1 (List.map (d7 .i64) state.prop.Value.Pen),D.sl false 1 (List.map (d7 .i64) state.prop.Value.Changes),D.int .u64 state.prop.Promises,D.int .u64 state.prop.Accepts,D.int .i64 state.made,D.int .i64 state.top,D.int .u64 state.sealed,D.bool state.told.ever,D.int .i64 state.told.at_,D.int .i64 c.F_,D.int .i64 c.Deciders,D.int .i64 c.Targets,D.int .i64 c.Routers,D.int .i64 c.Observers,D.sl false 1 (List.map (d7 .i64) c.Tiers),D.int .i64 c.Every,D.int .i64 c.Wait,D.int .i64 c.Rise,D.int .i64 c.Fall,D.int .i64 c.Fresh,D.int .i64 c.L_,D.int .i64 c.M_,D.int .i64 c.Dwell,D.int .i64 c.D_,D.int .i64 c.W_,D.int .i64 c.B_,D.int .i64 c.Hit,D.int .i64 c.Suppress,D.int .i64 c.Reuse,D.int .i64 c.Half,D.int .i64 c.First,D.int .i64 c.Step,D.int .i64 c.StepTime,D.int .i64 c.S_,D.int .i64 c.Cap,D.int .i64 c.Span,D.int .i64 c.Room,D.int .i64 c.Tries,D.int .i64 c.Retry,D.int .i64 index,D.ptr 2 0 0]]⟩,some ⟨4,true,[[(f5 3 (List.map (d7 .u8) b3)),(f5 4 (List.map (d7 .u8) b4)),D.int .i64 fuse,D.bool down]]⟩,some ⟨1,false,(List.map (d7 .u8) b3)⟩,some ⟨1,false,(List.map (d7 .u8) b4)⟩]
 | .s1 n state2 c2 index2 fuse2 down2 b32 b42=> [some ⟨1,true,[[D.ptr 1 0 0]]⟩,some ⟨88,true,[[D.int .i64 state2.boot,D.int .i64 state2.known.Epoch,D.int .i64 state2.known.Target,D.int .i64 state2.known.Prev,D.int .i64 state2.known.Spill,D.int .i64 state2.known.Percent,D.int .i64 state2.known.Stamp,D.int .i64 state2.known.Since,D.int .i64 state2.known.Ramped,D.int .u64 state2.known.Up,D.int .u64 state2.known.Sup,D.sl false 1 (List.map (d7 .i64) state2.known.Pen),D.sl false 1 (List.map (d7 .i64) state2.known.Changes),D.int .i64 state2.heard,D.sl false 3 (List.map i8.enc state2.votes),D.int .i64 state2.hold.Epoch,D.int .i64 state2.hold.Nonce,D.int .u64 state2.hold.Grants,D.int .i64 state2.hold.Until,D.bool state2.asked.ever,D.int .i64 state2.asked.at_,D.int .i64 state2.prop.Epoch,D.int .i64 state2.prop.Ballot,D.int .i64 state2.prop.Phase,D.int .i64 state2.prop.Own.Epoch,D.int .i64 state2.prop.Own.Target,D.int .i64 state2.prop.Own.Prev,D.int .i64 state2.prop.Own.Spill,D.int .i64 state2.prop.Own.Percent,D.int .i64 state2.prop.Own.Stamp,D.int .i64 state2.prop.Own.Since,D.int .i64 state2.prop.Own.Ramped,D.int .u64 state2.prop.Own.Up,D.int .u64 state2.prop.Own.Sup,D.sl false 1 (List.map (d7 .i64) state2.prop.Own.Pen),D.sl false 1 (List.map (d7 .i64) state2.prop.Own.Changes),D.int .i64 state2.prop.Best,D.int .i64 state2.prop.Value.Epoch,D.int .i64 state2.prop.Value.Target,D.int .i64 state2.prop.Value.Prev,D.int .i64 state2.prop.Value.Spill,D.int .i64 state2.prop.Value.Percent,D.int .i64 state2.prop.Value.Stamp,D.int .i64 state2.prop.Value.Since,D.int .i64 state2.prop.Value.Ramped,D.int .u64 state2.prop.Value.Up,D.int .u64 state2.prop.Value.Sup,D.sl false 1 (List.map (d7 .i64) state2.prop.Value.Pen),D.sl false 1 (List.map (d7 .i64) state2.prop.Value.Changes),D.int .u64 state2.prop.Promises,D.int .u64 state2.prop.Accepts,D.int .i64 state2.made,D.int .i64 state2.top,D.int .u64 state2.sealed,D.bool state2.told.ever,D.int .i64 state2.told.at_,D.int .i64 c2.F_,D.int .i64 c2.Deciders,D.int .i64 c2.Targets,D.int .i64 c2.Routers,D.int .i64 c2.Observers,D.sl false 1 (List.map (d7 .i64) c2.Tiers),D.int .i64 c2.Every,D.int .i64 c2.Wait,D.int .i64 c2.Rise,D.int .i64 c2.Fall,D.int .i64 c2.Fresh,D.int .i64 c2.L_,D.int .i64 c2.M_,D.int .i64 c2.Dwell,D.int .i64 c2.D_,D.int .i64 c2.W_,D.int .i64 c2.B_,D.int .i64 c2.Hit,D.int .i64 c2.Suppress,D.int .i64 c2.Reuse,D.int .i64 c2.Half,D.int .i64 c2.First,D.int .i64 c2.Step,D.int .i64 c2.StepTime,D.int .i64 c2.S_,D.int .i64 c2.Cap,D.int .i64 c2.Span,D.int .i64 c2.Room,D.int .i64 c2.Tries,D.int .i64 c2.Retry,D.int .i64 index2,D.ptr 2 0 0]]⟩,some ⟨4,true,[[(f5 3 (List.map (d7 .u8) b32)),(f5 4 (List.map (d7 .u8) b42)),D.int .i64 fuse2,D.bool down2]]⟩,some ⟨1,false,(List.map (d7 .u8) b32)⟩,some ⟨1,false,(List.map (d7 .u8) b42)⟩]
noncomputable def H9:J0→Option (List Int×Option J0)
 | .s0 state c index fuse down b3 b4=>ao2 state c index fuse down b3 b4
 | .s1 n state2 c2 index2 fuse2 down2 b32 b42=>S5 n state2 c2 index2 fuse2 down2 b32 b42
theorem bC5 {l:Nat}{ln:f4}{φ0:q9}{J:Option (List (List D))→World→(Nat→Prop)→(Nat→Prop)→Prop}{state:d9}{c:d8}{index fuse:Int}{down:Bool}{b3 b4:List Int}{x:List Int×Option J0}{Y:List (List D)} (hl:W9 (.s0 state c index fuse down b3 b4)=ln) (h:ao2 state c index fuse down b3 b4=some x) (ha:Z8 E ln (Cx.seq Tryz.f138 5 ln l φ0 J) H3 (I9 l) W9 x Y):f6 E (Cx.seq Tryz.f138 5 ln l φ0 J (some Y)) (fun _ s=>P3 ln s) (.go (I9 l (.s0 state c index fuse down b3 b4))):=by
 subst hl
 unfold ao2 at h
 refine zc 9 [] h (fun _=>T0) fun y1 h=> ?_
 refine l8 hm 5 _ ?_
 obtain rfl:=Option.some.inj h
 exact aU5 (q' := .go (I9 l (.s1 y1 state c index fuse down b3 b4))) (by kernel_rfl) (K7 (by kernel_rfl) ha)
theorem bE9 {l:Nat}{ln:f4}{φ0:q9}{J:Option (List (List D))→World→(Nat→Prop)→(Nat→Prop)→Prop}{n:Int}{state2:d9}{c2:d8}{index2 fuse2:Int}{down2:Bool}{b32 b42:List Int}{x:List Int×Option J0}{Y:List (List D)} (hl:W9 (.s1 n state2 c2 index2 fuse2 down2 b32 b42)=ln) (h:S5 n state2 c2 index2 fuse2 down2 b32 b42=some x) (ha:Z8 E ln (Cx.seq Tryz.f138 5 ln l φ0 J) H3 (I9 l) W9 x Y):f6 E (Cx.seq Tryz.f138 5 ln l φ0 J (some Y)) (fun _ s=>P3 ln s) (.go (I9 l (.s1 n state2 c2 index2 fuse2 down2 b32 b42))):=by
 subst hl
 unfold S5 at h
 refine zc 12 [] h (fun _=>aW6) fun y1 h=> ?_
 refine zs 3 h (fun h=> ?_) fun h=> ?_
 ·
  refine zd 9 [] h (fun _=>T0) fun y3 h=> ?_
  refine zs 0 h (fun h=> ?_) fun h=> ?_
  ·
   refine l8 hm 3 _ ?_
   refine bG1 (x:=n) (s:= [some ⟨1,true,[[D.ptr 1 0 0]]⟩,some ⟨88,true,[[D.int .i64 state2.boot,D.int .i64 state2.known.Epoch,D.int .i64 state2.known.Target,D.int .i64 state2.known.Prev,D.int .i64 state2.known.Spill,D.int .i64 state2.known.Percent,D.int .i64 state2.known.Stamp,D.int .i64 state2.known.Since,D.int .i64 state2.known.Ramped,D.int .u64 state2.known.Up,D.int .u64 state2.known.Sup,D.sl false 1 (List.map (d7 .i64) state2.known.Pen),D.sl false 1 (List.map (d7 .i64) state2.known.Changes),D.int .i64 state2.heard,D.sl false 3 (List.map i8.enc state2.votes),D.int .i64 state2.hold.Epoch,D.int .i64 state2.hold.Nonce,D.int .u64 state2.hold.Grants,D.int .i64 state2.hold.Until,D.bool state2.asked.ever,D.int .i64 state2.asked.at_,D.int .i64 state2.prop.Epoch,D.int .i64 state2.prop.Ballot,D.int .i64 state2.prop.Phase,D.int .i64 state2.prop.Own.Epoch,D.int .i64 state2.prop.Own.Target,D.int .i64 state2.prop.Own.Prev,D.int .i64 state2.prop.Own.Spill,D.int .i64 state2.prop.Own.Percent,D.int .i64 state2.prop.Own.Stamp,D.int .i64 state2.prop.Own.Since,D.int .i64 state2.prop.Own.Ramped,D.int .u64 state2.prop.Own.Up,D.int .u64 state2.prop.Own.Sup,D.sl false 1 (List.map (d7 .i64) state2.prop.Own.Pen),D.sl false 1 (List.map (d7 .i64) state2.prop.Own.Changes),D.int .i64 state2.prop.Best,D.int .i64 state2.prop.Value.Epoch,D.int .i64 state2.prop.Value.Target,D.int .i64 state2.prop.Value.Prev,D.int .i64 state2.prop.Value.Spill,D.int .i64 state2.prop.Value.Percent,D.int .i64 state2.prop.Value.Stamp,D.int .i64 state2.prop.Value.Since,D.int .i64 state2.prop.Value.Ramped,D.int .u64 state2.prop.Value.Up,D.int .u64 state2.prop.Value.Sup,D.sl false 1 (List.map (d7 .i64) state2.prop.Value.Pen),D.sl false 1 (List.map (d7 .i64) state2.prop.Value.Changes),D.int .u64 state2.prop.Promises,D.int .u64 state2.prop.Accepts,D.int .i64 state2.made,D.int .i64 state2.top,D.int .u64 state2.sealed,D.bool state2.told.ever,D.int .i64 state2.told.at_,D.int .i64 c2.F_,D.int .i64 c2.Deciders,D.int .i64 c2.Targets,D.int .i64 c2.Routers,D.int .i64 c2.Observers,D.sl false 1 (List.map (d7 .i64) c2.Tiers),D.int .i64 c2.Every,D.int .i64 c2.Wait,D.int .i64 c2.Rise,D.int .i64 c2.Fall,D.int .i64 c2.Fresh,D.int .i64 c2.L_,D.int .i64 c2.M_,D.int .i64 c2.Dwell,D.int .i64 c2.D_,D.int .i64 c2.W_,D.int .i64 c2.B_,D.int .i64 c2.Hit,D.int .i64 c2.Suppress,D.int .i64 c2.Reuse,D.int .i64 c2.Half,D.int .i64 c2.First,D.int .i64 c2.Step,D.int .i64 c2.StepTime,D.int .i64 c2.S_,D.int .i64 c2.Cap,D.int .i64 c2.Span,D.int .i64 c2.Room,D.int .i64 c2.Tries,D.int .i64 c2.Retry,D.int .i64 index2,D.ptr 2 0 0]]⟩,some ⟨4,true,[[(f5 3 (List.map (d7 .u8) b32)),(f5 4 (List.map (d7 .u8) b42)),D.int .i64 fuse2,D.bool down2]]⟩,some ⟨1,false,(List.map (d7 .u8) b32)⟩,some ⟨1,false,(List.map (d7 .u8) b42)⟩]) h ha (by kernel_rfl) (by kernel_rfl) ?_ (fun p Y h ha=> ?_)
   ·--it is stopped
    refine l8 hm 8 _ ?_
    exact bs1 (d:=D.tup []) (s:= [some ⟨1,true,[[D.ptr 1 0 0]]⟩,some ⟨88,true,[[D.int .i64 state2.boot,D.int .i64 state2.known.Epoch,D.int .i64 state2.known.Target,D.int .i64 state2.known.Prev,D.int .i64 state2.known.Spill,D.int .i64 state2.known.Percent,D.int .i64 state2.known.Stamp,D.int .i64 state2.known.Since,D.int .i64 state2.known.Ramped,D.int .u64 state2.known.Up,D.int .u64 state2.known.Sup,D.sl false 1 (List.map (d7 .i64) state2.known.Pen),D.sl false 1 (List.map (d7 .i64) state2.known.Changes),D.int .i64 state2.heard,D.sl false 3 (List.map i8.enc state2.votes),D.int .i64 state2.hold.Epoch,D.int .i64 state2.hold.Nonce,D.int .u64 state2.hold.Grants,D.int .i64 state2.hold.Until,D.bool state2.asked.ever,D.int .i64 state2.asked.at_,D.int .i64 state2.prop.Epoch,D.int .i64 state2.prop.Ballot,D.int .i64 state2.prop.Phase,D.int .i64 state2.prop.Own.Epoch,D.int .i64 state2.prop.Own.Target,D.int .i64 state2.prop.Own.Prev,D.int .i64 state2.prop.Own.Spill,D.int .i64 state2.prop.Own.Percent,D.int .i64 state2.prop.Own.Stamp,D.int .i64 state2.prop.Own.Since,D.int .i64 state2.prop.Own.Ramped,D.int .u64 state2.prop.Own.Up,D.int .u64 state2.prop.Own.Sup,D.sl false 1 (List.map (d7 .i64) state2.prop.Own.Pen),D.sl false 1 (List.map (d7 .i64) state2.prop.Own.Changes),D.int .i64 state2.prop.Best,D.int .i64 state2.prop.Value.Epoch,D.int .i64 state2.prop.Value.Target,D.int .i64 state2.prop.Value.Prev,D.int .i64 state2.prop.Value.Spill,D.int .i64 state2.prop.Value.Percent,D.int .i64 state2.prop.Value.Stamp,D.int .i64 state2.prop.Value.Since,D.int .i64 state2.prop.Value.Ramped,D.int .u64 state2.prop.Value.Up,D.int .u64 state2.prop.Value.Sup,D.sl false 1 (List.map (d7 .i64) state2.prop.Value.Pen),D.sl false 1 (List.map (d7 .i64) state2.prop.Value.Changes),D.int .u64 state2.prop.Promises,D.int .u64 state2.prop.Accepts,D.int .i64 state2.made,D.int .i64 state2.top,D.int .u64 state2.sealed,D.bool state2.told.ever,D.int .i64 state2.told.at_,D.int .i64 c2.F_,D.int .i64 c2.Deciders,D.int .i64 c2.Targets,D.int .i64 c2.Routers,D.int .i64 c2.Observers,D.sl false 1 (List.map (d7 .i64) c2.Tiers),D.int .i64 c2.Every,D.int .i64 c2.Wait,D.int .i64 c2.Rise,D.int .i64 c2.Fall,D.int .i64 c2.Fresh,D.int .i64 c2.L_,D.int .i64 c2.M_,D.int .i64 c2.Dwell,D.int .i64 c2.D_,D.int .i64 c2.W_,D.int .i64 c2.B_,D.int .i64 c2.Hit,D.int .i64 c2.Suppress,D.int .i64 c2.Reuse,D.int .i64 c2.Half,D.int .i64 c2.First,D.int .i64 c2.Step,D.int .i64 c2.StepTime,D.int .i64 c2.S_,D.int .i64 c2.Cap,D.int .i64 c2.Span,D.int .i64 c2.Room,D.int .i64 c2.Tries,D.int .i64 c2.Retry,D.int .i64 index2,D.ptr 2 0 0]]⟩,some ⟨4,true,[[(f5 3 (List.map (d7 .u8) b32)),(f5 4 (List.map (d7 .u8) b42)),D.int .i64 fuse2,D.bool down2]]⟩,some ⟨1,false,(List.map (d7 .u8) b32)⟩,some ⟨1,false,(List.map (d7 .u8) b42)⟩]) (by kernel_rfl) (by kernel_rfl)
   ·--it goes on
    refine l8 hm 15 _ ?_
    obtain rfl:=Option.some.inj h
    exact aU5 (q' := .go (I9 l (.s1 (IntKind.i64.wrap (n+1)) state2 c2 index2 fuse2 down2 b32 b42))) (by kernel_rfl) (K7 (by kernel_rfl) ha)
  refine l8 hm 18 _ ?_
  obtain rfl:=Option.some.inj h
  exact aU5 (q' := .go (I9 l (.s1 (IntKind.i64.wrap (n+1)) state2 c2 index2 fuse2 down2 b32 b42))) (by kernel_rfl) (K7 (by kernel_rfl) ha)
 refine l8 hm 2 _ ?_
 obtain rfl:=Option.some.inj h
 exact bA1 (d:=D.tup []) (s:= [some ⟨1,true,[[D.ptr 1 0 0]]⟩,some ⟨88,true,[[D.int .i64 state2.boot,D.int .i64 state2.known.Epoch,D.int .i64 state2.known.Target,D.int .i64 state2.known.Prev,D.int .i64 state2.known.Spill,D.int .i64 state2.known.Percent,D.int .i64 state2.known.Stamp,D.int .i64 state2.known.Since,D.int .i64 state2.known.Ramped,D.int .u64 state2.known.Up,D.int .u64 state2.known.Sup,D.sl false 1 (List.map (d7 .i64) state2.known.Pen),D.sl false 1 (List.map (d7 .i64) state2.known.Changes),D.int .i64 state2.heard,D.sl false 3 (List.map i8.enc state2.votes),D.int .i64 state2.hold.Epoch,D.int .i64 state2.hold.Nonce,D.int .u64 state2.hold.Grants,D.int .i64 state2.hold.Until,D.bool state2.asked.ever,D.int .i64 state2.asked.at_,D.int .i64 state2.prop.Epoch,D.int .i64 state2.prop.Ballot,D.int .i64 state2.prop.Phase,D.int .i64 state2.prop.Own.Epoch,D.int .i64 state2.prop.Own.Target,D.int .i64 state2.prop.Own.Prev,D.int .i64 state2.prop.Own.Spill,D.int .i64 state2.prop.Own.Percent,D.int .i64 state2.prop.Own.Stamp,D.int .i64 state2.prop.Own.Since,D.int .i64 state2.prop.Own.Ramped,D.int .u64 state2.prop.Own.Up,D.int .u64 state2.prop.Own.Sup,D.sl false 1 (List.map (d7 .i64) state2.prop.Own.Pen),D.sl false 1 (List.map (d7 .i64) state2.prop.Own.Changes),D.int .i64 state2.prop.Best,D.int .i64 state2.prop.Value.Epoch,D.int .i64 state2.prop.Value.Target,D.int .i64 state2.prop.Value.Prev,D.int .i64 state2.prop.Value.Spill,D.int .i64 state2.prop.Value.Percent,D.int .i64 state2.prop.Value.Stamp,D.int .i64 state2.prop.Value.Since,D.int .i64 state2.prop.Value.Ramped,D.int .u64 state2.prop.Value.Up,D.int .u64 state2.prop.Value.Sup,D.sl false 1 (List.map (d7 .i64) state2.prop.Value.Pen),D.sl false 1 (List.map (d7 .i64) state2.prop.Value.Changes),D.int .u64 state2.prop.Promises,D.int .u64 state2.prop.Accepts,D.int .i64 state2.made,D.int .i64 state2.top,D.int .u64 state2.sealed,D.bool state2.told.ever,D.int .i64 state2.told.at_,D.int .i64 c2.F_,D.int .i64 c2.Deciders,D.int .i64 c2.Targets,D.int .i64 c2.Routers,D.int .i64 c2.Observers,D.sl false 1 (List.map (d7 .i64) c2.Tiers),D.int .i64 c2.Every,D.int .i64 c2.Wait,D.int .i64 c2.Rise,D.int .i64 c2.Fall,D.int .i64 c2.Fresh,D.int .i64 c2.L_,D.int .i64 c2.M_,D.int .i64 c2.Dwell,D.int .i64 c2.D_,D.int .i64 c2.W_,D.int .i64 c2.B_,D.int .i64 c2.Hit,D.int .i64 c2.Suppress,D.int .i64 c2.Reuse,D.int .i64 c2.Half,D.int .i64 c2.First,D.int .i64 c2.Step,D.int .i64 c2.StepTime,D.int .i64 c2.S_,D.int .i64 c2.Cap,D.int .i64 c2.Span,D.int .i64 c2.Room,D.int .i64 c2.Tries,D.int .i64 c2.Retry,D.int .i64 index2,D.ptr 2 0 0]]⟩,some ⟨4,true,[[(f5 3 (List.map (d7 .u8) b32)),(f5 4 (List.map (d7 .u8) b42)),D.int .i64 fuse2,D.bool down2]]⟩,some ⟨1,false,(List.map (d7 .u8) b32)⟩,some ⟨1,false,(List.map (d7 .u8) b42)⟩]) (by kernel_rfl) (by kernel_rfl) ha
noncomputable def ax1 (state:d9) (c:d8) (index fuse:Int) (down:Bool) (b3 b4:List Int):Option (List Int):=evl H9 (.s0 state c index fuse down b3 b4)
theorem bP4 {state:d9}{c:d8}{index fuse:Int}{down:Bool}{b3 b4 r:List Int} (h:ax1 state c index fuse down b3 b4=some r):ah7 E 138 [D.ptr 0 0 0] [some ⟨1,true,[[D.ptr 1 0 0]]⟩,some ⟨88,true,[[D.int .i64 state.boot,D.int .i64 state.known.Epoch,D.int .i64 state.known.Target,D.int .i64 state.known.Prev,D.int .i64 state.known.Spill,D.int .i64 state.known.Percent,D.int .i64 state.known.Stamp,D.int .i64 state.known.Since,D.int .i64 state.known.Ramped,D.int .u64 state.known.Up,D.int .u64 state.known.Sup,D.sl false 1 (List.map (d7 .i64) state.known.Pen),D.sl false 1 (List.map (d7 .i64) state.known.Changes),D.int .i64 state.heard,D.sl false 3 (List.map i8.enc state.votes),D.int .i64 state.hold.Epoch,D.int .i64 state.hold.Nonce,D.int .u64 state.hold.Grants,D.int .i64 state.hold.Until,D.bool state.asked.ever,D.int .i64 state.asked.at_,D.int .i64 state.prop.Epoch,D.int .i64 state.prop.Ballot,D.int .i64 state.prop.Phase,D.int .i64 state.prop.Own.Epoch,D.int .i64 state.prop.Own.Target,D.int .i64 state.prop.Own.Prev,D.int .i64 state.prop.Own.Spill,D.int .i64 state.prop.Own.Percent,D.int .i64 state.prop.Own.Stamp,D.int .i64 state.prop.Own.Since,D.int .i64 state.prop.Own.Ramped,D.int .u64 state.prop.Own.Up,D.int .u64 state.prop.Own.Sup,D.sl false 1 (List.map (d7 .i64) state.prop.Own.Pen),D.sl false 1 (List.map (d7 .i64) state.prop.Own.Changes),D.int .i64 state.prop.Best,D.int .i64 state.prop.Value.Epoch,D.int .i64 state.prop.Value.Target,D.int .i64 state.prop.Value.Prev,D.int .i64 state.prop.Value.Spill,D.int .i64 state.prop.Value.Percent,D.int .i64 state.prop.Value.Stamp,D.int .i64 state.prop.Value.Since,D.int .i64 state.prop.Value.Ramped,D.int .u64 state.prop.Value.Up,D.int .u64 state.prop.Value.Sup,D.sl false 1 (List.map (d7 .i64) state.prop.Value.Pen),D.sl false 1 (List.map (d7 .i64) state.prop.Value.Changes),D.int .u64 state.prop.Promises,D.int .u64 state.prop.Accepts,D.int .i64 state.made,D.int .i64 state.top,D.int .u64 state.sealed,D.bool state.told.ever,D.int .i64 state.told.at_,D.int .i64 c.F_,D.int .i64 c.Deciders,D.int .i64 c.Targets,D.int .i64 c.Routers,D.int .i64 c.Observers,D.sl false 1 (List.map (d7 .i64) c.Tiers),D.int .i64 c.Every,D.int .i64 c.Wait,D.int .i64 c.Rise,D.int .i64 c.Fall,D.int .i64 c.Fresh,D.int .i64 c.L_,D.int .i64 c.M_,D.int .i64 c.Dwell,D.int .i64 c.D_,D.int .i64 c.W_,D.int .i64 c.B_,D.int .i64 c.Hit,D.int .i64 c.Suppress,D.int .i64 c.Reuse,D.int .i64 c.Half,D.int .i64 c.First,D.int .i64 c.Step,D.int .i64 c.StepTime,D.int .i64 c.S_,D.int .i64 c.Cap,D.int .i64 c.Span,D.int .i64 c.Room,D.int .i64 c.Tries,D.int .i64 c.Retry,D.int .i64 index,D.ptr 2 0 0]]⟩,some ⟨4,true,[[(f5 3 (List.map (d7 .u8) b3)),(f5 4 (List.map (d7 .u8) b4)),D.int .i64 fuse,D.bool down]]⟩,some ⟨1,false,(List.map (d7 .u8) b3)⟩,some ⟨1,false,(List.map (d7 .u8) b4)⟩] [some ⟨1,true,[[D.ptr 1 0 0]]⟩,some ⟨88,true,[[D.int .i64 state.boot,D.int .i64 state.known.Epoch,D.int .i64 state.known.Target,D.int .i64 state.known.Prev,D.int .i64 state.known.Spill,D.int .i64 state.known.Percent,D.int .i64 state.known.Stamp,D.int .i64 state.known.Since,D.int .i64 state.known.Ramped,D.int .u64 state.known.Up,D.int .u64 state.known.Sup,D.sl false 1 (List.map (d7 .i64) state.known.Pen),D.sl false 1 (List.map (d7 .i64) state.known.Changes),D.int .i64 state.heard,D.sl false 3 (List.map i8.enc state.votes),D.int .i64 state.hold.Epoch,D.int .i64 state.hold.Nonce,D.int .u64 state.hold.Grants,D.int .i64 state.hold.Until,D.bool state.asked.ever,D.int .i64 state.asked.at_,D.int .i64 state.prop.Epoch,D.int .i64 state.prop.Ballot,D.int .i64 state.prop.Phase,D.int .i64 state.prop.Own.Epoch,D.int .i64 state.prop.Own.Target,D.int .i64 state.prop.Own.Prev,D.int .i64 state.prop.Own.Spill,D.int .i64 state.prop.Own.Percent,D.int .i64 state.prop.Own.Stamp,D.int .i64 state.prop.Own.Since,D.int .i64 state.prop.Own.Ramped,D.int .u64 state.prop.Own.Up,D.int .u64 state.prop.Own.Sup,D.sl false 1 (List.map (d7 .i64) state.prop.Own.Pen),D.sl false 1 (List.map (d7 .i64) state.prop.Own.Changes),D.int .i64 state.prop.Best,D.int .i64 state.prop.Value.Epoch,D.int .i64 state.prop.Value.Target,D.int .i64 state.prop.Value.Prev,D.int .i64 state.prop.Value.Spill,D.int .i64 state.prop.Value.Percent,D.int .i64 state.prop.Value.Stamp,D.int .i64 state.prop.Value.Since,D.int .i64 state.prop.Value.Ramped,D.int .u64 state.prop.Value.Up,D.int .u64 state.prop.Value.Sup,D.sl false 1 (List.map (d7 .i64) state.prop.Value.Pen),D.sl false 1 (List.map (d7 .i64) state.prop.Value.Changes),D.int .u64 state.prop.Promises,D.int .u64 state.prop.Accepts,D.int .i64 state.made,D.int .i64 state.top,D.int .u64 state.sealed,D.bool state.told.ever,D.int .i64 state.told.at_,D.int .i64 c.F_,D.int .i64 c.Deciders,D.int .i64 c.Targets,D.int .i64 c.Routers,D.int .i64 c.Observers,D.sl false 1 (List.map (d7 .i64) c.Tiers),D.int .i64 c.Every,D.int .i64 c.Wait,D.int .i64 c.Rise,D.int .i64 c.Fall,D.int .i64 c.Fresh,D.int .i64 c.L_,D.int .i64 c.M_,D.int .i64 c.Dwell,D.int .i64 c.D_,D.int .i64 c.W_,D.int .i64 c.B_,D.int .i64 c.Hit,D.int .i64 c.Suppress,D.int .i64 c.Reuse,D.int .i64 c.Half,D.int .i64 c.First,D.int .i64 c.Step,D.int .i64 c.StepTime,D.int .i64 c.S_,D.int .i64 c.Cap,D.int .i64 c.Span,D.int .i64 c.Room,D.int .i64 c.Tries,D.int .i64 c.Retry,D.int .i64 index,D.ptr 2 0 0]]⟩,some ⟨4,true,[[(f5 3 (List.map (d7 .u8) b3)),(f5 4 (List.map (d7 .u8) b4)),D.int .i64 fuse,D.bool down]]⟩,some ⟨1,false,(List.map (d7 .u8) b3)⟩,some ⟨1,false,(List.map (d7 .u8) b4)⟩] (List.map H3 r):=
 bB7 (m:=fun l=>I9 l (.s0 state c index fuse down b3 b4)) (fn:=Tryz.f138) (by kernel_rfl) (fun l=>by kernel_rfl) (show List.take _ _=_ by kernel_rfl) (show B7 _ _=_ by kernel_rfl) (fun l φ0 J=>bp0 (step:=H9) (lnS:=W9) (fun s x Y hl hs ha=>by
  cases s with
  | s0=>exact bC5 hl hs ha
  | s1=>exact bE9 hl hs ha) (by kernel_rfl) (bD7 h))
end Go.RX.L

namespace Go.RX.L
open Go Go.RX Go.Proofs
attribute [local irreducible] f6
noncomputable def q8:=p8 (q0 Tryz.f63)
noncomputable def z7 (state:d9) (c:d8) (index fuse:Int) (down:Bool) (b3 b4:List Int) (y:List e9):D×f4:=((f5 5 (List.map e9.enc y)),[some ⟨88,true,[(d9.l state (d8.l c [.int .i64 index,.ptr 2 0 0]))]⟩,some ⟨1,true,[[.ptr 0 0 0]]⟩,some ⟨4,true,[[(f5 3 (List.map (d7 .u8) b3)),(f5 4 (List.map (d7 .u8) b4)),.int .i64 fuse,.bool down]]⟩,some ⟨1,false,(List.map (d7 .u8) b3)⟩,some ⟨1,false,(List.map (d7 .u8) b4)⟩,some ⟨26,false,(List.map e9.enc y)⟩])
inductive u4 where
 | s0
 | s1 (b8:List e9)
 | s2 (m2:e9) (b8:List e9) (Y:List Int)
noncomputable def Q6 (m:e9) (state:d9) (c:d8) (index fuse:Int) (down:Bool) (b3 b4:List Int):u4→M
 | .s0=>A5 Tryz.f63 [.ptr 0 0 0,.fn 138 [] [.ptr 1 0 0],.agg (e9.enc m)] [some ⟨88,true,[(d9.l state (d8.l c [.int .i64 index,.ptr 2 0 0]))]⟩,some ⟨1,true,[[.ptr 0 0 0]]⟩,some ⟨4,true,[[(f5 3 (List.map (d7 .u8) b3)),(f5 4 (List.map (d7 .u8) b4)),.int .i64 fuse,.bool down]]⟩,some ⟨1,false,(List.map (d7 .u8) b3)⟩,some ⟨1,false,(List.map (d7 .u8) b4)⟩]
 | .s1 b8=>⟨[.code (q8 [1,1,0,1,0]),.blk 0,.code (q8 [1,1,1])],[(3,.ptr 5 0 0),(5,.ptr 6 0 0),(7,.ptr 7 0 0),(9,.fn 138 [] [.ptr 1 0 0])],[some ⟨88,true,[(d9.l state (d8.l c [.int .i64 index,.ptr 2 0 0]))]⟩,some ⟨1,true,[[.ptr 0 0 0]]⟩,some ⟨4,true,[[(f5 3 (List.map (d7 .u8) b3)),(f5 4 (List.map (d7 .u8) b4)),.int .i64 fuse,.bool down]]⟩,some ⟨1,false,(List.map (d7 .u8) b3)⟩,some ⟨1,false,(List.map (d7 .u8) b4)⟩,some ⟨1,true,[[.ptr 0 0 0]]⟩,some ⟨26,false,[(e9.enc m)]⟩,some ⟨1,true,[[(f5 8 (List.map e9.enc b8))]]⟩,some ⟨26,false,(List.map e9.enc b8)⟩]⟩
 | .s2 m2 b8 Y=>⟨[.blk 0,.code (q8 [1,1,1])],[(3,.ptr 5 0 0),(5,.ptr 6 0 0),(7,.ptr 7 0 0),(9,.fn 138 [] [.ptr 1 0 0])],[some ⟨88,true,[(d9.l state (d8.l c [.int .i64 index,.ptr 2 0 0]))]⟩,some ⟨1,true,[[.ptr 0 0 0]]⟩,some ⟨4,true,[[(f5 3 (List.map (d7 .u8) b3)),(f5 4 (List.map (d7 .u8) b4)),.int .i64 fuse,.bool down]]⟩,some ⟨1,false,(List.map (d7 .u8) b3)⟩,some ⟨1,false,(List.map (d7 .u8) b4)⟩,some ⟨1,true,[[.ptr 0 0 0]]⟩,some ⟨26,false,[(e9.enc m2)]⟩,some ⟨1,true,[[(f5 8 (List.map e9.enc b8))]]⟩,some ⟨26,false,(List.map e9.enc b8)⟩]⟩
noncomputable def J3 (m:e9) (state:d9) (c:d8) (index fuse:Int) (down:Bool) (b3 b4:List Int):u4→(List e9)→Prop
 | .s0,r_=>f6 E (Cx.of Tryz.f63 true 5) (QW (Rs (z7 state c index fuse down b3 b4) r_)) (.go ((Q6 m state c index fuse down b3 b4) (.s0)))
 | .s1 b8,r_=>f6 E (Cx.of Tryz.f63 true 5) (QW (Rs (z7 state c index fuse down b3 b4) r_)) (.go ((Q6 m state c index fuse down b3 b4) (.s1 b8)))
 | .s2 m2 b8 Y,r_=>L7 E (Cx.of Tryz.f63 true 5) (QW (Rs (z7 state c index fuse down b3 b4) r_)) 8 (q8 [1,1,0,1,0]) [.blk 0,.code (q8 [1,1,1])] [(3,.ptr 5 0 0),(5,.ptr 6 0 0),(7,.ptr 7 0 0),(9,.fn 138 [] [.ptr 1 0 0])] [1,0,2,3,4] [some ⟨1,true,[[.ptr 0 0 0]]⟩,some ⟨88,true,[(d9.l state (d8.l c [.int .i64 index,.ptr 2 0 0]))]⟩,some ⟨4,true,[[(f5 3 (List.map (d7 .u8) b3)),(f5 4 (List.map (d7 .u8) b4)),.int .i64 fuse,.bool down]]⟩,some ⟨1,false,(List.map (d7 .u8) b3)⟩,some ⟨1,false,(List.map (d7 .u8) b4)⟩] (List.map H3 Y) [some ⟨88,true,[(d9.l state (d8.l c [.int .i64 index,.ptr 2 0 0]))]⟩,some ⟨1,true,[[.ptr 0 0 0]]⟩,some ⟨4,true,[[(f5 3 (List.map (d7 .u8) b3)),(f5 4 (List.map (d7 .u8) b4)),.int .i64 fuse,.bool down]]⟩,some ⟨1,false,(List.map (d7 .u8) b3)⟩,some ⟨1,false,(List.map (d7 .u8) b4)⟩,some ⟨1,true,[[.ptr 0 0 0]]⟩,some ⟨26,false,[(e9.enc m2)]⟩,some ⟨1,true,[[(f5 8 (List.map e9.enc b8))]]⟩,some ⟨26,false,(List.map e9.enc b8)⟩]
noncomputable def ap3 (m:e9) (state:d9) (c:d8) (index fuse:Int) (down:Bool) (b3 b4:List Int):Option (u4⊕(List e9)):=(some (.inl (.s1 ([]))))
noncomputable def Y4 (m:e9) (state:d9) (c:d8) (index fuse:Int) (down:Bool) (b3 b4:List Int) (b8:List e9):Option (u4⊕(List e9)):=((ax1 state c index fuse down b3 b4).bind fun y1=>(some (.inl (.s2 m b8 y1))))
noncomputable def W5 (m:e9) (state:d9) (c:d8) (index fuse:Int) (down:Bool) (b3 b4:List Int) (m2:e9) (b8:List e9):Option (u4⊕(List e9)):=(some (.inr b8))
noncomputable def W3 (m:e9) (state:d9) (c:d8) (index fuse:Int) (down:Bool) (b3 b4:List Int) (m2:e9) (b8:List e9) (y:Int) (Y:List Int):Option (u4⊕(List e9)):=((I7 c index).bind fun y1=>(bif (decide (((List.map e9.enc b8).length+1)*288≤i6)) then (some (.inl (.s2 (⟨m2.Kind,y1,y,m2.Epoch,m2.Ballot,m2.Accepted,m2.Nonce,m2.Time,m2.Up,m2.Code,m2.HasPlan,m2.Plan,m2.ID,m2.Session,m2.Payload⟩:e9) (b8++ [(⟨m2.Kind,y1,y,m2.Epoch,m2.Ballot,m2.Accepted,m2.Nonce,m2.Time,m2.Up,m2.Code,m2.HasPlan,m2.Plan,m2.ID,m2.Session,m2.Payload⟩:e9)]) Y))) else none))
noncomputable def Y6 (m:e9) (state:d9) (c:d8) (index fuse:Int) (down:Bool) (b3 b4:List Int) (m2:e9) (b8:List e9):List Int→Option (u4⊕(List e9))
 | []=>W5 m state c index fuse down b3 b4 m2 b8
 | y::Y=>W3 m state c index fuse down b3 b4 m2 b8 y Y
noncomputable def G6 (m:e9) (state:d9) (c:d8) (index fuse:Int) (down:Bool) (b3 b4:List Int):u4→Option (u4⊕(List e9))
 | .s0=>ap3 m state c index fuse down b3 b4
 | .s1 b8=>Y4 m state c index fuse down b3 b4 b8
 | .s2 m2 b8 Y=>Y6 m state c index fuse down b3 b4 m2 b8 Y
theorem bo5 {m:e9}{state:d9}{c:d8}{index fuse:Int}{down:Bool}{b3 b4:List Int}{r:List e9}{x:u4⊕(List e9)} (h:ap3 m state c index fuse down b3 b4=some x) (ha:z8 (J3 m state c index fuse down b3 b4) r x):f6 E (Cx.of Tryz.f63 true 5) (QW (Rs (z7 state c index fuse down b3 b4) r)) (.go ((Q6 m state c index fuse down b3 b4) (.s0))):=by
 unfold ap3 at h
 refine l8 hm 16 _ ?_
 obtain rfl:=Option.some.inj h
 refine am7 1704 [.matc 7 0 0 26] (m' :=⟨[.code (q8 [1,1,0,1,0]),.blk 0,.code (q8 [1,1,1])],[(3,.ptr 5 0 0),(5,.ptr 6 0 0),(7,.ptr 7 0 0),(9,.fn 138 [] [.ptr 1 0 0])],[some ⟨88,true,[(d9.l state (d8.l c [.int .i64 index,.ptr 2 0 0]))]⟩,some ⟨1,true,[[.ptr 0 0 0]]⟩,some ⟨4,true,[[(f5 3 (List.map (d7 .u8) b3)),(f5 4 (List.map (d7 .u8) b4)),.int .i64 fuse,.bool down]]⟩,some ⟨1,false,(List.map (d7 .u8) b3)⟩,some ⟨1,false,(List.map (d7 .u8) b4)⟩,some ⟨1,true,[[.ptr 0 0 0]]⟩,some ⟨26,false,[(e9.enc m)]⟩,some ⟨1,true,[[.msl 8 0 0 0 false]]⟩,some ⟨26,false,[]⟩]⟩) (by kernel_rfl) ?_
 refine Z2 (n1:=0) (n2:=(List.map e9.enc ([])).length) (fun n_len=> .go ⟨[.code (q8 [1,1,0,1,0]),.blk 0,.code (q8 [1,1,1])],[(3,.ptr 5 0 0),(5,.ptr 6 0 0),(7,.ptr 7 0 0),(9,.fn 138 [] [.ptr 1 0 0])],[some ⟨88,true,[(d9.l state (d8.l c [.int .i64 index,.ptr 2 0 0]))]⟩,some ⟨1,true,[[.ptr 0 0 0]]⟩,some ⟨4,true,[[(f5 3 (List.map (d7 .u8) b3)),(f5 4 (List.map (d7 .u8) b4)),.int .i64 fuse,.bool down]]⟩,some ⟨1,false,(List.map (d7 .u8) b3)⟩,some ⟨1,false,(List.map (d7 .u8) b4)⟩,some ⟨1,true,[[.ptr 0 0 0]]⟩,some ⟨26,false,[(e9.enc m)]⟩,some ⟨1,true,[[.msl 8 0 n_len n_len false]]⟩,some ⟨26,false,[]⟩]⟩) (by simp) ?_
 exact ha
theorem bl4 {m:e9}{state:d9}{c:d8}{index fuse:Int}{down:Bool}{b3 b4:List Int}{b8 r:List e9}{x:u4⊕(List e9)} (h:Y4 m state c index fuse down b3 b4 b8=some x) (ha:z8 (J3 m state c index fuse down b3 b4) r x):f6 E (Cx.of Tryz.f63 true 5) (QW (Rs (z7 state c index fuse down b3 b4) r)) (.go ((Q6 m state c index fuse down b3 b4) (.s1 b8))):=by
 unfold Y4 at h
 refine l8 hm 1 _ ?_
 have ok1:=fun (y:List Int) (hy:ax1 state c index fuse down b3 b4=some y)=>bP4 hy
 refine da7 (m:=8) (c:=q8 [1,1,0,1,0]) (t:= [.blk 0,.code (q8 [1,1,1])]) (fr:= [(3,.ptr 5 0 0),(5,.ptr 6 0 0),(7,.ptr 7 0 0),(9,.fn 138 [] [.ptr 1 0 0])]) (σ:= [some ⟨88,true,[(d9.l state (d8.l c [.int .i64 index,.ptr 2 0 0]))]⟩,some ⟨1,true,[[.ptr 0 0 0]]⟩,some ⟨4,true,[[(f5 3 (List.map (d7 .u8) b3)),(f5 4 (List.map (d7 .u8) b4)),.int .i64 fuse,.bool down]]⟩,some ⟨1,false,(List.map (d7 .u8) b3)⟩,some ⟨1,false,(List.map (d7 .u8) b4)⟩,some ⟨1,true,[[.ptr 0 0 0]]⟩,some ⟨26,false,[(e9.enc m)]⟩,some ⟨1,true,[[(f5 8 (List.map e9.enc b8))]]⟩,some ⟨26,false,(List.map e9.enc b8)⟩]) (ids:= [1,0,2,3,4]) (bs:= [some ⟨1,true,[[.ptr 0 0 0]]⟩,some ⟨88,true,[(d9.l state (d8.l c [.int .i64 index,.ptr 2 0 0]))]⟩,some ⟨4,true,[[(f5 3 (List.map (d7 .u8) b3)),(f5 4 (List.map (d7 .u8) b4)),.int .i64 fuse,.bool down]]⟩,some ⟨1,false,(List.map (d7 .u8) b3)⟩,some ⟨1,false,(List.map (d7 .u8) b4)⟩]) (caps1:= [.ptr 0 0 0]) (caps:= [.ptr 0 0 0]) (sub1:= [some ⟨1,true,[[.ptr 1 0 0]]⟩,some ⟨88,true,[(d9.l state (d8.l c [.int .i64 index,.ptr 2 0 0]))]⟩,some ⟨4,true,[[(f5 3 (List.map (d7 .u8) b3)),(f5 4 (List.map (d7 .u8) b4)),.int .i64 fuse,.bool down]]⟩,some ⟨1,false,(List.map (d7 .u8) b3)⟩,some ⟨1,false,(List.map (d7 .u8) b4)⟩]) (sub:= [some ⟨1,true,[[.ptr 1 0 0]]⟩,some ⟨88,true,[(d9.l state (d8.l c [.int .i64 index,.ptr 2 0 0]))]⟩,some ⟨4,true,[[(f5 3 (List.map (d7 .u8) b3)),(f5 4 (List.map (d7 .u8) b4)),.int .i64 fuse,.bool down]]⟩,some ⟨1,false,(List.map (d7 .u8) b3)⟩,some ⟨1,false,(List.map (d7 .u8) b4)⟩]) H3 h (by kernel_rfl) ⟨rfl,rfl⟩ (by kernel_rfl) (by kernel_rfl) (by kernel_rfl) (by kernel_rfl) (by kernel_rfl) ok1 (fun y1 h1 h=> ?_)
 obtain rfl:=Option.some.inj h
 exact ha
theorem bh9 {m:e9}{state:d9}{c:d8}{index fuse:Int}{down:Bool}{b3 b4:List Int}{m2:e9}{b8 r:List e9}{x:u4⊕(List e9)} (h:W5 m state c index fuse down b3 b4 m2 b8=some x) (ha:z8 (J3 m state c index fuse down b3 b4) r x):L7 E (Cx.of Tryz.f63 true 5) (QW (Rs (z7 state c index fuse down b3 b4) r)) 8 (q8 [1,1,0,1,0]) [.blk 0,.code (q8 [1,1,1])] [(3,.ptr 5 0 0),(5,.ptr 6 0 0),(7,.ptr 7 0 0),(9,.fn 138 [] [.ptr 1 0 0])] [1,0,2,3,4] [some ⟨1,true,[[.ptr 0 0 0]]⟩,some ⟨88,true,[(d9.l state (d8.l c [.int .i64 index,.ptr 2 0 0]))]⟩,some ⟨4,true,[[(f5 3 (List.map (d7 .u8) b3)),(f5 4 (List.map (d7 .u8) b4)),.int .i64 fuse,.bool down]]⟩,some ⟨1,false,(List.map (d7 .u8) b3)⟩,some ⟨1,false,(List.map (d7 .u8) b4)⟩] ([]) [some ⟨88,true,[(d9.l state (d8.l c [.int .i64 index,.ptr 2 0 0]))]⟩,some ⟨1,true,[[.ptr 0 0 0]]⟩,some ⟨4,true,[[(f5 3 (List.map (d7 .u8) b3)),(f5 4 (List.map (d7 .u8) b4)),.int .i64 fuse,.bool down]]⟩,some ⟨1,false,(List.map (d7 .u8) b3)⟩,some ⟨1,false,(List.map (d7 .u8) b4)⟩,some ⟨1,true,[[.ptr 0 0 0]]⟩,some ⟨26,false,[(e9.enc m2)]⟩,some ⟨1,true,[[(f5 8 (List.map e9.enc b8))]]⟩,some ⟨26,false,(List.map e9.enc b8)⟩]:=by
 unfold W5 at h
 refine ba8 ?_
 exact ztP 8 h ha
theorem bg6 {m:e9}{state:d9}{c:d8}{index fuse:Int}{down:Bool}{b3 b4:List Int}{m2:e9}{b8:List e9}{y:Int}{Y:List Int}{r:List e9}{x:u4⊕(List e9)} (h:W3 m state c index fuse down b3 b4 m2 b8 y Y=some x) (ha:z8 (J3 m state c index fuse down b3 b4) r x):L7 E (Cx.of Tryz.f63 true 5) (QW (Rs (z7 state c index fuse down b3 b4) r)) 8 (q8 [1,1,0,1,0]) [.blk 0,.code (q8 [1,1,1])] [(3,.ptr 5 0 0),(5,.ptr 6 0 0),(7,.ptr 7 0 0),(9,.fn 138 [] [.ptr 1 0 0])] [1,0,2,3,4] [some ⟨1,true,[[.ptr 0 0 0]]⟩,some ⟨88,true,[(d9.l state (d8.l c [.int .i64 index,.ptr 2 0 0]))]⟩,some ⟨4,true,[[(f5 3 (List.map (d7 .u8) b3)),(f5 4 (List.map (d7 .u8) b4)),.int .i64 fuse,.bool down]]⟩,some ⟨1,false,(List.map (d7 .u8) b3)⟩,some ⟨1,false,(List.map (d7 .u8) b4)⟩] (H3 y::List.map H3 Y) [some ⟨88,true,[(d9.l state (d8.l c [.int .i64 index,.ptr 2 0 0]))]⟩,some ⟨1,true,[[.ptr 0 0 0]]⟩,some ⟨4,true,[[(f5 3 (List.map (d7 .u8) b3)),(f5 4 (List.map (d7 .u8) b4)),.int .i64 fuse,.bool down]]⟩,some ⟨1,false,(List.map (d7 .u8) b3)⟩,some ⟨1,false,(List.map (d7 .u8) b4)⟩,some ⟨1,true,[[.ptr 0 0 0]]⟩,some ⟨26,false,[(e9.enc m2)]⟩,some ⟨1,true,[[(f5 8 (List.map e9.enc b8))]]⟩,some ⟨26,false,(List.map e9.enc b8)⟩]:=by
 unfold W3 at h
 refine aP1 ?_
 refine zd 7 [] h (fun _=>T0) fun y1 h=> ?_
 refine zn 12 h fun h=> ?_
 refine za 0 e9.enc b8 ([(⟨m2.Kind,y1,y,m2.Epoch,m2.Ballot,m2.Accepted,m2.Nonce,m2.Time,m2.Up,m2.Code,m2.HasPlan,m2.Plan,m2.ID,m2.Session,m2.Payload⟩:e9)]) ?_
 refine l8 hm 6 _ ?_
 obtain rfl:=Option.some.inj h
 exact aI4 [] (s1:= [some ⟨88,true,[(d9.l state (d8.l c [.int .i64 index,.ptr 2 0 0]))]⟩,some ⟨1,true,[[.ptr 0 0 0]]⟩,some ⟨4,true,[[(f5 3 (List.map (d7 .u8) b3)),(f5 4 (List.map (d7 .u8) b4)),.int .i64 fuse,.bool down]]⟩,some ⟨1,false,(List.map (d7 .u8) b3)⟩,some ⟨1,false,(List.map (d7 .u8) b4)⟩,some ⟨1,true,[[.ptr 0 0 0]]⟩,some ⟨26,false,[(.int .i64 m2.Kind:: .int .i64 y1:: .int .i64 y:: .int .i64 m2.Epoch:: .int .i64 m2.Ballot:: .int .i64 m2.Accepted:: .int .i64 m2.Nonce:: .int .i64 m2.Time:: .int .u64 m2.Up:: .int .i64 m2.Code:: .bool m2.HasPlan::Plan.l m2.Plan [.sl false 1 (List.map (d7 .i64) m2.ID),.sl false 1 (List.map (d7 .u8) m2.Session),.sl false 1 (List.map (d7 .u8) m2.Payload)])]⟩,some ⟨1,true,[[.msl 8 0 ((List.map e9.enc (b8++ [(⟨m2.Kind,y1,y,m2.Epoch,m2.Ballot,m2.Accepted,m2.Nonce,m2.Time,m2.Up,m2.Code,m2.HasPlan,m2.Plan,m2.ID,m2.Session,m2.Payload⟩:e9)])).length) ((List.map e9.enc (b8++ [(⟨m2.Kind,y1,y,m2.Epoch,m2.Ballot,m2.Accepted,m2.Nonce,m2.Time,m2.Up,m2.Code,m2.HasPlan,m2.Plan,m2.ID,m2.Session,m2.Payload⟩:e9)])).length) false]]⟩,some ⟨26,false,(List.map e9.enc (b8++ [(⟨m2.Kind,y1,y,m2.Epoch,m2.Ballot,m2.Accepted,m2.Nonce,m2.Time,m2.Up,m2.Code,m2.HasPlan,m2.Plan,m2.ID,m2.Session,m2.Payload⟩:e9)]))⟩]) (s:= [some ⟨88,true,[(d9.l state (d8.l c [.int .i64 index,.ptr 2 0 0]))]⟩,some ⟨1,true,[[.ptr 0 0 0]]⟩,some ⟨4,true,[[(f5 3 (List.map (d7 .u8) b3)),(f5 4 (List.map (d7 .u8) b4)),.int .i64 fuse,.bool down]]⟩,some ⟨1,false,(List.map (d7 .u8) b3)⟩,some ⟨1,false,(List.map (d7 .u8) b4)⟩,some ⟨1,true,[[.ptr 0 0 0]]⟩,some ⟨26,false,[(.int .i64 m2.Kind:: .int .i64 y1:: .int .i64 y:: .int .i64 m2.Epoch:: .int .i64 m2.Ballot:: .int .i64 m2.Accepted:: .int .i64 m2.Nonce:: .int .i64 m2.Time:: .int .u64 m2.Up:: .int .i64 m2.Code:: .bool m2.HasPlan::Plan.l m2.Plan [.sl false 1 (List.map (d7 .i64) m2.ID),.sl false 1 (List.map (d7 .u8) m2.Session),.sl false 1 (List.map (d7 .u8) m2.Payload)])]⟩,some ⟨1,true,[[.msl 8 0 ((List.map e9.enc (b8++ [(⟨m2.Kind,y1,y,m2.Epoch,m2.Ballot,m2.Accepted,m2.Nonce,m2.Time,m2.Up,m2.Code,m2.HasPlan,m2.Plan,m2.ID,m2.Session,m2.Payload⟩:e9)])).length) ((List.map e9.enc (b8++ [(⟨m2.Kind,y1,y,m2.Epoch,m2.Ballot,m2.Accepted,m2.Nonce,m2.Time,m2.Up,m2.Code,m2.HasPlan,m2.Plan,m2.ID,m2.Session,m2.Payload⟩:e9)])).length) false]]⟩,some ⟨26,false,(List.map e9.enc (b8++ [(⟨m2.Kind,y1,y,m2.Epoch,m2.Ballot,m2.Accepted,m2.Nonce,m2.Time,m2.Up,m2.Code,m2.HasPlan,m2.Plan,m2.ID,m2.Session,m2.Payload⟩:e9)]))⟩]) (by kernel_rfl) (rfl) (by kernel_rfl) ha
theorem bm8 {m:e9}{state:d9}{c:d8}{index fuse:Int}{down:Bool}{b3 b4:List Int}{m2:e9}{b8:List e9}{Y:List Int}{r:List e9}{x:u4⊕(List e9)} (h:Y6 m state c index fuse down b3 b4 m2 b8 Y=some x) (ha:z8 (J3 m state c index fuse down b3 b4) r x):L7 E (Cx.of Tryz.f63 true 5) (QW (Rs (z7 state c index fuse down b3 b4) r)) 8 (q8 [1,1,0,1,0]) [.blk 0,.code (q8 [1,1,1])] [(3,.ptr 5 0 0),(5,.ptr 6 0 0),(7,.ptr 7 0 0),(9,.fn 138 [] [.ptr 1 0 0])] [1,0,2,3,4] [some ⟨1,true,[[.ptr 0 0 0]]⟩,some ⟨88,true,[(d9.l state (d8.l c [.int .i64 index,.ptr 2 0 0]))]⟩,some ⟨4,true,[[(f5 3 (List.map (d7 .u8) b3)),(f5 4 (List.map (d7 .u8) b4)),.int .i64 fuse,.bool down]]⟩,some ⟨1,false,(List.map (d7 .u8) b3)⟩,some ⟨1,false,(List.map (d7 .u8) b4)⟩] (List.map H3 Y) [some ⟨88,true,[(d9.l state (d8.l c [.int .i64 index,.ptr 2 0 0]))]⟩,some ⟨1,true,[[.ptr 0 0 0]]⟩,some ⟨4,true,[[(f5 3 (List.map (d7 .u8) b3)),(f5 4 (List.map (d7 .u8) b4)),.int .i64 fuse,.bool down]]⟩,some ⟨1,false,(List.map (d7 .u8) b3)⟩,some ⟨1,false,(List.map (d7 .u8) b4)⟩,some ⟨1,true,[[.ptr 0 0 0]]⟩,some ⟨26,false,[(e9.enc m2)]⟩,some ⟨1,true,[[(f5 8 (List.map e9.enc b8))]]⟩,some ⟨26,false,(List.map e9.enc b8)⟩]:=by
 cases Y with
 | nil=>exact bh9 h ha
 | cons y Y=>exact bg6 h ha
noncomputable def aw8 (m:e9) (state:d9) (c:d8) (index fuse:Int) (down:Bool) (b3 b4:List Int):Option (List e9):=V6 (G6 m state c index fuse down b3 b4) (.s0)
theorem bv0 {m:e9}{state:d9}{c:d8}{index fuse:Int}{down:Bool}{b3 b4:List Int}{r:List e9} (h:Ev (G6 m state c index fuse down b3 b4) (.s0) r):i0 E 63 [.ptr 0 0 0,.fn 138 [] [.ptr 1 0 0],.agg (e9.enc m)] [some ⟨88,true,[(d9.l state (d8.l c [.int .i64 index,.ptr 2 0 0]))]⟩,some ⟨1,true,[[.ptr 0 0 0]]⟩,some ⟨4,true,[[(f5 3 (List.map (d7 .u8) b3)),(f5 4 (List.map (d7 .u8) b4)),.int .i64 fuse,.bool down]]⟩,some ⟨1,false,(List.map (d7 .u8) b3)⟩,some ⟨1,false,(List.map (d7 .u8) b4)⟩] (Rs (z7 state c index fuse down b3 b4) r):=
 am9 (m:=(Q6 m state c index fuse down b3 b4) (.s0)) (fn:=Tryz.f63) (by kernel_rfl) (by kernel_rfl) (aZ2 (Pd:=(J3 m state c index fuse down b3 b4)) (fun s x r hs ha=>by
  cases s with
  | s0=>exact bo5 hs ha
  | s1=>exact bl4 hs ha
  | s2=>exact bm8 hs ha) h)
theorem bu8 {m:e9}{state:d9}{c:d8}{index fuse:Int}{down:Bool}{b3 b4:List Int}{r:List e9} (h:aw8 m state c index fuse down b3 b4=some r):i0 E 63 [.ptr 0 0 0,.fn 138 [] [.ptr 1 0 0],.agg (e9.enc m)] [some ⟨88,true,[(d9.l state (d8.l c [.int .i64 index,.ptr 2 0 0]))]⟩,some ⟨1,true,[[.ptr 0 0 0]]⟩,some ⟨4,true,[[(f5 3 (List.map (d7 .u8) b3)),(f5 4 (List.map (d7 .u8) b4)),.int .i64 fuse,.bool down]]⟩,some ⟨1,false,(List.map (d7 .u8) b3)⟩,some ⟨1,false,(List.map (d7 .u8) b4)⟩] (Rs (z7 state c index fuse down b3 b4) r):=bv0 (bd0 h)
end Go.RX.L

namespace Go.RX.L
open Go Go.RX Go.Proofs
attribute [local irreducible] f6
noncomputable def cF0 (c:d8) (index fuse:Int) (down:Bool) (b2 b3:List Int) (y:(List e9)×d9):D×f4:=(.sl false 26 (List.map e9.enc y.1),[some ⟨88,true,[(d9.l y.2 (d8.l c [.int .i64 index,.ptr 1 0 0]))]⟩,some ⟨4,true,[[(f5 2 (List.map (d7 .u8) b2)),(f5 3 (List.map (d7 .u8) b3)),.int .i64 fuse,.bool down]]⟩,some ⟨1,false,(List.map (d7 .u8) b2)⟩,some ⟨1,false,(List.map (d7 .u8) b3)⟩])
noncomputable def at2 (now:Int) (state:d9) (c:d8) (index fuse:Int) (down:Bool) (b2 b3:List Int):Option ((List e9)×d9):=((aH3 (⟨state.boot,state.known,state.heard,state.votes,state.hold,state.asked,state.prop,state.made,state.top,state.sealed,(⟨true,now⟩:T4)⟩:d9) c index fuse down b2 b3).bind fun y1=>((aw8 (⟨9,0,0,state.known.Epoch,0,0,0,0,0,0,true,state.known,[],[],[]⟩:e9) (⟨state.boot,state.known,state.heard,state.votes,state.hold,state.asked,state.prop,state.made,state.top,state.sealed,(⟨true,now⟩:T4)⟩:d9) c index fuse down b2 b3).bind fun y2=>(some (y2,(⟨state.boot,state.known,state.heard,state.votes,state.hold,state.asked,state.prop,state.made,state.top,state.sealed,(⟨true,now⟩:T4)⟩:d9)))))
theorem by6 {now:Int}{state:d9}{c:d8}{index fuse:Int}{down:Bool}{b2 b3:List Int}{r:(List e9)×d9} (h:at2 now state c index fuse down b2 b3=some r):i0 E 67 [.ptr 0 0 0,.int .i64 now] [some ⟨88,true,[(d9.l state (d8.l c [.int .i64 index,.ptr 1 0 0]))]⟩,some ⟨4,true,[[(f5 2 (List.map (d7 .u8) b2)),(f5 3 (List.map (d7 .u8) b3)),.int .i64 fuse,.bool down]]⟩,some ⟨1,false,(List.map (d7 .u8) b2)⟩,some ⟨1,false,(List.map (d7 .u8) b3)⟩] (Rs (cF0 c index fuse down b2 b3) r):=so (fn:=Tryz.f67) (k:=true) (m:=4) h<| by
 intro r h;unfold at2 at h
 refine zdR 18 [] h (fun _=>cb2) fun y1 h=> ?_
 refine zc 2 [some 1,some 1,some 1] h (fun _=>bu8) fun y2 h=> ?_
 refine bZ9 4 (n1:=(0+(List.map e9.enc y2).length)) (n2:=((List.map e9.enc y2).length)) (raw:=(List.take ((List.map e9.enc y2).length) (List.drop 0 (List.map e9.enc y2)))) (rs:=(List.map e9.enc y2)) (by kernel_rfl) (v6 _) (by simp only [z9,E5,List.map_take,List.map_drop]) ?_
 exact zu 1 h
end Go.RX.L

namespace Go.RX.L
open Go Go.RX Go.Proofs
attribute [local irreducible] f6
noncomputable def bP1 (state:d9) (c:d8) (index fuse:Int) (down:Bool) (b2 b3:List Int) (y:Unit):D×f4:=(.fn 105 [] [.ptr 4 0 0],[some ⟨88,true,[(d9.l state (d8.l c [.int .i64 index,.ptr 1 0 0]))]⟩,some ⟨4,true,[[(f5 2 (List.map (d7 .u8) b2)),(f5 3 (List.map (d7 .u8) b3)),.int .i64 fuse,.bool down]]⟩,some ⟨1,false,(List.map (d7 .u8) b2)⟩,some ⟨1,false,(List.map (d7 .u8) b3)⟩,some ⟨1,true,[[.ptr 0 0 0]]⟩])
noncomputable def K8 (state:d9) (c:d8) (index fuse:Int) (down:Bool) (b2 b3:List Int):Option Unit:=(some ())
theorem av8 {state:d9}{c:d8}{index fuse:Int}{down:Bool}{b2 b3:List Int}{r:Unit} (h:K8 state c index fuse down b2 b3=some r):i0 E 64 [.ptr 0 0 0] [some ⟨88,true,[(d9.l state (d8.l c [.int .i64 index,.ptr 1 0 0]))]⟩,some ⟨4,true,[[(f5 2 (List.map (d7 .u8) b2)),(f5 3 (List.map (d7 .u8) b3)),.int .i64 fuse,.bool down]]⟩,some ⟨1,false,(List.map (d7 .u8) b2)⟩,some ⟨1,false,(List.map (d7 .u8) b3)⟩] (Rs (bP1 state c index fuse down b2 b3) r):=so (fn:=Tryz.f64) (k:=true) (m:=4) h<| by
 intro r h;unfold K8 at h
 exact zu 11 h
end Go.RX.L

namespace Go.RX.L
open Go Go.RX Go.Proofs
attribute [local irreducible] f6
noncomputable def bS1 (y:Bool):D×f4:=(.bool y,[])
noncomputable def X5 (o:T4) (now wait:Int):Option Bool:=(bif (!o.ever) then (some true) else (some (decide (((IntKind.i64.wrap (now-o.at_)):Int)≥wait))))
theorem aX0 {o:T4}{now wait:Int}{r:Bool} (h:X5 o now wait=some r):i0 E 77 [.agg [.bool o.ever,.int .i64 o.at_],.int .i64 now,.int .i64 wait] [] (Rs bS1 r):=so (fn:=Tryz.f77) (k:=false) (m:=0) h<| by
 intro r h;unfold X5 at h
 refine zs 13 h (fun h=> ?_) fun h=> ?_
 ·
  exact zu 15 h
 exact zu 16 h
end Go.RX.L

namespace Go.RX.L
open Go Go.RX Go.Proofs
attribute [local irreducible] f6
noncomputable def bB9:=p8 (q0 Tryz.f105)
def D2 (y:Int):List D:= [D.int .i64 y]
inductive E9 where
 | s0 (state:d9) (c:d8) (index:Int) (fuse:Int) (down:Bool) (b3:List Int) (b4:List Int)
 | s1 (t8:Int) (t9:Int) (state2:d9) (c2:d8) (index2:Int) (fuse2:Int) (down2:Bool) (b32:List Int) (b42:List Int)
noncomputable def I0 (l:Nat):E9→M
 | .s0 state c index fuse down b3 b4=>⟨[.code (q0 Tryz.f105)],[(0,D.yld l),(1,D.ptr 0 0 0)],[some ⟨1,true,[[D.ptr 1 0 0]]⟩,some ⟨88,true,[[D.int .i64 state.boot,D.int .i64 state.known.Epoch,D.int .i64 state.known.Target,D.int .i64 state.known.Prev,D.int .i64 state.known.Spill,D.int .i64 state.known.Percent,D.int .i64 state.known.Stamp,D.int .i64 state.known.Since,D.int .i64 state.known.Ramped,D.int .u64 state.known.Up,D.int .u64 state.known.Sup,D.sl false 1 (List.map (d7 .i64) state.known.Pen),D.sl false 1 (List.map (d7 .i64) state.known.Changes),D.int .i64 state.heard,D.sl false 3 (List.map i8.enc state.votes),D.int .i64 state.hold.Epoch,D.int .i64 state.hold.Nonce,D.int .u64 state.hold.Grants,D.int .i64 state.hold.Until,D.bool state.asked.ever,D.int .i64 state.asked.at_,D.int .i64 state.prop.Epoch,D.int .i64 state.prop.Ballot,D.int .i64 state.prop.Phase,D.int .i64 state.prop.Own.Epoch,D.int .i64 state.prop.Own.Target,D.int .i64 state.prop.Own.Prev,D.int .i64 state.prop.Own.Spill,D.int .i64 state.prop.Own.Percent,D.int .i64 state.prop.Own.Stamp,D.int .i64 state.prop.Own.Since,D.int .i64 state.prop.Own.Ramped,D.int .u64 state.prop.Own.Up,D.int .u64 state.prop.Own.Sup,D.sl false 1 (List.map (d7 .i64) state.prop.Own.Pen),D.sl false 1 (List.map (d7 .i64) state.prop.Own.Changes),D.int .i64 state.prop.Best,D.int .i64 state.prop.Value.Epoch,D.int .i64 state.prop.Value.Target,D.int .i64 state.prop.Value.Prev,D.int .i64 state.prop.Value.Spill,D.int .i64 state.prop.Value.Percent,D.int .i64 state.prop.Value.Stamp,D.int .i64 state.prop.Value.Since,D.int .i64 state.prop.Value.Ramped,D.int .u64 state.prop.Value.Up,D.int .u64 state.prop.Value.Sup,D.sl false 1 (List.map (d7 .i64) state.prop.Value.Pen),D.sl false 1 (List.map (d7 .i64) state.prop.Value.Changes),D.int .u64 state.prop.Promises,D.int .u64 state.prop.Accepts,D.int .i64 state.made,D.int .i64 state.top,D.int .u64 state.sealed,D.bool state.told.ever,D.int .i64 state.told.at_,D.int .i64 c.F_,D.int .i64 c.Deciders,D.int .i64 c.Targets,D.int .i64 c.Routers,D.int .i64 c.Observers,D.sl false 1 (List.map (d7 .i64) c.Tiers),D.int .i64 c.Every,D.int .i64 c.Wait,D.int .i64 c.Rise,D.int .i64 c.Fall,D.int .i64 c.Fresh,D.int .i64 c.L_,D.int .i64 c.M_,D.int .i64 c.Dwell,D.int .i64 c.D_,D.int .i64 c.W_,D.int .i64 c.B_,D.int .i64 c.Hit,D.int .i64 c.Suppress,D.int .i64 c.Reuse,D.int .i64 c.Half,D.int .i64 c.First,D.int .i64 c.Step,D.int .i64 c.StepTime,D.int .i64 c.S_,D.int .i64 c.Cap,D.int .i64 c.Span,D.int .i64 c.Room,D.int .i64 c.Tries,D.int .i64 c.Retry,D.int .i64 index,D.ptr 2 0 0]]⟩,some ⟨4,true,[[(f5 3 (List.map (d7 .u8) b3)),(f5 4 (List.map (d7 .u8) b4)),D.int .i64 fuse,D.bool down]]⟩,some ⟨1,false,(List.map (d7 .u8) b3)⟩,some ⟨1,false,(List.map (d7 .u8) b4)⟩]⟩
 | .s1 t8 t9 state2 c2 index2 fuse2 down2 b32 b42=>⟨[.lpc (bB9 [1,0,0]) 769,.blk 0],[(0,D.yld l),(8,D.int .i64 t8),(9,D.int .i64 t9)],[some ⟨1,true,[[D.ptr 1 0 0]]⟩,some ⟨88,true,[[D.int .i64 state2.boot,D.int .i64 state2.known.Epoch,D.int .i64 state2.known.Target,D.int .i64 state2.known.Prev,D.int .i64 state2.known.Spill,D.int .i64 state2.known.Percent,D.int .i64 state2.known.Stamp,D.int .i64 state2.known.Since,D.int .i64 state2.known.Ramped,D.int .u64 state2.known.Up,D.int .u64 state2.known.Sup,D.sl false 1 (List.map (d7 .i64) state2.known.Pen),D.sl false 1 (List.map (d7 .i64) state2.known.Changes),D.int .i64 state2.heard,D.sl false 3 (List.map i8.enc state2.votes),D.int .i64 state2.hold.Epoch,D.int .i64 state2.hold.Nonce,D.int .u64 state2.hold.Grants,D.int .i64 state2.hold.Until,D.bool state2.asked.ever,D.int .i64 state2.asked.at_,D.int .i64 state2.prop.Epoch,D.int .i64 state2.prop.Ballot,D.int .i64 state2.prop.Phase,D.int .i64 state2.prop.Own.Epoch,D.int .i64 state2.prop.Own.Target,D.int .i64 state2.prop.Own.Prev,D.int .i64 state2.prop.Own.Spill,D.int .i64 state2.prop.Own.Percent,D.int .i64 state2.prop.Own.Stamp,D.int .i64 state2.prop.Own.Since,D.int .i64 state2.prop.Own.Ramped,D.int .u64 state2.prop.Own.Up,D.int .u64 state2.prop.Own.Sup,D.sl false 1 (List.map (d7 .i64) state2.prop.Own.Pen),D.sl false 1 (List.map (d7 .i64) state2.prop.Own.Changes),D.int .i64 state2.prop.Best,D.int .i64 state2.prop.Value.Epoch,D.int .i64 state2.prop.Value.Target,D.int .i64 state2.prop.Value.Prev,D.int .i64 state2.prop.Value.Spill,D.int .i64 state2.prop.Value.Percent,D.int .i64 state2.prop.Value.Stamp,D.int .i64 state2.prop.Value.Since,D.int .i64 state2.prop.Value.Ramped,D.int .u64 state2.prop.Value.Up,D.int .u64 state2.prop.Value.Sup,D.sl false 1 (List.map (d7 .i64) state2.prop.Value.Pen),D.sl false 1 (List.map (d7 .i64) state2.prop.Value.Changes),D.int .u64 state2.prop.Promises,D.int .u64 state2.prop.Accepts,D.int .i64 state2.made,D.int .i64 state2.top,D.int .u64 state2.sealed,D.bool state2.told.ever,D.int .i64 state2.told.at_,D.int .i64 c2.F_,D.int .i64 c2.Deciders,D.int .i64 c2.Targets,D.int .i64 c2.Routers,D.int .i64 c2.Observers,D.sl false 1 (List.map (d7 .i64) c2.Tiers),D.int .i64 c2.Every,D.int .i64 c2.Wait,D.int .i64 c2.Rise,D.int .i64 c2.Fall,D.int .i64 c2.Fresh,D.int .i64 c2.L_,D.int .i64 c2.M_,D.int .i64 c2.Dwell,D.int .i64 c2.D_,D.int .i64 c2.W_,D.int .i64 c2.B_,D.int .i64 c2.Hit,D.int .i64 c2.Suppress,D.int .i64 c2.Reuse,D.int .i64 c2.Half,D.int .i64 c2.First,D.int .i64 c2.Step,D.int .i64 c2.StepTime,D.int .i64 c2.S_,D.int .i64 c2.Cap,D.int .i64 c2.Span,D.int .i64 c2.Room,D.int .i64 c2.Tries,D.int .i64 c2.Retry,D.int .i64 index2,D.ptr 2 0 0]]⟩,some ⟨4,true,[[(f5 3 (List.map (d7 .u8) b32)),(f5 4 (List.map (d7 .u8) b42)),D.int .i64 fuse2,D.bool down2]]⟩,some ⟨1,false,(List.map (d7 .u8) b32)⟩,some ⟨1,false,(List.map (d7 .u8) b42)⟩]⟩
noncomputable def ac3 (state:d9) (c:d8) (index fuse:Int) (down:Bool) (b3 b4:List Int):Option (List Int×Option E9):=((am0 c).bind fun y1=>(some ([],some (.s1 y1 0 state c index fuse down b3 b4))))
noncomputable def S7 (t8 t9:Int) (state2:d9) (c2:d8) (index2 fuse2:Int) (down2:Bool) (b32 b42:List Int):Option (List Int×Option E9):=(bif (decide ((t9:Int)<t8)) then (Option.map (fun p=>(t9::p.1,p.2)) (some ([],some (.s1 t8 (IntKind.i64.wrap (t9+1)) state2 c2 index2 fuse2 down2 b32 b42)))) else (some ([],none)))
noncomputable def Q2:E9→f4
 | .s0 state c index fuse down b3 b4=> [some ⟨1,true,[[D.ptr 1 0 0]]⟩,some ⟨88,true,[[D.int .i64 state.boot,D.int .i64 state.known.Epoch,D.int .i64 state.known.Target,D.int .i64 state.known.Prev,D.int .i64 state.known.Spill,D.int .i64 state.known.Percent,D.int .i64 state.known.Stamp,D.int .i64 state.known.Since,D.int .i64 state.known.Ramped,D.int .u64 state.known.Up,D.int .u64 state.known.Sup,D.sl false 1 (List.map (d7 .i64) state.known.Pen),D.sl false 1 (List.map (d7 .i64) state.known.Changes),D.int .i64 state.heard,D.sl false 3 (List.map i8.enc state.votes),D.int .i64 state.hold.Epoch,D.int .i64 state.hold.Nonce,D.int .u64 state.hold.Grants,D.int .i64 state.hold.Until,D.bool state.asked.ever,D.int .i64 state.asked.at_,D.int .i64 state.prop.Epoch,D.int .i64 state.prop.Ballot,D.int .i64 state.prop.Phase,D.int .i64 state.prop.Own.Epoch,D.int .i64 state.prop.Own.Target,D.int .i64 state.prop.Own.Prev,D.int .i64 state.prop.Own.Spill,D.int .i64 state.prop.Own.Percent,D.int .i64 state.prop.Own.Stamp,D.int .i64 state.prop.Own.Since,D.int .i64 state.prop.Own.Ramped,D.int .u64 state.prop.Own.Up,D.int .u64 state.prop.Own.Sup,D.sl false 1 (List.map (d7 .i64) state.prop.Own.Pen),D.sl false 1 (List.map (d7 .i64) state.prop.Own.Changes),D.int .i64 state.prop.Best,D.int .i64 state.prop.Value.Epoch,D.int .i64 state.prop.Value.Target,D.int .i64 state.prop.Value.Prev,D.int .i64 state.prop.Value.Spill,D.int .i64 state.prop.Value.Percent,D.int .i64 state.prop.Value.Stamp,D.int .i64 state.prop.Value.Since,D.int .i64 state.prop.Value.Ramped,D.int .u64 state.prop.Value.Up,D.int .u64 state.prop.Value.Sup,D.sl false 1 (List.map (d7 .i64) state.prop.Value.Pen),D.sl false 1 (List.map (d7 .i64) state.prop.Value.Changes),D.int .u64 state.prop.Promises,D.int .u64 state.prop.Accepts,D.int .i64 state.made,D.int .i64 state.top,D.int .u64 state.sealed,D.bool state.told.ever,D.int .i64 state.told.at_,D.int .i64 c.F_,D.int .i64 c.Deciders,D.int .i64 c.Targets,D.int .i64 c.Routers,D.int .i64 c.Observers,D.sl false 1 (List.map (d7 .i64) c.Tiers),D.int .i64 c.Every,D.int .i64 c.Wait,D.int .i64 c.Rise,D.int .i64 c.Fall,D.int .i64 c.Fresh,D.int .i64 c.L_,D.int .i64 c.M_,D.int .i64 c.Dwell,D.int .i64 c.D_,D.int .i64 c.W_,D.int .i64 c.B_,D.int .i64 c.Hit,D.int .i64 c.Suppress,D.int .i64 c.Reuse,D.int .i64 c.Half,D.int .i64 c.First,D.int .i64 c.Step,D.int .i64 c.StepTime,D.int .i64 c.S_,D.int .i64 c.Cap,D.int .i64 c.Span,D.int .i64 c.Room,D.int .i64 c.Tries,D.int .i64 c.Retry,D.int .i64 index,D.ptr 2 0 0]]⟩,some ⟨4,true,[[(f5 3 (List.map (d7 .u8) b3)),(f5 4 (List.map (d7 .u8) b4)),D.int .i64 fuse,D.bool down]]⟩,some ⟨1,false,(List.map (d7 .u8) b3)⟩,some ⟨1,false,(List.map (d7 .u8) b4)⟩]
 | .s1 t8 t9 state2 c2 index2 fuse2 down2 b32 b42=> [some ⟨1,true,[[D.ptr 1 0 0]]⟩,some ⟨88,true,[[D.int .i64 state2.boot,D.int .i64 state2.known.Epoch,D.int .i64 state2.known.Target,D.int .i64 state2.known.Prev,D.int .i64 state2.known.Spill,D.int .i64 state2.known.Percent,D.int .i64 state2.known.Stamp,D.int .i64 state2.known.Since,D.int .i64 state2.known.Ramped,D.int .u64 state2.known.Up,D.int .u64 state2.known.Sup,D.sl false 1 (List.map (d7 .i64) state2.known.Pen),D.sl false 1 (List.map (d7 .i64) state2.known.Changes),D.int .i64 state2.heard,D.sl false 3 (List.map i8.enc state2.votes),D.int .i64 state2.hold.Epoch,D.int .i64 state2.hold.Nonce,D.int .u64 state2.hold.Grants,D.int .i64 state2.hold.Until,D.bool state2.asked.ever,D.int .i64 state2.asked.at_,D.int .i64 state2.prop.Epoch,D.int .i64 state2.prop.Ballot,D.int .i64 state2.prop.Phase,D.int .i64 state2.prop.Own.Epoch,D.int .i64 state2.prop.Own.Target,D.int .i64 state2.prop.Own.Prev,D.int .i64 state2.prop.Own.Spill,D.int .i64 state2.prop.Own.Percent,D.int .i64 state2.prop.Own.Stamp,D.int .i64 state2.prop.Own.Since,D.int .i64 state2.prop.Own.Ramped,D.int .u64 state2.prop.Own.Up,D.int .u64 state2.prop.Own.Sup,D.sl false 1 (List.map (d7 .i64) state2.prop.Own.Pen),D.sl false 1 (List.map (d7 .i64) state2.prop.Own.Changes),D.int .i64 state2.prop.Best,D.int .i64 state2.prop.Value.Epoch,D.int .i64 state2.prop.Value.Target,D.int .i64 state2.prop.Value.Prev,D.int .i64 state2.prop.Value.Spill,D.int .i64 state2.prop.Value.Percent,D.int .i64 state2.prop.Value.Stamp,D.int .i64 state2.prop.Value.Since,D.int .i64 state2.prop.Value.Ramped,D.int .u64 state2.prop.Value.Up,D.int .u64 state2.prop.Value.Sup,D.sl false 1 (List.map (d7 .i64) state2.prop.Value.Pen),D.sl false 1 (List.map (d7 .i64) state2.prop.Value.Changes),D.int .u64 state2.prop.Promises,D.int .u64 state2.prop.Accepts,D.int .i64 state2.made,D.int .i64 state2.top,D.int .u64 state2.sealed,D.bool state2.told.ever,D.int .i64 state2.told.at_,D.int .i64 c2.F_,D.int .i64 c2.Deciders,D.int .i64 c2.Targets,D.int .i64 c2.Routers,D.int .i64 c2.Observers,D.sl false 1 (List.map (d7 .i64) c2.Tiers),D.int .i64 c2.Every,D.int .i64 c2.Wait,D.int .i64 c2.Rise,D.int .i64 c2.Fall,D.int .i64 c2.Fresh,D.int .i64 c2.L_,D.int .i64 c2.M_,D.int .i64 c2.Dwell,D.int .i64 c2.D_,D.int .i64 c2.W_,D.int .i64 c2.B_,D.int .i64 c2.Hit,D.int .i64 c2.Suppress,D.int .i64 c2.Reuse,D.int .i64 c2.Half,D.int .i64 c2.First,D.int .i64 c2.Step,D.int .i64 c2.StepTime,D.int .i64 c2.S_,D.int .i64 c2.Cap,D.int .i64 c2.Span,D.int .i64 c2.Room,D.int .i64 c2.Tries,D.int .i64 c2.Retry,D.int .i64 index2,D.ptr 2 0 0]]⟩,some ⟨4,true,[[(f5 3 (List.map (d7 .u8) b32)),(f5 4 (List.map (d7 .u8) b42)),D.int .i64 fuse2,D.bool down2]]⟩,some ⟨1,false,(List.map (d7 .u8) b32)⟩,some ⟨1,false,(List.map (d7 .u8) b42)⟩]
noncomputable def H8:E9→Option (List Int×Option E9)
 | .s0 state c index fuse down b3 b4=>ac3 state c index fuse down b3 b4
 | .s1 t8 t9 state2 c2 index2 fuse2 down2 b32 b42=>S7 t8 t9 state2 c2 index2 fuse2 down2 b32 b42
theorem bt6 {l:Nat}{ln:f4}{φ0:q9}{J:Option (List (List D))→World→(Nat→Prop)→(Nat→Prop)→Prop}{state:d9}{c:d8}{index fuse:Int}{down:Bool}{b3 b4:List Int}{x:List Int×Option E9}{Y:List (List D)} (hl:Q2 (.s0 state c index fuse down b3 b4)=ln) (h:ac3 state c index fuse down b3 b4=some x) (ha:Z8 E ln (Cx.seq Tryz.f105 5 ln l φ0 J) D2 (I0 l) Q2 x Y):f6 E (Cx.seq Tryz.f105 5 ln l φ0 J (some Y)) (fun _ s=>P3 ln s) (.go (I0 l (.s0 state c index fuse down b3 b4))):=by
 subst hl
 unfold ac3 at h
 refine zc 9 [] h (fun _=>bs9) fun y1 h=> ?_
 refine l8 hm 5 _ ?_
 obtain rfl:=Option.some.inj h
 exact aU5 (q' := .go (I0 l (.s1 y1 0 state c index fuse down b3 b4))) (by kernel_rfl) (K7 (by kernel_rfl) ha)
theorem bq1 {l:Nat}{ln:f4}{φ0:q9}{J:Option (List (List D))→World→(Nat→Prop)→(Nat→Prop)→Prop}{t8 t9:Int}{state2:d9}{c2:d8}{index2 fuse2:Int}{down2:Bool}{b32 b42:List Int}{x:List Int×Option E9}{Y:List (List D)} (hl:Q2 (.s1 t8 t9 state2 c2 index2 fuse2 down2 b32 b42)=ln) (h:S7 t8 t9 state2 c2 index2 fuse2 down2 b32 b42=some x) (ha:Z8 E ln (Cx.seq Tryz.f105 5 ln l φ0 J) D2 (I0 l) Q2 x Y):f6 E (Cx.seq Tryz.f105 5 ln l φ0 J (some Y)) (fun _ s=>P3 ln s) (.go (I0 l (.s1 t8 t9 state2 c2 index2 fuse2 down2 b32 b42))):=by
 subst hl
 unfold S7 at h
 refine zs 7 h (fun h=> ?_) fun h=> ?_
 ·
  refine l8 hm 13 _ ?_
  refine bG1 (x:=t9) (s:= [some ⟨1,true,[[D.ptr 1 0 0]]⟩,some ⟨88,true,[[D.int .i64 state2.boot,D.int .i64 state2.known.Epoch,D.int .i64 state2.known.Target,D.int .i64 state2.known.Prev,D.int .i64 state2.known.Spill,D.int .i64 state2.known.Percent,D.int .i64 state2.known.Stamp,D.int .i64 state2.known.Since,D.int .i64 state2.known.Ramped,D.int .u64 state2.known.Up,D.int .u64 state2.known.Sup,D.sl false 1 (List.map (d7 .i64) state2.known.Pen),D.sl false 1 (List.map (d7 .i64) state2.known.Changes),D.int .i64 state2.heard,D.sl false 3 (List.map i8.enc state2.votes),D.int .i64 state2.hold.Epoch,D.int .i64 state2.hold.Nonce,D.int .u64 state2.hold.Grants,D.int .i64 state2.hold.Until,D.bool state2.asked.ever,D.int .i64 state2.asked.at_,D.int .i64 state2.prop.Epoch,D.int .i64 state2.prop.Ballot,D.int .i64 state2.prop.Phase,D.int .i64 state2.prop.Own.Epoch,D.int .i64 state2.prop.Own.Target,D.int .i64 state2.prop.Own.Prev,D.int .i64 state2.prop.Own.Spill,D.int .i64 state2.prop.Own.Percent,D.int .i64 state2.prop.Own.Stamp,D.int .i64 state2.prop.Own.Since,D.int .i64 state2.prop.Own.Ramped,D.int .u64 state2.prop.Own.Up,D.int .u64 state2.prop.Own.Sup,D.sl false 1 (List.map (d7 .i64) state2.prop.Own.Pen),D.sl false 1 (List.map (d7 .i64) state2.prop.Own.Changes),D.int .i64 state2.prop.Best,D.int .i64 state2.prop.Value.Epoch,D.int .i64 state2.prop.Value.Target,D.int .i64 state2.prop.Value.Prev,D.int .i64 state2.prop.Value.Spill,D.int .i64 state2.prop.Value.Percent,D.int .i64 state2.prop.Value.Stamp,D.int .i64 state2.prop.Value.Since,D.int .i64 state2.prop.Value.Ramped,D.int .u64 state2.prop.Value.Up,D.int .u64 state2.prop.Value.Sup,D.sl false 1 (List.map (d7 .i64) state2.prop.Value.Pen),D.sl false 1 (List.map (d7 .i64) state2.prop.Value.Changes),D.int .u64 state2.prop.Promises,D.int .u64 state2.prop.Accepts,D.int .i64 state2.made,D.int .i64 state2.top,D.int .u64 state2.sealed,D.bool state2.told.ever,D.int .i64 state2.told.at_,D.int .i64 c2.F_,D.int .i64 c2.Deciders,D.int .i64 c2.Targets,D.int .i64 c2.Routers,D.int .i64 c2.Observers,D.sl false 1 (List.map (d7 .i64) c2.Tiers),D.int .i64 c2.Every,D.int .i64 c2.Wait,D.int .i64 c2.Rise,D.int .i64 c2.Fall,D.int .i64 c2.Fresh,D.int .i64 c2.L_,D.int .i64 c2.M_,D.int .i64 c2.Dwell,D.int .i64 c2.D_,D.int .i64 c2.W_,D.int .i64 c2.B_,D.int .i64 c2.Hit,D.int .i64 c2.Suppress,D.int .i64 c2.Reuse,D.int .i64 c2.Half,D.int .i64 c2.First,D.int .i64 c2.Step,D.int .i64 c2.StepTime,D.int .i64 c2.S_,D.int .i64 c2.Cap,D.int .i64 c2.Span,D.int .i64 c2.Room,D.int .i64 c2.Tries,D.int .i64 c2.Retry,D.int .i64 index2,D.ptr 2 0 0]]⟩,some ⟨4,true,[[(f5 3 (List.map (d7 .u8) b32)),(f5 4 (List.map (d7 .u8) b42)),D.int .i64 fuse2,D.bool down2]]⟩,some ⟨1,false,(List.map (d7 .u8) b32)⟩,some ⟨1,false,(List.map (d7 .u8) b42)⟩]) h ha (by kernel_rfl) (by kernel_rfl) ?_ (fun p Y h ha=> ?_)
  ·--it is stopped
   refine l8 hm 5 _ ?_
   exact bs1 (d:=D.tup []) (s:= [some ⟨1,true,[[D.ptr 1 0 0]]⟩,some ⟨88,true,[[D.int .i64 state2.boot,D.int .i64 state2.known.Epoch,D.int .i64 state2.known.Target,D.int .i64 state2.known.Prev,D.int .i64 state2.known.Spill,D.int .i64 state2.known.Percent,D.int .i64 state2.known.Stamp,D.int .i64 state2.known.Since,D.int .i64 state2.known.Ramped,D.int .u64 state2.known.Up,D.int .u64 state2.known.Sup,D.sl false 1 (List.map (d7 .i64) state2.known.Pen),D.sl false 1 (List.map (d7 .i64) state2.known.Changes),D.int .i64 state2.heard,D.sl false 3 (List.map i8.enc state2.votes),D.int .i64 state2.hold.Epoch,D.int .i64 state2.hold.Nonce,D.int .u64 state2.hold.Grants,D.int .i64 state2.hold.Until,D.bool state2.asked.ever,D.int .i64 state2.asked.at_,D.int .i64 state2.prop.Epoch,D.int .i64 state2.prop.Ballot,D.int .i64 state2.prop.Phase,D.int .i64 state2.prop.Own.Epoch,D.int .i64 state2.prop.Own.Target,D.int .i64 state2.prop.Own.Prev,D.int .i64 state2.prop.Own.Spill,D.int .i64 state2.prop.Own.Percent,D.int .i64 state2.prop.Own.Stamp,D.int .i64 state2.prop.Own.Since,D.int .i64 state2.prop.Own.Ramped,D.int .u64 state2.prop.Own.Up,D.int .u64 state2.prop.Own.Sup,D.sl false 1 (List.map (d7 .i64) state2.prop.Own.Pen),D.sl false 1 (List.map (d7 .i64) state2.prop.Own.Changes),D.int .i64 state2.prop.Best,D.int .i64 state2.prop.Value.Epoch,D.int .i64 state2.prop.Value.Target,D.int .i64 state2.prop.Value.Prev,D.int .i64 state2.prop.Value.Spill,D.int .i64 state2.prop.Value.Percent,D.int .i64 state2.prop.Value.Stamp,D.int .i64 state2.prop.Value.Since,D.int .i64 state2.prop.Value.Ramped,D.int .u64 state2.prop.Value.Up,D.int .u64 state2.prop.Value.Sup,D.sl false 1 (List.map (d7 .i64) state2.prop.Value.Pen),D.sl false 1 (List.map (d7 .i64) state2.prop.Value.Changes),D.int .u64 state2.prop.Promises,D.int .u64 state2.prop.Accepts,D.int .i64 state2.made,D.int .i64 state2.top,D.int .u64 state2.sealed,D.bool state2.told.ever,D.int .i64 state2.told.at_,D.int .i64 c2.F_,D.int .i64 c2.Deciders,D.int .i64 c2.Targets,D.int .i64 c2.Routers,D.int .i64 c2.Observers,D.sl false 1 (List.map (d7 .i64) c2.Tiers),D.int .i64 c2.Every,D.int .i64 c2.Wait,D.int .i64 c2.Rise,D.int .i64 c2.Fall,D.int .i64 c2.Fresh,D.int .i64 c2.L_,D.int .i64 c2.M_,D.int .i64 c2.Dwell,D.int .i64 c2.D_,D.int .i64 c2.W_,D.int .i64 c2.B_,D.int .i64 c2.Hit,D.int .i64 c2.Suppress,D.int .i64 c2.Reuse,D.int .i64 c2.Half,D.int .i64 c2.First,D.int .i64 c2.Step,D.int .i64 c2.StepTime,D.int .i64 c2.S_,D.int .i64 c2.Cap,D.int .i64 c2.Span,D.int .i64 c2.Room,D.int .i64 c2.Tries,D.int .i64 c2.Retry,D.int .i64 index2,D.ptr 2 0 0]]⟩,some ⟨4,true,[[(f5 3 (List.map (d7 .u8) b32)),(f5 4 (List.map (d7 .u8) b42)),D.int .i64 fuse2,D.bool down2]]⟩,some ⟨1,false,(List.map (d7 .u8) b32)⟩,some ⟨1,false,(List.map (d7 .u8) b42)⟩]) (by kernel_rfl) (by kernel_rfl)
  ·--it goes on
   refine l8 hm 11 _ ?_
   obtain rfl:=Option.some.inj h
   exact aU5 (q' := .go (I0 l (.s1 t8 (IntKind.i64.wrap (t9+1)) state2 c2 index2 fuse2 down2 b32 b42))) (by kernel_rfl) (K7 (by kernel_rfl) ha)
 refine l8 hm 2 _ ?_
 obtain rfl:=Option.some.inj h
 exact bA1 (d:=D.tup []) (s:= [some ⟨1,true,[[D.ptr 1 0 0]]⟩,some ⟨88,true,[[D.int .i64 state2.boot,D.int .i64 state2.known.Epoch,D.int .i64 state2.known.Target,D.int .i64 state2.known.Prev,D.int .i64 state2.known.Spill,D.int .i64 state2.known.Percent,D.int .i64 state2.known.Stamp,D.int .i64 state2.known.Since,D.int .i64 state2.known.Ramped,D.int .u64 state2.known.Up,D.int .u64 state2.known.Sup,D.sl false 1 (List.map (d7 .i64) state2.known.Pen),D.sl false 1 (List.map (d7 .i64) state2.known.Changes),D.int .i64 state2.heard,D.sl false 3 (List.map i8.enc state2.votes),D.int .i64 state2.hold.Epoch,D.int .i64 state2.hold.Nonce,D.int .u64 state2.hold.Grants,D.int .i64 state2.hold.Until,D.bool state2.asked.ever,D.int .i64 state2.asked.at_,D.int .i64 state2.prop.Epoch,D.int .i64 state2.prop.Ballot,D.int .i64 state2.prop.Phase,D.int .i64 state2.prop.Own.Epoch,D.int .i64 state2.prop.Own.Target,D.int .i64 state2.prop.Own.Prev,D.int .i64 state2.prop.Own.Spill,D.int .i64 state2.prop.Own.Percent,D.int .i64 state2.prop.Own.Stamp,D.int .i64 state2.prop.Own.Since,D.int .i64 state2.prop.Own.Ramped,D.int .u64 state2.prop.Own.Up,D.int .u64 state2.prop.Own.Sup,D.sl false 1 (List.map (d7 .i64) state2.prop.Own.Pen),D.sl false 1 (List.map (d7 .i64) state2.prop.Own.Changes),D.int .i64 state2.prop.Best,D.int .i64 state2.prop.Value.Epoch,D.int .i64 state2.prop.Value.Target,D.int .i64 state2.prop.Value.Prev,D.int .i64 state2.prop.Value.Spill,D.int .i64 state2.prop.Value.Percent,D.int .i64 state2.prop.Value.Stamp,D.int .i64 state2.prop.Value.Since,D.int .i64 state2.prop.Value.Ramped,D.int .u64 state2.prop.Value.Up,D.int .u64 state2.prop.Value.Sup,D.sl false 1 (List.map (d7 .i64) state2.prop.Value.Pen),D.sl false 1 (List.map (d7 .i64) state2.prop.Value.Changes),D.int .u64 state2.prop.Promises,D.int .u64 state2.prop.Accepts,D.int .i64 state2.made,D.int .i64 state2.top,D.int .u64 state2.sealed,D.bool state2.told.ever,D.int .i64 state2.told.at_,D.int .i64 c2.F_,D.int .i64 c2.Deciders,D.int .i64 c2.Targets,D.int .i64 c2.Routers,D.int .i64 c2.Observers,D.sl false 1 (List.map (d7 .i64) c2.Tiers),D.int .i64 c2.Every,D.int .i64 c2.Wait,D.int .i64 c2.Rise,D.int .i64 c2.Fall,D.int .i64 c2.Fresh,D.int .i64 c2.L_,D.int .i64 c2.M_,D.int .i64 c2.Dwell,D.int .i64 c2.D_,D.int .i64 c2.W_,D.int .i64 c2.B_,D.int .i64 c2.Hit,D.int .i64 c2.Suppress,D.int .i64 c2.Reuse,D.int .i64 c2.Half,D.int .i64 c2.First,D.int .i64 c2.Step,D.int .i64 c2.StepTime,D.int .i64 c2.S_,D.int .i64 c2.Cap,D.int .i64 c2.Span,D.int .i64 c2.Room,D.int .i64 c2.Tries,D.int .i64 c2.Retry,D.int .i64 index2,D.ptr 2 0 0]]⟩,some ⟨4,true,[[(f5 3 (List.map (d7 .u8) b32)),(f5 4 (List.map (d7 .u8) b42)),D.int .i64 fuse2,D.bool down2]]⟩,some ⟨1,false,(List.map (d7 .u8) b32)⟩,some ⟨1,false,(List.map (d7 .u8) b42)⟩]) (by kernel_rfl) (by kernel_rfl) ha
noncomputable def ak1 (state:d9) (c:d8) (index fuse:Int) (down:Bool) (b3 b4:List Int):Option (List Int):=evl H8 (.s0 state c index fuse down b3 b4)
theorem bz0 {state:d9}{c:d8}{index fuse:Int}{down:Bool}{b3 b4 r:List Int} (h:ak1 state c index fuse down b3 b4=some r):ah7 E 105 [D.ptr 0 0 0] [some ⟨1,true,[[D.ptr 1 0 0]]⟩,some ⟨88,true,[[D.int .i64 state.boot,D.int .i64 state.known.Epoch,D.int .i64 state.known.Target,D.int .i64 state.known.Prev,D.int .i64 state.known.Spill,D.int .i64 state.known.Percent,D.int .i64 state.known.Stamp,D.int .i64 state.known.Since,D.int .i64 state.known.Ramped,D.int .u64 state.known.Up,D.int .u64 state.known.Sup,D.sl false 1 (List.map (d7 .i64) state.known.Pen),D.sl false 1 (List.map (d7 .i64) state.known.Changes),D.int .i64 state.heard,D.sl false 3 (List.map i8.enc state.votes),D.int .i64 state.hold.Epoch,D.int .i64 state.hold.Nonce,D.int .u64 state.hold.Grants,D.int .i64 state.hold.Until,D.bool state.asked.ever,D.int .i64 state.asked.at_,D.int .i64 state.prop.Epoch,D.int .i64 state.prop.Ballot,D.int .i64 state.prop.Phase,D.int .i64 state.prop.Own.Epoch,D.int .i64 state.prop.Own.Target,D.int .i64 state.prop.Own.Prev,D.int .i64 state.prop.Own.Spill,D.int .i64 state.prop.Own.Percent,D.int .i64 state.prop.Own.Stamp,D.int .i64 state.prop.Own.Since,D.int .i64 state.prop.Own.Ramped,D.int .u64 state.prop.Own.Up,D.int .u64 state.prop.Own.Sup,D.sl false 1 (List.map (d7 .i64) state.prop.Own.Pen),D.sl false 1 (List.map (d7 .i64) state.prop.Own.Changes),D.int .i64 state.prop.Best,D.int .i64 state.prop.Value.Epoch,D.int .i64 state.prop.Value.Target,D.int .i64 state.prop.Value.Prev,D.int .i64 state.prop.Value.Spill,D.int .i64 state.prop.Value.Percent,D.int .i64 state.prop.Value.Stamp,D.int .i64 state.prop.Value.Since,D.int .i64 state.prop.Value.Ramped,D.int .u64 state.prop.Value.Up,D.int .u64 state.prop.Value.Sup,D.sl false 1 (List.map (d7 .i64) state.prop.Value.Pen),D.sl false 1 (List.map (d7 .i64) state.prop.Value.Changes),D.int .u64 state.prop.Promises,D.int .u64 state.prop.Accepts,D.int .i64 state.made,D.int .i64 state.top,D.int .u64 state.sealed,D.bool state.told.ever,D.int .i64 state.told.at_,D.int .i64 c.F_,D.int .i64 c.Deciders,D.int .i64 c.Targets,D.int .i64 c.Routers,D.int .i64 c.Observers,D.sl false 1 (List.map (d7 .i64) c.Tiers),D.int .i64 c.Every,D.int .i64 c.Wait,D.int .i64 c.Rise,D.int .i64 c.Fall,D.int .i64 c.Fresh,D.int .i64 c.L_,D.int .i64 c.M_,D.int .i64 c.Dwell,D.int .i64 c.D_,D.int .i64 c.W_,D.int .i64 c.B_,D.int .i64 c.Hit,D.int .i64 c.Suppress,D.int .i64 c.Reuse,D.int .i64 c.Half,D.int .i64 c.First,D.int .i64 c.Step,D.int .i64 c.StepTime,D.int .i64 c.S_,D.int .i64 c.Cap,D.int .i64 c.Span,D.int .i64 c.Room,D.int .i64 c.Tries,D.int .i64 c.Retry,D.int .i64 index,D.ptr 2 0 0]]⟩,some ⟨4,true,[[(f5 3 (List.map (d7 .u8) b3)),(f5 4 (List.map (d7 .u8) b4)),D.int .i64 fuse,D.bool down]]⟩,some ⟨1,false,(List.map (d7 .u8) b3)⟩,some ⟨1,false,(List.map (d7 .u8) b4)⟩] [some ⟨1,true,[[D.ptr 1 0 0]]⟩,some ⟨88,true,[[D.int .i64 state.boot,D.int .i64 state.known.Epoch,D.int .i64 state.known.Target,D.int .i64 state.known.Prev,D.int .i64 state.known.Spill,D.int .i64 state.known.Percent,D.int .i64 state.known.Stamp,D.int .i64 state.known.Since,D.int .i64 state.known.Ramped,D.int .u64 state.known.Up,D.int .u64 state.known.Sup,D.sl false 1 (List.map (d7 .i64) state.known.Pen),D.sl false 1 (List.map (d7 .i64) state.known.Changes),D.int .i64 state.heard,D.sl false 3 (List.map i8.enc state.votes),D.int .i64 state.hold.Epoch,D.int .i64 state.hold.Nonce,D.int .u64 state.hold.Grants,D.int .i64 state.hold.Until,D.bool state.asked.ever,D.int .i64 state.asked.at_,D.int .i64 state.prop.Epoch,D.int .i64 state.prop.Ballot,D.int .i64 state.prop.Phase,D.int .i64 state.prop.Own.Epoch,D.int .i64 state.prop.Own.Target,D.int .i64 state.prop.Own.Prev,D.int .i64 state.prop.Own.Spill,D.int .i64 state.prop.Own.Percent,D.int .i64 state.prop.Own.Stamp,D.int .i64 state.prop.Own.Since,D.int .i64 state.prop.Own.Ramped,D.int .u64 state.prop.Own.Up,D.int .u64 state.prop.Own.Sup,D.sl false 1 (List.map (d7 .i64) state.prop.Own.Pen),D.sl false 1 (List.map (d7 .i64) state.prop.Own.Changes),D.int .i64 state.prop.Best,D.int .i64 state.prop.Value.Epoch,D.int .i64 state.prop.Value.Target,D.int .i64 state.prop.Value.Prev,D.int .i64 state.prop.Value.Spill,D.int .i64 state.prop.Value.Percent,D.int .i64 state.prop.Value.Stamp,D.int .i64 state.prop.Value.Since,D.int .i64 state.prop.Value.Ramped,D.int .u64 state.prop.Value.Up,D.int .u64 state.prop.Value.Sup,D.sl false 1 (List.map (d7 .i64) state.prop.Value.Pen),D.sl false 1 (List.map (d7 .i64) state.prop.Value.Changes),D.int .u64 state.prop.Promises,D.int .u64 state.prop.Accepts,D.int .i64 state.made,D.int .i64 state.top,D.int .u64 state.sealed,D.bool state.told.ever,D.int .i64 state.told.at_,D.int .i64 c.F_,D.int .i64 c.Deciders,D.int .i64 c.Targets,D.int .i64 c.Routers,D.int .i64 c.Observers,D.sl false 1 (List.map (d7 .i64) c.Tiers),D.int .i64 c.Every,D.int .i64 c.Wait,D.int .i64 c.Rise,D.int .i64 c.Fall,D.int .i64 c.Fresh,D.int .i64 c.L_,D.int .i64 c.M_,D.int .i64 c.Dwell,D.int .i64 c.D_,D.int .i64 c.W_,D.int .i64 c.B_,D.int .i64 c.Hit,D.int .i64 c.Suppress,D.int .i64 c.Reuse,D.int .i64 c.Half,D.int .i64 c.First,D.int .i64 c.Step,D.int .i64 c.StepTime,D.int .i64 c.S_,D.int .i64 c.Cap,D.int .i64 c.Span,D.int .i64 c.Room,D.int .i64 c.Tries,D.int .i64 c.Retry,D.int .i64 index,D.ptr 2 0 0]]⟩,some ⟨4,true,[[(f5 3 (List.map (d7 .u8) b3)),(f5 4 (List.map (d7 .u8) b4)),D.int .i64 fuse,D.bool down]]⟩,some ⟨1,false,(List.map (d7 .u8) b3)⟩,some ⟨1,false,(List.map (d7 .u8) b4)⟩] (List.map D2 r):=
 bB7 (m:=fun l=>I0 l (.s0 state c index fuse down b3 b4)) (fn:=Tryz.f105) (by kernel_rfl) (fun l=>by kernel_rfl) (show List.take _ _=_ by kernel_rfl) (show B7 _ _=_ by kernel_rfl) (fun l φ0 J=>bp0 (step:=H8) (lnS:=Q2) (fun s x Y hl hs ha=>by
  cases s with
  | s0=>exact bt6 hl hs ha
  | s1=>exact bq1 hl hs ha) (by kernel_rfl) (bD7 h))
end Go.RX.L

namespace Go.RX.L
open Go Go.RX Go.Proofs
attribute [local irreducible] f6
noncomputable def p6:=p8 (q0 Tryz.f63)
noncomputable def v8 (state:d9) (c:d8) (index fuse:Int) (down:Bool) (b3 b4:List Int) (y:List e9):D×f4:=((f5 5 (List.map e9.enc y)),[some ⟨88,true,[(d9.l state (d8.l c [.int .i64 index,.ptr 2 0 0]))]⟩,some ⟨1,true,[[.ptr 0 0 0]]⟩,some ⟨4,true,[[(f5 3 (List.map (d7 .u8) b3)),(f5 4 (List.map (d7 .u8) b4)),.int .i64 fuse,.bool down]]⟩,some ⟨1,false,(List.map (d7 .u8) b3)⟩,some ⟨1,false,(List.map (d7 .u8) b4)⟩,some ⟨26,false,(List.map e9.enc y)⟩])
inductive r7 where
 | s0
 | s1 (b8:List e9)
 | s2 (m2:e9) (b8:List e9) (Y:List Int)
noncomputable def L4 (m:e9) (state:d9) (c:d8) (index fuse:Int) (down:Bool) (b3 b4:List Int):r7→M
 | .s0=>A5 Tryz.f63 [.ptr 0 0 0,.fn 105 [] [.ptr 1 0 0],.agg (e9.enc m)] [some ⟨88,true,[(d9.l state (d8.l c [.int .i64 index,.ptr 2 0 0]))]⟩,some ⟨1,true,[[.ptr 0 0 0]]⟩,some ⟨4,true,[[(f5 3 (List.map (d7 .u8) b3)),(f5 4 (List.map (d7 .u8) b4)),.int .i64 fuse,.bool down]]⟩,some ⟨1,false,(List.map (d7 .u8) b3)⟩,some ⟨1,false,(List.map (d7 .u8) b4)⟩]
 | .s1 b8=>⟨[.code (p6 [1,1,0,1,0]),.blk 0,.code (p6 [1,1,1])],[(3,.ptr 5 0 0),(5,.ptr 6 0 0),(7,.ptr 7 0 0),(9,.fn 105 [] [.ptr 1 0 0])],[some ⟨88,true,[(d9.l state (d8.l c [.int .i64 index,.ptr 2 0 0]))]⟩,some ⟨1,true,[[.ptr 0 0 0]]⟩,some ⟨4,true,[[(f5 3 (List.map (d7 .u8) b3)),(f5 4 (List.map (d7 .u8) b4)),.int .i64 fuse,.bool down]]⟩,some ⟨1,false,(List.map (d7 .u8) b3)⟩,some ⟨1,false,(List.map (d7 .u8) b4)⟩,some ⟨1,true,[[.ptr 0 0 0]]⟩,some ⟨26,false,[(e9.enc m)]⟩,some ⟨1,true,[[(f5 8 (List.map e9.enc b8))]]⟩,some ⟨26,false,(List.map e9.enc b8)⟩]⟩
 | .s2 m2 b8 Y=>⟨[.blk 0,.code (p6 [1,1,1])],[(3,.ptr 5 0 0),(5,.ptr 6 0 0),(7,.ptr 7 0 0),(9,.fn 105 [] [.ptr 1 0 0])],[some ⟨88,true,[(d9.l state (d8.l c [.int .i64 index,.ptr 2 0 0]))]⟩,some ⟨1,true,[[.ptr 0 0 0]]⟩,some ⟨4,true,[[(f5 3 (List.map (d7 .u8) b3)),(f5 4 (List.map (d7 .u8) b4)),.int .i64 fuse,.bool down]]⟩,some ⟨1,false,(List.map (d7 .u8) b3)⟩,some ⟨1,false,(List.map (d7 .u8) b4)⟩,some ⟨1,true,[[.ptr 0 0 0]]⟩,some ⟨26,false,[(e9.enc m2)]⟩,some ⟨1,true,[[(f5 8 (List.map e9.enc b8))]]⟩,some ⟨26,false,(List.map e9.enc b8)⟩]⟩
noncomputable def F3 (m:e9) (state:d9) (c:d8) (index fuse:Int) (down:Bool) (b3 b4:List Int):r7→(List e9)→Prop
 | .s0,r_=>f6 E (Cx.of Tryz.f63 true 5) (QW (Rs (v8 state c index fuse down b3 b4) r_)) (.go ((L4 m state c index fuse down b3 b4) (.s0)))
 | .s1 b8,r_=>f6 E (Cx.of Tryz.f63 true 5) (QW (Rs (v8 state c index fuse down b3 b4) r_)) (.go ((L4 m state c index fuse down b3 b4) (.s1 b8)))
 | .s2 m2 b8 Y,r_=>L7 E (Cx.of Tryz.f63 true 5) (QW (Rs (v8 state c index fuse down b3 b4) r_)) 8 (p6 [1,1,0,1,0]) [.blk 0,.code (p6 [1,1,1])] [(3,.ptr 5 0 0),(5,.ptr 6 0 0),(7,.ptr 7 0 0),(9,.fn 105 [] [.ptr 1 0 0])] [1,0,2,3,4] [some ⟨1,true,[[.ptr 0 0 0]]⟩,some ⟨88,true,[(d9.l state (d8.l c [.int .i64 index,.ptr 2 0 0]))]⟩,some ⟨4,true,[[(f5 3 (List.map (d7 .u8) b3)),(f5 4 (List.map (d7 .u8) b4)),.int .i64 fuse,.bool down]]⟩,some ⟨1,false,(List.map (d7 .u8) b3)⟩,some ⟨1,false,(List.map (d7 .u8) b4)⟩] (List.map D2 Y) [some ⟨88,true,[(d9.l state (d8.l c [.int .i64 index,.ptr 2 0 0]))]⟩,some ⟨1,true,[[.ptr 0 0 0]]⟩,some ⟨4,true,[[(f5 3 (List.map (d7 .u8) b3)),(f5 4 (List.map (d7 .u8) b4)),.int .i64 fuse,.bool down]]⟩,some ⟨1,false,(List.map (d7 .u8) b3)⟩,some ⟨1,false,(List.map (d7 .u8) b4)⟩,some ⟨1,true,[[.ptr 0 0 0]]⟩,some ⟨26,false,[(e9.enc m2)]⟩,some ⟨1,true,[[(f5 8 (List.map e9.enc b8))]]⟩,some ⟨26,false,(List.map e9.enc b8)⟩]
noncomputable def ag4 (m:e9) (state:d9) (c:d8) (index fuse:Int) (down:Bool) (b3 b4:List Int):Option (r7⊕(List e9)):=(some (.inl (.s1 ([]))))
noncomputable def T6 (m:e9) (state:d9) (c:d8) (index fuse:Int) (down:Bool) (b3 b4:List Int) (b8:List e9):Option (r7⊕(List e9)):=((ak1 state c index fuse down b3 b4).bind fun y1=>(some (.inl (.s2 m b8 y1))))
noncomputable def R5 (m:e9) (state:d9) (c:d8) (index fuse:Int) (down:Bool) (b3 b4:List Int) (m2:e9) (b8:List e9):Option (r7⊕(List e9)):=(some (.inr b8))
noncomputable def R8 (m:e9) (state:d9) (c:d8) (index fuse:Int) (down:Bool) (b3 b4:List Int) (m2:e9) (b8:List e9) (y:Int) (Y:List Int):Option (r7⊕(List e9)):=((I7 c index).bind fun y1=>(bif (decide (((List.map e9.enc b8).length+1)*288≤i6)) then (some (.inl (.s2 (⟨m2.Kind,y1,y,m2.Epoch,m2.Ballot,m2.Accepted,m2.Nonce,m2.Time,m2.Up,m2.Code,m2.HasPlan,m2.Plan,m2.ID,m2.Session,m2.Payload⟩:e9) (b8++ [(⟨m2.Kind,y1,y,m2.Epoch,m2.Ballot,m2.Accepted,m2.Nonce,m2.Time,m2.Up,m2.Code,m2.HasPlan,m2.Plan,m2.ID,m2.Session,m2.Payload⟩:e9)]) Y))) else none))
noncomputable def T3 (m:e9) (state:d9) (c:d8) (index fuse:Int) (down:Bool) (b3 b4:List Int) (m2:e9) (b8:List e9):List Int→Option (r7⊕(List e9))
 | []=>R5 m state c index fuse down b3 b4 m2 b8
 | y::Y=>R8 m state c index fuse down b3 b4 m2 b8 y Y
noncomputable def D4 (m:e9) (state:d9) (c:d8) (index fuse:Int) (down:Bool) (b3 b4:List Int):r7→Option (r7⊕(List e9))
 | .s0=>ag4 m state c index fuse down b3 b4
 | .s1 b8=>T6 m state c index fuse down b3 b4 b8
 | .s2 m2 b8 Y=>T3 m state c index fuse down b3 b4 m2 b8 Y
theorem ba5 {m:e9}{state:d9}{c:d8}{index fuse:Int}{down:Bool}{b3 b4:List Int}{r:List e9}{x:r7⊕(List e9)} (h:ag4 m state c index fuse down b3 b4=some x) (ha:z8 (F3 m state c index fuse down b3 b4) r x):f6 E (Cx.of Tryz.f63 true 5) (QW (Rs (v8 state c index fuse down b3 b4) r)) (.go ((L4 m state c index fuse down b3 b4) (.s0))):=by
 unfold ag4 at h
 refine l8 hm 16 _ ?_
 obtain rfl:=Option.some.inj h
 refine am7 1704 [.matc 7 0 0 26] (m' :=⟨[.code (p6 [1,1,0,1,0]),.blk 0,.code (p6 [1,1,1])],[(3,.ptr 5 0 0),(5,.ptr 6 0 0),(7,.ptr 7 0 0),(9,.fn 105 [] [.ptr 1 0 0])],[some ⟨88,true,[(d9.l state (d8.l c [.int .i64 index,.ptr 2 0 0]))]⟩,some ⟨1,true,[[.ptr 0 0 0]]⟩,some ⟨4,true,[[(f5 3 (List.map (d7 .u8) b3)),(f5 4 (List.map (d7 .u8) b4)),.int .i64 fuse,.bool down]]⟩,some ⟨1,false,(List.map (d7 .u8) b3)⟩,some ⟨1,false,(List.map (d7 .u8) b4)⟩,some ⟨1,true,[[.ptr 0 0 0]]⟩,some ⟨26,false,[(e9.enc m)]⟩,some ⟨1,true,[[.msl 8 0 0 0 false]]⟩,some ⟨26,false,[]⟩]⟩) (by kernel_rfl) ?_
 refine Z2 (n1:=0) (n2:=(List.map e9.enc ([])).length) (fun n_len=> .go ⟨[.code (p6 [1,1,0,1,0]),.blk 0,.code (p6 [1,1,1])],[(3,.ptr 5 0 0),(5,.ptr 6 0 0),(7,.ptr 7 0 0),(9,.fn 105 [] [.ptr 1 0 0])],[some ⟨88,true,[(d9.l state (d8.l c [.int .i64 index,.ptr 2 0 0]))]⟩,some ⟨1,true,[[.ptr 0 0 0]]⟩,some ⟨4,true,[[(f5 3 (List.map (d7 .u8) b3)),(f5 4 (List.map (d7 .u8) b4)),.int .i64 fuse,.bool down]]⟩,some ⟨1,false,(List.map (d7 .u8) b3)⟩,some ⟨1,false,(List.map (d7 .u8) b4)⟩,some ⟨1,true,[[.ptr 0 0 0]]⟩,some ⟨26,false,[(e9.enc m)]⟩,some ⟨1,true,[[.msl 8 0 n_len n_len false]]⟩,some ⟨26,false,[]⟩]⟩) (by simp) ?_
 exact ha
theorem aY8 {m:e9}{state:d9}{c:d8}{index fuse:Int}{down:Bool}{b3 b4:List Int}{b8 r:List e9}{x:r7⊕(List e9)} (h:T6 m state c index fuse down b3 b4 b8=some x) (ha:z8 (F3 m state c index fuse down b3 b4) r x):f6 E (Cx.of Tryz.f63 true 5) (QW (Rs (v8 state c index fuse down b3 b4) r)) (.go ((L4 m state c index fuse down b3 b4) (.s1 b8))):=by
 unfold T6 at h
 refine l8 hm 1 _ ?_
 have ok1:=fun (y:List Int) (hy:ak1 state c index fuse down b3 b4=some y)=>bz0 hy
 refine da7 (m:=8) (c:=p6 [1,1,0,1,0]) (t:= [.blk 0,.code (p6 [1,1,1])]) (fr:= [(3,.ptr 5 0 0),(5,.ptr 6 0 0),(7,.ptr 7 0 0),(9,.fn 105 [] [.ptr 1 0 0])]) (σ:= [some ⟨88,true,[(d9.l state (d8.l c [.int .i64 index,.ptr 2 0 0]))]⟩,some ⟨1,true,[[.ptr 0 0 0]]⟩,some ⟨4,true,[[(f5 3 (List.map (d7 .u8) b3)),(f5 4 (List.map (d7 .u8) b4)),.int .i64 fuse,.bool down]]⟩,some ⟨1,false,(List.map (d7 .u8) b3)⟩,some ⟨1,false,(List.map (d7 .u8) b4)⟩,some ⟨1,true,[[.ptr 0 0 0]]⟩,some ⟨26,false,[(e9.enc m)]⟩,some ⟨1,true,[[(f5 8 (List.map e9.enc b8))]]⟩,some ⟨26,false,(List.map e9.enc b8)⟩]) (ids:= [1,0,2,3,4]) (bs:= [some ⟨1,true,[[.ptr 0 0 0]]⟩,some ⟨88,true,[(d9.l state (d8.l c [.int .i64 index,.ptr 2 0 0]))]⟩,some ⟨4,true,[[(f5 3 (List.map (d7 .u8) b3)),(f5 4 (List.map (d7 .u8) b4)),.int .i64 fuse,.bool down]]⟩,some ⟨1,false,(List.map (d7 .u8) b3)⟩,some ⟨1,false,(List.map (d7 .u8) b4)⟩]) (caps1:= [.ptr 0 0 0]) (caps:= [.ptr 0 0 0]) (sub1:= [some ⟨1,true,[[.ptr 1 0 0]]⟩,some ⟨88,true,[(d9.l state (d8.l c [.int .i64 index,.ptr 2 0 0]))]⟩,some ⟨4,true,[[(f5 3 (List.map (d7 .u8) b3)),(f5 4 (List.map (d7 .u8) b4)),.int .i64 fuse,.bool down]]⟩,some ⟨1,false,(List.map (d7 .u8) b3)⟩,some ⟨1,false,(List.map (d7 .u8) b4)⟩]) (sub:= [some ⟨1,true,[[.ptr 1 0 0]]⟩,some ⟨88,true,[(d9.l state (d8.l c [.int .i64 index,.ptr 2 0 0]))]⟩,some ⟨4,true,[[(f5 3 (List.map (d7 .u8) b3)),(f5 4 (List.map (d7 .u8) b4)),.int .i64 fuse,.bool down]]⟩,some ⟨1,false,(List.map (d7 .u8) b3)⟩,some ⟨1,false,(List.map (d7 .u8) b4)⟩]) D2 h (by kernel_rfl) ⟨rfl,rfl⟩ (by kernel_rfl) (by kernel_rfl) (by kernel_rfl) (by kernel_rfl) (by kernel_rfl) ok1 (fun y1 h1 h=> ?_)
 obtain rfl:=Option.some.inj h
 exact ha
theorem aW1 {m:e9}{state:d9}{c:d8}{index fuse:Int}{down:Bool}{b3 b4:List Int}{m2:e9}{b8 r:List e9}{x:r7⊕(List e9)} (h:R5 m state c index fuse down b3 b4 m2 b8=some x) (ha:z8 (F3 m state c index fuse down b3 b4) r x):L7 E (Cx.of Tryz.f63 true 5) (QW (Rs (v8 state c index fuse down b3 b4) r)) 8 (p6 [1,1,0,1,0]) [.blk 0,.code (p6 [1,1,1])] [(3,.ptr 5 0 0),(5,.ptr 6 0 0),(7,.ptr 7 0 0),(9,.fn 105 [] [.ptr 1 0 0])] [1,0,2,3,4] [some ⟨1,true,[[.ptr 0 0 0]]⟩,some ⟨88,true,[(d9.l state (d8.l c [.int .i64 index,.ptr 2 0 0]))]⟩,some ⟨4,true,[[(f5 3 (List.map (d7 .u8) b3)),(f5 4 (List.map (d7 .u8) b4)),.int .i64 fuse,.bool down]]⟩,some ⟨1,false,(List.map (d7 .u8) b3)⟩,some ⟨1,false,(List.map (d7 .u8) b4)⟩] ([]) [some ⟨88,true,[(d9.l state (d8.l c [.int .i64 index,.ptr 2 0 0]))]⟩,some ⟨1,true,[[.ptr 0 0 0]]⟩,some ⟨4,true,[[(f5 3 (List.map (d7 .u8) b3)),(f5 4 (List.map (d7 .u8) b4)),.int .i64 fuse,.bool down]]⟩,some ⟨1,false,(List.map (d7 .u8) b3)⟩,some ⟨1,false,(List.map (d7 .u8) b4)⟩,some ⟨1,true,[[.ptr 0 0 0]]⟩,some ⟨26,false,[(e9.enc m2)]⟩,some ⟨1,true,[[(f5 8 (List.map e9.enc b8))]]⟩,some ⟨26,false,(List.map e9.enc b8)⟩]:=by
 unfold R5 at h
 refine ba8 ?_
 exact ztP 8 h ha
theorem aW0 {m:e9}{state:d9}{c:d8}{index fuse:Int}{down:Bool}{b3 b4:List Int}{m2:e9}{b8:List e9}{y:Int}{Y:List Int}{r:List e9}{x:r7⊕(List e9)} (h:R8 m state c index fuse down b3 b4 m2 b8 y Y=some x) (ha:z8 (F3 m state c index fuse down b3 b4) r x):L7 E (Cx.of Tryz.f63 true 5) (QW (Rs (v8 state c index fuse down b3 b4) r)) 8 (p6 [1,1,0,1,0]) [.blk 0,.code (p6 [1,1,1])] [(3,.ptr 5 0 0),(5,.ptr 6 0 0),(7,.ptr 7 0 0),(9,.fn 105 [] [.ptr 1 0 0])] [1,0,2,3,4] [some ⟨1,true,[[.ptr 0 0 0]]⟩,some ⟨88,true,[(d9.l state (d8.l c [.int .i64 index,.ptr 2 0 0]))]⟩,some ⟨4,true,[[(f5 3 (List.map (d7 .u8) b3)),(f5 4 (List.map (d7 .u8) b4)),.int .i64 fuse,.bool down]]⟩,some ⟨1,false,(List.map (d7 .u8) b3)⟩,some ⟨1,false,(List.map (d7 .u8) b4)⟩] (D2 y::List.map D2 Y) [some ⟨88,true,[(d9.l state (d8.l c [.int .i64 index,.ptr 2 0 0]))]⟩,some ⟨1,true,[[.ptr 0 0 0]]⟩,some ⟨4,true,[[(f5 3 (List.map (d7 .u8) b3)),(f5 4 (List.map (d7 .u8) b4)),.int .i64 fuse,.bool down]]⟩,some ⟨1,false,(List.map (d7 .u8) b3)⟩,some ⟨1,false,(List.map (d7 .u8) b4)⟩,some ⟨1,true,[[.ptr 0 0 0]]⟩,some ⟨26,false,[(e9.enc m2)]⟩,some ⟨1,true,[[(f5 8 (List.map e9.enc b8))]]⟩,some ⟨26,false,(List.map e9.enc b8)⟩]:=by
 unfold R8 at h
 refine aP1 ?_
 refine zd 7 [] h (fun _=>T0) fun y1 h=> ?_
 refine zn 12 h fun h=> ?_
 refine za 0 e9.enc b8 ([(⟨m2.Kind,y1,y,m2.Epoch,m2.Ballot,m2.Accepted,m2.Nonce,m2.Time,m2.Up,m2.Code,m2.HasPlan,m2.Plan,m2.ID,m2.Session,m2.Payload⟩:e9)]) ?_
 refine l8 hm 6 _ ?_
 obtain rfl:=Option.some.inj h
 exact aI4 [] (s1:= [some ⟨88,true,[(d9.l state (d8.l c [.int .i64 index,.ptr 2 0 0]))]⟩,some ⟨1,true,[[.ptr 0 0 0]]⟩,some ⟨4,true,[[(f5 3 (List.map (d7 .u8) b3)),(f5 4 (List.map (d7 .u8) b4)),.int .i64 fuse,.bool down]]⟩,some ⟨1,false,(List.map (d7 .u8) b3)⟩,some ⟨1,false,(List.map (d7 .u8) b4)⟩,some ⟨1,true,[[.ptr 0 0 0]]⟩,some ⟨26,false,[(.int .i64 m2.Kind:: .int .i64 y1:: .int .i64 y:: .int .i64 m2.Epoch:: .int .i64 m2.Ballot:: .int .i64 m2.Accepted:: .int .i64 m2.Nonce:: .int .i64 m2.Time:: .int .u64 m2.Up:: .int .i64 m2.Code:: .bool m2.HasPlan::Plan.l m2.Plan [.sl false 1 (List.map (d7 .i64) m2.ID),.sl false 1 (List.map (d7 .u8) m2.Session),.sl false 1 (List.map (d7 .u8) m2.Payload)])]⟩,some ⟨1,true,[[.msl 8 0 ((List.map e9.enc (b8++ [(⟨m2.Kind,y1,y,m2.Epoch,m2.Ballot,m2.Accepted,m2.Nonce,m2.Time,m2.Up,m2.Code,m2.HasPlan,m2.Plan,m2.ID,m2.Session,m2.Payload⟩:e9)])).length) ((List.map e9.enc (b8++ [(⟨m2.Kind,y1,y,m2.Epoch,m2.Ballot,m2.Accepted,m2.Nonce,m2.Time,m2.Up,m2.Code,m2.HasPlan,m2.Plan,m2.ID,m2.Session,m2.Payload⟩:e9)])).length) false]]⟩,some ⟨26,false,(List.map e9.enc (b8++ [(⟨m2.Kind,y1,y,m2.Epoch,m2.Ballot,m2.Accepted,m2.Nonce,m2.Time,m2.Up,m2.Code,m2.HasPlan,m2.Plan,m2.ID,m2.Session,m2.Payload⟩:e9)]))⟩]) (s:= [some ⟨88,true,[(d9.l state (d8.l c [.int .i64 index,.ptr 2 0 0]))]⟩,some ⟨1,true,[[.ptr 0 0 0]]⟩,some ⟨4,true,[[(f5 3 (List.map (d7 .u8) b3)),(f5 4 (List.map (d7 .u8) b4)),.int .i64 fuse,.bool down]]⟩,some ⟨1,false,(List.map (d7 .u8) b3)⟩,some ⟨1,false,(List.map (d7 .u8) b4)⟩,some ⟨1,true,[[.ptr 0 0 0]]⟩,some ⟨26,false,[(.int .i64 m2.Kind:: .int .i64 y1:: .int .i64 y:: .int .i64 m2.Epoch:: .int .i64 m2.Ballot:: .int .i64 m2.Accepted:: .int .i64 m2.Nonce:: .int .i64 m2.Time:: .int .u64 m2.Up:: .int .i64 m2.Code:: .bool m2.HasPlan::Plan.l m2.Plan [.sl false 1 (List.map (d7 .i64) m2.ID),.sl false 1 (List.map (d7 .u8) m2.Session),.sl false 1 (List.map (d7 .u8) m2.Payload)])]⟩,some ⟨1,true,[[.msl 8 0 ((List.map e9.enc (b8++ [(⟨m2.Kind,y1,y,m2.Epoch,m2.Ballot,m2.Accepted,m2.Nonce,m2.Time,m2.Up,m2.Code,m2.HasPlan,m2.Plan,m2.ID,m2.Session,m2.Payload⟩:e9)])).length) ((List.map e9.enc (b8++ [(⟨m2.Kind,y1,y,m2.Epoch,m2.Ballot,m2.Accepted,m2.Nonce,m2.Time,m2.Up,m2.Code,m2.HasPlan,m2.Plan,m2.ID,m2.Session,m2.Payload⟩:e9)])).length) false]]⟩,some ⟨26,false,(List.map e9.enc (b8++ [(⟨m2.Kind,y1,y,m2.Epoch,m2.Ballot,m2.Accepted,m2.Nonce,m2.Time,m2.Up,m2.Code,m2.HasPlan,m2.Plan,m2.ID,m2.Session,m2.Payload⟩:e9)]))⟩]) (by kernel_rfl) (rfl) (by kernel_rfl) ha
theorem aZ9 {m:e9}{state:d9}{c:d8}{index fuse:Int}{down:Bool}{b3 b4:List Int}{m2:e9}{b8:List e9}{Y:List Int}{r:List e9}{x:r7⊕(List e9)} (h:T3 m state c index fuse down b3 b4 m2 b8 Y=some x) (ha:z8 (F3 m state c index fuse down b3 b4) r x):L7 E (Cx.of Tryz.f63 true 5) (QW (Rs (v8 state c index fuse down b3 b4) r)) 8 (p6 [1,1,0,1,0]) [.blk 0,.code (p6 [1,1,1])] [(3,.ptr 5 0 0),(5,.ptr 6 0 0),(7,.ptr 7 0 0),(9,.fn 105 [] [.ptr 1 0 0])] [1,0,2,3,4] [some ⟨1,true,[[.ptr 0 0 0]]⟩,some ⟨88,true,[(d9.l state (d8.l c [.int .i64 index,.ptr 2 0 0]))]⟩,some ⟨4,true,[[(f5 3 (List.map (d7 .u8) b3)),(f5 4 (List.map (d7 .u8) b4)),.int .i64 fuse,.bool down]]⟩,some ⟨1,false,(List.map (d7 .u8) b3)⟩,some ⟨1,false,(List.map (d7 .u8) b4)⟩] (List.map D2 Y) [some ⟨88,true,[(d9.l state (d8.l c [.int .i64 index,.ptr 2 0 0]))]⟩,some ⟨1,true,[[.ptr 0 0 0]]⟩,some ⟨4,true,[[(f5 3 (List.map (d7 .u8) b3)),(f5 4 (List.map (d7 .u8) b4)),.int .i64 fuse,.bool down]]⟩,some ⟨1,false,(List.map (d7 .u8) b3)⟩,some ⟨1,false,(List.map (d7 .u8) b4)⟩,some ⟨1,true,[[.ptr 0 0 0]]⟩,some ⟨26,false,[(e9.enc m2)]⟩,some ⟨1,true,[[(f5 8 (List.map e9.enc b8))]]⟩,some ⟨26,false,(List.map e9.enc b8)⟩]:=by
 cases Y with
 | nil=>exact aW1 h ha
 | cons y Y=>exact aW0 h ha
noncomputable def J5 (m:e9) (state:d9) (c:d8) (index fuse:Int) (down:Bool) (b3 b4:List Int):Option (List e9):=V6 (D4 m state c index fuse down b3 b4) (.s0)
theorem bh8 {m:e9}{state:d9}{c:d8}{index fuse:Int}{down:Bool}{b3 b4:List Int}{r:List e9} (h:Ev (D4 m state c index fuse down b3 b4) (.s0) r):i0 E 63 [.ptr 0 0 0,.fn 105 [] [.ptr 1 0 0],.agg (e9.enc m)] [some ⟨88,true,[(d9.l state (d8.l c [.int .i64 index,.ptr 2 0 0]))]⟩,some ⟨1,true,[[.ptr 0 0 0]]⟩,some ⟨4,true,[[(f5 3 (List.map (d7 .u8) b3)),(f5 4 (List.map (d7 .u8) b4)),.int .i64 fuse,.bool down]]⟩,some ⟨1,false,(List.map (d7 .u8) b3)⟩,some ⟨1,false,(List.map (d7 .u8) b4)⟩] (Rs (v8 state c index fuse down b3 b4) r):=
 am9 (m:=(L4 m state c index fuse down b3 b4) (.s0)) (fn:=Tryz.f63) (by kernel_rfl) (by kernel_rfl) (aZ2 (Pd:=(F3 m state c index fuse down b3 b4)) (fun s x r hs ha=>by
  cases s with
  | s0=>exact ba5 hs ha
  | s1=>exact aY8 hs ha
  | s2=>exact aZ9 hs ha) h)
theorem ad5 {m:e9}{state:d9}{c:d8}{index fuse:Int}{down:Bool}{b3 b4:List Int}{r:List e9} (h:J5 m state c index fuse down b3 b4=some r):i0 E 63 [.ptr 0 0 0,.fn 105 [] [.ptr 1 0 0],.agg (e9.enc m)] [some ⟨88,true,[(d9.l state (d8.l c [.int .i64 index,.ptr 2 0 0]))]⟩,some ⟨1,true,[[.ptr 0 0 0]]⟩,some ⟨4,true,[[(f5 3 (List.map (d7 .u8) b3)),(f5 4 (List.map (d7 .u8) b4)),.int .i64 fuse,.bool down]]⟩,some ⟨1,false,(List.map (d7 .u8) b3)⟩,some ⟨1,false,(List.map (d7 .u8) b4)⟩] (Rs (v8 state c index fuse down b3 b4) r):=bh8 (bd0 h)
end Go.RX.L

namespace Go.RX.L
open Go Go.RX Go.Proofs
attribute [local irreducible] f6
noncomputable def cD8 (c:d8) (index fuse:Int) (down:Bool) (b2 b3:List Int) (y:(List e9)×d9):D×f4:=(.sl false 26 (List.map e9.enc y.1),[some ⟨88,true,[(d9.l y.2 (d8.l c [.int .i64 index,.ptr 1 0 0]))]⟩,some ⟨4,true,[[(f5 2 (List.map (d7 .u8) b2)),(f5 3 (List.map (d7 .u8) b3)),.int .i64 fuse,.bool down]]⟩,some ⟨1,false,(List.map (d7 .u8) b2)⟩,some ⟨1,false,(List.map (d7 .u8) b3)⟩])
noncomputable def aF7 (now:Int) (state:d9) (c:d8) (index fuse:Int) (down:Bool) (b2 b3:List Int):Option ((List e9)×d9):=((X5 (⟨state.asked.ever,state.hold.Nonce⟩:T4) now (u9 (IntKind.i64.wrap (Int.tdiv c.L_ 2)) 1)).bind fun y1=>(bif (!y1) then (some ([],(⟨state.boot,state.known,state.heard,state.votes,state.hold,(⟨state.asked.ever,state.hold.Nonce⟩:T4),state.prop,state.made,state.top,state.sealed,state.told⟩:d9))) else ((be2 state.hold 0 now).bind fun y3=>((K8 (⟨state.boot,state.known,state.heard,state.votes,y3,(⟨true,state.hold.Nonce⟩:T4),state.prop,state.made,state.top,state.sealed,state.told⟩:d9) c index fuse down b2 b3).bind fun y4=>((J5 (⟨10,0,0,0,0,0,now,0,0,2,false,(⟨0,0,0,0,0,0,0,0,0,0,[],[]⟩:Plan),[],[],[]⟩:e9) (⟨state.boot,state.known,state.heard,state.votes,y3,(⟨true,state.hold.Nonce⟩:T4),state.prop,state.made,state.top,state.sealed,state.told⟩:d9) c index fuse down b2 b3).bind fun y5=>(some (y5,(⟨state.boot,state.known,state.heard,state.votes,y3,(⟨true,state.hold.Nonce⟩:T4),state.prop,state.made,state.top,state.sealed,state.told⟩:d9))))))))
theorem cu7 {now:Int}{state:d9}{c:d8}{index fuse:Int}{down:Bool}{b2 b3:List Int}{r:(List e9)×d9} (h:aF7 now state c index fuse down b2 b3=some r):i0 E 50 [.ptr 0 0 0,.int .i64 now] [some ⟨88,true,[(d9.l state (d8.l c [.int .i64 index,.ptr 1 0 0]))]⟩,some ⟨4,true,[[(f5 2 (List.map (d7 .u8) b2)),(f5 3 (List.map (d7 .u8) b3)),.int .i64 fuse,.bool down]]⟩,some ⟨1,false,(List.map (d7 .u8) b2)⟩,some ⟨1,false,(List.map (d7 .u8) b3)⟩] (Rs (cD8 c index fuse down b2 b3) r):=so (fn:=Tryz.f50) (k:=true) (m:=4) h<| by
 intro r h;unfold aF7 at h
 refine zd 28 [] h (fun _=>aX0) fun y1 h=> ?_
 refine zs 1 h (fun h=> ?_) fun h=> ?_
 ·
  exact zu 5 h [.slot 0 [some 26]]
 refine zc 23 [] h (fun _=>cW4) fun y3 h=> ?_
 refine zc 12 [] h (fun _=>av8) fun y4 h=> ?_
 refine zc 3 [some 1,some 1,some 1,some 1,some 1] h (fun _=>ad5) fun y5 h=> ?_
 refine l8 hm 2 _ ?_
 refine bZ9 4 (n1:=(0+(List.map e9.enc y5).length)) (n2:=((List.map e9.enc y5).length)) (raw:=(List.take ((List.map e9.enc y5).length) (List.drop 0 (List.map e9.enc y5)))) (rs:=(List.map e9.enc y5)) (by kernel_rfl) (v6 _) (by simp only [z9,E5,List.map_take,List.map_drop]) ?_
 exact zu 1 h
end Go.RX.L

namespace Go.RX.L
open Go Go.RX Go.Proofs
attribute [local irreducible] f6
noncomputable def bO9:=p8 (q0 Tryz.f51)
noncomputable def bN7 (c:d8) (index fuse:Int) (down:Bool) (b2 b3:List Int) (y:(List e9)×d9):D×f4:=(.sl false 26 (List.map e9.enc y.1),[some ⟨88,true,[(d9.l y.2 (d8.l c [.int .i64 index,.ptr 1 0 0]))]⟩,some ⟨4,true,[[(f5 2 (List.map (d7 .u8) b2)),(f5 3 (List.map (d7 .u8) b3)),.int .i64 fuse,.bool down]]⟩,some ⟨1,false,(List.map (d7 .u8) b2)⟩,some ⟨1,false,(List.map (d7 .u8) b3)⟩])
abbrev cM4 (now:Int) (state:d9) (c:d8) (index fuse:Int) (down:Bool) (b2 b3:List Int):=AOk E (Cx.of Tryz.f51 true 4) (bN7 c index fuse down b2 b3)
noncomputable def cE1 (now:Int) (state:d9) (c:d8) (index fuse:Int) (down:Bool) (b2 b3:List Int) (t26:Bool):M:=⟨[.code (bO9 [1,0,1]),.code (bO9 [1,1])],[(0,.ptr 0 0 0),(1,.int .i64 now),(26,.bool t26)],[some ⟨88,true,[(d9.l state (d8.l c [.int .i64 index,.ptr 1 0 0]))]⟩,some ⟨4,true,[[(f5 2 (List.map (d7 .u8) b2)),(f5 3 (List.map (d7 .u8) b3)),.int .i64 fuse,.bool down]]⟩,some ⟨1,false,(List.map (d7 .u8) b2)⟩,some ⟨1,false,(List.map (d7 .u8) b3)⟩]⟩
noncomputable def ay7 (now:Int) (state:d9) (c:d8) (index fuse:Int) (down:Bool) (b2 b3:List Int) (t26:Bool):Option ((List e9)×d9):=(bif t26 then (some ([],state)) else ((at2 now state c index fuse down b2 b3).bind fun y2=>(some (y2.1,y2.2))))
theorem bq0 {now state c index fuse down b2 b3 t26}:cM4 now state c index fuse down b2 b3 (cE1 now state c index fuse down b2 b3 t26) (ay7 now state c index fuse down b2 b3 t26):=by
 intro r h;unfold ay7 at h
 refine zs 1 h (fun h=> ?_) fun h=> ?_
 ·
  exact zu 5 h [.slot 0 [some 26]]
 refine zc 6 [] h (fun _=>by6) fun y2 h=> ?_
 exact zu 3 h
noncomputable def aK4 (now:Int) (state:d9) (c:d8) (index fuse:Int) (down:Bool) (b2 b3:List Int):Option ((List e9)×d9):=(bif ((state.known.Epoch:Int)==0) then (ay7 now state c index fuse down b2 b3 true) else ((X5 state.told now c.Retry).bind fun y2=>(ay7 now state c index fuse down b2 b3 (!y2))))
theorem cD1 {now:Int}{state:d9}{c:d8}{index fuse:Int}{down:Bool}{b2 b3:List Int}{r:(List e9)×d9} (h:aK4 now state c index fuse down b2 b3=some r):i0 E 51 [.ptr 0 0 0,.int .i64 now] [some ⟨88,true,[(d9.l state (d8.l c [.int .i64 index,.ptr 1 0 0]))]⟩,some ⟨4,true,[[(f5 2 (List.map (d7 .u8) b2)),(f5 3 (List.map (d7 .u8) b3)),.int .i64 fuse,.bool down]]⟩,some ⟨1,false,(List.map (d7 .u8) b2)⟩,some ⟨1,false,(List.map (d7 .u8) b3)⟩] (Rs (bN7 c index fuse down b2 b3) r):=so (fn:=Tryz.f51) (k:=true) (m:=4) h<| by
 intro r h;unfold aK4 at h
 refine zs 8 h (fun h=> ?_) fun h=> ?_
 ·
  exact zg 13 (bq0 h)
 refine zd 13 [] h (fun _=>aX0) fun y2 h=> ?_
 exact zg 2 (bq0 h)
end Go.RX.L

namespace Go.RX.L
open Go Go.RX Go.Proofs
attribute [local irreducible] f6
noncomputable def cA9 (y:Bool):D×f4:=(.bool y,[])
noncomputable def au0 (j:r6):Option Bool:=(some j.down)
theorem by4 {j:r6}{r:Bool} (h:au0 j=some r):i0 E 47 [.iptr 4 [(r6.enc j)] 0 0] [] (Rs cA9 r):=so (fn:=Tryz.f47) (k:=false) (m:=0) h<| by
 intro r h;unfold au0 at h
 exact zu 14 h
end Go.RX.L

namespace Go.RX.L
open Go Go.RX Go.Proofs
attribute [local irreducible] f6
noncomputable def co0 (state:d9) (c:d8) (index fuse:Int) (down:Bool) (b2 b3:List Int) (y:Bool):D×f4:=(.bool y,[some ⟨88,true,[(d9.l state (d8.l c [.int .i64 index,.ptr 1 0 0]))]⟩,some ⟨4,true,[[(f5 2 (List.map (d7 .u8) b2)),(f5 3 (List.map (d7 .u8) b3)),.int .i64 fuse,.bool down]]⟩,some ⟨1,false,(List.map (d7 .u8) b2)⟩,some ⟨1,false,(List.map (d7 .u8) b3)⟩])
noncomputable def am3 (now:Int) (state:d9) (c:d8) (index fuse:Int) (down:Bool) (b2 b3:List Int):Option Bool:=(bif ((state.boot:Int) !=0) then ((au0 (⟨b2,b3,fuse,down⟩:r6)).bind fun y2=>(bif (!y2) then ((aS1 state.hold 0 now).bind fun y4=>(some y4)) else (some false))) else (some false))
theorem bq9 {now:Int}{state:d9}{c:d8}{index fuse:Int}{down:Bool}{b2 b3:List Int}{r:Bool} (h:am3 now state c index fuse down b2 b3=some r):i0 E 21 [.ptr 0 0 0,.int .i64 now] [some ⟨88,true,[(d9.l state (d8.l c [.int .i64 index,.ptr 1 0 0]))]⟩,some ⟨4,true,[[(f5 2 (List.map (d7 .u8) b2)),(f5 3 (List.map (d7 .u8) b3)),.int .i64 fuse,.bool down]]⟩,some ⟨1,false,(List.map (d7 .u8) b2)⟩,some ⟨1,false,(List.map (d7 .u8) b3)⟩] (Rs (co0 state c index fuse down b2 b3) r):=so (fn:=Tryz.f21) (k:=true) (m:=4) h<| by
 intro r h;unfold am3 at h
 refine zs 15 h (fun h=> ?_) fun h=> ?_
 ·
  refine zm 9 (b:=(Nat.ble (0+(List.map (d7 .u8) b2).length) ((List.map (d7 .u8) b2).length))) (v6 _) ?_
  refine zm 0 (b:=(Nat.ble (0+(List.map (d7 .u8) b3).length) ((List.map (d7 .u8) b3).length))) (v6 _) ?_
  refine zcE 0 [] (args1:= [.iptr 4 [[.sl false 1 (List.take ((List.map (d7 .u8) b2).length) (List.drop 0 (List.map (d7 .u8) b2))),.sl false 1 (List.take ((List.map (d7 .u8) b3).length) (List.drop 0 (List.map (d7 .u8) b3))),.int .i64 fuse,.bool down]] 0 0]) h (fun _=>by4) ⟨by simp [d8.enc,d8.l,i7.enc,i7.l,p5.enc,p5.l,r6.enc,r6.l,e9.enc,e9.l,Op.enc,Op.l,Plan.enc,Plan.l,r9.enc,r9.l,i8.enc,i8.l,p7.enc,p7.l,m8.enc,m8.l,d9.enc,d9.l,List.take_of_length_le,List.map_take,List.map_drop],rfl⟩ fun y2 h=> ?_
  refine zs 6 h (fun h=> ?_) fun h=> ?_
  ·
   refine zc 13 [] h (fun _=>cM1) fun y4 h=> ?_
   exact zu 5 h
  exact zu 17 h
 exact zu 32 h
end Go.RX.L

namespace Go.RX.L
open Go Go.RX Go.Proofs
attribute [local irreducible] f6
noncomputable def cc7:=p8 (q0 Tryz.f116)
def J1 (y:Int):List D:= [D.int .i64 y]
inductive L0 where
 | s0 (t:List Int)
 | s1 (t5:List Int) (t6:Int) (t7:Int)
noncomputable def O3 (l:Nat):L0→M
 | .s0 t=>⟨[.code (q0 Tryz.f116)],[(0,D.yld l),(1,D.iptr 1 [[D.sl false 1 (List.map (d7 .i64) t)]] 0 0)],[]⟩
 | .s1 t5 t6 t7=>⟨[.lpc (cc7 [1,0,0]) 225,.blk 0],[(0,D.yld l),(5,D.sl false 1 (List.map (d7 .i64) t5)),(6,D.int .i64 t6),(7,D.int .i64 t7)],[]⟩
noncomputable def ar0 (t:List Int):Option (List Int×Option L0):=(some ([],some (.s1 t (((List.map (d7 .i64) t).length:Nat):Int) 0)))
noncomputable def ae7 (t5:List Int) (t6 t7:Int):Option (List Int×Option L0):=(bif (decide ((t7:Int)<t6)) then (bif ((decide ((0:Int)≤t7))&&(decide ((t7:Int)<(((List.map (d7 .i64) t5).length:Nat):Int)))) then (((t5)[t7.toNat]?).bind fun y3=>(Option.map (fun p=>(y3::p.1,p.2)) (some ([],some (.s1 t5 t6 (IntKind.i64.wrap (t7+1))))))) else none) else (some ([],none)))
noncomputable def aa5:L0→f4
 | .s0 t=> []
 | .s1 t5 t6 t7=> []
noncomputable def N9:L0→Option (List Int×Option L0)
 | .s0 t=>ar0 t
 | .s1 t5 t6 t7=>ae7 t5 t6 t7
theorem bM6 {l:Nat}{ln:f4}{φ0:q9}{J:Option (List (List D))→World→(Nat→Prop)→(Nat→Prop)→Prop}{t:List Int}{x:List Int×Option L0}{Y:List (List D)} (hl:aa5 (.s0 t)=ln) (h:ar0 t=some x) (ha:Z8 E ln (Cx.seq Tryz.f116 0 ln l φ0 J) J1 (O3 l) aa5 x Y):f6 E (Cx.seq Tryz.f116 0 ln l φ0 J (some Y)) (fun _ s=>P3 ln s) (.go (O3 l (.s0 t))):=by
 subst hl
 unfold ar0 at h
 refine l8 hm 10 _ ?_
 obtain rfl:=Option.some.inj h
 exact aU5 (q' := .go (O3 l (.s1 t (((List.map (d7 .i64) t).length:Nat):Int) 0))) (by kernel_rfl) (K7 (by kernel_rfl) ha)
theorem bG5 {l:Nat}{ln:f4}{φ0:q9}{J:Option (List (List D))→World→(Nat→Prop)→(Nat→Prop)→Prop}{t5:List Int}{t6 t7:Int}{x:List Int×Option L0}{Y:List (List D)} (hl:aa5 (.s1 t5 t6 t7)=ln) (h:ae7 t5 t6 t7=some x) (ha:Z8 E ln (Cx.seq Tryz.f116 0 ln l φ0 J) J1 (O3 l) aa5 x Y):f6 E (Cx.seq Tryz.f116 0 ln l φ0 J (some Y)) (fun _ s=>P3 ln s) (.go (O3 l (.s1 t5 t6 t7))):=by
 subst hl
 unfold ae7 at h
 refine zs 7 h (fun h=> ?_) fun h=> ?_
 ·
  refine zn 6 h fun h=> ?_
  refine zr 1 (d7 .i64) h fun y3 h=> ?_
  refine l8 hm 7 _ ?_
  refine bG1 (x:=y3) (s:= []) h ha (by kernel_rfl) (by kernel_rfl) ?_ (fun p Y h ha=> ?_)
  ·--it is stopped
   refine l8 hm 5 _ ?_
   exact bs1 (d:=D.tup []) (s:= []) (by kernel_rfl) (by kernel_rfl)
  ·--it goes on
   refine l8 hm 11 _ ?_
   obtain rfl:=Option.some.inj h
   exact aU5 (q' := .go (O3 l (.s1 t5 t6 (IntKind.i64.wrap (t7+1))))) (by kernel_rfl) (K7 (by kernel_rfl) ha)
 refine l8 hm 2 _ ?_
 obtain rfl:=Option.some.inj h
 exact bA1 (d:=D.tup []) (s:= []) (by kernel_rfl) (by kernel_rfl) ha
noncomputable def aA8 (t:List Int):Option (List Int):=evl N9 (.s0 t)
theorem bU5 {t r:List Int} (h:aA8 t=some r):ah7 E 116 [D.iptr 1 [[D.sl false 1 (List.map (d7 .i64) t)]] 0 0] [] [] (List.map J1 r):=
 bB7 (m:=fun l=>O3 l (.s0 t)) (fn:=Tryz.f116) (by kernel_rfl) (fun l=>by kernel_rfl) (show List.take _ _=_ by kernel_rfl) (show B7 _ _=_ by kernel_rfl) (fun l φ0 J=>bp0 (step:=N9) (lnS:=aa5) (fun s x Y hl hs ha=>by
  cases s with
  | s0=>exact bM6 hl hs ha
  | s1=>exact bG5 hl hs ha) (by kernel_rfl) (bD7 h))
end Go.RX.L

namespace Go.RX.L
open Go Go.RX Go.Proofs
attribute [local irreducible] f6
noncomputable def r5:=p8 (q0 Tryz.f63)
noncomputable def z6 (state:d9) (c:d8) (index fuse:Int) (down:Bool) (b2 b3:List Int) (y:List e9):D×f4:=((f5 4 (List.map e9.enc y)),[some ⟨88,true,[(d9.l state (d8.l c [.int .i64 index,.ptr 1 0 0]))]⟩,some ⟨4,true,[[(f5 2 (List.map (d7 .u8) b2)),(f5 3 (List.map (d7 .u8) b3)),.int .i64 fuse,.bool down]]⟩,some ⟨1,false,(List.map (d7 .u8) b2)⟩,some ⟨1,false,(List.map (d7 .u8) b3)⟩,some ⟨26,false,(List.map e9.enc y)⟩])
inductive u5 where
 | s0
 | s1 (b7:List e9)
 | s2 (m2:e9) (b7:List e9) (Y:List Int)
noncomputable def Q1 (nodes:List Int) (m:e9) (state:d9) (c:d8) (index fuse:Int) (down:Bool) (b2 b3:List Int):u5→M
 | .s0=>A5 Tryz.f63 [.ptr 0 0 0,.fn 116 [] [.iptr 1 [[.sl false 1 (List.map (d7 .i64) nodes)]] 0 0],.agg (e9.enc m)] [some ⟨88,true,[(d9.l state (d8.l c [.int .i64 index,.ptr 1 0 0]))]⟩,some ⟨4,true,[[(f5 2 (List.map (d7 .u8) b2)),(f5 3 (List.map (d7 .u8) b3)),.int .i64 fuse,.bool down]]⟩,some ⟨1,false,(List.map (d7 .u8) b2)⟩,some ⟨1,false,(List.map (d7 .u8) b3)⟩]
 | .s1 b7=>⟨[.code (r5 [1,1,0,1,0]),.blk 0,.code (r5 [1,1,1])],[(3,.ptr 4 0 0),(5,.ptr 5 0 0),(7,.ptr 6 0 0),(9,.fn 116 [] [.iptr 1 [[.sl false 1 (List.map (d7 .i64) nodes)]] 0 0])],[some ⟨88,true,[(d9.l state (d8.l c [.int .i64 index,.ptr 1 0 0]))]⟩,some ⟨4,true,[[(f5 2 (List.map (d7 .u8) b2)),(f5 3 (List.map (d7 .u8) b3)),.int .i64 fuse,.bool down]]⟩,some ⟨1,false,(List.map (d7 .u8) b2)⟩,some ⟨1,false,(List.map (d7 .u8) b3)⟩,some ⟨1,true,[[.ptr 0 0 0]]⟩,some ⟨26,false,[(e9.enc m)]⟩,some ⟨1,true,[[(f5 7 (List.map e9.enc b7))]]⟩,some ⟨26,false,(List.map e9.enc b7)⟩]⟩
 | .s2 m2 b7 Y=>⟨[.blk 0,.code (r5 [1,1,1])],[(3,.ptr 4 0 0),(5,.ptr 5 0 0),(7,.ptr 6 0 0),(9,.fn 116 [] [.iptr 1 [[.sl false 1 (List.map (d7 .i64) nodes)]] 0 0])],[some ⟨88,true,[(d9.l state (d8.l c [.int .i64 index,.ptr 1 0 0]))]⟩,some ⟨4,true,[[(f5 2 (List.map (d7 .u8) b2)),(f5 3 (List.map (d7 .u8) b3)),.int .i64 fuse,.bool down]]⟩,some ⟨1,false,(List.map (d7 .u8) b2)⟩,some ⟨1,false,(List.map (d7 .u8) b3)⟩,some ⟨1,true,[[.ptr 0 0 0]]⟩,some ⟨26,false,[(e9.enc m2)]⟩,some ⟨1,true,[[(f5 7 (List.map e9.enc b7))]]⟩,some ⟨26,false,(List.map e9.enc b7)⟩]⟩
noncomputable def J4 (nodes:List Int) (m:e9) (state:d9) (c:d8) (index fuse:Int) (down:Bool) (b2 b3:List Int):u5→(List e9)→Prop
 | .s0,r_=>f6 E (Cx.of Tryz.f63 true 4) (QW (Rs (z6 state c index fuse down b2 b3) r_)) (.go ((Q1 nodes m state c index fuse down b2 b3) (.s0)))
 | .s1 b7,r_=>f6 E (Cx.of Tryz.f63 true 4) (QW (Rs (z6 state c index fuse down b2 b3) r_)) (.go ((Q1 nodes m state c index fuse down b2 b3) (.s1 b7)))
 | .s2 m2 b7 Y,r_=>L7 E (Cx.of Tryz.f63 true 4) (QW (Rs (z6 state c index fuse down b2 b3) r_)) 7 (r5 [1,1,0,1,0]) [.blk 0,.code (r5 [1,1,1])] [(3,.ptr 4 0 0),(5,.ptr 5 0 0),(7,.ptr 6 0 0),(9,.fn 116 [] [.iptr 1 [[.sl false 1 (List.map (d7 .i64) nodes)]] 0 0])] [] [] (List.map J1 Y) [some ⟨88,true,[(d9.l state (d8.l c [.int .i64 index,.ptr 1 0 0]))]⟩,some ⟨4,true,[[(f5 2 (List.map (d7 .u8) b2)),(f5 3 (List.map (d7 .u8) b3)),.int .i64 fuse,.bool down]]⟩,some ⟨1,false,(List.map (d7 .u8) b2)⟩,some ⟨1,false,(List.map (d7 .u8) b3)⟩,some ⟨1,true,[[.ptr 0 0 0]]⟩,some ⟨26,false,[(e9.enc m2)]⟩,some ⟨1,true,[[(f5 7 (List.map e9.enc b7))]]⟩,some ⟨26,false,(List.map e9.enc b7)⟩]
noncomputable def ap2 (nodes:List Int) (m:e9) (state:d9) (c:d8) (index fuse:Int) (down:Bool) (b2 b3:List Int):Option (u5⊕(List e9)):=(some (.inl (.s1 ([]))))
noncomputable def Z1 (nodes:List Int) (m:e9) (state:d9) (c:d8) (index fuse:Int) (down:Bool) (b2 b3:List Int) (b7:List e9):Option (u5⊕(List e9)):=((aA8 nodes).bind fun y1=>(some (.inl (.s2 m b7 y1))))
noncomputable def W6 (nodes:List Int) (m:e9) (state:d9) (c:d8) (index fuse:Int) (down:Bool) (b2 b3:List Int) (m2:e9) (b7:List e9):Option (u5⊕(List e9)):=(some (.inr b7))
noncomputable def W0 (nodes:List Int) (m:e9) (state:d9) (c:d8) (index fuse:Int) (down:Bool) (b2 b3:List Int) (m2:e9) (b7:List e9) (y:Int) (Y:List Int):Option (u5⊕(List e9)):=((I7 c index).bind fun y1=>(bif (decide (((List.map e9.enc b7).length+1)*288≤i6)) then (some (.inl (.s2 (⟨m2.Kind,y1,y,m2.Epoch,m2.Ballot,m2.Accepted,m2.Nonce,m2.Time,m2.Up,m2.Code,m2.HasPlan,m2.Plan,m2.ID,m2.Session,m2.Payload⟩:e9) (b7++ [(⟨m2.Kind,y1,y,m2.Epoch,m2.Ballot,m2.Accepted,m2.Nonce,m2.Time,m2.Up,m2.Code,m2.HasPlan,m2.Plan,m2.ID,m2.Session,m2.Payload⟩:e9)]) Y))) else none))
noncomputable def Y8 (nodes:List Int) (m:e9) (state:d9) (c:d8) (index fuse:Int) (down:Bool) (b2 b3:List Int) (m2:e9) (b7:List e9):List Int→Option (u5⊕(List e9))
 | []=>W6 nodes m state c index fuse down b2 b3 m2 b7
 | y::Y=>W0 nodes m state c index fuse down b2 b3 m2 b7 y Y
noncomputable def G7 (nodes:List Int) (m:e9) (state:d9) (c:d8) (index fuse:Int) (down:Bool) (b2 b3:List Int):u5→Option (u5⊕(List e9))
 | .s0=>ap2 nodes m state c index fuse down b2 b3
 | .s1 b7=>Z1 nodes m state c index fuse down b2 b3 b7
 | .s2 m2 b7 Y=>Y8 nodes m state c index fuse down b2 b3 m2 b7 Y
theorem bm6 {nodes:List Int}{m:e9}{state:d9}{c:d8}{index fuse:Int}{down:Bool}{b2 b3:List Int}{r:List e9}{x:u5⊕(List e9)} (h:ap2 nodes m state c index fuse down b2 b3=some x) (ha:z8 (J4 nodes m state c index fuse down b2 b3) r x):f6 E (Cx.of Tryz.f63 true 4) (QW (Rs (z6 state c index fuse down b2 b3) r)) (.go ((Q1 nodes m state c index fuse down b2 b3) (.s0))):=by
 unfold ap2 at h
 refine l8 hm 16 _ ?_
 obtain rfl:=Option.some.inj h
 refine am7 1704 [.matc 6 0 0 26] (m' :=⟨[.code (r5 [1,1,0,1,0]),.blk 0,.code (r5 [1,1,1])],[(3,.ptr 4 0 0),(5,.ptr 5 0 0),(7,.ptr 6 0 0),(9,.fn 116 [] [.iptr 1 [[.sl false 1 (List.map (d7 .i64) nodes)]] 0 0])],[some ⟨88,true,[(d9.l state (d8.l c [.int .i64 index,.ptr 1 0 0]))]⟩,some ⟨4,true,[[(f5 2 (List.map (d7 .u8) b2)),(f5 3 (List.map (d7 .u8) b3)),.int .i64 fuse,.bool down]]⟩,some ⟨1,false,(List.map (d7 .u8) b2)⟩,some ⟨1,false,(List.map (d7 .u8) b3)⟩,some ⟨1,true,[[.ptr 0 0 0]]⟩,some ⟨26,false,[(e9.enc m)]⟩,some ⟨1,true,[[.msl 7 0 0 0 false]]⟩,some ⟨26,false,[]⟩]⟩) (by kernel_rfl) ?_
 refine Z2 (n1:=0) (n2:=(List.map e9.enc ([])).length) (fun n_len=> .go ⟨[.code (r5 [1,1,0,1,0]),.blk 0,.code (r5 [1,1,1])],[(3,.ptr 4 0 0),(5,.ptr 5 0 0),(7,.ptr 6 0 0),(9,.fn 116 [] [.iptr 1 [[.sl false 1 (List.map (d7 .i64) nodes)]] 0 0])],[some ⟨88,true,[(d9.l state (d8.l c [.int .i64 index,.ptr 1 0 0]))]⟩,some ⟨4,true,[[(f5 2 (List.map (d7 .u8) b2)),(f5 3 (List.map (d7 .u8) b3)),.int .i64 fuse,.bool down]]⟩,some ⟨1,false,(List.map (d7 .u8) b2)⟩,some ⟨1,false,(List.map (d7 .u8) b3)⟩,some ⟨1,true,[[.ptr 0 0 0]]⟩,some ⟨26,false,[(e9.enc m)]⟩,some ⟨1,true,[[.msl 7 0 n_len n_len false]]⟩,some ⟨26,false,[]⟩]⟩) (by simp) ?_
 exact ha
theorem bk8 {nodes:List Int}{m:e9}{state:d9}{c:d8}{index fuse:Int}{down:Bool}{b2 b3:List Int}{b7 r:List e9}{x:u5⊕(List e9)} (h:Z1 nodes m state c index fuse down b2 b3 b7=some x) (ha:z8 (J4 nodes m state c index fuse down b2 b3) r x):f6 E (Cx.of Tryz.f63 true 4) (QW (Rs (z6 state c index fuse down b2 b3) r)) (.go ((Q1 nodes m state c index fuse down b2 b3) (.s1 b7))):=by
 unfold Z1 at h
 refine l8 hm 1 _ ?_
 have ok1:=fun (y:List Int) (hy:aA8 nodes=some y)=>bU5 hy
 refine cR1 (m:=7) (c:=r5 [1,1,0,1,0]) (t:= [.blk 0,.code (r5 [1,1,1])]) (fr:= [(3,.ptr 4 0 0),(5,.ptr 5 0 0),(7,.ptr 6 0 0),(9,.fn 116 [] [.iptr 1 [[.sl false 1 (List.map (d7 .i64) nodes)]] 0 0])]) (σ:= [some ⟨88,true,[(d9.l state (d8.l c [.int .i64 index,.ptr 1 0 0]))]⟩,some ⟨4,true,[[(f5 2 (List.map (d7 .u8) b2)),(f5 3 (List.map (d7 .u8) b3)),.int .i64 fuse,.bool down]]⟩,some ⟨1,false,(List.map (d7 .u8) b2)⟩,some ⟨1,false,(List.map (d7 .u8) b3)⟩,some ⟨1,true,[[.ptr 0 0 0]]⟩,some ⟨26,false,[(e9.enc m)]⟩,some ⟨1,true,[[(f5 7 (List.map e9.enc b7))]]⟩,some ⟨26,false,(List.map e9.enc b7)⟩]) (caps1:= [.iptr 1 [[.sl false 1 (List.map (d7 .i64) nodes)]] 0 0]) (caps:= [.iptr 1 [[.sl false 1 (List.map (d7 .i64) nodes)]] 0 0]) (sub1:= []) (sub:= []) J1 h (by kernel_rfl) ⟨rfl,rfl⟩ (by kernel_rfl) (by kernel_rfl) ok1 (fun y1 h1 h=> ?_)
 obtain rfl:=Option.some.inj h
 exact ha
theorem bh5 {nodes:List Int}{m:e9}{state:d9}{c:d8}{index fuse:Int}{down:Bool}{b2 b3:List Int}{m2:e9}{b7 r:List e9}{x:u5⊕(List e9)} (h:W6 nodes m state c index fuse down b2 b3 m2 b7=some x) (ha:z8 (J4 nodes m state c index fuse down b2 b3) r x):L7 E (Cx.of Tryz.f63 true 4) (QW (Rs (z6 state c index fuse down b2 b3) r)) 7 (r5 [1,1,0,1,0]) [.blk 0,.code (r5 [1,1,1])] [(3,.ptr 4 0 0),(5,.ptr 5 0 0),(7,.ptr 6 0 0),(9,.fn 116 [] [.iptr 1 [[.sl false 1 (List.map (d7 .i64) nodes)]] 0 0])] [] [] ([]) [some ⟨88,true,[(d9.l state (d8.l c [.int .i64 index,.ptr 1 0 0]))]⟩,some ⟨4,true,[[(f5 2 (List.map (d7 .u8) b2)),(f5 3 (List.map (d7 .u8) b3)),.int .i64 fuse,.bool down]]⟩,some ⟨1,false,(List.map (d7 .u8) b2)⟩,some ⟨1,false,(List.map (d7 .u8) b3)⟩,some ⟨1,true,[[.ptr 0 0 0]]⟩,some ⟨26,false,[(e9.enc m2)]⟩,some ⟨1,true,[[(f5 7 (List.map e9.enc b7))]]⟩,some ⟨26,false,(List.map e9.enc b7)⟩]:=by
 unfold W6 at h
 refine ba8 ?_
 exact ztP 8 h ha
theorem bi2 {nodes:List Int}{m:e9}{state:d9}{c:d8}{index fuse:Int}{down:Bool}{b2 b3:List Int}{m2:e9}{b7:List e9}{y:Int}{Y:List Int}{r:List e9}{x:u5⊕(List e9)} (h:W0 nodes m state c index fuse down b2 b3 m2 b7 y Y=some x) (ha:z8 (J4 nodes m state c index fuse down b2 b3) r x):L7 E (Cx.of Tryz.f63 true 4) (QW (Rs (z6 state c index fuse down b2 b3) r)) 7 (r5 [1,1,0,1,0]) [.blk 0,.code (r5 [1,1,1])] [(3,.ptr 4 0 0),(5,.ptr 5 0 0),(7,.ptr 6 0 0),(9,.fn 116 [] [.iptr 1 [[.sl false 1 (List.map (d7 .i64) nodes)]] 0 0])] [] [] (J1 y::List.map J1 Y) [some ⟨88,true,[(d9.l state (d8.l c [.int .i64 index,.ptr 1 0 0]))]⟩,some ⟨4,true,[[(f5 2 (List.map (d7 .u8) b2)),(f5 3 (List.map (d7 .u8) b3)),.int .i64 fuse,.bool down]]⟩,some ⟨1,false,(List.map (d7 .u8) b2)⟩,some ⟨1,false,(List.map (d7 .u8) b3)⟩,some ⟨1,true,[[.ptr 0 0 0]]⟩,some ⟨26,false,[(e9.enc m2)]⟩,some ⟨1,true,[[(f5 7 (List.map e9.enc b7))]]⟩,some ⟨26,false,(List.map e9.enc b7)⟩]:=by
 unfold W0 at h
 refine aP1 ?_
 refine zd 7 [] h (fun _=>T0) fun y1 h=> ?_
 refine zn 12 h fun h=> ?_
 refine za 0 e9.enc b7 ([(⟨m2.Kind,y1,y,m2.Epoch,m2.Ballot,m2.Accepted,m2.Nonce,m2.Time,m2.Up,m2.Code,m2.HasPlan,m2.Plan,m2.ID,m2.Session,m2.Payload⟩:e9)]) ?_
 refine l8 hm 6 _ ?_
 obtain rfl:=Option.some.inj h
 exact aI4 [] (s1:= [some ⟨88,true,[(d9.l state (d8.l c [.int .i64 index,.ptr 1 0 0]))]⟩,some ⟨4,true,[[(f5 2 (List.map (d7 .u8) b2)),(f5 3 (List.map (d7 .u8) b3)),.int .i64 fuse,.bool down]]⟩,some ⟨1,false,(List.map (d7 .u8) b2)⟩,some ⟨1,false,(List.map (d7 .u8) b3)⟩,some ⟨1,true,[[.ptr 0 0 0]]⟩,some ⟨26,false,[(.int .i64 m2.Kind:: .int .i64 y1:: .int .i64 y:: .int .i64 m2.Epoch:: .int .i64 m2.Ballot:: .int .i64 m2.Accepted:: .int .i64 m2.Nonce:: .int .i64 m2.Time:: .int .u64 m2.Up:: .int .i64 m2.Code:: .bool m2.HasPlan::Plan.l m2.Plan [.sl false 1 (List.map (d7 .i64) m2.ID),.sl false 1 (List.map (d7 .u8) m2.Session),.sl false 1 (List.map (d7 .u8) m2.Payload)])]⟩,some ⟨1,true,[[.msl 7 0 ((List.map e9.enc (b7++ [(⟨m2.Kind,y1,y,m2.Epoch,m2.Ballot,m2.Accepted,m2.Nonce,m2.Time,m2.Up,m2.Code,m2.HasPlan,m2.Plan,m2.ID,m2.Session,m2.Payload⟩:e9)])).length) ((List.map e9.enc (b7++ [(⟨m2.Kind,y1,y,m2.Epoch,m2.Ballot,m2.Accepted,m2.Nonce,m2.Time,m2.Up,m2.Code,m2.HasPlan,m2.Plan,m2.ID,m2.Session,m2.Payload⟩:e9)])).length) false]]⟩,some ⟨26,false,(List.map e9.enc (b7++ [(⟨m2.Kind,y1,y,m2.Epoch,m2.Ballot,m2.Accepted,m2.Nonce,m2.Time,m2.Up,m2.Code,m2.HasPlan,m2.Plan,m2.ID,m2.Session,m2.Payload⟩:e9)]))⟩]) (s:= [some ⟨88,true,[(d9.l state (d8.l c [.int .i64 index,.ptr 1 0 0]))]⟩,some ⟨4,true,[[(f5 2 (List.map (d7 .u8) b2)),(f5 3 (List.map (d7 .u8) b3)),.int .i64 fuse,.bool down]]⟩,some ⟨1,false,(List.map (d7 .u8) b2)⟩,some ⟨1,false,(List.map (d7 .u8) b3)⟩,some ⟨1,true,[[.ptr 0 0 0]]⟩,some ⟨26,false,[(.int .i64 m2.Kind:: .int .i64 y1:: .int .i64 y:: .int .i64 m2.Epoch:: .int .i64 m2.Ballot:: .int .i64 m2.Accepted:: .int .i64 m2.Nonce:: .int .i64 m2.Time:: .int .u64 m2.Up:: .int .i64 m2.Code:: .bool m2.HasPlan::Plan.l m2.Plan [.sl false 1 (List.map (d7 .i64) m2.ID),.sl false 1 (List.map (d7 .u8) m2.Session),.sl false 1 (List.map (d7 .u8) m2.Payload)])]⟩,some ⟨1,true,[[.msl 7 0 ((List.map e9.enc (b7++ [(⟨m2.Kind,y1,y,m2.Epoch,m2.Ballot,m2.Accepted,m2.Nonce,m2.Time,m2.Up,m2.Code,m2.HasPlan,m2.Plan,m2.ID,m2.Session,m2.Payload⟩:e9)])).length) ((List.map e9.enc (b7++ [(⟨m2.Kind,y1,y,m2.Epoch,m2.Ballot,m2.Accepted,m2.Nonce,m2.Time,m2.Up,m2.Code,m2.HasPlan,m2.Plan,m2.ID,m2.Session,m2.Payload⟩:e9)])).length) false]]⟩,some ⟨26,false,(List.map e9.enc (b7++ [(⟨m2.Kind,y1,y,m2.Epoch,m2.Ballot,m2.Accepted,m2.Nonce,m2.Time,m2.Up,m2.Code,m2.HasPlan,m2.Plan,m2.ID,m2.Session,m2.Payload⟩:e9)]))⟩]) (by kernel_rfl) (rfl) (by kernel_rfl) ha
theorem bo8 {nodes:List Int}{m:e9}{state:d9}{c:d8}{index fuse:Int}{down:Bool}{b2 b3:List Int}{m2:e9}{b7:List e9}{Y:List Int}{r:List e9}{x:u5⊕(List e9)} (h:Y8 nodes m state c index fuse down b2 b3 m2 b7 Y=some x) (ha:z8 (J4 nodes m state c index fuse down b2 b3) r x):L7 E (Cx.of Tryz.f63 true 4) (QW (Rs (z6 state c index fuse down b2 b3) r)) 7 (r5 [1,1,0,1,0]) [.blk 0,.code (r5 [1,1,1])] [(3,.ptr 4 0 0),(5,.ptr 5 0 0),(7,.ptr 6 0 0),(9,.fn 116 [] [.iptr 1 [[.sl false 1 (List.map (d7 .i64) nodes)]] 0 0])] [] [] (List.map J1 Y) [some ⟨88,true,[(d9.l state (d8.l c [.int .i64 index,.ptr 1 0 0]))]⟩,some ⟨4,true,[[(f5 2 (List.map (d7 .u8) b2)),(f5 3 (List.map (d7 .u8) b3)),.int .i64 fuse,.bool down]]⟩,some ⟨1,false,(List.map (d7 .u8) b2)⟩,some ⟨1,false,(List.map (d7 .u8) b3)⟩,some ⟨1,true,[[.ptr 0 0 0]]⟩,some ⟨26,false,[(e9.enc m2)]⟩,some ⟨1,true,[[(f5 7 (List.map e9.enc b7))]]⟩,some ⟨26,false,(List.map e9.enc b7)⟩]:=by
 cases Y with
 | nil=>exact bh5 h ha
 | cons y Y=>exact bi2 h ha
noncomputable def aw0 (nodes:List Int) (m:e9) (state:d9) (c:d8) (index fuse:Int) (down:Bool) (b2 b3:List Int):Option (List e9):=V6 (G7 nodes m state c index fuse down b2 b3) (.s0)
theorem bv4 {nodes:List Int}{m:e9}{state:d9}{c:d8}{index fuse:Int}{down:Bool}{b2 b3:List Int}{r:List e9} (h:Ev (G7 nodes m state c index fuse down b2 b3) (.s0) r):i0 E 63 [.ptr 0 0 0,.fn 116 [] [.iptr 1 [[.sl false 1 (List.map (d7 .i64) nodes)]] 0 0],.agg (e9.enc m)] [some ⟨88,true,[(d9.l state (d8.l c [.int .i64 index,.ptr 1 0 0]))]⟩,some ⟨4,true,[[(f5 2 (List.map (d7 .u8) b2)),(f5 3 (List.map (d7 .u8) b3)),.int .i64 fuse,.bool down]]⟩,some ⟨1,false,(List.map (d7 .u8) b2)⟩,some ⟨1,false,(List.map (d7 .u8) b3)⟩] (Rs (z6 state c index fuse down b2 b3) r):=
 am9 (m:=(Q1 nodes m state c index fuse down b2 b3) (.s0)) (fn:=Tryz.f63) (by kernel_rfl) (by kernel_rfl) (aZ2 (Pd:=(J4 nodes m state c index fuse down b2 b3)) (fun s x r hs ha=>by
  cases s with
  | s0=>exact bm6 hs ha
  | s1=>exact bk8 hs ha
  | s2=>exact bo8 hs ha) h)
theorem bv2 {nodes:List Int}{m:e9}{state:d9}{c:d8}{index fuse:Int}{down:Bool}{b2 b3:List Int}{r:List e9} (h:aw0 nodes m state c index fuse down b2 b3=some r):i0 E 63 [.ptr 0 0 0,.fn 116 [] [.iptr 1 [[.sl false 1 (List.map (d7 .i64) nodes)]] 0 0],.agg (e9.enc m)] [some ⟨88,true,[(d9.l state (d8.l c [.int .i64 index,.ptr 1 0 0]))]⟩,some ⟨4,true,[[(f5 2 (List.map (d7 .u8) b2)),(f5 3 (List.map (d7 .u8) b3)),.int .i64 fuse,.bool down]]⟩,some ⟨1,false,(List.map (d7 .u8) b2)⟩,some ⟨1,false,(List.map (d7 .u8) b3)⟩] (Rs (z6 state c index fuse down b2 b3) r):=bv4 (bd0 h)
end Go.RX.L

namespace Go.RX.L
open Go Go.RX Go.Proofs
attribute [local irreducible] f6
noncomputable def cS4 (y:Bool):D×f4:=(.bool y,[])
noncomputable def aU0 (p_:Plan) (target:Int):Option Bool:=(bif (decide ((target:Int)≥0)) then (bif ((target:Int)==p_.Target) then (some true) else (bif ((target:Int)==p_.Prev) then (bif (decide ((p_.Percent:Int)<100)) then (some true) else (some ((target:Int)==p_.Spill))) else (some ((target:Int)==p_.Spill)))) else (some false))
theorem cL0 {p_:Plan}{target:Int}{r:Bool} (h:aU0 p_ target=some r):i0 E 83 [.agg (Plan.enc p_),.int .i64 target] [] (Rs cS4 r):=so (fn:=Tryz.f83) (k:=false) (m:=0) h<| by
 intro r h;unfold aU0 at h
 refine zs 11 h (fun h=> ?_) fun h=> ?_
 ·
  refine zs 10 h (fun h=> ?_) fun h=> ?_
  ·
   exact zu 34 h
  refine zs 10 h (fun h=> ?_) fun h=> ?_
  ·
   refine zs 14 h (fun h=> ?_) fun h=> ?_
   ·
    exact zu 14 h
   exact zu 15 h
  exact zu 29 h
 exact zu 32 h
end Go.RX.L

namespace Go.RX.L
open Go Go.RX Go.Proofs
attribute [local irreducible] f6
noncomputable def cl0 (y:i7):D×f4:=(.agg (i7.enc y),[])
noncomputable def aH9 (epoch ballot:Int) (own:Plan):Option i7:=(some (⟨epoch,ballot,1,(⟨epoch,own.Target,own.Prev,own.Spill,own.Percent,own.Stamp,own.Since,own.Ramped,own.Up,own.Sup,own.Pen,own.Changes⟩:Plan),0,(⟨0,0,0,0,0,0,0,0,0,0,[],[]⟩:Plan),0,0⟩:i7))
theorem cc2 {epoch ballot:Int}{own:Plan}{r:i7} (h:aH9 epoch ballot own=some r):i0 E 82 [.int .i64 epoch,.int .i64 ballot,.agg (Plan.enc own)] [] (Rs cl0 r):=so (fn:=Tryz.f82) (k:=false) (m:=0) h<| by
 intro r h;unfold aH9 at h
 exact zu 26 h [.slot 0 [some 1,some 1]]
end Go.RX.L

namespace Go.RX.L
open Go Go.RX Go.Proofs
attribute [local irreducible] f6
noncomputable def cn5 (y:List Int):D×f4:=(.fn 116 [] [.iptr 1 [[.sl false 1 (List.map (d7 .i64) y)]] 0 0],[])
noncomputable def aN0 (s_:List Int):Option (List Int):=(some s_)
theorem cl8 {s_ r:List Int} (h:aN0 s_=some r):i0 E 84 [.sl false 1 (List.map (d7 .i64) s_)] [] (Rs cn5 r):=so (fn:=Tryz.f84) (k:=false) (m:=0) h<| by
 intro r h;unfold aN0 at h
 exact zu 11 h
end Go.RX.L

namespace Go.RX.L
open Go Go.RX Go.Proofs
attribute [local irreducible] f6
noncomputable def t0:=p8 (q0 Tryz.f52)
noncomputable def bk2 (c:d8) (index fuse:Int) (down:Bool) (b2 b3:List Int) (y:(List e9)×d9):D×f4:=(.sl false 26 (List.map e9.enc y.1),[some ⟨88,true,[(d9.l y.2 (d8.l c [.int .i64 index,.ptr 1 0 0]))]⟩,some ⟨4,true,[[(f5 2 (List.map (d7 .u8) b2)),(f5 3 (List.map (d7 .u8) b3)),.int .i64 fuse,.bool down]]⟩,some ⟨1,false,(List.map (d7 .u8) b2)⟩,some ⟨1,false,(List.map (d7 .u8) b3)⟩])
inductive C8 where
 | s0
 | s1 (t42:Bool)
 | s3 (change t105:Bool) (next:Plan)
 | s2 (change:Bool) (b t154 t155:Int) (state2:d9) (named open_:List Int)
 | s4 (change:Bool) (b:Int) (open_:List Int) (state2:d9) (named:List Int)
 | s7 (b:Int) (open_:List Int) (state2:d9) (named:List Int) (out:List e9)
 | s6 (t220:Bool) (state2:d9) (out:List e9) (ask:e9)
 | s5 (state2:d9) (out:List e9) (ask:e9)
noncomputable def bi9 (now:Int) (state:d9) (c:d8) (index fuse:Int) (down:Bool) (b2 b3:List Int):C8→M
 | .s0=>A5 Tryz.f52 [.ptr 0 0 0,.int .i64 now] [some ⟨88,true,[(d9.l state (d8.l c [.int .i64 index,.ptr 1 0 0]))]⟩,some ⟨4,true,[[(f5 2 (List.map (d7 .u8) b2)),(f5 3 (List.map (d7 .u8) b3)),.int .i64 fuse,.bool down]]⟩,some ⟨1,false,(List.map (d7 .u8) b2)⟩,some ⟨1,false,(List.map (d7 .u8) b3)⟩]
 | .s1 t42=>⟨[.code (t0 [1,0,1]),.code (t0 [1,1])],[(0,.ptr 0 0 0),(1,.int .i64 now),(42,.bool t42)],[some ⟨88,true,[(d9.l state (d8.l c [.int .i64 index,.ptr 1 0 0]))]⟩,some ⟨4,true,[[(f5 2 (List.map (d7 .u8) b2)),(f5 3 (List.map (d7 .u8) b3)),.int .i64 fuse,.bool down]]⟩,some ⟨1,false,(List.map (d7 .u8) b2)⟩,some ⟨1,false,(List.map (d7 .u8) b3)⟩]⟩
 | .s3 change t105 next=>⟨[.code (t0 [1,1,1,1,1,0,1]),.code (t0 [1,1,1,1,1,1])],[(0,.ptr 0 0 0),(1,.int .i64 now),(5,.ptr 4 0 0),(7,.bool change),(105,.bool t105)],[some ⟨88,true,[(d9.l state (d8.l c [.int .i64 index,.ptr 1 0 0]))]⟩,some ⟨4,true,[[(f5 2 (List.map (d7 .u8) b2)),(f5 3 (List.map (d7 .u8) b3)),.int .i64 fuse,.bool down]]⟩,some ⟨1,false,(List.map (d7 .u8) b2)⟩,some ⟨1,false,(List.map (d7 .u8) b3)⟩,some ⟨12,false,[(Plan.enc next)]⟩]⟩
 | .s2 change b t154 t155 state2 named open_=>⟨[.lpc (t0 [1,1,1,1,1,1,1,1,1,1,0,1,0,0]) 68507889249886074290797726533575766546371841409,.blk 0,.code (t0 [1,1,1,1,1,1,1,1,1,1,1])],[(0,.ptr 0 0 0),(7,.bool change),(8,.int .i64 b),(10,(f5 4 (List.map (d7 .i64) named))),(11,(f5 5 (List.map (d7 .i64) open_))),(154,.int .i64 t154),(155,.int .i64 t155)],[some ⟨88,true,[(d9.l state2 (d8.l c [.int .i64 index,.ptr 1 0 0]))]⟩,some ⟨4,true,[[(f5 2 (List.map (d7 .u8) b2)),(f5 3 (List.map (d7 .u8) b3)),.int .i64 fuse,.bool down]]⟩,some ⟨1,false,(List.map (d7 .u8) b2)⟩,some ⟨1,false,(List.map (d7 .u8) b3)⟩,some ⟨1,false,(List.map (d7 .i64) named)⟩,some ⟨1,false,(List.map (d7 .i64) open_)⟩]⟩
 | .s4 change b open_ state2 named=>⟨[.code (t0 [1,1,1,1,1,1,1,1,1,1,1])],[(0,.ptr 0 0 0),(7,.bool change),(8,.int .i64 b),(10,(f5 4 (List.map (d7 .i64) named))),(11,.sl false 1 (List.map (d7 .i64) open_))],[some ⟨88,true,[(d9.l state2 (d8.l c [.int .i64 index,.ptr 1 0 0]))]⟩,some ⟨4,true,[[(f5 2 (List.map (d7 .u8) b2)),(f5 3 (List.map (d7 .u8) b3)),.int .i64 fuse,.bool down]]⟩,some ⟨1,false,(List.map (d7 .u8) b2)⟩,some ⟨1,false,(List.map (d7 .u8) b3)⟩,some ⟨1,false,(List.map (d7 .i64) named)⟩]⟩
 | .s7 b open_ state2 named out=>⟨[.code (t0 [1,1,1,1,1,1,1,1,1,1,1,1,1])],[(0,.ptr 0 0 0),(8,.int .i64 b),(10,(f5 4 (List.map (d7 .i64) named))),(11,.sl false 1 (List.map (d7 .i64) open_)),(13,(f5 5 (List.map e9.enc out)))],[some ⟨88,true,[(d9.l state2 (d8.l c [.int .i64 index,.ptr 1 0 0]))]⟩,some ⟨4,true,[[(f5 2 (List.map (d7 .u8) b2)),(f5 3 (List.map (d7 .u8) b3)),.int .i64 fuse,.bool down]]⟩,some ⟨1,false,(List.map (d7 .u8) b2)⟩,some ⟨1,false,(List.map (d7 .u8) b3)⟩,some ⟨1,false,(List.map (d7 .i64) named)⟩,some ⟨26,false,(List.map e9.enc out)⟩]⟩
 | .s6 t220 state2 out ask=>⟨[.code (t0 [1,1,1,1,1,1,1,1,1,1,1,1,1,1,0,1]),.code (t0 [1,1,1,1,1,1,1,1,1,1,1,1,1,1,1])],[(0,.ptr 0 0 0),(13,(f5 4 (List.map e9.enc out))),(14,.ptr 5 0 0),(220,.bool t220)],[some ⟨88,true,[(d9.l state2 (d8.l c [.int .i64 index,.ptr 1 0 0]))]⟩,some ⟨4,true,[[(f5 2 (List.map (d7 .u8) b2)),(f5 3 (List.map (d7 .u8) b3)),.int .i64 fuse,.bool down]]⟩,some ⟨1,false,(List.map (d7 .u8) b2)⟩,some ⟨1,false,(List.map (d7 .u8) b3)⟩,some ⟨26,false,(List.map e9.enc out)⟩,some ⟨26,false,[(e9.enc ask)]⟩]⟩
 | .s5 state2 out ask=>⟨[.code (t0 [1,1,1,1,1,1,1,1,1,1,1,1,1,1,1])],[(0,.ptr 0 0 0),(13,(f5 4 (List.map e9.enc out))),(14,.ptr 5 0 0)],[some ⟨88,true,[(d9.l state2 (d8.l c [.int .i64 index,.ptr 1 0 0]))]⟩,some ⟨4,true,[[(f5 2 (List.map (d7 .u8) b2)),(f5 3 (List.map (d7 .u8) b3)),.int .i64 fuse,.bool down]]⟩,some ⟨1,false,(List.map (d7 .u8) b2)⟩,some ⟨1,false,(List.map (d7 .u8) b3)⟩,some ⟨26,false,(List.map e9.enc out)⟩,some ⟨26,false,[(e9.enc ask)]⟩]⟩
abbrev L1 (now:Int) (state:d9) (c:d8) (index fuse:Int) (down:Bool) (b2 b3:List Int):=SOk E (Cx.of Tryz.f52 true 4) (bk2 c index fuse down b2 b3) (bi9 now state c index fuse down b2 b3)
noncomputable def af2 (now:Int) (state:d9) (c:d8) (index fuse:Int) (down:Bool) (b2 b3:List Int):Option (C8⊕((List e9)×d9)):=((am3 now state c index fuse down b2 b3).bind fun y1=>(bif (!y1) then (some (.inl (.s1 true))) else (bif ((state.prop.Phase:Int) !=0) then (some (.inl (.s1 (decide (((IntKind.i64.wrap (now-state.made)):Int)<c.Retry))))) else (some (.inl (.s1 false))))))
noncomputable def af1 (now:Int) (state:d9) (c:d8) (index fuse:Int) (down:Bool) (b2 b3:List Int) (t42:Bool):Option (C8⊕((List e9)×d9)):=(bif t42 then (some (.inr ([],state))) else ((bb4 state.votes c.Observers now c.Fresh).bind fun y2=>((ap1 c state.known y2 now).bind fun y3=>(bif (!y3.2) then (some (.inr ([],(⟨state.boot,state.known,state.heard,state.votes,state.hold,state.asked,(⟨0,0,0,(⟨0,0,0,0,0,0,0,0,0,0,[],[]⟩:Plan),0,(⟨0,0,0,0,0,0,0,0,0,0,[],[]⟩:Plan),0,0⟩:i7),state.made,state.top,state.sealed,state.told⟩:d9)))) else (bif ((y3.1.Target:Int) !=state.known.Target) then (some (.inl (.s3 ((y3.1.Target:Int) !=state.known.Target) (decide (((IntKind.i64.wrap (now-state.heard)):Int)<c.D_)) y3.1))) else (some (.inl (.s3 ((y3.1.Target:Int) !=state.known.Target) false y3.1))))))))
noncomputable def ae4 (now:Int) (state:d9) (c:d8) (index fuse:Int) (down:Bool) (b2 b3:List Int) (change t105:Bool) (next:Plan):Option (C8⊕((List e9)×d9)):=(bif t105 then (some (.inr ([],state))) else ((aM1 state.top state.boot index).bind fun y2=>(bif ((y2.2:Int) !=0) then (some (.inr ([],state))) else ((aH9 (IntKind.i64.wrap (state.known.Epoch+1)) y2.1 next).bind fun y4=>(some (.inl (.s2 change y2.1 c.Targets 0 (⟨state.boot,state.known,state.heard,state.votes,state.hold,state.asked,y4,now,y2.1,state.sealed,state.told⟩:d9) ([]) ([]))))))))
noncomputable def O4 (now:Int) (state:d9) (c:d8) (index fuse:Int) (down:Bool) (b2 b3:List Int) (change:Bool) (b t154 t155:Int) (state2:d9) (named open_:List Int):Option (C8⊕((List e9)×d9)):=(bif (decide ((t155:Int)<t154)) then ((aU0 state2.known t155).bind fun y2=>(bif y2 then (bif (decide (((List.map (d7 .i64) named).length+1)*8≤i6)) then (bif (!decide ((t155:Int)<0)) then (bif (((l6 .u64 (n4 .u64 state2.sealed t155) 1):Int)==0) then ((Y0 c t155).bind fun y7=>(bif (decide (((List.map (d7 .i64) open_).length+1)*8≤i6)) then (some (.inl (.s2 change b t154 (IntKind.i64.wrap (t155+1)) state2 (named++ [t155]) (open_++ [y7])))) else none)) else (some (.inl (.s2 change b t154 (IntKind.i64.wrap (t155+1)) state2 (named++ [t155]) open_)))) else none) else none) else (some (.inl (.s2 change b t154 (IntKind.i64.wrap (t155+1)) state2 named open_))))) else (some (.inl (.s4 change b open_ state2 named))))
noncomputable def aq5 (now:Int) (state:d9) (c:d8) (index fuse:Int) (down:Bool) (b2 b3:List Int) (change:Bool) (b:Int) (open_:List Int) (state2:d9) (named:List Int):Option (C8⊕((List e9)×d9)):=(bif change then ((aN0 open_).bind fun y2=>((aw0 y2 (⟨12,0,0,state2.prop.Epoch,0,0,0,0,0,0,false,(⟨0,0,0,0,0,0,0,0,0,0,[],[]⟩:Plan),[],[],[]⟩:e9) state2 c index fuse down b2 b3).bind fun y3=>(some (.inl (.s7 b open_ state2 named y3))))) else (some (.inl (.s7 b open_ state2 named ([])))))
noncomputable def aq9 (now:Int) (state:d9) (c:d8) (index fuse:Int) (down:Bool) (b2 b3:List Int) (b:Int) (open_:List Int) (state2:d9) (named:List Int) (out:List e9):Option (C8⊕((List e9)×d9)):=(bif (decide (((((List.map (d7 .i64) named).length:Nat):Int):Int)>0)) then (some (.inl (.s6 (((((List.map (d7 .i64) open_).length:Nat):Int):Int)==0) state2 out (⟨4,0,0,state2.prop.Epoch,b,0,0,0,0,0,true,state2.known,[],[],[]⟩:e9)))) else (some (.inl (.s6 false state2 out (⟨4,0,0,state2.prop.Epoch,b,0,0,0,0,0,true,state2.known,[],[],[]⟩:e9)))))
noncomputable def aJ5 (now:Int) (state:d9) (c:d8) (index fuse:Int) (down:Bool) (b2 b3:List Int) (t220:Bool) (state2:d9) (out:List e9) (ask:e9):Option (C8⊕((List e9)×d9)):=(bif t220 then (some (.inl (.s5 state2 out (⟨ask.Kind,ask.From,ask.To,ask.Epoch,ask.Ballot,ask.Accepted,ask.Nonce,ask.Time,ask.Up,1,ask.HasPlan,ask.Plan,ask.ID,ask.Session,ask.Payload⟩:e9)))) else (some (.inl (.s5 state2 out ask))))
noncomputable def aq7 (now:Int) (state:d9) (c:d8) (index fuse:Int) (down:Bool) (b2 b3:List Int) (state2:d9) (out:List e9) (ask:e9):Option (C8⊕((List e9)×d9)):=((K8 state2 c index fuse down b2 b3).bind fun y1=>((J5 ask state2 c index fuse down b2 b3).bind fun y2=>(bif (decide (((List.map e9.enc out).length+(List.take ((List.map e9.enc y2).length) (List.drop 0 (List.map e9.enc y2))).length)*288≤i6)) then (some (.inr ((out++y2),state2))) else none)))
noncomputable def n9 (now:Int) (state:d9) (c:d8) (index fuse:Int) (down:Bool) (b2 b3:List Int):C8→Option (C8⊕((List e9)×d9))
 | .s0=>af2 now state c index fuse down b2 b3
 | .s1 t42=>af1 now state c index fuse down b2 b3 t42
 | .s3 change t105 next=>ae4 now state c index fuse down b2 b3 change t105 next
 | .s2 change b t154 t155 state2 named open_=>O4 now state c index fuse down b2 b3 change b t154 t155 state2 named open_
 | .s4 change b open_ state2 named=>aq5 now state c index fuse down b2 b3 change b open_ state2 named
 | .s7 b open_ state2 named out=>aq9 now state c index fuse down b2 b3 b open_ state2 named out
 | .s6 t220 state2 out ask=>aJ5 now state c index fuse down b2 b3 t220 state2 out ask
 | .s5 state2 out ask=>aq7 now state c index fuse down b2 b3 state2 out ask
theorem bI6 {now state c index fuse down b2 b3}:L1 now state c index fuse down b2 b3 .s0 (af2 now state c index fuse down b2 b3):=by
 intro r x h ha;unfold af2 at h
 refine zdR 7 [] h (fun _=>bq9) fun y1 h=> ?_
 refine zs 0 h (fun h=> ?_) fun h=> ?_
 ·
  exact zk 9 h ha
 refine zs 8 h (fun h=> ?_) fun h=> ?_
 ·
  exact zk 17 h ha
 exact zk 15 h ha
theorem bM4 {now state c index fuse down b2 b3 t42}:L1 now state c index fuse down b2 b3 (.s1 t42) (af1 now state c index fuse down b2 b3 t42):=by
 intro r x h ha;unfold af1 at h
 refine zs 1 h (fun h=> ?_) fun h=> ?_
 ·
  exact zt 5 h ha [.slot 0 [some 26]]
 refine zd 8 [] h (fun _=>cz5) fun y2 h=> ?_
 refine zd 0 [] h (fun _=>cC1) fun y3 h=> ?_
 refine zs 9 h (fun h=> ?_) fun h=> ?_
 ·
  refine zf 15 [.blk 0 [some 1,some 1,some 1,some 1]] ?_
  exact zt 1 h ha [.slot 0 [some 26]]
 refine zs 8 h (fun h=> ?_) fun h=> ?_
 ·
  exact zk 15 h ha
 exact zk 13 h ha
theorem bG3 {now state c index fuse down b2 b3 change t105 next}:L1 now state c index fuse down b2 b3 (.s3 change t105 next) (ae4 now state c index fuse down b2 b3 change t105 next):=by
 intro r x h ha;unfold ae4 at h
 refine zs 1 h (fun h=> ?_) fun h=> ?_
 ·
  exact zt 5 h ha [.slot 0 [some 26]]
 refine zd 6 [] h (fun _=>cw8) fun y2 h=> ?_
 refine zs 7 h (fun h=> ?_) fun h=> ?_
 ·
  exact zt 5 h ha [.slot 0 [some 26]]
 refine zd 5 [] h (fun _=>cc2) fun y4 h=> ?_
 refine l8 hm 25 _ ?_
 obtain rfl:=Option.some.inj h
 refine am7 68507889249886074290797726533575766546371841409 [.mat 10 1,.mat 11 1] (m' :=⟨[.lpc (t0 [1,1,1,1,1,1,1,1,1,1,0,1,0,0]) 68507889249886074290797726533575766546371841409,.blk 0,.code (t0 [1,1,1,1,1,1,1,1,1,1,1])],[(0,.ptr 0 0 0),(7,.bool change),(8,.int .i64 y2.1),(10,.msl 4 0 0 0 false),(11,.msl 5 0 0 0 false),(154,.int .i64 c.Targets),(155,.int .i64 0)],[some ⟨88,true,[(.int .i64 state.boot::Plan.l state.known (.int .i64 state.heard:: .sl false 3 (List.map i8.enc state.votes)::p5.l state.hold (.bool state.asked.ever:: .int .i64 state.asked.at_::i7.l y4 (.int .i64 now:: .int .i64 y2.1:: .int .u64 state.sealed:: .bool state.told.ever:: .int .i64 state.told.at_::d8.l c [.int .i64 index,.ptr 1 0 0]))))]⟩,some ⟨4,true,[[(f5 2 (List.map (d7 .u8) b2)),(f5 3 (List.map (d7 .u8) b3)),.int .i64 fuse,.bool down]]⟩,some ⟨1,false,(List.map (d7 .u8) b2)⟩,some ⟨1,false,(List.map (d7 .u8) b3)⟩,some ⟨1,false,[]⟩,some ⟨1,false,[]⟩]⟩) (by kernel_rfl) ?_
 refine Z2 (n1:=0) (n2:=(List.map (d7 .i64) ([])).length) (fun n_len=> .go ⟨[.lpc (t0 [1,1,1,1,1,1,1,1,1,1,0,1,0,0]) 68507889249886074290797726533575766546371841409,.blk 0,.code (t0 [1,1,1,1,1,1,1,1,1,1,1])],[(0,.ptr 0 0 0),(7,.bool change),(8,.int .i64 y2.1),(10,.msl 4 0 n_len n_len false),(11,.msl 5 0 0 0 false),(154,.int .i64 c.Targets),(155,.int .i64 0)],[some ⟨88,true,[(.int .i64 state.boot::Plan.l state.known (.int .i64 state.heard:: .sl false 3 (List.map i8.enc state.votes)::p5.l state.hold (.bool state.asked.ever:: .int .i64 state.asked.at_::i7.l y4 (.int .i64 now:: .int .i64 y2.1:: .int .u64 state.sealed:: .bool state.told.ever:: .int .i64 state.told.at_::d8.l c [.int .i64 index,.ptr 1 0 0]))))]⟩,some ⟨4,true,[[(f5 2 (List.map (d7 .u8) b2)),(f5 3 (List.map (d7 .u8) b3)),.int .i64 fuse,.bool down]]⟩,some ⟨1,false,(List.map (d7 .u8) b2)⟩,some ⟨1,false,(List.map (d7 .u8) b3)⟩,some ⟨1,false,[]⟩,some ⟨1,false,[]⟩]⟩) (by simp) ?_
 refine Z2 (n1:=0) (n2:=(List.map (d7 .i64) ([])).length) (fun n_len=> .go ⟨[.lpc (t0 [1,1,1,1,1,1,1,1,1,1,0,1,0,0]) 68507889249886074290797726533575766546371841409,.blk 0,.code (t0 [1,1,1,1,1,1,1,1,1,1,1])],[(0,.ptr 0 0 0),(7,.bool change),(8,.int .i64 y2.1),(10,.msl 4 0 ((List.map (d7 .i64) ([])).length) ((List.map (d7 .i64) ([])).length) false),(11,.msl 5 0 n_len n_len false),(154,.int .i64 c.Targets),(155,.int .i64 0)],[some ⟨88,true,[(.int .i64 state.boot::Plan.l state.known (.int .i64 state.heard:: .sl false 3 (List.map i8.enc state.votes)::p5.l state.hold (.bool state.asked.ever:: .int .i64 state.asked.at_::i7.l y4 (.int .i64 now:: .int .i64 y2.1:: .int .u64 state.sealed:: .bool state.told.ever:: .int .i64 state.told.at_::d8.l c [.int .i64 index,.ptr 1 0 0]))))]⟩,some ⟨4,true,[[(f5 2 (List.map (d7 .u8) b2)),(f5 3 (List.map (d7 .u8) b3)),.int .i64 fuse,.bool down]]⟩,some ⟨1,false,(List.map (d7 .u8) b2)⟩,some ⟨1,false,(List.map (d7 .u8) b3)⟩,some ⟨1,false,[]⟩,some ⟨1,false,[]⟩]⟩) (by simp) ?_
 exact ha
theorem bL1 {now state c index fuse down b2 b3 change b t154 t155 state2 named open_}:L1 now state c index fuse down b2 b3 (.s2 change b t154 t155 state2 named open_) (O4 now state c index fuse down b2 b3 change b t154 t155 state2 named open_):=by
 intro r x h ha;unfold O4 at h
 refine zs 7 h (fun h=> ?_) fun h=> ?_
 ·
  refine zc 18 [] h (fun _=>cL0) fun y2 h=> ?_
  refine zs 2 h (fun h=> ?_) fun h=> ?_
  ·
   refine zn 7 h fun h=> ?_
   refine za 0 (d7 .i64) named ([t155]) ?_
   refine zn 12 h fun h=> ?_
   refine zs 4 h (fun h=> ?_) fun h=> ?_
   ·
    refine zc 9 [] h (fun _=>aJ4) fun y7 h=> ?_
    refine zn 3 h fun h=> ?_
    refine za 0 (d7 .i64) open_ ([y7]) ?_
    exact zj 8 h ha
   exact zj 7 h ha
  exact zj 7 h ha
 refine l8 hm 1 _ ?_
 refine bZ9 11 (n1:=(0+(List.map (d7 .i64) open_).length)) (n2:=((List.map (d7 .i64) open_).length)) (raw:=(List.take ((List.map (d7 .i64) open_).length) (List.drop 0 (List.map (d7 .i64) open_)))) (rs:=(List.map (d7 .i64) open_)) (by kernel_rfl) (v6 _) (by simp only [z9,E5,List.map_take,List.map_drop]) ?_
 exact zk 0 h ha
theorem bH0 {now state c index fuse down b2 b3 change b open_ state2 named}:L1 now state c index fuse down b2 b3 (.s4 change b open_ state2 named) (aq5 now state c index fuse down b2 b3 change b open_ state2 named):=by
 intro r x h ha;unfold aq5 at h
 refine zs 10 h (fun h=> ?_) fun h=> ?_
 ·
  refine zd 1 [] h (fun _=>cl8) fun y2 h=> ?_
  refine zc 1 [some 1,some 1,some 1,some 1,some 1] h (fun _=>bv2) fun y3 h=> ?_
  exact zk 0 h ha
 refine l8 hm 1 _ ?_
 obtain rfl:=Option.some.inj h
 refine am7 11521 [.mat 13 26] (m' :=⟨[.code (t0 [1,1,1,1,1,1,1,1,1,1,1,1,1])],[(0,.ptr 0 0 0),(8,.int .i64 b),(10,(f5 4 (List.map (d7 .i64) named))),(11,.sl false 1 (List.map (d7 .i64) open_)),(13,.msl 5 0 0 0 false)],[some ⟨88,true,[(d9.l state2 (d8.l c [.int .i64 index,.ptr 1 0 0]))]⟩,some ⟨4,true,[[(f5 2 (List.map (d7 .u8) b2)),(f5 3 (List.map (d7 .u8) b3)),.int .i64 fuse,.bool down]]⟩,some ⟨1,false,(List.map (d7 .u8) b2)⟩,some ⟨1,false,(List.map (d7 .u8) b3)⟩,some ⟨1,false,(List.map (d7 .i64) named)⟩,some ⟨26,false,[]⟩]⟩) (by kernel_rfl) ?_
 refine Z2 (n1:=0) (n2:=(List.map e9.enc ([])).length) (fun n_len=> .go ⟨[.code (t0 [1,1,1,1,1,1,1,1,1,1,1,1,1])],[(0,.ptr 0 0 0),(8,.int .i64 b),(10,(f5 4 (List.map (d7 .i64) named))),(11,.sl false 1 (List.map (d7 .i64) open_)),(13,.msl 5 0 n_len n_len false)],[some ⟨88,true,[(d9.l state2 (d8.l c [.int .i64 index,.ptr 1 0 0]))]⟩,some ⟨4,true,[[(f5 2 (List.map (d7 .u8) b2)),(f5 3 (List.map (d7 .u8) b3)),.int .i64 fuse,.bool down]]⟩,some ⟨1,false,(List.map (d7 .u8) b2)⟩,some ⟨1,false,(List.map (d7 .u8) b3)⟩,some ⟨1,false,(List.map (d7 .i64) named)⟩,some ⟨26,false,[]⟩]⟩) (by simp) ?_
 exact ha
theorem bK0 {now state c index fuse down b2 b3 b open_ state2 named out}:L1 now state c index fuse down b2 b3 (.s7 b open_ state2 named out) (aq9 now state c index fuse down b2 b3 b open_ state2 named out):=by
 intro r x h ha;unfold aq9 at h
 refine zs 14 h (fun h=> ?_) fun h=> ?_
 ·
  exact zk 7 h ha [.blk 6 [some 1,some 1,some 1]]
 exact zk 7 h ha [.blk 6 [some 1,some 1,some 1]]
theorem bI2 {now state c index fuse down b2 b3 t220 state2 out ask}:L1 now state c index fuse down b2 b3 (.s6 t220 state2 out ask) (aJ5 now state c index fuse down b2 b3 t220 state2 out ask):=by
 intro r x h ha;unfold aJ5 at h
 refine zs 1 h (fun h=> ?_) fun h=> ?_
 ·
  exact zk 6 h ha
 exact zk 1 h ha
theorem bI7 {now state c index fuse down b2 b3 state2 out ask}:L1 now state c index fuse down b2 b3 (.s5 state2 out ask) (aq7 now state c index fuse down b2 b3 state2 out ask):=by
 intro r x h ha;unfold aq7 at h
 refine zdR 2 [] h (fun _=>av8) fun y1 h=> ?_
 refine zc 1 [] h (fun _=>ad5) fun y2 h=> ?_
 refine zm 0 (b:=(Nat.beq ((List.take ((List.map e9.enc y2).length) (List.drop 0 (List.map e9.enc y2))).length) ((List.map e9.enc y2).length))) (by simp) ?_
 refine zn 0 h fun h=> ?_
 refine zm 0 (v6 ((List.map e9.enc out).length)) ?_
 refine zw 0 (a:=(List.take ((List.map e9.enc out).length) (List.drop 0 (List.map e9.enc out))++(List.take ((List.map e9.enc y2).length) (List.drop 0 (List.map e9.enc y2))))) (b:=(List.map e9.enc (out++y2))) (by simp only [z9,E5,List.map_append,List.map_take,List.map_drop]) ?_
 refine bZ9 4 (n1:=(0+(List.map e9.enc (out++y2)).length)) (n2:=((List.map e9.enc (out++y2)).length)) (raw:=(List.take ((List.map e9.enc (out++y2)).length) (List.drop 0 (List.map e9.enc (out++y2))))) (rs:=(List.map e9.enc (out++y2))) (by kernel_rfl) (v6 _) (by simp only [z9,E5,List.map_take,List.map_drop]) ?_
 exact zt 1 h ha
noncomputable def an9 (now:Int) (state:d9) (c:d8) (index fuse:Int) (down:Bool) (b2 b3:List Int):Option ((List e9)×d9):=V6 (n9 now state c index fuse down b2 b3) (.s0)
theorem bV4 {now:Int}{state:d9}{c:d8}{index fuse:Int}{down:Bool}{b2 b3:List Int}{r:(List e9)×d9} (h:an9 now state c index fuse down b2 b3=some r):i0 E 52 [.ptr 0 0 0,.int .i64 now] [some ⟨88,true,[(d9.l state (d8.l c [.int .i64 index,.ptr 1 0 0]))]⟩,some ⟨4,true,[[(f5 2 (List.map (d7 .u8) b2)),(f5 3 (List.map (d7 .u8) b3)),.int .i64 fuse,.bool down]]⟩,some ⟨1,false,(List.map (d7 .u8) b2)⟩,some ⟨1,false,(List.map (d7 .u8) b3)⟩] (Rs (bk2 c index fuse down b2 b3) r):=sc (fn:=Tryz.f52) (k:=true) (m:=4) (stM:=(bi9 now state c index fuse down b2 b3)) h fun s=>by
 cases s with
 | s0=>exact bI6
 | s1=>exact bM4
 | s3=>exact bG3
 | s2=>exact bL1
 | s4=>exact bH0
 | s7=>exact bK0
 | s6=>exact bI2
 | s5=>exact bI7
end Go.RX.L

namespace Go.RX.L
open Go Go.RX Go.Proofs
attribute [local irreducible] f6
end Go.RX.L

namespace Go.RX.L
open Go Go.RX
def n6 (c:d8) (i:Int):Int:=2*c.F_+1+i
section
variable {c : d8} (cb : CB c)
include cb
theorem di3:am0 c=some (2*c.F_+1):=by
 have:=cb.f
 simp only [am0]
 rw [u7 (n:=2*c.F_) (by omega) (by omega),u7 (by omega) (by omega)]
theorem ba0 {i:Int} (hi:0≤i∧i≤100):I7 c i=some (n6 c i):=by
 have:=cb.f
 simp only [I7,di3 cb,Option.bind_some,n6]
 rw [u7 (by omega) (by omega)]
theorem cm9 {i:Int} (hi:0≤i∧i≤100):Y0 c i=some (n6 c (c.Deciders+i)):=by
 have:=cb.f;have:=cb.dec
 simp only [Y0,ba0 cb (i:=c.Deciders) (by omega),Option.bind_some,n6]
 rw [u7 (by omega) (by omega)];congr 1;omega
theorem cU3 {i:Int} (hi:0≤i∧i≤100):X4 c i=some (n6 c (c.Deciders+c.Targets+c.Routers+i)):=by
 have:=cb.f;have:=cb.dec;have:=cb.t;have:=cb.rou
 simp only [X4,aJ1,cm9 cb (i:=c.Targets) (by omega),Option.bind_some,n6]
 rw [u7 (n:=2*c.F_+1+(c.Deciders+c.Targets)+c.Routers) (by omega) (by omega),u7 (by omega) (by omega)];congr 1;omega
end
def aA0 (c:d8):Nat:=(c.Deciders+c.Targets+c.Routers).toNat
def aa7 (c:d8):List Int:=(List.range (2*c.F_+1).toNat).map fun (k:Nat)=>(k:Int)
def aA5 (c:d8) (ix:Int) (l:List Nat):List Int:=(l.map fun (k:Nat)=>n6 c k).filter fun n=>n !=n6 c ix
def aV9 (c:d8) (ix:Int):List Int:=aA5 c ix (List.range (aA0 c))
def ftM (m:e9) (f t:Int):e9:=⟨m.Kind,f,t,m.Epoch,m.Ballot,m.Accepted,m.Nonce,m.Time,m.Up,m.Code,m.HasPlan,m.Plan,m.ID,m.Session,m.Payload⟩
def N6 (c:d8) (ix:Int) (m:e9) (l:List Int):List e9:=l.map fun t=>ftM m (n6 c ix) t
theorem wD {k:Nat} (h:k≤3000000):IntKind.i64.wrap ((k:Int)+1)=((k+1:Nat):Int):=by rw [u7 (by omega) (by omega)];norm_cast
theorem aZ8 {c:d8} (cb:CB c):(aa7 c).length≤7:=by have:=cb.f;simp [aa7];omega
theorem cj1 {c:d8} (cb:CB c) (ix:Int):(aV9 c ix).length≤24:=by
 have:=cb.dec;have:=cb.t;have:=cb.rou
 have h:=List.length_filter_le (fun n=>n !=n6 c ix) ((List.range (aA0 c)).map fun (k:Nat)=>n6 c k)
 rw [List.length_map,List.length_range] at h
 unfold aV9 aA5
 unfold aA0 at h
 unfold aA0
 omega
section
variable {c : d8} {ix : Int} {st : d9} {fuse : Int} {down : Bool} {s t : List Int}
theorem du7 (n:Nat) (hn:n≤1000):∀(j k:Nat),k+j=n→EvL H8 (.s1 (n:Int) (k:Int) st c ix fuse down s t) (((List.range n).drop k).map fun (k:Nat)=>(k:Int)):=by
 intro j
 induction j with
 | zero=>
  intro k hk
  rw [List.drop_eq_nil_of_le (by simp;omega)]
  refine .done ?_
  simp only [H8,S7,geB (show n≤k by omega),cond_false,List.map_nil]
 | succ j ih=>
  intro k hk
  have hlt:k<n:=by omega
  rw [List.drop_eq_getElem_cons (by simpa using hlt),List.map_cons,List.getElem_range]
  refine EvL.next (l:= [(k:Int)]) (s' := .s1 (n:Int) ((k+1:Nat):Int) st c ix fuse down s t) ?_ (ih (k+1) (by omega))
  simp only [H8,S7,E7 hlt,cond_true,Option.map_some,wD (show k≤3000000 by omega)]
theorem dS1 (cb:CB c):ak1 st c ix fuse down s t=some (aa7 c):=by
 have:=cb.f
 refine bz9 (EvL.next (l:= []) (s' := .s1 (((2*c.F_+1).toNat:Nat):Int) ((0:Nat):Int) st c ix fuse down s t) ?_ (du7 _ (by omega) (2*c.F_+1).toNat 0 (by omega)))
 simp only [H8,ac3,di3 cb,Option.bind_some]
 rw [show (((2*c.F_+1).toNat:Nat):Int)=2*c.F_+1 by omega];rfl
theorem dq6 (cb:CB c) (hix:0≤ix∧ix≤100):∀(j k:Nat),k+j=aA0 c→EvL H9 (.s1 (n6 c (k:Int)) st c ix fuse down s t) (aA5 c ix ((List.range (aA0 c)).drop k)):=by
 have:=cb.f;have:=cb.dec;have:=cb.t;have:=cb.rou
 have ho:=cU3 cb (i:=0) (by omega)
 have hd:=ba0 cb hix
 have hN:((aA0 c:Nat):Int)=c.Deciders+c.Targets+c.Routers:=by unfold aA0;omega
 intro j
 induction j with
 | zero=>
  intro k hk
  rw [List.drop_eq_nil_of_le (by simp;omega)]
  refine .done ?_
  have:decide (n6 c (k:Int)<n6 c (c.Deciders+c.Targets+c.Routers+0))=false:=decide_eq_false (by unfold n6;omega)
  simp only [H9,S5,ho,Option.bind_some,this,cond_false,aA5,List.map_nil,List.filter_nil]
 | succ j ih=>
  intro k hk
  have hlt:k<aA0 c:=by omega
  have lt:decide (n6 c (k:Int)<n6 c (c.Deciders+c.Targets+c.Routers+0))=true:=decide_eq_true (by unfold n6;omega)
  have w:IntKind.i64.wrap (n6 c (k:Int)+1)=n6 c ((k+1:Nat):Int):=by
   rw [u7 (by unfold n6;omega) (by unfold n6;omega)];unfold n6;omega
  have ih:=ih (k+1) (by omega)
  rw [List.drop_eq_getElem_cons (by simpa using hlt),List.getElem_range]
  by_cases he:n6 c (k:Int)=n6 c ix
  ·have e:(n6 c (k:Int) !=n6 c ix)=false:=by rw [he];simp
   have e2:aA5 c ix (k::(List.range (aA0 c)).drop (k+1))=aA5 c ix ((List.range (aA0 c)).drop (k+1)):=by simp only [aA5,List.map_cons,List.filter_cons,e];simp
   rw [e2]
   refine EvL.next (l:= []) (s' := .s1 (n6 c ((k+1:Nat):Int)) st c ix fuse down s t) ?_ ih
   simp only [H9,S5,ho,hd,Option.bind_some,lt,e,cond_true,cond_false,w]
  ·have e:(n6 c (k:Int) !=n6 c ix)=true:=bne_iff_ne.2 he
   have e2:aA5 c ix (k::(List.range (aA0 c)).drop (k+1))= [n6 c (k:Int)]++aA5 c ix ((List.range (aA0 c)).drop (k+1)):=by simp only [aA5,List.map_cons,List.filter_cons,e];simp
   rw [e2]
   refine EvL.next (l:= [n6 c (k:Int)]) (s' := .s1 (n6 c ((k+1:Nat):Int)) st c ix fuse down s t) ?_ ih
   simp only [H9,S5,ho,hd,Option.bind_some,lt,e,cond_true,Option.map_some,w]
theorem dQ7 (cb:CB c) (hix:0≤ix∧ix≤100):ax1 st c ix fuse down s t=some (aV9 c ix):=by
 refine bz9 (EvL.next (l:= []) (s' := .s1 (n6 c ((0:Nat):Int)) st c ix fuse down s t) ?_ (dq6 cb hix (aA0 c) 0 (by omega)))
 have:=ba0 cb (i:=0) (by omega)
 simp only [H9,ao2,this,Option.bind_some];rfl
theorem ds0 (l:List Int) (hn:l.length≤1000):∀(j k:Nat),k+j=l.length→EvL N9 (.s1 l (l.length:Nat) (k:Int)) (l.drop k):=by
 intro j
 induction j with
 | zero=>
  intro k hk
  rw [List.drop_eq_nil_of_le (by omega)]
  refine .done ?_
  simp only [N9,ae7,geB (show l.length≤k by omega),cond_false]
 | succ j ih=>
  intro k hk
  have hlt:k<l.length:=by omega
  rw [List.drop_eq_getElem_cons hlt]
  refine EvL.next (l:= [l[k]]) (s' := .s1 l (l.length:Nat) ((k+1:Nat):Int)) ?_ (ih (k+1) (by omega))
  simp only [N9,ae7,E7 hlt,List.length_map,L8,Bool.and_self,cond_true,Int.toNat_natCast,List.getE hlt,Option.bind_some,Option.map_some,wD (show k≤3000000 by omega)]
theorem dQ5 (l:List Int) (hn:l.length≤1000):aA8 l=some l:=by
 refine bz9 (EvL.next (l:= []) (s' := .s1 l (l.length:Nat) ((0:Nat):Int)) ?_ (by simpa using ds0 l hn l.length 0 (by omega)))
 simp only [N9,ar0,List.length_map];rfl
theorem bj4 (cb:CB c) (hix:0≤ix∧ix≤100) (m:e9):∀(Y:List Int) (m2:e9) (out:List e9),out.length+Y.length≤1000→Ev (D4 m st c ix fuse down s t) (.s2 m2 out Y) (out++N6 c ix m2 Y)
 | [],m2,out,h=> .done (by simp [D4,T3,R5,N6])
 | y::Y,m2,out,h=>by
  simp only [List.length_cons] at h
  have hd:=ba0 cb hix
  have l1:decide ((out.length+1)*288≤i6)=true:=C7 (by omega)
  refine .next (s' := .s2 (ftM m2 (n6 c ix) y) (out++ [ftM m2 (n6 c ix) y]) Y) ?_ ?_
  ·simp only [D4,T3,R8,hd,Option.bind_some,List.length_map,l1,cond_true];rfl
  ·have:=bj4 cb hix m Y (ftM m2 (n6 c ix) y) (out++ [ftM m2 (n6 c ix) y]) (by simp;omega)
   rw [List.append_assoc] at this
   exact this
theorem bt4 (cb:CB c) (hix:0≤ix∧ix≤100) (m:e9):J5 m st c ix fuse down s t=some (N6 c ix m (aa7 c)):=by
 have hl2:(aa7 c).length≤100:=Nat.le_trans (aZ8 cb) (by decide)
 refine u6 (.next (s' := .s1 []) rfl (.next (s' := .s2 m [] (aa7 c)) ?_ (by simpa using bj4 cb hix m (aa7 c) m [] (by simp;omega))))
 simp only [D4,T6,dS1 cb,Option.bind_some]
theorem bA5 (cb:CB c) (hix:0≤ix∧ix≤100) (m:e9):∀(Y:List Int) (m2:e9) (out:List e9),out.length+Y.length≤1000→Ev (G6 m st c ix fuse down s t) (.s2 m2 out Y) (out++N6 c ix m2 Y)
 | [],m2,out,h=> .done (by simp [G6,Y6,W5,N6])
 | y::Y,m2,out,h=>by
  simp only [List.length_cons] at h
  have hd:=ba0 cb hix
  have l1:decide ((out.length+1)*288≤i6)=true:=C7 (by omega)
  refine .next (s' := .s2 (ftM m2 (n6 c ix) y) (out++ [ftM m2 (n6 c ix) y]) Y) ?_ ?_
  ·simp only [G6,Y6,W3,hd,Option.bind_some,List.length_map,l1,cond_true];rfl
  ·have:=bA5 cb hix m Y (ftM m2 (n6 c ix) y) (out++ [ftM m2 (n6 c ix) y]) (by simp;omega)
   rw [List.append_assoc] at this
   exact this
theorem du2 (cb:CB c) (hix:0≤ix∧ix≤100) (m:e9):aw8 m st c ix fuse down s t=some (N6 c ix m (aV9 c ix)):=by
 have hl2:(aV9 c ix).length≤100:=Nat.le_trans (cj1 cb ix) (by decide)
 refine u6 (.next (s' := .s1 []) rfl (.next (s' := .s2 m [] (aV9 c ix)) ?_ (by simpa using bA5 cb hix m (aV9 c ix) m [] (by simp;omega))))
 simp only [G6,Y4,dQ7 cb hix,Option.bind_some]
theorem bA3 (l:List Int) (cb:CB c) (hix:0≤ix∧ix≤100) (m:e9):∀(Y:List Int) (m2:e9) (out:List e9),out.length+Y.length≤1000→Ev (G7 l m st c ix fuse down s t) (.s2 m2 out Y) (out++N6 c ix m2 Y)
 | [],m2,out,h=> .done (by simp [G7,Y8,W6,N6])
 | y::Y,m2,out,h=>by
  simp only [List.length_cons] at h
  have hd:=ba0 cb hix
  have l1:decide ((out.length+1)*288≤i6)=true:=C7 (by omega)
  refine .next (s' := .s2 (ftM m2 (n6 c ix) y) (out++ [ftM m2 (n6 c ix) y]) Y) ?_ ?_
  ·simp only [G7,Y8,W0,hd,Option.bind_some,List.length_map,l1,cond_true];rfl
  ·have:=bA3 l cb hix m Y (ftM m2 (n6 c ix) y) (out++ [ftM m2 (n6 c ix) y]) (by simp;omega)
   rw [List.append_assoc] at this
   exact this
theorem ds8 (l:List Int) (hl:l.length≤100) (cb:CB c) (hix:0≤ix∧ix≤100) (m:e9):aw0 l m st c ix fuse down s t=some (N6 c ix m (l)):=by
 have hl2:(l).length≤100:=hl
 refine u6 (.next (s' := .s1 []) rfl (.next (s' := .s2 m [] (l)) ?_ (by simpa using bA3 l cb hix m (l) m [] (by simp;omega))))
 simp only [G7,Z1,dQ5 l (by omega),Option.bind_some]
def bg9 (p:Plan):e9:=⟨9,0,0,p.Epoch,0,0,0,0,0,0,true,p,[],[],[]⟩
def cR9 (st:d9) (now:Int):d9:={ st with told:=⟨true,now⟩ }
theorem dh3 (cb:CB c) (hix:0≤ix∧ix≤100) (now:Int):at2 now st c ix fuse down s t=some (N6 c ix (bg9 st.known) (aV9 c ix),cR9 st now):=by
 have h0:∀st:d9,aH3 st c ix fuse down s t=some ():=fun _=>rfl
 simp only [at2,h0,Option.bind_some,du2 cb hix];rfl
def cC9 (o:T4) (now wait:Int):Bool:= !o.ever || decide (IntKind.i64.wrap (now-o.at_)≥wait)
theorem dr1 (o:T4) (now wait:Int):X5 o now wait=some (cC9 o now wait):=by
 unfold X5 cC9;cases o.ever<;>simp
def bR6 (now:Int):e9:=⟨10,0,0,0,0,0,now,0,0,2,false,v9,[],[],[]⟩
def bv5 (st:d9) (now:Int):d9:={ st with hold:=dc0 st.hold 0 now,asked:=⟨true,st.hold.Nonce⟩ }
def M1 (c:d8) (ix now:Int) (st:d9):List e9×d9:=
 if cC9 ⟨st.asked.ever,st.hold.Nonce⟩ now (u9 (IntKind.i64.wrap (Int.tdiv c.L_ 2)) 1) then (N6 c ix (bR6 now) (aa7 c),bv5 st now) else ([],{ st with asked:=⟨st.asked.ever,st.hold.Nonce⟩ })
theorem dg6 (cb:CB c) (hix:0≤ix∧ix≤100) (now:Int):aF7 now st c ix fuse down s t=some (M1 c ix now st):=by
 have h0:∀st:d9,K8 st c ix fuse down s t=some ():=fun _=>rfl
 simp only [aF7,dr1,Option.bind_some,M1,dU4,h0,bt4 cb hix]
 cases cC9 ⟨st.asked.ever,st.hold.Nonce⟩ now (u9 (IntKind.i64.wrap (Int.tdiv c.L_ 2)) 1)<;>rfl
def aJ6 (c:d8) (ix now:Int) (st:d9):List e9×d9:=
 if st.known.Epoch=0∨cC9 st.told now c.Retry=false then ([],st) else (N6 c ix (bg9 st.known) (aV9 c ix),cR9 st now)
theorem du1 (cb:CB c) (hix:0≤ix∧ix≤100) (now:Int):aK4 now st c ix fuse down s t=some (aJ6 c ix now st):=by
 simp only [aK4,dr1,Option.bind_some,aJ6,ay7,dh3 cb hix]
 by_cases h:st.known.Epoch=0
 ·rw [beq_iff_eq.2 h,if_pos (.inl h)];rfl
 ·rw [beq_eq_false_iff_ne.2 h]
  cases h2:cC9 st.told now c.Retry
  ·rw [if_pos (.inr rfl)];rfl
  ·rw [if_neg (by simp [h])];rfl
end
end Go.RX.L

namespace Go.RX.L
open Go Go.RX
theorem ec7 {c:d8} (cb:CB c) {p:Plan} (hs:aV3 p) (hu:0≤p.Up) (hv:0≤p.Sup):∃b,ao8 c p=some b∧(b=true→aZ5 c p):=by
 simp only [ao8,aY3 hs hu hv,Option.bind_some]
 cases hr:aa9 p with
 | false=>exact ⟨false,rfl,fun h=>by cases h⟩
 | true=>
  have r:=Y9.1 hr
  have no:∃b:Bool,(some false:Option Bool)=some b∧(b=true→aZ5 c p):=⟨false,rfl,fun h=>by cases h⟩
  simp only [cond_true,List.length_map]
  cases h1:(((p.Pen.length:Nat):Int)==c.Targets) with
  | false=>exact no
  | true=>
   cases h2:decide (u9 (u9 p.Target p.Prev) p.Spill<c.Targets) with
   | false=>exact no
   | true=>
    obtain ⟨a,ha⟩:=Int.eq_ofNat_of_zero_le hu
    obtain ⟨b,hb⟩:=Int.eq_ofNat_of_zero_le hv
    have h3:=r.up
    have h4:=r.sup
    have hor:a ||| b<65536:=Nat.or_lt_two_pow (n:=16) (by omega) (by omega)
    have eor:orI .u64 p.Up p.Sup=((a ||| b:Nat):Int):=by rw [ha,hb];exact bY8 (by omega) (by omega)
    obtain ⟨n,hn,hlt⟩:=dI2 hor
    have cT:=cb.t
    simp only [cond_true,eor,hn,Option.bind_some]
    cases h5:decide ((n:Int)≤c.Targets) with
    | false=>exact no
    | true=>
     cases h6:decide (((p.Changes.length:Nat):Int)≤c.B_) with
     | false=>exact no
     | true=>
      refine ⟨_,rfl,fun h7=> ?_⟩
      have h1:=beq_iff_eq.1 h1
      have h2:=of_decide_eq_true h2
      have h5:=of_decide_eq_true h5
      have h6:=of_decide_eq_true h6
      have h7:=of_decide_eq_true h7
      have h8:=(hlt c.Targets.toNat (by omega)).1 (by omega)
      have o1:a≤a ||| b:=Nat.left_le_or
      have o2:b≤a ||| b:=Nat.right_le_or
      have mx:p.Target<c.Targets∧p.Prev<c.Targets∧p.Spill<c.Targets:=by
       unfold u9 at h2;split at h2<;>split at h2<;>omega
      exact ⟨r,hu,hv,h1,mx,by rw [ha,Int.toNat_natCast];omega,by rw [hb,Int.toNat_natCast];omega,h6,h7⟩
theorem ec0 {c:d8} (hc:Z7 c=true) (ht:c.Tiers.length<9223372036854775807) {p:Plan} (hs:aV3 p) (hu:0≤p.Up) (hv:0≤p.Sup) {up:Nat} (hup:up<18446744073709551616) {now:Int} (hn:0≤now):
  ∃r,ap1 c p (up:Int) now=some r∧(r.2=true→aZ5 c p∧ao8 c p=some true∧r=aw3 c p up now):=by
 obtain ⟨b,hb,hf⟩:=ec7 (aE2 hc) hs hu hv
 cases b with
 | true=>exact ⟨_,dG9 hc ht (hf rfl) hb hup hn,fun _=>⟨hf rfl,hb,rfl⟩⟩
 | false=>
  refine ⟨(zPl,false),?_,fun h=>by cases h⟩
  simp only [ap1,bc0 ht,hc,Option.bind_some,Bool.not_true,cond_false,hb,Bool.not_false,am2,cond_true];rfl
section
variable {c : d8} {p : Plan}
theorem dY4 (cb:CB c) {m:Nat} (hm:m<2^c.Targets.toNat): -1≤aB8 c m∧aB8 c m≤15:=by
 have:=cb.t
 rcases di8 (c:=c) hm (by omega) with h | ⟨i,h1,h2,h3⟩<;>omega
theorem dP4 {l:List Int}{t:Int} (h:srt l=true) (ht:∀x,l.getLast? =some x→x≤t):srt (l++ [t])=true:=by
 rw [dh5] at h ⊢
 intro i h0 hi
 simp only [List.length_append,List.length_cons,List.length_nil] at hi
 by_cases hl:i<l.length
 ·have:=h i h0 hl
  simp only [List.getD_eq_getElem?_getD] at this ⊢
  rw [List.getElem?_append_left (by omega),List.getElem?_append_left hl];exact this
 ·have e:i=l.length:=by omega
  subst e
  have hx:l.getLast? =some (l.getD (l.length-1) 0):=by
   rw [List.getLast?_eq_getElem?,List.getD_eq_getElem?_getD,List.getElem?_eq_getElem (by omega)];rfl
  have:=ht _ hx
  simp only [List.getD_eq_getElem?_getD] at this ⊢
  rw [List.getElem?_append_left (by omega)]
  simpa using this
theorem dH4 {l:List Int} (h:srt l=true) (k:Nat):srt (l.drop k)=true:=by
 rw [dh5] at h ⊢
 intro i h0 hi
 rw [List.length_drop] at hi
 have:=h (k+i) (by omega) (by omega)
 simp only [List.getD_eq_getElem?_getD,List.getElem?_drop] at this ⊢
 rw [show k+(i-1)=k+i-1 by omega];exact this
theorem ed1 (cb:CB c) (hf:aZ5 c p) (up:Nat) {now:Int} (hn:0≤now):Rt (nxN c p up now)∧(nxN c p up now).Epoch=p.Epoch+1∧0≤(nxN c p up now).Up∧0≤(nxN c p up now).Sup:=by
 have hT:=cb.t
 have he:=hf.r.epoch
 have hst:=hf.r.times p.Stamp (by simp)
 have hsi:=hf.r.times p.Since (by simp)
 have hra:=hf.r.times p.Ramped (by simp)
 have htx:p.Stamp≤K9 p now∧K9 p now≤1099511627776:=by unfold K9 u9 A2;split<;>split<;>omega
 have htp:=hf.r.tps p.Target (by simp)
 have hpr:=hf.r.tps p.Prev (by simp)
 have hsp:=hf.r.tps p.Spill (by simp)
 have hto:=dv5 cb hf up now
 have hp2:(2:Nat)^c.Targets.toNat≤2^16:=Nat.pow_le_pow_right (by decide) (by omega)
 have hU:=bT5 c up
 have hS:nxS c p up now<2^p.Pen.length:=bp6 _ _
 have hpl:=hf.pen
 have hS2:(2:Nat)^p.Pen.length≤2^16:=Nat.pow_le_pow_right (by decide) (by omega)
 have u1:((nxU c up:Nat):Int)≤65535:=by omega
 have s1:((nxS c p up now:Nat):Int)≤65535:=by omega
 have pl:(aI7 c p (nxU c up) (K9 p now)).length≤16:=by simp [aI7];omega
 have pm:∀x∈aI7 c p (nxU c up) (K9 p now),0≤x∧x≤1000000:=fun x hx=>by
  obtain ⟨j,_,rfl⟩:=List.mem_map.1 hx
  exact dt4 cb hf _ _ _
 have hpc:=hf.r.pc
 have hfi:=cb.first
 have hstp:=cb.step
 have hB:=cb.b
 have hch:=hf.ch
 unfold nxN
 split
 ·rename_i hc2
  have hc3:(aA3 c p up now≠p.Target)∧bM3 c p (K9 p now)=false:=by
   simp only [cj8,Bool.and_eq_true,decide_eq_true_eq,Bool.not_eq_true'] at hc2;exact ⟨hc2.1,hc2.2.1⟩
  have hcl:(ck3 c p (K9 p now)).length≤8:=by
   simp only [ck3,List.length_append,List.length_drop,List.length_cons,List.length_nil];omega
  have hcm:∀x∈ck3 c p (K9 p now),0≤x∧x≤1099511627776:=fun x hx=>by
   rcases List.mem_append.1 hx with hx | hx
   ·exact hf.r.ch x (List.mem_of_mem_drop hx)
   ·rw [List.mem_singleton.1 hx];omega
  have hcs:srt (ck3 c p (K9 p now))=true:=by
   refine dP4 (dH4 hf.r.srt _) fun x hx=> ?_
   have h2:=hc3.2
   simp only [bM3,Bool.or_eq_false_iff,Bool.and_eq_false_iff,decide_eq_false_iff_not] at h2
   have hd:=cb.d
   have hne:p.Changes.drop (p.Changes.length+1-c.B_.toNat)≠ []:=fun e=>by rw [e] at hx;simp at hx
   have hpos:0<p.Changes.length:=by
    rcases Nat.eq_zero_or_pos p.Changes.length with h | h
    ·exact absurd (by rw [List.length_eq_zero_iff.1 h];simp) hne
    ·exact h
   rw [List.getLast?_eq_getElem?,List.getElem?_drop,List.length_drop] at hx
   have hlen:0<p.Changes.length-(p.Changes.length+1-c.B_.toNat):=by
    rw [←List.length_drop];exact List.length_pos_iff.2 hne
   rw [show p.Changes.length+1-c.B_.toNat+(p.Changes.length-(p.Changes.length+1-c.B_.toNat)-1)=p.Changes.length-1 by omega] at hx
   rcases h2.1 with h3 | h3
   ·omega
   ·rw [hx] at h3;simp only [Option.getD_some] at h3;omega
  refine ⟨⟨by simp only;omega,?_,?_,?_,u1,s1,pl,hcl,pm,hcm,hcs⟩,rfl,by simp only;omega,by simp only;omega⟩
  ·simp only [List.mem_cons,List.not_mem_nil,or_false,forall_eq_or_imp,forall_eq];omega
  ·simp only;split<;>omega
  ·simp only [List.mem_cons,List.not_mem_nil,or_false,forall_eq_or_imp,forall_eq];omega
 ·split
  ·refine ⟨⟨by simp only;omega,?_,?_,?_,u1,s1,pl,hf.r.chl,pm,hf.r.ch,hf.r.srt⟩,rfl,by simp only;omega,by simp only;omega⟩
   ·exact hf.r.tps
   ·simp only [A2];split<;>omega
   ·simp only [List.mem_cons,List.not_mem_nil,or_false,forall_eq_or_imp,forall_eq];omega
  ·refine ⟨⟨by simp only;omega,hf.r.tps,hpc,?_,u1,s1,pl,hf.r.chl,pm,hf.r.ch,hf.r.srt⟩,rfl,by simp only;omega,by simp only;omega⟩
   simp only [List.mem_cons,List.not_mem_nil,or_false,forall_eq_or_imp,forall_eq];omega
theorem dO4 (cb:CB c) (hf:aZ5 c p) (up:Nat) {now:Int} (hn:0≤now) (h:(aw3 c p up now).2=true):Rt (aw3 c p up now).1∧(aw3 c p up now).1.Epoch=p.Epoch+1∧0≤(aw3 c p up now).1.Up∧0≤(aw3 c p up now).1.Sup:=by
 obtain ⟨r,h1,h2,h3⟩:=ed1 cb hf up hn
 have hb:=dY4 cb (m:=bR8 (nxG c p up now) (nxN c p up now).Target) (Nat.lt_of_le_of_lt (dj3 _ _) (cV2 c p up now))
 unfold aw3 cB2 at h ⊢
 split at h
 ·cases h
 ·rename_i hs
  rw [if_neg hs]
  refine ⟨⟨r.epoch,?_,r.pc,r.times,r.up,r.sup,r.penl,r.chl,r.pen,r.ch,r.srt⟩,h1,h2,h3⟩
  have t1:=r.tps _ (by simp:(nxN c p up now).Target∈_)
  have t2:=r.tps _ (by simp:(nxN c p up now).Prev∈_)
  simp only [List.mem_cons,List.not_mem_nil,or_false,forall_eq_or_imp,forall_eq]
  omega
end
end Go.RX.L

namespace Go.RX.L
open Go Go.RX Go.Proofs
attribute [local irreducible] f6
noncomputable def cP9 (p_:i7) (c:d8) (y:Unit):D×f4:=(.fn 137 [] [.iptr 30 [(i7.enc p_)] 0 0,.iptr 30 [(d8.enc c)] 0 0],[])
noncomputable def az5 (p_:i7) (c:d8):Option Unit:=(some ())
theorem bC9 {p_:i7}{c:d8}{r:Unit} (h:az5 p_ c=some r):i0 E 104 [.agg (i7.enc p_),.agg (d8.enc c)] [] (Rs (cP9 p_ c) r):=so (fn:=Tryz.f104) (k:=false) (m:=0) h<| by
 intro r h;unfold az5 at h
 exact zu 12 h
end Go.RX.L

namespace Go.RX.L
open Go Go.RX Go.Proofs
attribute [local irreducible] f6
noncomputable def ct8 (y:Bool):D×f4:=(.bool y,[])
noncomputable def al9 (m:e9) (kind phase:Int) (t:i7) (t2:d8):Option Bool:=(bif ((t.Phase:Int)==phase) then (bif ((m.Kind:Int)==kind) then (bif ((m.Epoch:Int)==t.Epoch) then (bif ((m.Ballot:Int)==t.Ballot) then (bif (decide ((m.From:Int)≥0)) then ((ad6 t2).bind fun y6=>(some (decide ((m.From:Int)≤(IntKind.i64.wrap ((2:Int)*y6)))))) else (some false)) else (some false)) else (some false)) else (some false)) else (some false))
theorem br3 {m:e9}{kind phase:Int}{t:i7}{t2:d8}{r:Bool} (h:al9 m kind phase t t2=some r):i0 E 137 [.agg (e9.enc m),.int .i64 kind,.int .i64 phase,.iptr 30 [(i7.enc t)] 0 0,.iptr 30 [(d8.enc t2)] 0 0] [] (Rs ct8 r):=so (fn:=Tryz.f137) (k:=false) (m:=0) h<| by
 intro r h;unfold al9 at h
 refine zs 8 h (fun h=> ?_) fun h=> ?_
 ·
  refine zs 5 h (fun h=> ?_) fun h=> ?_
  ·
   refine zs 7 h (fun h=> ?_) fun h=> ?_
   ·
    refine zs 7 h (fun h=> ?_) fun h=> ?_
    ·
     refine zs 4 h (fun h=> ?_) fun h=> ?_
     ·
      refine zd 5 [] h (fun _=>aP2) fun y6 h=> ?_
      exact zu 4 h
     exact zu 7 h
    exact zu 11 h
   exact zu 17 h
  exact zu 23 h
 exact zu 28 h
end Go.RX.L

namespace Go.RX.L
open Go Go.RX Go.Proofs
attribute [local irreducible] f6
noncomputable def aa4:=p8 (q0 Tryz.f62)
noncomputable def bd2 (y:i7):D×f4:=(.agg (i7.enc y),[])
abbrev aC6 (p_:i7) (c:d8) (m:e9):=AOk E (Cx.of Tryz.f62 false 0) bd2
noncomputable def bP7 (p_:i7) (c:d8) (m:e9) (p_2 b2:i7):M:=⟨[.code (aa4 [1,1,1])],[(3,.ptr 0 0 0),(4,.ptr 1 0 0),(6,.ptr 2 0 0)],[some ⟨30,false,[(i7.enc p_2)]⟩,some ⟨30,false,[(d8.enc c)]⟩,some ⟨30,false,[(i7.enc b2)]⟩]⟩
noncomputable def T1 (p_:i7) (c:d8) (m:e9) (p_2 b2:i7):Option i7:=((ac5 c p_2.Promises).bind fun y1=>(bif y1 then (bif ((p_2.Best:Int)==0) then (some (⟨p_2.Epoch,p_2.Ballot,2,p_2.Own,p_2.Best,p_2.Own,p_2.Promises,p_2.Accepts⟩:i7)) else (some (⟨p_2.Epoch,p_2.Ballot,2,p_2.Own,p_2.Best,p_2.Value,p_2.Promises,p_2.Accepts⟩:i7))) else (some p_2)))
theorem aQ6 {p_ c m p_2 b2}:aC6 p_ c m (bP7 p_ c m p_2 b2) (T1 p_ c m p_2 b2):=by
 intro r h;unfold T1 at h
 refine zc 9 [] h (fun _=>aO8) fun y1 h=> ?_
 refine zs 2 h (fun h=> ?_) fun h=> ?_
 ·
  refine zs 15 h (fun h=> ?_) fun h=> ?_
  ·
   exact zu 19 h
  exact zu 11 h
 exact zu 11 h
noncomputable def bP0 (p_:i7) (c:d8) (m:e9) (t41:Bool) (p_2 b3:i7):M:=⟨[.code (aa4 [1,1,0,1,1]),.code (aa4 [1,1,1])],[(3,.ptr 0 0 0),(4,.ptr 1 0 0),(5,.ptr 2 0 0),(6,.ptr 3 0 0),(41,.bool t41)],[some ⟨30,false,[(i7.enc p_2)]⟩,some ⟨30,false,[(d8.enc c)]⟩,some ⟨26,false,[(e9.enc m)]⟩,some ⟨30,false,[(i7.enc b3)]⟩]⟩
noncomputable def aa0 (p_:i7) (c:d8) (m:e9) (t41:Bool) (p_2 b3:i7):Option i7:=(bif t41 then (T1 p_ c m (⟨p_2.Epoch,p_2.Ballot,p_2.Phase,p_2.Own,m.Accepted,m.Plan,p_2.Promises,p_2.Accepts⟩:i7) b3) else (T1 p_ c m p_2 b3))
theorem aQ5 {p_ c m t41 p_2 b3}:aC6 p_ c m (bP0 p_ c m t41 p_2 b3) (aa0 p_ c m t41 p_2 b3):=by
 intro r h;unfold aa0 at h
 refine zs 1 h (fun h=> ?_) fun h=> ?_
 ·
  exact zg 7 (aQ6 h)
 exact zg 1 (aQ6 h)
noncomputable def bP2 (p_:i7) (c:d8) (m:e9) (t24:Bool) (b3:i7):M:=⟨[.code (aa4 [1,0,1]),.code (aa4 [1,1])],[(3,.ptr 0 0 0),(4,.ptr 1 0 0),(5,.ptr 2 0 0),(6,.ptr 3 0 0),(24,.bool t24)],[some ⟨30,false,[(i7.enc p_)]⟩,some ⟨30,false,[(d8.enc c)]⟩,some ⟨26,false,[(e9.enc m)]⟩,some ⟨30,false,[(i7.enc b3)]⟩]⟩
noncomputable def I8 (p_:i7) (c:d8) (m:e9) (t24:Bool) (b3:i7):Option i7:=(bif t24 then (some p_) else (bif (!decide ((m.From:Int)<0)) then (bif m.HasPlan then (aa0 p_ c m (decide ((m.Accepted:Int)>p_.Best)) (⟨p_.Epoch,p_.Ballot,p_.Phase,p_.Own,p_.Best,p_.Value,(orI .u64 p_.Promises (F0 .u64 1 m.From)),p_.Accepts⟩:i7) b3) else (aa0 p_ c m false (⟨p_.Epoch,p_.Ballot,p_.Phase,p_.Own,p_.Best,p_.Value,(orI .u64 p_.Promises (F0 .u64 1 m.From)),p_.Accepts⟩:i7) b3)) else none))
theorem au2 {p_ c m t24 b3}:aC6 p_ c m (bP2 p_ c m t24 b3) (I8 p_ c m t24 b3):=by
 intro r h;unfold I8 at h
 refine zs 1 h (fun h=> ?_) fun h=> ?_
 ·
  exact zu 10 h
 refine zn 6 h fun h=> ?_
 refine zs 9 h (fun h=> ?_) fun h=> ?_
 ·
  exact zg 13 (aQ5 h)
 exact zg 11 (aQ5 h)
noncomputable def aj8 (p_:i7) (c:d8) (m:e9):Option i7:=((az5 p_ c).bind fun y1=>((al9 m 5 1 p_ c).bind fun y2=>(bif (!y2) then (I8 p_ c m true (⟨0,0,0,(⟨0,0,0,0,0,0,0,0,0,0,[],[]⟩:Plan),0,(⟨0,0,0,0,0,0,0,0,0,0,[],[]⟩:Plan),0,0⟩:i7)) else (bif m.HasPlan then (I8 p_ c m ((m.Plan.Epoch:Int) !=p_.Epoch) (⟨0,0,0,(⟨0,0,0,0,0,0,0,0,0,0,[],[]⟩:Plan),0,(⟨0,0,0,0,0,0,0,0,0,0,[],[]⟩:Plan),0,0⟩:i7)) else (I8 p_ c m false (⟨0,0,0,(⟨0,0,0,0,0,0,0,0,0,0,[],[]⟩:Plan),0,(⟨0,0,0,0,0,0,0,0,0,0,[],[]⟩:Plan),0,0⟩:i7))))))
theorem bP5 {p_:i7}{c:d8}{m:e9}{r:i7} (h:aj8 p_ c m=some r):i0 E 62 [.agg (i7.enc p_),.agg (d8.enc c),.agg (e9.enc m)] [] (Rs bd2 r):=so (fn:=Tryz.f62) (k:=false) (m:=0) h<| by
 intro r h;unfold aj8 at h
 refine zd 12 [] h (fun _=>bC9) fun y1 h=> ?_
 refine zd 1 [] h (fun _=>br3) fun y2 h=> ?_
 refine zs 0 h (fun h=> ?_) fun h=> ?_
 ·
  exact zg 4 (au2 h) [.blk 3 [some 1,some 1,some 1,some 1]]
 refine zs 3 h (fun h=> ?_) fun h=> ?_
 ·
  exact zg 10 (au2 h) [.blk 3 [some 1,some 1,some 1,some 1]]
 exact zg 8 (au2 h) [.blk 3 [some 1,some 1,some 1,some 1]]
end Go.RX.L

namespace Go.RX.L
open Go Go.RX Go.Proofs
attribute [local irreducible] f6
noncomputable def bP6 (y:i7):D×f4:=(.agg (i7.enc y),[])
noncomputable def af3 (p_:i7) (c:d8) (m:e9):Option i7:=((az5 p_ c).bind fun y1=>((al9 m 8 2 p_ c).bind fun y2=>(bif (!y2) then (some p_) else (bif (!decide ((m.From:Int)<0)) then ((ac5 c (orI .u64 p_.Accepts (F0 .u64 1 m.From))).bind fun y5=>(bif y5 then (some (⟨p_.Epoch,p_.Ballot,3,p_.Own,p_.Best,p_.Value,p_.Promises,(orI .u64 p_.Accepts (F0 .u64 1 m.From))⟩:i7)) else (some (⟨p_.Epoch,p_.Ballot,p_.Phase,p_.Own,p_.Best,p_.Value,p_.Promises,(orI .u64 p_.Accepts (F0 .u64 1 m.From))⟩:i7)))) else none))))
theorem bL2 {p_:i7}{c:d8}{m:e9}{r:i7} (h:af3 p_ c m=some r):i0 E 65 [.agg (i7.enc p_),.agg (d8.enc c),.agg (e9.enc m)] [] (Rs bP6 r):=so (fn:=Tryz.f65) (k:=false) (m:=0) h<| by
 intro r h;unfold af3 at h
 refine zd 12 [] h (fun _=>bC9) fun y1 h=> ?_
 refine zc 2 [] h (fun _=>br3) fun y2 h=> ?_
 refine zs 3 h (fun h=> ?_) fun h=> ?_
 ·
  exact zu 10 h
 refine zn 6 h fun h=> ?_
 refine zc 10 [] h (fun _=>aO8) fun y5 h=> ?_
 refine zs 2 h (fun h=> ?_) fun h=> ?_
 ·
  exact zu 16 h
 exact zu 11 h
end Go.RX.L

namespace Go.RX.L
open Go Go.RX
/-! ### promises -/
def toP (p:i7) (c:d8) (m:e9) (k f:Int):Bool:=decide (p.Phase=f)&&(decide (m.Kind=k)&&(decide (m.Epoch=p.Epoch)&&(decide (m.Ballot=p.Ballot)&&(decide (m.From≥0)&&decide (m.From≤2*(fN c:Int))))))
def ct6 (p:i7) (m:e9):Bool:= !(m.HasPlan&&decide (m.Plan.Epoch≠p.Epoch))
def orP (g:Int) (k:Nat):Int:=((g.toNat ||| 2^k:Nat):Int)
def st1 (p:i7) (m:e9):i7:=⟨p.Epoch,p.Ballot,p.Phase,p.Own,p.Best,p.Value,orP p.Promises m.From.toNat,p.Accepts⟩
def st2 (p:i7) (m:e9):i7:=bif m.HasPlan&&decide (m.Accepted>p.Best) then ⟨p.Epoch,p.Ballot,p.Phase,p.Own,m.Accepted,m.Plan,p.Promises,p.Accepts⟩ else p
def st3 (p:i7) (c:d8):i7:=bif aO1 c p.Promises.toNat then ⟨p.Epoch,p.Ballot,2,p.Own,p.Best,bif decide (p.Best=0) then p.Own else p.Value,p.Promises,p.Accepts⟩ else p
def D0 (p:i7) (c:d8) (m:e9):i7:=bif toP p c m 5 1&&ct6 p m then st3 (st2 (st1 p m) m) c else p
def P6 (p:i7) (c:d8) (m:e9):i7:=bif toP p c m 8 2 then ⟨p.Epoch,p.Ballot,bif aO1 c (orP p.Accepts m.From.toNat).toNat then 3 else p.Phase,p.Own,p.Best,p.Value,p.Promises,orP p.Accepts m.From.toNat⟩ else p
theorem dK6 (p:i7) (c:d8) (m:e9) (k f:Int):al9 m k f p c=some (toP p c m k f):=by
 have hf:=cb1 c
 have e2:IntKind.i64.wrap ((2:Int)*(fN c:Int))=2*(fN c:Int):=u7 (by omega) (by omega)
 unfold al9 ad6 toP
 simp only [Option.bind_some,dn0,e2]
 by_cases h1:p.Phase=f
 ·by_cases h2:m.Kind=k
  ·by_cases h3:m.Epoch=p.Epoch
   ·by_cases h4:m.Ballot=p.Ballot
    ·by_cases h5:m.From≥0
     ·simp [h1,h2,h3,h4,h5]
     ·simp [h1,h2,h3,h4,h5]
    ·simp [h1,h2,h3,h4,beq_eq_false_iff_ne.2 h4]
   ·simp [h1,h2,h3,beq_eq_false_iff_ne.2 h3]
  ·simp [h1,h2,beq_eq_false_iff_ne.2 h2]
 ·simp [h1,beq_eq_false_iff_ne.2 h1]
theorem bZ6 {p:i7}{c:d8}{m:e9}{k f:Int} (h:toP p c m k f=true):0≤m.From∧m.From≤2*(fN c:Int):=by
 simp only [toP,Bool.and_eq_true,decide_eq_true_eq] at h
 omega
theorem cu9 {g:Int}{m:e9}{c:d8} (hg:n8 .u64 g) (h:0≤m.From∧m.From≤2*(fN c:Int)):orI .u64 g (F0 .u64 1 m.From)=orP g m.From.toNat∧n8 .u64 (orP g m.From.toNat)∧(orP g m.From.toNat).toNat<18446744073709551616:=by
 have hf:=cb1 c
 have hg' :=F8.1 hg
 obtain ⟨k,hk⟩:=Int.eq_ofNat_of_zero_le h.1
 obtain ⟨n,rfl⟩:=Int.eq_ofNat_of_zero_le hg'.1
 have hn:n<18446744073709551616:=by omega
 have hp:(2:Nat)^k≤2^6:=Nat.pow_le_pow_right (by decide) (by omega)
 have hlt:=dk7 hn (show k≤6 by omega)
 unfold orP
 rw [hk,bf3 (by omega),bY8 hn (by omega)]
 simp only [Int.toNat_natCast]
 exact ⟨trivial,F8.2 (by omega),hlt⟩
theorem cZ2 {p q:i7}{c:d8}{m:e9}{b:i7} (hg:n8 .u64 p.Promises):T1 q c m p b=some (st3 p c):=by
 have hg' :=F8.1 hg
 unfold T1 st3
 obtain ⟨n,hn⟩:=Int.eq_ofNat_of_zero_le hg'.1
 rw [hn,cz4 c (by omega)]
 simp only [Int.toNat_natCast,Option.bind_some]
 cases aO1 c n with
 | false=>rfl
 | true=>
  by_cases h:p.Best=0
  ·simp [h]
  ·simp [h,beq_eq_false_iff_ne.2 h]
theorem dn3 (p:i7) (c:d8) (m:e9) (hp:n8 .u64 p.Promises):aj8 p c m=some (D0 p c m):=by
 have yes:∀b,toP p c m 5 1=true→I8 p c m false b=some (st3 (st2 (st1 p m) m) c):=fun b h=>by
  have hf:=bZ6 h
  obtain ⟨o1,o2,o3⟩:=cu9 hp hf
  unfold I8 aa0
  rw [o1]
  have nn:(!decide (m.From<0))=true:=by simp;omega
  simp only [cond_false,nn,cond_true]
  cases hh:m.HasPlan with
  | false=>
   simp only [cond_false]
   refine (cZ2 (p:=st1 p m) o2).trans ?_
   unfold st2
   rw [hh]
   rfl
  | true=>
   simp only [cond_true]
   have e:decide (m.Accepted>(st1 p m).Best)=decide (m.Accepted>p.Best):=rfl
   unfold st2
   rw [hh,e]
   cases decide (m.Accepted>p.Best) with
   | false=>
    simp only [cond_false,Bool.and_false]
    exact cZ2 (p:=st1 p m) o2
   | true=>
    simp only [cond_true,Bool.and_true]
    exact cZ2 (p:=⟨p.Epoch,p.Ballot,p.Phase,p.Own,m.Accepted,m.Plan,orP p.Promises m.From.toNat,p.Accepts⟩) o2
 have no:∀b,I8 p c m true b=some p:=fun b=>rfl
 have e0:az5 p c=some ():=rfl
 unfold aj8 D0
 rw [e0]
 simp only [Option.bind_some,dK6]
 cases ht:toP p c m 5 1 with
 | false=>simp [no]
 | true=>
  simp only [Bool.not_true,cond_false,Bool.true_and]
  unfold ct6
  cases hh:m.HasPlan with
  | false=>simp [yes _ ht]
  | true=>
   by_cases h:m.Plan.Epoch=p.Epoch
   ·simp [h,yes _ ht]
   ·have hb:(m.Plan.Epoch !=p.Epoch)=true:=by simpa using h
    simp [h,hb,no]
theorem df3 (p:i7) (c:d8) (m:e9) (hp:n8 .u64 p.Accepts):af3 p c m=some (P6 p c m):=by
 have e0:az5 p c=some ():=rfl
 unfold af3 P6
 rw [e0]
 simp only [Option.bind_some,dK6]
 cases ht:toP p c m 8 2 with
 | false=>rfl
 | true=>
  have hf:=bZ6 ht
  obtain ⟨o1,o2,o3⟩:=cu9 hp hf
  have nn:(!decide (m.From<0))=true:=by simp;omega
  rw [o1]
  simp only [Bool.not_true,cond_false,nn,cond_true]
  obtain ⟨n,hn⟩:=Int.eq_ofNat_of_zero_le (F8.1 o2).1
  rw [hn]
  rw [hn,Int.toNat_natCast] at o3
  rw [cz4 c o3]
  simp only [Option.bind_some,Int.toNat_natCast]
  cases aO1 c n<;>rfl
def dm1 (a:Plan) (e:Int):Plan:=⟨e,a.Target,a.Prev,a.Spill,a.Percent,a.Stamp,a.Since,a.Ramped,a.Up,a.Sup,a.Pen,a.Changes⟩
def ea9:Plan:=⟨0,0,0,0,0,0,0,0,0,0,[],[]⟩
theorem dB6 (e b:Int) (own:Plan):aH9 e b own=some ⟨e,b,1,dm1 own e,0,ea9,0,0⟩:=rfl
theorem dF1 {p:i7}{c:d8}:(st3 p c).Promises=p.Promises:=by
 unfold st3;cases aO1 c p.Promises.toNat<;>rfl
theorem dF4 {p:i7}{m:e9}:(st2 p m).Promises=p.Promises:=by
 unfold st2;cases (m.HasPlan&&decide (m.Accepted>p.Best))<;>rfl
theorem dd5 {p:i7} (c:d8) (m:e9) (h:n8 .u64 p.Promises):n8 .u64 (D0 p c m).Promises:=by
 unfold D0
 cases hc:toP p c m 5 1&&ct6 p m with
 | false=>exact h
 | true=>
  simp only [Bool.and_eq_true] at hc
  simp only [cond_true]
  rw [dF1,dF4]
  exact (cu9 h (bZ6 hc.1)).2.1
theorem cW8 {p:i7} (c:d8) (m:e9) (h:n8 .u64 p.Accepts):n8 .u64 (P6 p c m).Accepts:=by
 unfold P6
 cases hc:toP p c m 8 2 with
 | false=>exact h
 | true=>exact (cu9 h (bZ6 hc)).2.1
end Go.RX.L

namespace Go.RX.L
open Go Go.RX Go.Proofs
attribute [local irreducible] f6
noncomputable def cJ9:=p8 (q0 Tryz.f161)
noncomputable def cH9 (y:Int):D×f4:=(.int .u32 y,[])
inductive bf0 where
 | s0 (sum:Int) (b:List Int)
 | s1 (r_:Int) (t10:List Int) (t11 t12:Int)
noncomputable def cG4:bf0→M
 | .s0 sum b=>A5 Tryz.f161 [.int .u32 sum,.sl false 1 (List.map (d7 .u8) b)] []
 | .s1 r_ t10 t11 t12=>⟨[.lpc (cJ9 [1,1,0,1,0,0]) 7200,.blk 0,.code (cJ9 [1,1,1])],[(5,.int .u32 r_),(10,.sl false 1 (List.map (d7 .u8) t10)),(11,.int .i64 t11),(12,.int .i64 t12)],[]⟩
abbrev cK1:=SOk E (Cx.of Tryz.f161 false 0) cH9 cG4
noncomputable def bw3 (sum:Int) (b:List Int):Option (bf0⊕Int):=(some (.inl (.s1 (P1 .u32 4294967295 sum) b (((List.map (d7 .u8) b).length:Nat):Int) 0)))
noncomputable def bf5 (r_:Int) (t10:List Int) (t11 t12:Int):Option (bf0⊕Int):=(bif (decide ((t12:Int)<t11)) then (bif ((decide ((0:Int)≤t12))&&(decide ((t12:Int)<(((List.map (d7 .u8) t10).length:Nat):Int)))) then (((t10)[t12.toNat]?).bind fun y3=>(bif ((decide ((0:Int)≤(l6 .u32 (P1 .u32 r_ (IntKind.u32.wrap (y3))) 15)))&&(decide (((l6 .u32 (P1 .u32 r_ (IntKind.u32.wrap (y3))) 15):Int)<((16:Nat):Int)))) then (((gl_four)[(0+(l6 .u32 (P1 .u32 r_ (IntKind.u32.wrap (y3))) 15).toNat)]?).bind fun y6=>(bif ((decide ((0:Int)≤(l6 .u32 (P1 .u32 (n4 .u32 (P1 .u32 r_ (IntKind.u32.wrap (y3))) 4) y6) 15)))&&(decide (((l6 .u32 (P1 .u32 (n4 .u32 (P1 .u32 r_ (IntKind.u32.wrap (y3))) 4) y6) 15):Int)<((16:Nat):Int)))) then (((gl_four)[(0+(l6 .u32 (P1 .u32 (n4 .u32 (P1 .u32 r_ (IntKind.u32.wrap (y3))) 4) y6) 15).toNat)]?).bind fun y9=>(some (.inl (.s1 (P1 .u32 (n4 .u32 (P1 .u32 (n4 .u32 (P1 .u32 r_ (IntKind.u32.wrap (y3))) 4) y6) 4) y9) t10 t11 (IntKind.i64.wrap (t12+1)))))) else none)) else none)) else none) else (some (.inr (P1 .u32 4294967295 r_))))
noncomputable def aC8:bf0→Option (bf0⊕Int)
 | .s0 sum b=>bw3 sum b
 | .s1 r_ t10 t11 t12=>bf5 r_ t10 t11 t12
theorem db8 {sum b}:cK1 (.s0 sum b) (bw3 sum b):=by
 intro r x h ha;unfold bw3 at h
 exact zj 20 h ha
theorem cT6 {r_ t10 t11 t12}:cK1 (.s1 r_ t10 t11 t12) (bf5 r_ t10 t11 t12):=by
 intro r x h ha;unfold bf5 at h
 refine zs 7 h (fun h=> ?_) fun h=> ?_
 ·
  refine zn 6 h fun h=> ?_
  refine zr 1 (d7 .u8) h fun y3 h=> ?_
  refine zn 18 h fun h=> ?_
  refine zr 1 (d7 .u32) h fun y6 h=> ?_
  refine zn 10 h fun h=> ?_
  refine zr 1 (d7 .u32) h fun y9 h=> ?_
  exact zj 9 h ha
 exact zt 8 h ha
noncomputable def cw7 (sum:Int) (b:List Int):Option Int:=V6 aC8 (.s0 sum b)
theorem dl9 {sum:Int}{b:List Int}{r:Int} (h:cw7 sum b=some r):i0 E 161 [.int .u32 sum,.sl false 1 (List.map (d7 .u8) b)] [] (Rs cH9 r):=sc (fn:=Tryz.f161) (k:=false) (m:=0) (stM:=cG4) h fun s=>by
 cases s with
 | s0=>exact db8
 | s1=>exact cT6
end Go.RX.L

namespace Go.RX.L
open Go Go.RX Go.Proofs
attribute [local irreducible] f6
noncomputable def dz3 (y:Int):D×f4:=(.int .u32 y,[])
noncomputable def bp7 (b:List Int):Option Int:=((cw7 0 b).bind fun y1=>(some y1))
theorem cu1 {b:List Int}{r:Int} (h:bp7 b=some r):i0 E 153 [.sl false 1 (List.map (d7 .u8) b)] [] (Rs dz3 r):=so (fn:=Tryz.f153) (k:=false) (m:=0) h<| by
 intro r h;unfold bp7 at h
 refine zc 8 [] h (fun _=>dl9) fun y1 h=> ?_
 exact zu 3 h
end Go.RX.L
