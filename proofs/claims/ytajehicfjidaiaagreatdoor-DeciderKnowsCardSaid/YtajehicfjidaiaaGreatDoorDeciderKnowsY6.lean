/-
  Words and walks for DeciderKnows. No condition.
-/
import Derived.Test.YtajehicfjidaiaaGreatDoorDeciderKnowsY5
set_option linter.unusedSectionVars false
set_option linter.unnecessarySimpa false
set_option linter.unusedSimpArgs false
set_option linter.unusedVariables false
set_option maxRecDepth 100000
set_option maxHeartbeats 4000000
namespace Go.RX.L
open Go Go.RX Go.Proofs
attribute [local irreducible] f5
noncomputable def bQ5:=n8 (p6 Tryz.f138)
def G6 (y:Int):List D:= [D.int .i64 y]
inductive I4 where
 | s0 (state:d9) (c:d8) (index:Int) (fuse:Int) (down:Bool) (b3:List Int) (b4:List Int)
 | s1 (n:Int) (state2:d9) (c2:d8) (index2:Int) (fuse2:Int) (down2:Bool) (b32:List Int) (b42:List Int)
noncomputable def H9 (l:Nat):I4→M
 | .s0 state c index fuse down b3 b4=>⟨[.code (p6 Tryz.f138)],[(0,D.yld l),(1,D.ptr 0 0 0)],[some ⟨1,true,[[D.ptr 1 0 0]]⟩,some ⟨88,true,[[D.int .i64 state.boot,D.int .i64 state.known.Epoch,D.int .i64 state.known.Target,D.int .i64 state.known.Prev,D.int .i64 state.known.Spill,D.int .i64 state.known.Percent,D.int .i64 state.known.Stamp,D.int .i64 state.known.Since,D.int .i64 state.known.Ramped,D.int .u64 state.known.Up,D.int .u64 state.known.Sup,D.sl false 1 (List.map (d7 .i64) state.known.Pen),D.sl false 1 (List.map (d7 .i64) state.known.Changes),D.int .i64 state.heard,D.sl false 3 (List.map i6.enc state.votes),D.int .i64 state.hold.Epoch,D.int .i64 state.hold.Nonce,D.int .u64 state.hold.Grants,D.int .i64 state.hold.Until,D.bool state.asked.ever,D.int .i64 state.asked.at_,D.int .i64 state.prop.Epoch,D.int .i64 state.prop.Ballot,D.int .i64 state.prop.Phase,D.int .i64 state.prop.Own.Epoch,D.int .i64 state.prop.Own.Target,D.int .i64 state.prop.Own.Prev,D.int .i64 state.prop.Own.Spill,D.int .i64 state.prop.Own.Percent,D.int .i64 state.prop.Own.Stamp,D.int .i64 state.prop.Own.Since,D.int .i64 state.prop.Own.Ramped,D.int .u64 state.prop.Own.Up,D.int .u64 state.prop.Own.Sup,D.sl false 1 (List.map (d7 .i64) state.prop.Own.Pen),D.sl false 1 (List.map (d7 .i64) state.prop.Own.Changes),D.int .i64 state.prop.Best,D.int .i64 state.prop.Value.Epoch,D.int .i64 state.prop.Value.Target,D.int .i64 state.prop.Value.Prev,D.int .i64 state.prop.Value.Spill,D.int .i64 state.prop.Value.Percent,D.int .i64 state.prop.Value.Stamp,D.int .i64 state.prop.Value.Since,D.int .i64 state.prop.Value.Ramped,D.int .u64 state.prop.Value.Up,D.int .u64 state.prop.Value.Sup,D.sl false 1 (List.map (d7 .i64) state.prop.Value.Pen),D.sl false 1 (List.map (d7 .i64) state.prop.Value.Changes),D.int .u64 state.prop.Promises,D.int .u64 state.prop.Accepts,D.int .i64 state.made,D.int .i64 state.top,D.int .u64 state.sealed,D.bool state.told.ever,D.int .i64 state.told.at_,D.int .i64 c.F_,D.int .i64 c.Deciders,D.int .i64 c.Targets,D.int .i64 c.Routers,D.int .i64 c.Observers,D.sl false 1 (List.map (d7 .i64) c.Tiers),D.int .i64 c.Every,D.int .i64 c.Wait,D.int .i64 c.Rise,D.int .i64 c.Fall,D.int .i64 c.Fresh,D.int .i64 c.L_,D.int .i64 c.M_,D.int .i64 c.Dwell,D.int .i64 c.D_,D.int .i64 c.W_,D.int .i64 c.B_,D.int .i64 c.Hit,D.int .i64 c.Suppress,D.int .i64 c.Reuse,D.int .i64 c.Half,D.int .i64 c.First,D.int .i64 c.Step,D.int .i64 c.StepTime,D.int .i64 c.S_,D.int .i64 c.Cap,D.int .i64 c.Span,D.int .i64 c.Room,D.int .i64 c.Tries,D.int .i64 c.Retry,D.int .i64 index,D.ptr 2 0 0]]⟩,some ⟨4,true,[[(f6 3 (List.map (d7 .u8) b3)),(f6 4 (List.map (d7 .u8) b4)),D.int .i64 fuse,D.bool down]]⟩,some ⟨1,false,(List.map (d7 .u8) b3)⟩,some ⟨1,false,(List.map (d7 .u8) b4)⟩]⟩
 | .s1 n state2 c2 index2 fuse2 down2 b32 b42=>⟨[.lpc (bQ5 [1,0,0]) 11,.blk 0],[(0,D.yld l),(1,D.ptr 0 0 0),(3,D.int .i64 n)],[some ⟨1,true,[[D.ptr 1 0 0]]⟩,some ⟨88,true,[[D.int .i64 state2.boot,D.int .i64 state2.known.Epoch,D.int .i64 state2.known.Target,D.int .i64 state2.known.Prev,D.int .i64 state2.known.Spill,D.int .i64 state2.known.Percent,D.int .i64 state2.known.Stamp,D.int .i64 state2.known.Since,D.int .i64 state2.known.Ramped,D.int .u64 state2.known.Up,D.int .u64 state2.known.Sup,D.sl false 1 (List.map (d7 .i64) state2.known.Pen),D.sl false 1 (List.map (d7 .i64) state2.known.Changes),D.int .i64 state2.heard,D.sl false 3 (List.map i6.enc state2.votes),D.int .i64 state2.hold.Epoch,D.int .i64 state2.hold.Nonce,D.int .u64 state2.hold.Grants,D.int .i64 state2.hold.Until,D.bool state2.asked.ever,D.int .i64 state2.asked.at_,D.int .i64 state2.prop.Epoch,D.int .i64 state2.prop.Ballot,D.int .i64 state2.prop.Phase,D.int .i64 state2.prop.Own.Epoch,D.int .i64 state2.prop.Own.Target,D.int .i64 state2.prop.Own.Prev,D.int .i64 state2.prop.Own.Spill,D.int .i64 state2.prop.Own.Percent,D.int .i64 state2.prop.Own.Stamp,D.int .i64 state2.prop.Own.Since,D.int .i64 state2.prop.Own.Ramped,D.int .u64 state2.prop.Own.Up,D.int .u64 state2.prop.Own.Sup,D.sl false 1 (List.map (d7 .i64) state2.prop.Own.Pen),D.sl false 1 (List.map (d7 .i64) state2.prop.Own.Changes),D.int .i64 state2.prop.Best,D.int .i64 state2.prop.Value.Epoch,D.int .i64 state2.prop.Value.Target,D.int .i64 state2.prop.Value.Prev,D.int .i64 state2.prop.Value.Spill,D.int .i64 state2.prop.Value.Percent,D.int .i64 state2.prop.Value.Stamp,D.int .i64 state2.prop.Value.Since,D.int .i64 state2.prop.Value.Ramped,D.int .u64 state2.prop.Value.Up,D.int .u64 state2.prop.Value.Sup,D.sl false 1 (List.map (d7 .i64) state2.prop.Value.Pen),D.sl false 1 (List.map (d7 .i64) state2.prop.Value.Changes),D.int .u64 state2.prop.Promises,D.int .u64 state2.prop.Accepts,D.int .i64 state2.made,D.int .i64 state2.top,D.int .u64 state2.sealed,D.bool state2.told.ever,D.int .i64 state2.told.at_,D.int .i64 c2.F_,D.int .i64 c2.Deciders,D.int .i64 c2.Targets,D.int .i64 c2.Routers,D.int .i64 c2.Observers,D.sl false 1 (List.map (d7 .i64) c2.Tiers),D.int .i64 c2.Every,D.int .i64 c2.Wait,D.int .i64 c2.Rise,D.int .i64 c2.Fall,D.int .i64 c2.Fresh,D.int .i64 c2.L_,D.int .i64 c2.M_,D.int .i64 c2.Dwell,D.int .i64 c2.D_,D.int .i64 c2.W_,D.int .i64 c2.B_,D.int .i64 c2.Hit,D.int .i64 c2.Suppress,D.int .i64 c2.Reuse,D.int .i64 c2.Half,D.int .i64 c2.First,D.int .i64 c2.Step,D.int .i64 c2.StepTime,D.int .i64 c2.S_,D.int .i64 c2.Cap,D.int .i64 c2.Span,D.int .i64 c2.Room,D.int .i64 c2.Tries,D.int .i64 c2.Retry,D.int .i64 index2,D.ptr 2 0 0]]⟩,some ⟨4,true,[[(f6 3 (List.map (d7 .u8) b32)),(f6 4 (List.map (d7 .u8) b42)),D.int .i64 fuse2,D.bool down2]]⟩,some ⟨1,false,(List.map (d7 .u8) b32)⟩,some ⟨1,false,(List.map (d7 .u8) b42)⟩]⟩
noncomputable def am2 (state:d9) (c:d8) (index fuse:Int) (down:Bool) (b3 b4:List Int):Option (List Int×Option I4):=((H6 c 0).bind fun y1=>(some ([],some (.s1 y1 state c index fuse down b3 b4))))
noncomputable def R5 (n:Int) (state2:d9) (c2:d8) (index2 fuse2:Int) (down2:Bool) (b32 b42:List Int):Option (List Int×Option I4):=((X4 c2 0).bind fun y1=>(bif (decide ((n:Int)<y1)) then ((H6 c2 index2).bind fun y3=>(bif ((n:Int) !=y3) then (Option.map (fun p=>(n::p.1,p.2)) (some ([],some (.s1 (IntKind.i64.wrap (n+1)) state2 c2 index2 fuse2 down2 b32 b42)))) else (some ([],some (.s1 (IntKind.i64.wrap (n+1)) state2 c2 index2 fuse2 down2 b32 b42))))) else (some ([],none))))
noncomputable def V9:I4→f3
 | .s0 state c index fuse down b3 b4=> [some ⟨1,true,[[D.ptr 1 0 0]]⟩,some ⟨88,true,[[D.int .i64 state.boot,D.int .i64 state.known.Epoch,D.int .i64 state.known.Target,D.int .i64 state.known.Prev,D.int .i64 state.known.Spill,D.int .i64 state.known.Percent,D.int .i64 state.known.Stamp,D.int .i64 state.known.Since,D.int .i64 state.known.Ramped,D.int .u64 state.known.Up,D.int .u64 state.known.Sup,D.sl false 1 (List.map (d7 .i64) state.known.Pen),D.sl false 1 (List.map (d7 .i64) state.known.Changes),D.int .i64 state.heard,D.sl false 3 (List.map i6.enc state.votes),D.int .i64 state.hold.Epoch,D.int .i64 state.hold.Nonce,D.int .u64 state.hold.Grants,D.int .i64 state.hold.Until,D.bool state.asked.ever,D.int .i64 state.asked.at_,D.int .i64 state.prop.Epoch,D.int .i64 state.prop.Ballot,D.int .i64 state.prop.Phase,D.int .i64 state.prop.Own.Epoch,D.int .i64 state.prop.Own.Target,D.int .i64 state.prop.Own.Prev,D.int .i64 state.prop.Own.Spill,D.int .i64 state.prop.Own.Percent,D.int .i64 state.prop.Own.Stamp,D.int .i64 state.prop.Own.Since,D.int .i64 state.prop.Own.Ramped,D.int .u64 state.prop.Own.Up,D.int .u64 state.prop.Own.Sup,D.sl false 1 (List.map (d7 .i64) state.prop.Own.Pen),D.sl false 1 (List.map (d7 .i64) state.prop.Own.Changes),D.int .i64 state.prop.Best,D.int .i64 state.prop.Value.Epoch,D.int .i64 state.prop.Value.Target,D.int .i64 state.prop.Value.Prev,D.int .i64 state.prop.Value.Spill,D.int .i64 state.prop.Value.Percent,D.int .i64 state.prop.Value.Stamp,D.int .i64 state.prop.Value.Since,D.int .i64 state.prop.Value.Ramped,D.int .u64 state.prop.Value.Up,D.int .u64 state.prop.Value.Sup,D.sl false 1 (List.map (d7 .i64) state.prop.Value.Pen),D.sl false 1 (List.map (d7 .i64) state.prop.Value.Changes),D.int .u64 state.prop.Promises,D.int .u64 state.prop.Accepts,D.int .i64 state.made,D.int .i64 state.top,D.int .u64 state.sealed,D.bool state.told.ever,D.int .i64 state.told.at_,D.int .i64 c.F_,D.int .i64 c.Deciders,D.int .i64 c.Targets,D.int .i64 c.Routers,D.int .i64 c.Observers,D.sl false 1 (List.map (d7 .i64) c.Tiers),D.int .i64 c.Every,D.int .i64 c.Wait,D.int .i64 c.Rise,D.int .i64 c.Fall,D.int .i64 c.Fresh,D.int .i64 c.L_,D.int .i64 c.M_,D.int .i64 c.Dwell,D.int .i64 c.D_,D.int .i64 c.W_,D.int .i64 c.B_,D.int .i64 c.Hit,D.int .i64 c.Suppress,D.int .i64 c.Reuse,D.int .i64 c.Half,D.int .i64 c.First,D.int .i64 c.Step,D.int .i64 c.StepTime,D.int .i64 c.S_,D.int .i64 c.Cap,D.int .i64 c.Span,D.int .i64 c.Room,D.int .i64 c.Tries,D.int .i64 c.Retry,D.int .i64 index,D.ptr 2 0 0]]⟩,some ⟨4,true,[[(f6 3 (List.map (d7 .u8) b3)),(f6 4 (List.map (d7 .u8) b4)),D.int .i64 fuse,D.bool down]]⟩,some ⟨1,false,(List.map (d7 .u8) b3)⟩,some ⟨1,false,(List.map (d7 .u8) b4)⟩]
 | .s1 n state2 c2 index2 fuse2 down2 b32 b42=> [some ⟨1,true,[[D.ptr 1 0 0]]⟩,some ⟨88,true,[[D.int .i64 state2.boot,D.int .i64 state2.known.Epoch,D.int .i64 state2.known.Target,D.int .i64 state2.known.Prev,D.int .i64 state2.known.Spill,D.int .i64 state2.known.Percent,D.int .i64 state2.known.Stamp,D.int .i64 state2.known.Since,D.int .i64 state2.known.Ramped,D.int .u64 state2.known.Up,D.int .u64 state2.known.Sup,D.sl false 1 (List.map (d7 .i64) state2.known.Pen),D.sl false 1 (List.map (d7 .i64) state2.known.Changes),D.int .i64 state2.heard,D.sl false 3 (List.map i6.enc state2.votes),D.int .i64 state2.hold.Epoch,D.int .i64 state2.hold.Nonce,D.int .u64 state2.hold.Grants,D.int .i64 state2.hold.Until,D.bool state2.asked.ever,D.int .i64 state2.asked.at_,D.int .i64 state2.prop.Epoch,D.int .i64 state2.prop.Ballot,D.int .i64 state2.prop.Phase,D.int .i64 state2.prop.Own.Epoch,D.int .i64 state2.prop.Own.Target,D.int .i64 state2.prop.Own.Prev,D.int .i64 state2.prop.Own.Spill,D.int .i64 state2.prop.Own.Percent,D.int .i64 state2.prop.Own.Stamp,D.int .i64 state2.prop.Own.Since,D.int .i64 state2.prop.Own.Ramped,D.int .u64 state2.prop.Own.Up,D.int .u64 state2.prop.Own.Sup,D.sl false 1 (List.map (d7 .i64) state2.prop.Own.Pen),D.sl false 1 (List.map (d7 .i64) state2.prop.Own.Changes),D.int .i64 state2.prop.Best,D.int .i64 state2.prop.Value.Epoch,D.int .i64 state2.prop.Value.Target,D.int .i64 state2.prop.Value.Prev,D.int .i64 state2.prop.Value.Spill,D.int .i64 state2.prop.Value.Percent,D.int .i64 state2.prop.Value.Stamp,D.int .i64 state2.prop.Value.Since,D.int .i64 state2.prop.Value.Ramped,D.int .u64 state2.prop.Value.Up,D.int .u64 state2.prop.Value.Sup,D.sl false 1 (List.map (d7 .i64) state2.prop.Value.Pen),D.sl false 1 (List.map (d7 .i64) state2.prop.Value.Changes),D.int .u64 state2.prop.Promises,D.int .u64 state2.prop.Accepts,D.int .i64 state2.made,D.int .i64 state2.top,D.int .u64 state2.sealed,D.bool state2.told.ever,D.int .i64 state2.told.at_,D.int .i64 c2.F_,D.int .i64 c2.Deciders,D.int .i64 c2.Targets,D.int .i64 c2.Routers,D.int .i64 c2.Observers,D.sl false 1 (List.map (d7 .i64) c2.Tiers),D.int .i64 c2.Every,D.int .i64 c2.Wait,D.int .i64 c2.Rise,D.int .i64 c2.Fall,D.int .i64 c2.Fresh,D.int .i64 c2.L_,D.int .i64 c2.M_,D.int .i64 c2.Dwell,D.int .i64 c2.D_,D.int .i64 c2.W_,D.int .i64 c2.B_,D.int .i64 c2.Hit,D.int .i64 c2.Suppress,D.int .i64 c2.Reuse,D.int .i64 c2.Half,D.int .i64 c2.First,D.int .i64 c2.Step,D.int .i64 c2.StepTime,D.int .i64 c2.S_,D.int .i64 c2.Cap,D.int .i64 c2.Span,D.int .i64 c2.Room,D.int .i64 c2.Tries,D.int .i64 c2.Retry,D.int .i64 index2,D.ptr 2 0 0]]⟩,some ⟨4,true,[[(f6 3 (List.map (d7 .u8) b32)),(f6 4 (List.map (d7 .u8) b42)),D.int .i64 fuse2,D.bool down2]]⟩,some ⟨1,false,(List.map (d7 .u8) b32)⟩,some ⟨1,false,(List.map (d7 .u8) b42)⟩]
noncomputable def H2:I4→Option (List Int×Option I4)
 | .s0 state c index fuse down b3 b4=>am2 state c index fuse down b3 b4
 | .s1 n state2 c2 index2 fuse2 down2 b32 b42=>R5 n state2 c2 index2 fuse2 down2 b32 b42
theorem bD4 {l:Nat}{ln:f3}{φ0:p9}{J:Option (List (List D))→World→(Nat→Prop)→(Nat→Prop)→Prop}{state:d9}{c:d8}{index fuse:Int}{down:Bool}{b3 b4:List Int}{x:List Int×Option I4}{Y:List (List D)} (hl:V9 (.s0 state c index fuse down b3 b4)=ln) (h:am2 state c index fuse down b3 b4=some x) (ha:Z4 E ln (Cx.seq Tryz.f138 5 ln l φ0 J) G6 (H9 l) V9 x Y):f5 E (Cx.seq Tryz.f138 5 ln l φ0 J (some Y)) (fun _ s=>O0 ln s) (.go (H9 l (.s0 state c index fuse down b3 b4))):=by
 subst hl
 unfold am2 at h
 refine zc 9 [] h (fun _=>R4) fun y1 h=> ?_
 refine l5 hm 5 _ ?_
 obtain rfl:=Option.some.inj h
 exact aP7 (q' := .go (H9 l (.s1 y1 state c index fuse down b3 b4))) (by kernel_rfl) (K3 (by kernel_rfl) ha)
theorem bz9 {l:Nat}{ln:f3}{φ0:p9}{J:Option (List (List D))→World→(Nat→Prop)→(Nat→Prop)→Prop}{n:Int}{state2:d9}{c2:d8}{index2 fuse2:Int}{down2:Bool}{b32 b42:List Int}{x:List Int×Option I4}{Y:List (List D)} (hl:V9 (.s1 n state2 c2 index2 fuse2 down2 b32 b42)=ln) (h:R5 n state2 c2 index2 fuse2 down2 b32 b42=some x) (ha:Z4 E ln (Cx.seq Tryz.f138 5 ln l φ0 J) G6 (H9 l) V9 x Y):f5 E (Cx.seq Tryz.f138 5 ln l φ0 J (some Y)) (fun _ s=>O0 ln s) (.go (H9 l (.s1 n state2 c2 index2 fuse2 down2 b32 b42))):=by
 subst hl
 unfold R5 at h
 refine zc 12 [] h (fun _=>aV4) fun y1 h=> ?_
 refine zs 3 h (fun h=> ?_) fun h=> ?_
 ·
  refine zd 9 [] h (fun _=>R4) fun y3 h=> ?_
  refine zs 0 h (fun h=> ?_) fun h=> ?_
  ·
   refine l5 hm 3 _ ?_
   refine bJ7 (x:=n) (s:= [some ⟨1,true,[[D.ptr 1 0 0]]⟩,some ⟨88,true,[[D.int .i64 state2.boot,D.int .i64 state2.known.Epoch,D.int .i64 state2.known.Target,D.int .i64 state2.known.Prev,D.int .i64 state2.known.Spill,D.int .i64 state2.known.Percent,D.int .i64 state2.known.Stamp,D.int .i64 state2.known.Since,D.int .i64 state2.known.Ramped,D.int .u64 state2.known.Up,D.int .u64 state2.known.Sup,D.sl false 1 (List.map (d7 .i64) state2.known.Pen),D.sl false 1 (List.map (d7 .i64) state2.known.Changes),D.int .i64 state2.heard,D.sl false 3 (List.map i6.enc state2.votes),D.int .i64 state2.hold.Epoch,D.int .i64 state2.hold.Nonce,D.int .u64 state2.hold.Grants,D.int .i64 state2.hold.Until,D.bool state2.asked.ever,D.int .i64 state2.asked.at_,D.int .i64 state2.prop.Epoch,D.int .i64 state2.prop.Ballot,D.int .i64 state2.prop.Phase,D.int .i64 state2.prop.Own.Epoch,D.int .i64 state2.prop.Own.Target,D.int .i64 state2.prop.Own.Prev,D.int .i64 state2.prop.Own.Spill,D.int .i64 state2.prop.Own.Percent,D.int .i64 state2.prop.Own.Stamp,D.int .i64 state2.prop.Own.Since,D.int .i64 state2.prop.Own.Ramped,D.int .u64 state2.prop.Own.Up,D.int .u64 state2.prop.Own.Sup,D.sl false 1 (List.map (d7 .i64) state2.prop.Own.Pen),D.sl false 1 (List.map (d7 .i64) state2.prop.Own.Changes),D.int .i64 state2.prop.Best,D.int .i64 state2.prop.Value.Epoch,D.int .i64 state2.prop.Value.Target,D.int .i64 state2.prop.Value.Prev,D.int .i64 state2.prop.Value.Spill,D.int .i64 state2.prop.Value.Percent,D.int .i64 state2.prop.Value.Stamp,D.int .i64 state2.prop.Value.Since,D.int .i64 state2.prop.Value.Ramped,D.int .u64 state2.prop.Value.Up,D.int .u64 state2.prop.Value.Sup,D.sl false 1 (List.map (d7 .i64) state2.prop.Value.Pen),D.sl false 1 (List.map (d7 .i64) state2.prop.Value.Changes),D.int .u64 state2.prop.Promises,D.int .u64 state2.prop.Accepts,D.int .i64 state2.made,D.int .i64 state2.top,D.int .u64 state2.sealed,D.bool state2.told.ever,D.int .i64 state2.told.at_,D.int .i64 c2.F_,D.int .i64 c2.Deciders,D.int .i64 c2.Targets,D.int .i64 c2.Routers,D.int .i64 c2.Observers,D.sl false 1 (List.map (d7 .i64) c2.Tiers),D.int .i64 c2.Every,D.int .i64 c2.Wait,D.int .i64 c2.Rise,D.int .i64 c2.Fall,D.int .i64 c2.Fresh,D.int .i64 c2.L_,D.int .i64 c2.M_,D.int .i64 c2.Dwell,D.int .i64 c2.D_,D.int .i64 c2.W_,D.int .i64 c2.B_,D.int .i64 c2.Hit,D.int .i64 c2.Suppress,D.int .i64 c2.Reuse,D.int .i64 c2.Half,D.int .i64 c2.First,D.int .i64 c2.Step,D.int .i64 c2.StepTime,D.int .i64 c2.S_,D.int .i64 c2.Cap,D.int .i64 c2.Span,D.int .i64 c2.Room,D.int .i64 c2.Tries,D.int .i64 c2.Retry,D.int .i64 index2,D.ptr 2 0 0]]⟩,some ⟨4,true,[[(f6 3 (List.map (d7 .u8) b32)),(f6 4 (List.map (d7 .u8) b42)),D.int .i64 fuse2,D.bool down2]]⟩,some ⟨1,false,(List.map (d7 .u8) b32)⟩,some ⟨1,false,(List.map (d7 .u8) b42)⟩]) h ha (by kernel_rfl) (by kernel_rfl) ?_ (fun p Y h ha=> ?_)
   ·--it is stopped
    refine l5 hm 8 _ ?_
    exact bo1 (d:=D.tup []) (s:= [some ⟨1,true,[[D.ptr 1 0 0]]⟩,some ⟨88,true,[[D.int .i64 state2.boot,D.int .i64 state2.known.Epoch,D.int .i64 state2.known.Target,D.int .i64 state2.known.Prev,D.int .i64 state2.known.Spill,D.int .i64 state2.known.Percent,D.int .i64 state2.known.Stamp,D.int .i64 state2.known.Since,D.int .i64 state2.known.Ramped,D.int .u64 state2.known.Up,D.int .u64 state2.known.Sup,D.sl false 1 (List.map (d7 .i64) state2.known.Pen),D.sl false 1 (List.map (d7 .i64) state2.known.Changes),D.int .i64 state2.heard,D.sl false 3 (List.map i6.enc state2.votes),D.int .i64 state2.hold.Epoch,D.int .i64 state2.hold.Nonce,D.int .u64 state2.hold.Grants,D.int .i64 state2.hold.Until,D.bool state2.asked.ever,D.int .i64 state2.asked.at_,D.int .i64 state2.prop.Epoch,D.int .i64 state2.prop.Ballot,D.int .i64 state2.prop.Phase,D.int .i64 state2.prop.Own.Epoch,D.int .i64 state2.prop.Own.Target,D.int .i64 state2.prop.Own.Prev,D.int .i64 state2.prop.Own.Spill,D.int .i64 state2.prop.Own.Percent,D.int .i64 state2.prop.Own.Stamp,D.int .i64 state2.prop.Own.Since,D.int .i64 state2.prop.Own.Ramped,D.int .u64 state2.prop.Own.Up,D.int .u64 state2.prop.Own.Sup,D.sl false 1 (List.map (d7 .i64) state2.prop.Own.Pen),D.sl false 1 (List.map (d7 .i64) state2.prop.Own.Changes),D.int .i64 state2.prop.Best,D.int .i64 state2.prop.Value.Epoch,D.int .i64 state2.prop.Value.Target,D.int .i64 state2.prop.Value.Prev,D.int .i64 state2.prop.Value.Spill,D.int .i64 state2.prop.Value.Percent,D.int .i64 state2.prop.Value.Stamp,D.int .i64 state2.prop.Value.Since,D.int .i64 state2.prop.Value.Ramped,D.int .u64 state2.prop.Value.Up,D.int .u64 state2.prop.Value.Sup,D.sl false 1 (List.map (d7 .i64) state2.prop.Value.Pen),D.sl false 1 (List.map (d7 .i64) state2.prop.Value.Changes),D.int .u64 state2.prop.Promises,D.int .u64 state2.prop.Accepts,D.int .i64 state2.made,D.int .i64 state2.top,D.int .u64 state2.sealed,D.bool state2.told.ever,D.int .i64 state2.told.at_,D.int .i64 c2.F_,D.int .i64 c2.Deciders,D.int .i64 c2.Targets,D.int .i64 c2.Routers,D.int .i64 c2.Observers,D.sl false 1 (List.map (d7 .i64) c2.Tiers),D.int .i64 c2.Every,D.int .i64 c2.Wait,D.int .i64 c2.Rise,D.int .i64 c2.Fall,D.int .i64 c2.Fresh,D.int .i64 c2.L_,D.int .i64 c2.M_,D.int .i64 c2.Dwell,D.int .i64 c2.D_,D.int .i64 c2.W_,D.int .i64 c2.B_,D.int .i64 c2.Hit,D.int .i64 c2.Suppress,D.int .i64 c2.Reuse,D.int .i64 c2.Half,D.int .i64 c2.First,D.int .i64 c2.Step,D.int .i64 c2.StepTime,D.int .i64 c2.S_,D.int .i64 c2.Cap,D.int .i64 c2.Span,D.int .i64 c2.Room,D.int .i64 c2.Tries,D.int .i64 c2.Retry,D.int .i64 index2,D.ptr 2 0 0]]⟩,some ⟨4,true,[[(f6 3 (List.map (d7 .u8) b32)),(f6 4 (List.map (d7 .u8) b42)),D.int .i64 fuse2,D.bool down2]]⟩,some ⟨1,false,(List.map (d7 .u8) b32)⟩,some ⟨1,false,(List.map (d7 .u8) b42)⟩]) (by kernel_rfl) (by kernel_rfl)
   ·--it goes on
    refine l5 hm 15 _ ?_
    obtain rfl:=Option.some.inj h
    exact aP7 (q' := .go (H9 l (.s1 (IntKind.i64.wrap (n+1)) state2 c2 index2 fuse2 down2 b32 b42))) (by kernel_rfl) (K3 (by kernel_rfl) ha)
  refine l5 hm 18 _ ?_
  obtain rfl:=Option.some.inj h
  exact aP7 (q' := .go (H9 l (.s1 (IntKind.i64.wrap (n+1)) state2 c2 index2 fuse2 down2 b32 b42))) (by kernel_rfl) (K3 (by kernel_rfl) ha)
 refine l5 hm 2 _ ?_
 obtain rfl:=Option.some.inj h
 exact bE4 (d:=D.tup []) (s:= [some ⟨1,true,[[D.ptr 1 0 0]]⟩,some ⟨88,true,[[D.int .i64 state2.boot,D.int .i64 state2.known.Epoch,D.int .i64 state2.known.Target,D.int .i64 state2.known.Prev,D.int .i64 state2.known.Spill,D.int .i64 state2.known.Percent,D.int .i64 state2.known.Stamp,D.int .i64 state2.known.Since,D.int .i64 state2.known.Ramped,D.int .u64 state2.known.Up,D.int .u64 state2.known.Sup,D.sl false 1 (List.map (d7 .i64) state2.known.Pen),D.sl false 1 (List.map (d7 .i64) state2.known.Changes),D.int .i64 state2.heard,D.sl false 3 (List.map i6.enc state2.votes),D.int .i64 state2.hold.Epoch,D.int .i64 state2.hold.Nonce,D.int .u64 state2.hold.Grants,D.int .i64 state2.hold.Until,D.bool state2.asked.ever,D.int .i64 state2.asked.at_,D.int .i64 state2.prop.Epoch,D.int .i64 state2.prop.Ballot,D.int .i64 state2.prop.Phase,D.int .i64 state2.prop.Own.Epoch,D.int .i64 state2.prop.Own.Target,D.int .i64 state2.prop.Own.Prev,D.int .i64 state2.prop.Own.Spill,D.int .i64 state2.prop.Own.Percent,D.int .i64 state2.prop.Own.Stamp,D.int .i64 state2.prop.Own.Since,D.int .i64 state2.prop.Own.Ramped,D.int .u64 state2.prop.Own.Up,D.int .u64 state2.prop.Own.Sup,D.sl false 1 (List.map (d7 .i64) state2.prop.Own.Pen),D.sl false 1 (List.map (d7 .i64) state2.prop.Own.Changes),D.int .i64 state2.prop.Best,D.int .i64 state2.prop.Value.Epoch,D.int .i64 state2.prop.Value.Target,D.int .i64 state2.prop.Value.Prev,D.int .i64 state2.prop.Value.Spill,D.int .i64 state2.prop.Value.Percent,D.int .i64 state2.prop.Value.Stamp,D.int .i64 state2.prop.Value.Since,D.int .i64 state2.prop.Value.Ramped,D.int .u64 state2.prop.Value.Up,D.int .u64 state2.prop.Value.Sup,D.sl false 1 (List.map (d7 .i64) state2.prop.Value.Pen),D.sl false 1 (List.map (d7 .i64) state2.prop.Value.Changes),D.int .u64 state2.prop.Promises,D.int .u64 state2.prop.Accepts,D.int .i64 state2.made,D.int .i64 state2.top,D.int .u64 state2.sealed,D.bool state2.told.ever,D.int .i64 state2.told.at_,D.int .i64 c2.F_,D.int .i64 c2.Deciders,D.int .i64 c2.Targets,D.int .i64 c2.Routers,D.int .i64 c2.Observers,D.sl false 1 (List.map (d7 .i64) c2.Tiers),D.int .i64 c2.Every,D.int .i64 c2.Wait,D.int .i64 c2.Rise,D.int .i64 c2.Fall,D.int .i64 c2.Fresh,D.int .i64 c2.L_,D.int .i64 c2.M_,D.int .i64 c2.Dwell,D.int .i64 c2.D_,D.int .i64 c2.W_,D.int .i64 c2.B_,D.int .i64 c2.Hit,D.int .i64 c2.Suppress,D.int .i64 c2.Reuse,D.int .i64 c2.Half,D.int .i64 c2.First,D.int .i64 c2.Step,D.int .i64 c2.StepTime,D.int .i64 c2.S_,D.int .i64 c2.Cap,D.int .i64 c2.Span,D.int .i64 c2.Room,D.int .i64 c2.Tries,D.int .i64 c2.Retry,D.int .i64 index2,D.ptr 2 0 0]]⟩,some ⟨4,true,[[(f6 3 (List.map (d7 .u8) b32)),(f6 4 (List.map (d7 .u8) b42)),D.int .i64 fuse2,D.bool down2]]⟩,some ⟨1,false,(List.map (d7 .u8) b32)⟩,some ⟨1,false,(List.map (d7 .u8) b42)⟩]) (by kernel_rfl) (by kernel_rfl) ha
noncomputable def av5 (state:d9) (c:d8) (index fuse:Int) (down:Bool) (b3 b4:List Int):Option (List Int):=evl H2 (.s0 state c index fuse down b3 b4)
theorem bN9 {state:d9}{c:d8}{index fuse:Int}{down:Bool}{b3 b4 r:List Int} (h:av5 state c index fuse down b3 b4=some r):ah7 E 138 [D.ptr 0 0 0] [some ⟨1,true,[[D.ptr 1 0 0]]⟩,some ⟨88,true,[[D.int .i64 state.boot,D.int .i64 state.known.Epoch,D.int .i64 state.known.Target,D.int .i64 state.known.Prev,D.int .i64 state.known.Spill,D.int .i64 state.known.Percent,D.int .i64 state.known.Stamp,D.int .i64 state.known.Since,D.int .i64 state.known.Ramped,D.int .u64 state.known.Up,D.int .u64 state.known.Sup,D.sl false 1 (List.map (d7 .i64) state.known.Pen),D.sl false 1 (List.map (d7 .i64) state.known.Changes),D.int .i64 state.heard,D.sl false 3 (List.map i6.enc state.votes),D.int .i64 state.hold.Epoch,D.int .i64 state.hold.Nonce,D.int .u64 state.hold.Grants,D.int .i64 state.hold.Until,D.bool state.asked.ever,D.int .i64 state.asked.at_,D.int .i64 state.prop.Epoch,D.int .i64 state.prop.Ballot,D.int .i64 state.prop.Phase,D.int .i64 state.prop.Own.Epoch,D.int .i64 state.prop.Own.Target,D.int .i64 state.prop.Own.Prev,D.int .i64 state.prop.Own.Spill,D.int .i64 state.prop.Own.Percent,D.int .i64 state.prop.Own.Stamp,D.int .i64 state.prop.Own.Since,D.int .i64 state.prop.Own.Ramped,D.int .u64 state.prop.Own.Up,D.int .u64 state.prop.Own.Sup,D.sl false 1 (List.map (d7 .i64) state.prop.Own.Pen),D.sl false 1 (List.map (d7 .i64) state.prop.Own.Changes),D.int .i64 state.prop.Best,D.int .i64 state.prop.Value.Epoch,D.int .i64 state.prop.Value.Target,D.int .i64 state.prop.Value.Prev,D.int .i64 state.prop.Value.Spill,D.int .i64 state.prop.Value.Percent,D.int .i64 state.prop.Value.Stamp,D.int .i64 state.prop.Value.Since,D.int .i64 state.prop.Value.Ramped,D.int .u64 state.prop.Value.Up,D.int .u64 state.prop.Value.Sup,D.sl false 1 (List.map (d7 .i64) state.prop.Value.Pen),D.sl false 1 (List.map (d7 .i64) state.prop.Value.Changes),D.int .u64 state.prop.Promises,D.int .u64 state.prop.Accepts,D.int .i64 state.made,D.int .i64 state.top,D.int .u64 state.sealed,D.bool state.told.ever,D.int .i64 state.told.at_,D.int .i64 c.F_,D.int .i64 c.Deciders,D.int .i64 c.Targets,D.int .i64 c.Routers,D.int .i64 c.Observers,D.sl false 1 (List.map (d7 .i64) c.Tiers),D.int .i64 c.Every,D.int .i64 c.Wait,D.int .i64 c.Rise,D.int .i64 c.Fall,D.int .i64 c.Fresh,D.int .i64 c.L_,D.int .i64 c.M_,D.int .i64 c.Dwell,D.int .i64 c.D_,D.int .i64 c.W_,D.int .i64 c.B_,D.int .i64 c.Hit,D.int .i64 c.Suppress,D.int .i64 c.Reuse,D.int .i64 c.Half,D.int .i64 c.First,D.int .i64 c.Step,D.int .i64 c.StepTime,D.int .i64 c.S_,D.int .i64 c.Cap,D.int .i64 c.Span,D.int .i64 c.Room,D.int .i64 c.Tries,D.int .i64 c.Retry,D.int .i64 index,D.ptr 2 0 0]]⟩,some ⟨4,true,[[(f6 3 (List.map (d7 .u8) b3)),(f6 4 (List.map (d7 .u8) b4)),D.int .i64 fuse,D.bool down]]⟩,some ⟨1,false,(List.map (d7 .u8) b3)⟩,some ⟨1,false,(List.map (d7 .u8) b4)⟩] [some ⟨1,true,[[D.ptr 1 0 0]]⟩,some ⟨88,true,[[D.int .i64 state.boot,D.int .i64 state.known.Epoch,D.int .i64 state.known.Target,D.int .i64 state.known.Prev,D.int .i64 state.known.Spill,D.int .i64 state.known.Percent,D.int .i64 state.known.Stamp,D.int .i64 state.known.Since,D.int .i64 state.known.Ramped,D.int .u64 state.known.Up,D.int .u64 state.known.Sup,D.sl false 1 (List.map (d7 .i64) state.known.Pen),D.sl false 1 (List.map (d7 .i64) state.known.Changes),D.int .i64 state.heard,D.sl false 3 (List.map i6.enc state.votes),D.int .i64 state.hold.Epoch,D.int .i64 state.hold.Nonce,D.int .u64 state.hold.Grants,D.int .i64 state.hold.Until,D.bool state.asked.ever,D.int .i64 state.asked.at_,D.int .i64 state.prop.Epoch,D.int .i64 state.prop.Ballot,D.int .i64 state.prop.Phase,D.int .i64 state.prop.Own.Epoch,D.int .i64 state.prop.Own.Target,D.int .i64 state.prop.Own.Prev,D.int .i64 state.prop.Own.Spill,D.int .i64 state.prop.Own.Percent,D.int .i64 state.prop.Own.Stamp,D.int .i64 state.prop.Own.Since,D.int .i64 state.prop.Own.Ramped,D.int .u64 state.prop.Own.Up,D.int .u64 state.prop.Own.Sup,D.sl false 1 (List.map (d7 .i64) state.prop.Own.Pen),D.sl false 1 (List.map (d7 .i64) state.prop.Own.Changes),D.int .i64 state.prop.Best,D.int .i64 state.prop.Value.Epoch,D.int .i64 state.prop.Value.Target,D.int .i64 state.prop.Value.Prev,D.int .i64 state.prop.Value.Spill,D.int .i64 state.prop.Value.Percent,D.int .i64 state.prop.Value.Stamp,D.int .i64 state.prop.Value.Since,D.int .i64 state.prop.Value.Ramped,D.int .u64 state.prop.Value.Up,D.int .u64 state.prop.Value.Sup,D.sl false 1 (List.map (d7 .i64) state.prop.Value.Pen),D.sl false 1 (List.map (d7 .i64) state.prop.Value.Changes),D.int .u64 state.prop.Promises,D.int .u64 state.prop.Accepts,D.int .i64 state.made,D.int .i64 state.top,D.int .u64 state.sealed,D.bool state.told.ever,D.int .i64 state.told.at_,D.int .i64 c.F_,D.int .i64 c.Deciders,D.int .i64 c.Targets,D.int .i64 c.Routers,D.int .i64 c.Observers,D.sl false 1 (List.map (d7 .i64) c.Tiers),D.int .i64 c.Every,D.int .i64 c.Wait,D.int .i64 c.Rise,D.int .i64 c.Fall,D.int .i64 c.Fresh,D.int .i64 c.L_,D.int .i64 c.M_,D.int .i64 c.Dwell,D.int .i64 c.D_,D.int .i64 c.W_,D.int .i64 c.B_,D.int .i64 c.Hit,D.int .i64 c.Suppress,D.int .i64 c.Reuse,D.int .i64 c.Half,D.int .i64 c.First,D.int .i64 c.Step,D.int .i64 c.StepTime,D.int .i64 c.S_,D.int .i64 c.Cap,D.int .i64 c.Span,D.int .i64 c.Room,D.int .i64 c.Tries,D.int .i64 c.Retry,D.int .i64 index,D.ptr 2 0 0]]⟩,some ⟨4,true,[[(f6 3 (List.map (d7 .u8) b3)),(f6 4 (List.map (d7 .u8) b4)),D.int .i64 fuse,D.bool down]]⟩,some ⟨1,false,(List.map (d7 .u8) b3)⟩,some ⟨1,false,(List.map (d7 .u8) b4)⟩] (List.map G6 r):=
 bz1 (m:=fun l=>H9 l (.s0 state c index fuse down b3 b4)) (fn:=Tryz.f138) (by kernel_rfl) (fun l=>by kernel_rfl) (show List.take _ _=_ by kernel_rfl) (show A9 _ _=_ by kernel_rfl) (fun l φ0 J=>bn3 (step:=H2) (lnS:=V9) (fun s x Y hl hs ha=>by
  cases s with
  | s0=>exact bD4 hl hs ha
  | s1=>exact bz9 hl hs ha) (by kernel_rfl) (bE3 h))
end Go.RX.L

namespace Go.RX.L
open Go Go.RX Go.Proofs
attribute [local irreducible] f5
noncomputable def p7:=n8 (p6 Tryz.f63)
noncomputable def z3 (state:d9) (c:d8) (index fuse:Int) (down:Bool) (b3 b4:List Int) (y:List e9):D×f3:=((f6 5 (List.map e9.enc y)),[some ⟨88,true,[(d9.l state (d8.l c [.int .i64 index,.ptr 2 0 0]))]⟩,some ⟨1,true,[[.ptr 0 0 0]]⟩,some ⟨4,true,[[(f6 3 (List.map (d7 .u8) b3)),(f6 4 (List.map (d7 .u8) b4)),.int .i64 fuse,.bool down]]⟩,some ⟨1,false,(List.map (d7 .u8) b3)⟩,some ⟨1,false,(List.map (d7 .u8) b4)⟩,some ⟨26,false,(List.map e9.enc y)⟩])
inductive r9 where
 | s0
 | s1 (b8:List e9)
 | s2 (m2:e9) (b8:List e9) (Y:List Int)
noncomputable def P2 (m:e9) (state:d9) (c:d8) (index fuse:Int) (down:Bool) (b3 b4:List Int):r9→M
 | .s0=>A2 Tryz.f63 [.ptr 0 0 0,.fn 138 [] [.ptr 1 0 0],.agg (e9.enc m)] [some ⟨88,true,[(d9.l state (d8.l c [.int .i64 index,.ptr 2 0 0]))]⟩,some ⟨1,true,[[.ptr 0 0 0]]⟩,some ⟨4,true,[[(f6 3 (List.map (d7 .u8) b3)),(f6 4 (List.map (d7 .u8) b4)),.int .i64 fuse,.bool down]]⟩,some ⟨1,false,(List.map (d7 .u8) b3)⟩,some ⟨1,false,(List.map (d7 .u8) b4)⟩]
 | .s1 b8=>⟨[.code (p7 [1,1,0,1,0]),.blk 0,.code (p7 [1,1,1])],[(3,.ptr 5 0 0),(5,.ptr 6 0 0),(7,.ptr 7 0 0),(9,.fn 138 [] [.ptr 1 0 0])],[some ⟨88,true,[(d9.l state (d8.l c [.int .i64 index,.ptr 2 0 0]))]⟩,some ⟨1,true,[[.ptr 0 0 0]]⟩,some ⟨4,true,[[(f6 3 (List.map (d7 .u8) b3)),(f6 4 (List.map (d7 .u8) b4)),.int .i64 fuse,.bool down]]⟩,some ⟨1,false,(List.map (d7 .u8) b3)⟩,some ⟨1,false,(List.map (d7 .u8) b4)⟩,some ⟨1,true,[[.ptr 0 0 0]]⟩,some ⟨26,false,[(e9.enc m)]⟩,some ⟨1,true,[[(f6 8 (List.map e9.enc b8))]]⟩,some ⟨26,false,(List.map e9.enc b8)⟩]⟩
 | .s2 m2 b8 Y=>⟨[.blk 0,.code (p7 [1,1,1])],[(3,.ptr 5 0 0),(5,.ptr 6 0 0),(7,.ptr 7 0 0),(9,.fn 138 [] [.ptr 1 0 0])],[some ⟨88,true,[(d9.l state (d8.l c [.int .i64 index,.ptr 2 0 0]))]⟩,some ⟨1,true,[[.ptr 0 0 0]]⟩,some ⟨4,true,[[(f6 3 (List.map (d7 .u8) b3)),(f6 4 (List.map (d7 .u8) b4)),.int .i64 fuse,.bool down]]⟩,some ⟨1,false,(List.map (d7 .u8) b3)⟩,some ⟨1,false,(List.map (d7 .u8) b4)⟩,some ⟨1,true,[[.ptr 0 0 0]]⟩,some ⟨26,false,[(e9.enc m2)]⟩,some ⟨1,true,[[(f6 8 (List.map e9.enc b8))]]⟩,some ⟨26,false,(List.map e9.enc b8)⟩]⟩
noncomputable def I9 (m:e9) (state:d9) (c:d8) (index fuse:Int) (down:Bool) (b3 b4:List Int):r9→(List e9)→Prop
 | .s0,r_=>f5 E (Cx.of Tryz.f63 true 5) (QW (Rs (z3 state c index fuse down b3 b4) r_)) (.go ((P2 m state c index fuse down b3 b4) (.s0)))
 | .s1 b8,r_=>f5 E (Cx.of Tryz.f63 true 5) (QW (Rs (z3 state c index fuse down b3 b4) r_)) (.go ((P2 m state c index fuse down b3 b4) (.s1 b8)))
 | .s2 m2 b8 Y,r_=>L3 E (Cx.of Tryz.f63 true 5) (QW (Rs (z3 state c index fuse down b3 b4) r_)) 8 (p7 [1,1,0,1,0]) [.blk 0,.code (p7 [1,1,1])] [(3,.ptr 5 0 0),(5,.ptr 6 0 0),(7,.ptr 7 0 0),(9,.fn 138 [] [.ptr 1 0 0])] [1,0,2,3,4] [some ⟨1,true,[[.ptr 0 0 0]]⟩,some ⟨88,true,[(d9.l state (d8.l c [.int .i64 index,.ptr 2 0 0]))]⟩,some ⟨4,true,[[(f6 3 (List.map (d7 .u8) b3)),(f6 4 (List.map (d7 .u8) b4)),.int .i64 fuse,.bool down]]⟩,some ⟨1,false,(List.map (d7 .u8) b3)⟩,some ⟨1,false,(List.map (d7 .u8) b4)⟩] (List.map G6 Y) [some ⟨88,true,[(d9.l state (d8.l c [.int .i64 index,.ptr 2 0 0]))]⟩,some ⟨1,true,[[.ptr 0 0 0]]⟩,some ⟨4,true,[[(f6 3 (List.map (d7 .u8) b3)),(f6 4 (List.map (d7 .u8) b4)),.int .i64 fuse,.bool down]]⟩,some ⟨1,false,(List.map (d7 .u8) b3)⟩,some ⟨1,false,(List.map (d7 .u8) b4)⟩,some ⟨1,true,[[.ptr 0 0 0]]⟩,some ⟨26,false,[(e9.enc m2)]⟩,some ⟨1,true,[[(f6 8 (List.map e9.enc b8))]]⟩,some ⟨26,false,(List.map e9.enc b8)⟩]
noncomputable def ap0 (m:e9) (state:d9) (c:d8) (index fuse:Int) (down:Bool) (b3 b4:List Int):Option (r9⊕(List e9)):=(some (.inl (.s1 ([]))))
noncomputable def X7 (m:e9) (state:d9) (c:d8) (index fuse:Int) (down:Bool) (b3 b4:List Int) (b8:List e9):Option (r9⊕(List e9)):=((av5 state c index fuse down b3 b4).bind fun y1=>(some (.inl (.s2 m b8 y1))))
noncomputable def V3 (m:e9) (state:d9) (c:d8) (index fuse:Int) (down:Bool) (b3 b4:List Int) (m2:e9) (b8:List e9):Option (r9⊕(List e9)):=(some (.inr b8))
noncomputable def V6 (m:e9) (state:d9) (c:d8) (index fuse:Int) (down:Bool) (b3 b4:List Int) (m2:e9) (b8:List e9) (y:Int) (Y:List Int):Option (r9⊕(List e9)):=((H6 c index).bind fun y1=>(bif (decide (((List.map e9.enc b8).length+1)*288≤i7)) then (some (.inl (.s2 (⟨m2.Kind,y1,y,m2.Epoch,m2.Ballot,m2.Accepted,m2.Nonce,m2.Time,m2.Up,m2.Code,m2.HasPlan,m2.Plan,m2.ID,m2.Session,m2.Payload⟩:e9) (b8++ [(⟨m2.Kind,y1,y,m2.Epoch,m2.Ballot,m2.Accepted,m2.Nonce,m2.Time,m2.Up,m2.Code,m2.HasPlan,m2.Plan,m2.ID,m2.Session,m2.Payload⟩:e9)]) Y))) else none))
noncomputable def Y3 (m:e9) (state:d9) (c:d8) (index fuse:Int) (down:Bool) (b3 b4:List Int) (m2:e9) (b8:List e9):List Int→Option (r9⊕(List e9))
 | []=>V3 m state c index fuse down b3 b4 m2 b8
 | y::Y=>V6 m state c index fuse down b3 b4 m2 b8 y Y
noncomputable def G0 (m:e9) (state:d9) (c:d8) (index fuse:Int) (down:Bool) (b3 b4:List Int):r9→Option (r9⊕(List e9))
 | .s0=>ap0 m state c index fuse down b3 b4
 | .s1 b8=>X7 m state c index fuse down b3 b4 b8
 | .s2 m2 b8 Y=>Y3 m state c index fuse down b3 b4 m2 b8 Y
theorem bk6 {m:e9}{state:d9}{c:d8}{index fuse:Int}{down:Bool}{b3 b4:List Int}{r:List e9}{x:r9⊕(List e9)} (h:ap0 m state c index fuse down b3 b4=some x) (ha:z5 (I9 m state c index fuse down b3 b4) r x):f5 E (Cx.of Tryz.f63 true 5) (QW (Rs (z3 state c index fuse down b3 b4) r)) (.go ((P2 m state c index fuse down b3 b4) (.s0))):=by
 unfold ap0 at h
 refine l5 hm 16 _ ?_
 obtain rfl:=Option.some.inj h
 refine ap9 1704 [.matc 7 0 0 26] (m' :=⟨[.code (p7 [1,1,0,1,0]),.blk 0,.code (p7 [1,1,1])],[(3,.ptr 5 0 0),(5,.ptr 6 0 0),(7,.ptr 7 0 0),(9,.fn 138 [] [.ptr 1 0 0])],[some ⟨88,true,[(d9.l state (d8.l c [.int .i64 index,.ptr 2 0 0]))]⟩,some ⟨1,true,[[.ptr 0 0 0]]⟩,some ⟨4,true,[[(f6 3 (List.map (d7 .u8) b3)),(f6 4 (List.map (d7 .u8) b4)),.int .i64 fuse,.bool down]]⟩,some ⟨1,false,(List.map (d7 .u8) b3)⟩,some ⟨1,false,(List.map (d7 .u8) b4)⟩,some ⟨1,true,[[.ptr 0 0 0]]⟩,some ⟨26,false,[(e9.enc m)]⟩,some ⟨1,true,[[.msl 8 0 0 0 false]]⟩,some ⟨26,false,[]⟩]⟩) (by kernel_rfl) ?_
 refine ae9 (n1:=0) (n2:=(List.map e9.enc ([])).length) (fun n_len=> .go ⟨[.code (p7 [1,1,0,1,0]),.blk 0,.code (p7 [1,1,1])],[(3,.ptr 5 0 0),(5,.ptr 6 0 0),(7,.ptr 7 0 0),(9,.fn 138 [] [.ptr 1 0 0])],[some ⟨88,true,[(d9.l state (d8.l c [.int .i64 index,.ptr 2 0 0]))]⟩,some ⟨1,true,[[.ptr 0 0 0]]⟩,some ⟨4,true,[[(f6 3 (List.map (d7 .u8) b3)),(f6 4 (List.map (d7 .u8) b4)),.int .i64 fuse,.bool down]]⟩,some ⟨1,false,(List.map (d7 .u8) b3)⟩,some ⟨1,false,(List.map (d7 .u8) b4)⟩,some ⟨1,true,[[.ptr 0 0 0]]⟩,some ⟨26,false,[(e9.enc m)]⟩,some ⟨1,true,[[.msl 8 0 n_len n_len false]]⟩,some ⟨26,false,[]⟩]⟩) (by simp) ?_
 exact ha
theorem bk9 {m:e9}{state:d9}{c:d8}{index fuse:Int}{down:Bool}{b3 b4:List Int}{b8 r:List e9}{x:r9⊕(List e9)} (h:X7 m state c index fuse down b3 b4 b8=some x) (ha:z5 (I9 m state c index fuse down b3 b4) r x):f5 E (Cx.of Tryz.f63 true 5) (QW (Rs (z3 state c index fuse down b3 b4) r)) (.go ((P2 m state c index fuse down b3 b4) (.s1 b8))):=by
 unfold X7 at h
 refine l5 hm 1 _ ?_
 have ok1:=fun (y:List Int) (hy:av5 state c index fuse down b3 b4=some y)=>bN9 hy
 refine cX6 (m:=8) (c:=p7 [1,1,0,1,0]) (t:= [.blk 0,.code (p7 [1,1,1])]) (fr:= [(3,.ptr 5 0 0),(5,.ptr 6 0 0),(7,.ptr 7 0 0),(9,.fn 138 [] [.ptr 1 0 0])]) (σ:= [some ⟨88,true,[(d9.l state (d8.l c [.int .i64 index,.ptr 2 0 0]))]⟩,some ⟨1,true,[[.ptr 0 0 0]]⟩,some ⟨4,true,[[(f6 3 (List.map (d7 .u8) b3)),(f6 4 (List.map (d7 .u8) b4)),.int .i64 fuse,.bool down]]⟩,some ⟨1,false,(List.map (d7 .u8) b3)⟩,some ⟨1,false,(List.map (d7 .u8) b4)⟩,some ⟨1,true,[[.ptr 0 0 0]]⟩,some ⟨26,false,[(e9.enc m)]⟩,some ⟨1,true,[[(f6 8 (List.map e9.enc b8))]]⟩,some ⟨26,false,(List.map e9.enc b8)⟩]) (ids:= [1,0,2,3,4]) (bs:= [some ⟨1,true,[[.ptr 0 0 0]]⟩,some ⟨88,true,[(d9.l state (d8.l c [.int .i64 index,.ptr 2 0 0]))]⟩,some ⟨4,true,[[(f6 3 (List.map (d7 .u8) b3)),(f6 4 (List.map (d7 .u8) b4)),.int .i64 fuse,.bool down]]⟩,some ⟨1,false,(List.map (d7 .u8) b3)⟩,some ⟨1,false,(List.map (d7 .u8) b4)⟩]) (caps1:= [.ptr 0 0 0]) (caps:= [.ptr 0 0 0]) (sub1:= [some ⟨1,true,[[.ptr 1 0 0]]⟩,some ⟨88,true,[(d9.l state (d8.l c [.int .i64 index,.ptr 2 0 0]))]⟩,some ⟨4,true,[[(f6 3 (List.map (d7 .u8) b3)),(f6 4 (List.map (d7 .u8) b4)),.int .i64 fuse,.bool down]]⟩,some ⟨1,false,(List.map (d7 .u8) b3)⟩,some ⟨1,false,(List.map (d7 .u8) b4)⟩]) (sub:= [some ⟨1,true,[[.ptr 1 0 0]]⟩,some ⟨88,true,[(d9.l state (d8.l c [.int .i64 index,.ptr 2 0 0]))]⟩,some ⟨4,true,[[(f6 3 (List.map (d7 .u8) b3)),(f6 4 (List.map (d7 .u8) b4)),.int .i64 fuse,.bool down]]⟩,some ⟨1,false,(List.map (d7 .u8) b3)⟩,some ⟨1,false,(List.map (d7 .u8) b4)⟩]) G6 h (by kernel_rfl) ⟨rfl,rfl⟩ (by kernel_rfl) (by kernel_rfl) (by kernel_rfl) (by kernel_rfl) (by kernel_rfl) ok1 (fun y1 h1 h=> ?_)
 obtain rfl:=Option.some.inj h
 exact ha
theorem be8 {m:e9}{state:d9}{c:d8}{index fuse:Int}{down:Bool}{b3 b4:List Int}{m2:e9}{b8 r:List e9}{x:r9⊕(List e9)} (h:V3 m state c index fuse down b3 b4 m2 b8=some x) (ha:z5 (I9 m state c index fuse down b3 b4) r x):L3 E (Cx.of Tryz.f63 true 5) (QW (Rs (z3 state c index fuse down b3 b4) r)) 8 (p7 [1,1,0,1,0]) [.blk 0,.code (p7 [1,1,1])] [(3,.ptr 5 0 0),(5,.ptr 6 0 0),(7,.ptr 7 0 0),(9,.fn 138 [] [.ptr 1 0 0])] [1,0,2,3,4] [some ⟨1,true,[[.ptr 0 0 0]]⟩,some ⟨88,true,[(d9.l state (d8.l c [.int .i64 index,.ptr 2 0 0]))]⟩,some ⟨4,true,[[(f6 3 (List.map (d7 .u8) b3)),(f6 4 (List.map (d7 .u8) b4)),.int .i64 fuse,.bool down]]⟩,some ⟨1,false,(List.map (d7 .u8) b3)⟩,some ⟨1,false,(List.map (d7 .u8) b4)⟩] ([]) [some ⟨88,true,[(d9.l state (d8.l c [.int .i64 index,.ptr 2 0 0]))]⟩,some ⟨1,true,[[.ptr 0 0 0]]⟩,some ⟨4,true,[[(f6 3 (List.map (d7 .u8) b3)),(f6 4 (List.map (d7 .u8) b4)),.int .i64 fuse,.bool down]]⟩,some ⟨1,false,(List.map (d7 .u8) b3)⟩,some ⟨1,false,(List.map (d7 .u8) b4)⟩,some ⟨1,true,[[.ptr 0 0 0]]⟩,some ⟨26,false,[(e9.enc m2)]⟩,some ⟨1,true,[[(f6 8 (List.map e9.enc b8))]]⟩,some ⟨26,false,(List.map e9.enc b8)⟩]:=by
 unfold V3 at h
 refine aW2 ?_
 exact ztP 8 h ha
theorem bg2 {m:e9}{state:d9}{c:d8}{index fuse:Int}{down:Bool}{b3 b4:List Int}{m2:e9}{b8:List e9}{y:Int}{Y:List Int}{r:List e9}{x:r9⊕(List e9)} (h:V6 m state c index fuse down b3 b4 m2 b8 y Y=some x) (ha:z5 (I9 m state c index fuse down b3 b4) r x):L3 E (Cx.of Tryz.f63 true 5) (QW (Rs (z3 state c index fuse down b3 b4) r)) 8 (p7 [1,1,0,1,0]) [.blk 0,.code (p7 [1,1,1])] [(3,.ptr 5 0 0),(5,.ptr 6 0 0),(7,.ptr 7 0 0),(9,.fn 138 [] [.ptr 1 0 0])] [1,0,2,3,4] [some ⟨1,true,[[.ptr 0 0 0]]⟩,some ⟨88,true,[(d9.l state (d8.l c [.int .i64 index,.ptr 2 0 0]))]⟩,some ⟨4,true,[[(f6 3 (List.map (d7 .u8) b3)),(f6 4 (List.map (d7 .u8) b4)),.int .i64 fuse,.bool down]]⟩,some ⟨1,false,(List.map (d7 .u8) b3)⟩,some ⟨1,false,(List.map (d7 .u8) b4)⟩] (G6 y::List.map G6 Y) [some ⟨88,true,[(d9.l state (d8.l c [.int .i64 index,.ptr 2 0 0]))]⟩,some ⟨1,true,[[.ptr 0 0 0]]⟩,some ⟨4,true,[[(f6 3 (List.map (d7 .u8) b3)),(f6 4 (List.map (d7 .u8) b4)),.int .i64 fuse,.bool down]]⟩,some ⟨1,false,(List.map (d7 .u8) b3)⟩,some ⟨1,false,(List.map (d7 .u8) b4)⟩,some ⟨1,true,[[.ptr 0 0 0]]⟩,some ⟨26,false,[(e9.enc m2)]⟩,some ⟨1,true,[[(f6 8 (List.map e9.enc b8))]]⟩,some ⟨26,false,(List.map e9.enc b8)⟩]:=by
 unfold V6 at h
 refine aM7 ?_
 refine zd 7 [] h (fun _=>R4) fun y1 h=> ?_
 refine zn 12 h fun h=> ?_
 refine za 0 e9.enc b8 ([(⟨m2.Kind,y1,y,m2.Epoch,m2.Ballot,m2.Accepted,m2.Nonce,m2.Time,m2.Up,m2.Code,m2.HasPlan,m2.Plan,m2.ID,m2.Session,m2.Payload⟩:e9)]) ?_
 refine l5 hm 6 _ ?_
 obtain rfl:=Option.some.inj h
 exact aH6 [] (s1:= [some ⟨88,true,[(d9.l state (d8.l c [.int .i64 index,.ptr 2 0 0]))]⟩,some ⟨1,true,[[.ptr 0 0 0]]⟩,some ⟨4,true,[[(f6 3 (List.map (d7 .u8) b3)),(f6 4 (List.map (d7 .u8) b4)),.int .i64 fuse,.bool down]]⟩,some ⟨1,false,(List.map (d7 .u8) b3)⟩,some ⟨1,false,(List.map (d7 .u8) b4)⟩,some ⟨1,true,[[.ptr 0 0 0]]⟩,some ⟨26,false,[(.int .i64 m2.Kind:: .int .i64 y1:: .int .i64 y:: .int .i64 m2.Epoch:: .int .i64 m2.Ballot:: .int .i64 m2.Accepted:: .int .i64 m2.Nonce:: .int .i64 m2.Time:: .int .u64 m2.Up:: .int .i64 m2.Code:: .bool m2.HasPlan::Plan.l m2.Plan [.sl false 1 (List.map (d7 .i64) m2.ID),.sl false 1 (List.map (d7 .u8) m2.Session),.sl false 1 (List.map (d7 .u8) m2.Payload)])]⟩,some ⟨1,true,[[.msl 8 0 ((List.map e9.enc (b8++ [(⟨m2.Kind,y1,y,m2.Epoch,m2.Ballot,m2.Accepted,m2.Nonce,m2.Time,m2.Up,m2.Code,m2.HasPlan,m2.Plan,m2.ID,m2.Session,m2.Payload⟩:e9)])).length) ((List.map e9.enc (b8++ [(⟨m2.Kind,y1,y,m2.Epoch,m2.Ballot,m2.Accepted,m2.Nonce,m2.Time,m2.Up,m2.Code,m2.HasPlan,m2.Plan,m2.ID,m2.Session,m2.Payload⟩:e9)])).length) false]]⟩,some ⟨26,false,(List.map e9.enc (b8++ [(⟨m2.Kind,y1,y,m2.Epoch,m2.Ballot,m2.Accepted,m2.Nonce,m2.Time,m2.Up,m2.Code,m2.HasPlan,m2.Plan,m2.ID,m2.Session,m2.Payload⟩:e9)]))⟩]) (s:= [some ⟨88,true,[(d9.l state (d8.l c [.int .i64 index,.ptr 2 0 0]))]⟩,some ⟨1,true,[[.ptr 0 0 0]]⟩,some ⟨4,true,[[(f6 3 (List.map (d7 .u8) b3)),(f6 4 (List.map (d7 .u8) b4)),.int .i64 fuse,.bool down]]⟩,some ⟨1,false,(List.map (d7 .u8) b3)⟩,some ⟨1,false,(List.map (d7 .u8) b4)⟩,some ⟨1,true,[[.ptr 0 0 0]]⟩,some ⟨26,false,[(.int .i64 m2.Kind:: .int .i64 y1:: .int .i64 y:: .int .i64 m2.Epoch:: .int .i64 m2.Ballot:: .int .i64 m2.Accepted:: .int .i64 m2.Nonce:: .int .i64 m2.Time:: .int .u64 m2.Up:: .int .i64 m2.Code:: .bool m2.HasPlan::Plan.l m2.Plan [.sl false 1 (List.map (d7 .i64) m2.ID),.sl false 1 (List.map (d7 .u8) m2.Session),.sl false 1 (List.map (d7 .u8) m2.Payload)])]⟩,some ⟨1,true,[[.msl 8 0 ((List.map e9.enc (b8++ [(⟨m2.Kind,y1,y,m2.Epoch,m2.Ballot,m2.Accepted,m2.Nonce,m2.Time,m2.Up,m2.Code,m2.HasPlan,m2.Plan,m2.ID,m2.Session,m2.Payload⟩:e9)])).length) ((List.map e9.enc (b8++ [(⟨m2.Kind,y1,y,m2.Epoch,m2.Ballot,m2.Accepted,m2.Nonce,m2.Time,m2.Up,m2.Code,m2.HasPlan,m2.Plan,m2.ID,m2.Session,m2.Payload⟩:e9)])).length) false]]⟩,some ⟨26,false,(List.map e9.enc (b8++ [(⟨m2.Kind,y1,y,m2.Epoch,m2.Ballot,m2.Accepted,m2.Nonce,m2.Time,m2.Up,m2.Code,m2.HasPlan,m2.Plan,m2.ID,m2.Session,m2.Payload⟩:e9)]))⟩]) (by kernel_rfl) (rfl) (by kernel_rfl) ha
theorem bj6 {m:e9}{state:d9}{c:d8}{index fuse:Int}{down:Bool}{b3 b4:List Int}{m2:e9}{b8:List e9}{Y:List Int}{r:List e9}{x:r9⊕(List e9)} (h:Y3 m state c index fuse down b3 b4 m2 b8 Y=some x) (ha:z5 (I9 m state c index fuse down b3 b4) r x):L3 E (Cx.of Tryz.f63 true 5) (QW (Rs (z3 state c index fuse down b3 b4) r)) 8 (p7 [1,1,0,1,0]) [.blk 0,.code (p7 [1,1,1])] [(3,.ptr 5 0 0),(5,.ptr 6 0 0),(7,.ptr 7 0 0),(9,.fn 138 [] [.ptr 1 0 0])] [1,0,2,3,4] [some ⟨1,true,[[.ptr 0 0 0]]⟩,some ⟨88,true,[(d9.l state (d8.l c [.int .i64 index,.ptr 2 0 0]))]⟩,some ⟨4,true,[[(f6 3 (List.map (d7 .u8) b3)),(f6 4 (List.map (d7 .u8) b4)),.int .i64 fuse,.bool down]]⟩,some ⟨1,false,(List.map (d7 .u8) b3)⟩,some ⟨1,false,(List.map (d7 .u8) b4)⟩] (List.map G6 Y) [some ⟨88,true,[(d9.l state (d8.l c [.int .i64 index,.ptr 2 0 0]))]⟩,some ⟨1,true,[[.ptr 0 0 0]]⟩,some ⟨4,true,[[(f6 3 (List.map (d7 .u8) b3)),(f6 4 (List.map (d7 .u8) b4)),.int .i64 fuse,.bool down]]⟩,some ⟨1,false,(List.map (d7 .u8) b3)⟩,some ⟨1,false,(List.map (d7 .u8) b4)⟩,some ⟨1,true,[[.ptr 0 0 0]]⟩,some ⟨26,false,[(e9.enc m2)]⟩,some ⟨1,true,[[(f6 8 (List.map e9.enc b8))]]⟩,some ⟨26,false,(List.map e9.enc b8)⟩]:=by
 cases Y with
 | nil=>exact be8 h ha
 | cons y Y=>exact bg2 h ha
noncomputable def av4 (m:e9) (state:d9) (c:d8) (index fuse:Int) (down:Bool) (b3 b4:List Int):Option (List e9):=U9 (G0 m state c index fuse down b3 b4) (.s0)
theorem bs8 {m:e9}{state:d9}{c:d8}{index fuse:Int}{down:Bool}{b3 b4:List Int}{r:List e9} (h:Ev (G0 m state c index fuse down b3 b4) (.s0) r):i0 E 63 [.ptr 0 0 0,.fn 138 [] [.ptr 1 0 0],.agg (e9.enc m)] [some ⟨88,true,[(d9.l state (d8.l c [.int .i64 index,.ptr 2 0 0]))]⟩,some ⟨1,true,[[.ptr 0 0 0]]⟩,some ⟨4,true,[[(f6 3 (List.map (d7 .u8) b3)),(f6 4 (List.map (d7 .u8) b4)),.int .i64 fuse,.bool down]]⟩,some ⟨1,false,(List.map (d7 .u8) b3)⟩,some ⟨1,false,(List.map (d7 .u8) b4)⟩] (Rs (z3 state c index fuse down b3 b4) r):=
 am8 (m:=(P2 m state c index fuse down b3 b4) (.s0)) (fn:=Tryz.f63) (by kernel_rfl) (by kernel_rfl) (aW4 (Pd:=(I9 m state c index fuse down b3 b4)) (fun s x r hs ha=>by
  cases s with
  | s0=>exact bk6 hs ha
  | s1=>exact bk9 hs ha
  | s2=>exact bj6 hs ha) h)
theorem bt1 {m:e9}{state:d9}{c:d8}{index fuse:Int}{down:Bool}{b3 b4:List Int}{r:List e9} (h:av4 m state c index fuse down b3 b4=some r):i0 E 63 [.ptr 0 0 0,.fn 138 [] [.ptr 1 0 0],.agg (e9.enc m)] [some ⟨88,true,[(d9.l state (d8.l c [.int .i64 index,.ptr 2 0 0]))]⟩,some ⟨1,true,[[.ptr 0 0 0]]⟩,some ⟨4,true,[[(f6 3 (List.map (d7 .u8) b3)),(f6 4 (List.map (d7 .u8) b4)),.int .i64 fuse,.bool down]]⟩,some ⟨1,false,(List.map (d7 .u8) b3)⟩,some ⟨1,false,(List.map (d7 .u8) b4)⟩] (Rs (z3 state c index fuse down b3 b4) r):=bs8 (bb7 h)
end Go.RX.L

namespace Go.RX.L
open Go Go.RX Go.Proofs
attribute [local irreducible] f5
noncomputable def cz3 (c:d8) (index fuse:Int) (down:Bool) (b2 b3:List Int) (y:(List e9)×d9):D×f3:=(.sl false 26 (List.map e9.enc y.1),[some ⟨88,true,[(d9.l y.2 (d8.l c [.int .i64 index,.ptr 1 0 0]))]⟩,some ⟨4,true,[[(f6 2 (List.map (d7 .u8) b2)),(f6 3 (List.map (d7 .u8) b3)),.int .i64 fuse,.bool down]]⟩,some ⟨1,false,(List.map (d7 .u8) b2)⟩,some ⟨1,false,(List.map (d7 .u8) b3)⟩])
noncomputable def as8 (now:Int) (state:d9) (c:d8) (index fuse:Int) (down:Bool) (b2 b3:List Int):Option ((List e9)×d9):=((aG8 (⟨state.boot,state.known,state.heard,state.votes,state.hold,state.asked,state.prop,state.made,state.top,state.sealed,(⟨true,now⟩:S0)⟩:d9) c index fuse down b2 b3).bind fun y1=>((av4 (⟨9,0,0,state.known.Epoch,0,0,0,0,0,0,true,state.known,[],[],[]⟩:e9) (⟨state.boot,state.known,state.heard,state.votes,state.hold,state.asked,state.prop,state.made,state.top,state.sealed,(⟨true,now⟩:S0)⟩:d9) c index fuse down b2 b3).bind fun y2=>(some (y2,(⟨state.boot,state.known,state.heard,state.votes,state.hold,state.asked,state.prop,state.made,state.top,state.sealed,(⟨true,now⟩:S0)⟩:d9)))))
theorem bu2 {now:Int}{state:d9}{c:d8}{index fuse:Int}{down:Bool}{b2 b3:List Int}{r:(List e9)×d9} (h:as8 now state c index fuse down b2 b3=some r):i0 E 67 [.ptr 0 0 0,.int .i64 now] [some ⟨88,true,[(d9.l state (d8.l c [.int .i64 index,.ptr 1 0 0]))]⟩,some ⟨4,true,[[(f6 2 (List.map (d7 .u8) b2)),(f6 3 (List.map (d7 .u8) b3)),.int .i64 fuse,.bool down]]⟩,some ⟨1,false,(List.map (d7 .u8) b2)⟩,some ⟨1,false,(List.map (d7 .u8) b3)⟩] (Rs (cz3 c index fuse down b2 b3) r):=so (fn:=Tryz.f67) (k:=true) (m:=4) h<| by
 intro r h;unfold as8 at h
 refine zdR 18 [] h (fun _=>ca0) fun y1 h=> ?_
 refine zc 2 [some 1,some 1,some 1] h (fun _=>bt1) fun y2 h=> ?_
 refine bX2 4 (n1:=(0+(List.map e9.enc y2).length)) (n2:=((List.map e9.enc y2).length)) (raw:=(List.take ((List.map e9.enc y2).length) (List.drop 0 (List.map e9.enc y2)))) (rs:=(List.map e9.enc y2)) (by kernel_rfl) (u7 _) (by simp only [z7,E3,List.map_take,List.map_drop]) ?_
 exact zu 1 h
end Go.RX.L

namespace Go.RX.L
open Go Go.RX Go.Proofs
attribute [local irreducible] f5
noncomputable def bN7 (state:d9) (c:d8) (index fuse:Int) (down:Bool) (b2 b3:List Int) (y:Unit):D×f3:=(.fn 105 [] [.ptr 4 0 0],[some ⟨88,true,[(d9.l state (d8.l c [.int .i64 index,.ptr 1 0 0]))]⟩,some ⟨4,true,[[(f6 2 (List.map (d7 .u8) b2)),(f6 3 (List.map (d7 .u8) b3)),.int .i64 fuse,.bool down]]⟩,some ⟨1,false,(List.map (d7 .u8) b2)⟩,some ⟨1,false,(List.map (d7 .u8) b3)⟩,some ⟨1,true,[[.ptr 0 0 0]]⟩])
noncomputable def K6 (state:d9) (c:d8) (index fuse:Int) (down:Bool) (b2 b3:List Int):Option Unit:=(some ())
theorem au3 {state:d9}{c:d8}{index fuse:Int}{down:Bool}{b2 b3:List Int}{r:Unit} (h:K6 state c index fuse down b2 b3=some r):i0 E 64 [.ptr 0 0 0] [some ⟨88,true,[(d9.l state (d8.l c [.int .i64 index,.ptr 1 0 0]))]⟩,some ⟨4,true,[[(f6 2 (List.map (d7 .u8) b2)),(f6 3 (List.map (d7 .u8) b3)),.int .i64 fuse,.bool down]]⟩,some ⟨1,false,(List.map (d7 .u8) b2)⟩,some ⟨1,false,(List.map (d7 .u8) b3)⟩] (Rs (bN7 state c index fuse down b2 b3) r):=so (fn:=Tryz.f64) (k:=true) (m:=4) h<| by
 intro r h;unfold K6 at h
 exact zu 11 h
end Go.RX.L

namespace Go.RX.L
open Go Go.RX Go.Proofs
attribute [local irreducible] f5
noncomputable def bU7 (y:Bool):D×f3:=(.bool y,[])
noncomputable def W5 (o:S0) (now wait:Int):Option Bool:=(bif (!o.ever) then (some true) else (some (decide (((IntKind.i64.wrap (now-o.at_)):Int)≥wait))))
theorem aV6 {o:S0}{now wait:Int}{r:Bool} (h:W5 o now wait=some r):i0 E 77 [.agg [.bool o.ever,.int .i64 o.at_],.int .i64 now,.int .i64 wait] [] (Rs bU7 r):=so (fn:=Tryz.f77) (k:=false) (m:=0) h<| by
 intro r h;unfold W5 at h
 refine zs 13 h (fun h=> ?_) fun h=> ?_
 ·
  exact zu 15 h
 exact zu 16 h
end Go.RX.L

namespace Go.RX.L
open Go Go.RX Go.Proofs
attribute [local irreducible] f5
noncomputable def bE1:=n8 (p6 Tryz.f105)
def C9 (y:Int):List D:= [D.int .i64 y]
inductive E4 where
 | s0 (state:d9) (c:d8) (index:Int) (fuse:Int) (down:Bool) (b3:List Int) (b4:List Int)
 | s1 (t8:Int) (t9:Int) (state2:d9) (c2:d8) (index2:Int) (fuse2:Int) (down2:Bool) (b32:List Int) (b42:List Int)
noncomputable def G9 (l:Nat):E4→M
 | .s0 state c index fuse down b3 b4=>⟨[.code (p6 Tryz.f105)],[(0,D.yld l),(1,D.ptr 0 0 0)],[some ⟨1,true,[[D.ptr 1 0 0]]⟩,some ⟨88,true,[[D.int .i64 state.boot,D.int .i64 state.known.Epoch,D.int .i64 state.known.Target,D.int .i64 state.known.Prev,D.int .i64 state.known.Spill,D.int .i64 state.known.Percent,D.int .i64 state.known.Stamp,D.int .i64 state.known.Since,D.int .i64 state.known.Ramped,D.int .u64 state.known.Up,D.int .u64 state.known.Sup,D.sl false 1 (List.map (d7 .i64) state.known.Pen),D.sl false 1 (List.map (d7 .i64) state.known.Changes),D.int .i64 state.heard,D.sl false 3 (List.map i6.enc state.votes),D.int .i64 state.hold.Epoch,D.int .i64 state.hold.Nonce,D.int .u64 state.hold.Grants,D.int .i64 state.hold.Until,D.bool state.asked.ever,D.int .i64 state.asked.at_,D.int .i64 state.prop.Epoch,D.int .i64 state.prop.Ballot,D.int .i64 state.prop.Phase,D.int .i64 state.prop.Own.Epoch,D.int .i64 state.prop.Own.Target,D.int .i64 state.prop.Own.Prev,D.int .i64 state.prop.Own.Spill,D.int .i64 state.prop.Own.Percent,D.int .i64 state.prop.Own.Stamp,D.int .i64 state.prop.Own.Since,D.int .i64 state.prop.Own.Ramped,D.int .u64 state.prop.Own.Up,D.int .u64 state.prop.Own.Sup,D.sl false 1 (List.map (d7 .i64) state.prop.Own.Pen),D.sl false 1 (List.map (d7 .i64) state.prop.Own.Changes),D.int .i64 state.prop.Best,D.int .i64 state.prop.Value.Epoch,D.int .i64 state.prop.Value.Target,D.int .i64 state.prop.Value.Prev,D.int .i64 state.prop.Value.Spill,D.int .i64 state.prop.Value.Percent,D.int .i64 state.prop.Value.Stamp,D.int .i64 state.prop.Value.Since,D.int .i64 state.prop.Value.Ramped,D.int .u64 state.prop.Value.Up,D.int .u64 state.prop.Value.Sup,D.sl false 1 (List.map (d7 .i64) state.prop.Value.Pen),D.sl false 1 (List.map (d7 .i64) state.prop.Value.Changes),D.int .u64 state.prop.Promises,D.int .u64 state.prop.Accepts,D.int .i64 state.made,D.int .i64 state.top,D.int .u64 state.sealed,D.bool state.told.ever,D.int .i64 state.told.at_,D.int .i64 c.F_,D.int .i64 c.Deciders,D.int .i64 c.Targets,D.int .i64 c.Routers,D.int .i64 c.Observers,D.sl false 1 (List.map (d7 .i64) c.Tiers),D.int .i64 c.Every,D.int .i64 c.Wait,D.int .i64 c.Rise,D.int .i64 c.Fall,D.int .i64 c.Fresh,D.int .i64 c.L_,D.int .i64 c.M_,D.int .i64 c.Dwell,D.int .i64 c.D_,D.int .i64 c.W_,D.int .i64 c.B_,D.int .i64 c.Hit,D.int .i64 c.Suppress,D.int .i64 c.Reuse,D.int .i64 c.Half,D.int .i64 c.First,D.int .i64 c.Step,D.int .i64 c.StepTime,D.int .i64 c.S_,D.int .i64 c.Cap,D.int .i64 c.Span,D.int .i64 c.Room,D.int .i64 c.Tries,D.int .i64 c.Retry,D.int .i64 index,D.ptr 2 0 0]]⟩,some ⟨4,true,[[(f6 3 (List.map (d7 .u8) b3)),(f6 4 (List.map (d7 .u8) b4)),D.int .i64 fuse,D.bool down]]⟩,some ⟨1,false,(List.map (d7 .u8) b3)⟩,some ⟨1,false,(List.map (d7 .u8) b4)⟩]⟩
 | .s1 t8 t9 state2 c2 index2 fuse2 down2 b32 b42=>⟨[.lpc (bE1 [1,0,0]) 769,.blk 0],[(0,D.yld l),(8,D.int .i64 t8),(9,D.int .i64 t9)],[some ⟨1,true,[[D.ptr 1 0 0]]⟩,some ⟨88,true,[[D.int .i64 state2.boot,D.int .i64 state2.known.Epoch,D.int .i64 state2.known.Target,D.int .i64 state2.known.Prev,D.int .i64 state2.known.Spill,D.int .i64 state2.known.Percent,D.int .i64 state2.known.Stamp,D.int .i64 state2.known.Since,D.int .i64 state2.known.Ramped,D.int .u64 state2.known.Up,D.int .u64 state2.known.Sup,D.sl false 1 (List.map (d7 .i64) state2.known.Pen),D.sl false 1 (List.map (d7 .i64) state2.known.Changes),D.int .i64 state2.heard,D.sl false 3 (List.map i6.enc state2.votes),D.int .i64 state2.hold.Epoch,D.int .i64 state2.hold.Nonce,D.int .u64 state2.hold.Grants,D.int .i64 state2.hold.Until,D.bool state2.asked.ever,D.int .i64 state2.asked.at_,D.int .i64 state2.prop.Epoch,D.int .i64 state2.prop.Ballot,D.int .i64 state2.prop.Phase,D.int .i64 state2.prop.Own.Epoch,D.int .i64 state2.prop.Own.Target,D.int .i64 state2.prop.Own.Prev,D.int .i64 state2.prop.Own.Spill,D.int .i64 state2.prop.Own.Percent,D.int .i64 state2.prop.Own.Stamp,D.int .i64 state2.prop.Own.Since,D.int .i64 state2.prop.Own.Ramped,D.int .u64 state2.prop.Own.Up,D.int .u64 state2.prop.Own.Sup,D.sl false 1 (List.map (d7 .i64) state2.prop.Own.Pen),D.sl false 1 (List.map (d7 .i64) state2.prop.Own.Changes),D.int .i64 state2.prop.Best,D.int .i64 state2.prop.Value.Epoch,D.int .i64 state2.prop.Value.Target,D.int .i64 state2.prop.Value.Prev,D.int .i64 state2.prop.Value.Spill,D.int .i64 state2.prop.Value.Percent,D.int .i64 state2.prop.Value.Stamp,D.int .i64 state2.prop.Value.Since,D.int .i64 state2.prop.Value.Ramped,D.int .u64 state2.prop.Value.Up,D.int .u64 state2.prop.Value.Sup,D.sl false 1 (List.map (d7 .i64) state2.prop.Value.Pen),D.sl false 1 (List.map (d7 .i64) state2.prop.Value.Changes),D.int .u64 state2.prop.Promises,D.int .u64 state2.prop.Accepts,D.int .i64 state2.made,D.int .i64 state2.top,D.int .u64 state2.sealed,D.bool state2.told.ever,D.int .i64 state2.told.at_,D.int .i64 c2.F_,D.int .i64 c2.Deciders,D.int .i64 c2.Targets,D.int .i64 c2.Routers,D.int .i64 c2.Observers,D.sl false 1 (List.map (d7 .i64) c2.Tiers),D.int .i64 c2.Every,D.int .i64 c2.Wait,D.int .i64 c2.Rise,D.int .i64 c2.Fall,D.int .i64 c2.Fresh,D.int .i64 c2.L_,D.int .i64 c2.M_,D.int .i64 c2.Dwell,D.int .i64 c2.D_,D.int .i64 c2.W_,D.int .i64 c2.B_,D.int .i64 c2.Hit,D.int .i64 c2.Suppress,D.int .i64 c2.Reuse,D.int .i64 c2.Half,D.int .i64 c2.First,D.int .i64 c2.Step,D.int .i64 c2.StepTime,D.int .i64 c2.S_,D.int .i64 c2.Cap,D.int .i64 c2.Span,D.int .i64 c2.Room,D.int .i64 c2.Tries,D.int .i64 c2.Retry,D.int .i64 index2,D.ptr 2 0 0]]⟩,some ⟨4,true,[[(f6 3 (List.map (d7 .u8) b32)),(f6 4 (List.map (d7 .u8) b42)),D.int .i64 fuse2,D.bool down2]]⟩,some ⟨1,false,(List.map (d7 .u8) b32)⟩,some ⟨1,false,(List.map (d7 .u8) b42)⟩]⟩
noncomputable def aa4 (state:d9) (c:d8) (index fuse:Int) (down:Bool) (b3 b4:List Int):Option (List Int×Option E4):=((al1 c).bind fun y1=>(some ([],some (.s1 y1 0 state c index fuse down b3 b4))))
noncomputable def R6 (t8 t9:Int) (state2:d9) (c2:d8) (index2 fuse2:Int) (down2:Bool) (b32 b42:List Int):Option (List Int×Option E4):=(bif (decide ((t9:Int)<t8)) then (Option.map (fun p=>(t9::p.1,p.2)) (some ([],some (.s1 t8 (IntKind.i64.wrap (t9+1)) state2 c2 index2 fuse2 down2 b32 b42)))) else (some ([],none)))
noncomputable def Q0:E4→f3
 | .s0 state c index fuse down b3 b4=> [some ⟨1,true,[[D.ptr 1 0 0]]⟩,some ⟨88,true,[[D.int .i64 state.boot,D.int .i64 state.known.Epoch,D.int .i64 state.known.Target,D.int .i64 state.known.Prev,D.int .i64 state.known.Spill,D.int .i64 state.known.Percent,D.int .i64 state.known.Stamp,D.int .i64 state.known.Since,D.int .i64 state.known.Ramped,D.int .u64 state.known.Up,D.int .u64 state.known.Sup,D.sl false 1 (List.map (d7 .i64) state.known.Pen),D.sl false 1 (List.map (d7 .i64) state.known.Changes),D.int .i64 state.heard,D.sl false 3 (List.map i6.enc state.votes),D.int .i64 state.hold.Epoch,D.int .i64 state.hold.Nonce,D.int .u64 state.hold.Grants,D.int .i64 state.hold.Until,D.bool state.asked.ever,D.int .i64 state.asked.at_,D.int .i64 state.prop.Epoch,D.int .i64 state.prop.Ballot,D.int .i64 state.prop.Phase,D.int .i64 state.prop.Own.Epoch,D.int .i64 state.prop.Own.Target,D.int .i64 state.prop.Own.Prev,D.int .i64 state.prop.Own.Spill,D.int .i64 state.prop.Own.Percent,D.int .i64 state.prop.Own.Stamp,D.int .i64 state.prop.Own.Since,D.int .i64 state.prop.Own.Ramped,D.int .u64 state.prop.Own.Up,D.int .u64 state.prop.Own.Sup,D.sl false 1 (List.map (d7 .i64) state.prop.Own.Pen),D.sl false 1 (List.map (d7 .i64) state.prop.Own.Changes),D.int .i64 state.prop.Best,D.int .i64 state.prop.Value.Epoch,D.int .i64 state.prop.Value.Target,D.int .i64 state.prop.Value.Prev,D.int .i64 state.prop.Value.Spill,D.int .i64 state.prop.Value.Percent,D.int .i64 state.prop.Value.Stamp,D.int .i64 state.prop.Value.Since,D.int .i64 state.prop.Value.Ramped,D.int .u64 state.prop.Value.Up,D.int .u64 state.prop.Value.Sup,D.sl false 1 (List.map (d7 .i64) state.prop.Value.Pen),D.sl false 1 (List.map (d7 .i64) state.prop.Value.Changes),D.int .u64 state.prop.Promises,D.int .u64 state.prop.Accepts,D.int .i64 state.made,D.int .i64 state.top,D.int .u64 state.sealed,D.bool state.told.ever,D.int .i64 state.told.at_,D.int .i64 c.F_,D.int .i64 c.Deciders,D.int .i64 c.Targets,D.int .i64 c.Routers,D.int .i64 c.Observers,D.sl false 1 (List.map (d7 .i64) c.Tiers),D.int .i64 c.Every,D.int .i64 c.Wait,D.int .i64 c.Rise,D.int .i64 c.Fall,D.int .i64 c.Fresh,D.int .i64 c.L_,D.int .i64 c.M_,D.int .i64 c.Dwell,D.int .i64 c.D_,D.int .i64 c.W_,D.int .i64 c.B_,D.int .i64 c.Hit,D.int .i64 c.Suppress,D.int .i64 c.Reuse,D.int .i64 c.Half,D.int .i64 c.First,D.int .i64 c.Step,D.int .i64 c.StepTime,D.int .i64 c.S_,D.int .i64 c.Cap,D.int .i64 c.Span,D.int .i64 c.Room,D.int .i64 c.Tries,D.int .i64 c.Retry,D.int .i64 index,D.ptr 2 0 0]]⟩,some ⟨4,true,[[(f6 3 (List.map (d7 .u8) b3)),(f6 4 (List.map (d7 .u8) b4)),D.int .i64 fuse,D.bool down]]⟩,some ⟨1,false,(List.map (d7 .u8) b3)⟩,some ⟨1,false,(List.map (d7 .u8) b4)⟩]
 | .s1 t8 t9 state2 c2 index2 fuse2 down2 b32 b42=> [some ⟨1,true,[[D.ptr 1 0 0]]⟩,some ⟨88,true,[[D.int .i64 state2.boot,D.int .i64 state2.known.Epoch,D.int .i64 state2.known.Target,D.int .i64 state2.known.Prev,D.int .i64 state2.known.Spill,D.int .i64 state2.known.Percent,D.int .i64 state2.known.Stamp,D.int .i64 state2.known.Since,D.int .i64 state2.known.Ramped,D.int .u64 state2.known.Up,D.int .u64 state2.known.Sup,D.sl false 1 (List.map (d7 .i64) state2.known.Pen),D.sl false 1 (List.map (d7 .i64) state2.known.Changes),D.int .i64 state2.heard,D.sl false 3 (List.map i6.enc state2.votes),D.int .i64 state2.hold.Epoch,D.int .i64 state2.hold.Nonce,D.int .u64 state2.hold.Grants,D.int .i64 state2.hold.Until,D.bool state2.asked.ever,D.int .i64 state2.asked.at_,D.int .i64 state2.prop.Epoch,D.int .i64 state2.prop.Ballot,D.int .i64 state2.prop.Phase,D.int .i64 state2.prop.Own.Epoch,D.int .i64 state2.prop.Own.Target,D.int .i64 state2.prop.Own.Prev,D.int .i64 state2.prop.Own.Spill,D.int .i64 state2.prop.Own.Percent,D.int .i64 state2.prop.Own.Stamp,D.int .i64 state2.prop.Own.Since,D.int .i64 state2.prop.Own.Ramped,D.int .u64 state2.prop.Own.Up,D.int .u64 state2.prop.Own.Sup,D.sl false 1 (List.map (d7 .i64) state2.prop.Own.Pen),D.sl false 1 (List.map (d7 .i64) state2.prop.Own.Changes),D.int .i64 state2.prop.Best,D.int .i64 state2.prop.Value.Epoch,D.int .i64 state2.prop.Value.Target,D.int .i64 state2.prop.Value.Prev,D.int .i64 state2.prop.Value.Spill,D.int .i64 state2.prop.Value.Percent,D.int .i64 state2.prop.Value.Stamp,D.int .i64 state2.prop.Value.Since,D.int .i64 state2.prop.Value.Ramped,D.int .u64 state2.prop.Value.Up,D.int .u64 state2.prop.Value.Sup,D.sl false 1 (List.map (d7 .i64) state2.prop.Value.Pen),D.sl false 1 (List.map (d7 .i64) state2.prop.Value.Changes),D.int .u64 state2.prop.Promises,D.int .u64 state2.prop.Accepts,D.int .i64 state2.made,D.int .i64 state2.top,D.int .u64 state2.sealed,D.bool state2.told.ever,D.int .i64 state2.told.at_,D.int .i64 c2.F_,D.int .i64 c2.Deciders,D.int .i64 c2.Targets,D.int .i64 c2.Routers,D.int .i64 c2.Observers,D.sl false 1 (List.map (d7 .i64) c2.Tiers),D.int .i64 c2.Every,D.int .i64 c2.Wait,D.int .i64 c2.Rise,D.int .i64 c2.Fall,D.int .i64 c2.Fresh,D.int .i64 c2.L_,D.int .i64 c2.M_,D.int .i64 c2.Dwell,D.int .i64 c2.D_,D.int .i64 c2.W_,D.int .i64 c2.B_,D.int .i64 c2.Hit,D.int .i64 c2.Suppress,D.int .i64 c2.Reuse,D.int .i64 c2.Half,D.int .i64 c2.First,D.int .i64 c2.Step,D.int .i64 c2.StepTime,D.int .i64 c2.S_,D.int .i64 c2.Cap,D.int .i64 c2.Span,D.int .i64 c2.Room,D.int .i64 c2.Tries,D.int .i64 c2.Retry,D.int .i64 index2,D.ptr 2 0 0]]⟩,some ⟨4,true,[[(f6 3 (List.map (d7 .u8) b32)),(f6 4 (List.map (d7 .u8) b42)),D.int .i64 fuse2,D.bool down2]]⟩,some ⟨1,false,(List.map (d7 .u8) b32)⟩,some ⟨1,false,(List.map (d7 .u8) b42)⟩]
noncomputable def G8:E4→Option (List Int×Option E4)
 | .s0 state c index fuse down b3 b4=>aa4 state c index fuse down b3 b4
 | .s1 t8 t9 state2 c2 index2 fuse2 down2 b32 b42=>R6 t8 t9 state2 c2 index2 fuse2 down2 b32 b42
theorem bo0 {l:Nat}{ln:f3}{φ0:p9}{J:Option (List (List D))→World→(Nat→Prop)→(Nat→Prop)→Prop}{state:d9}{c:d8}{index fuse:Int}{down:Bool}{b3 b4:List Int}{x:List Int×Option E4}{Y:List (List D)} (hl:Q0 (.s0 state c index fuse down b3 b4)=ln) (h:aa4 state c index fuse down b3 b4=some x) (ha:Z4 E ln (Cx.seq Tryz.f105 5 ln l φ0 J) C9 (G9 l) Q0 x Y):f5 E (Cx.seq Tryz.f105 5 ln l φ0 J (some Y)) (fun _ s=>O0 ln s) (.go (G9 l (.s0 state c index fuse down b3 b4))):=by
 subst hl
 unfold aa4 at h
 refine zc 9 [] h (fun _=>bp0) fun y1 h=> ?_
 refine l5 hm 5 _ ?_
 obtain rfl:=Option.some.inj h
 exact aP7 (q' := .go (G9 l (.s1 y1 0 state c index fuse down b3 b4))) (by kernel_rfl) (K3 (by kernel_rfl) ha)
theorem br2 {l:Nat}{ln:f3}{φ0:p9}{J:Option (List (List D))→World→(Nat→Prop)→(Nat→Prop)→Prop}{t8 t9:Int}{state2:d9}{c2:d8}{index2 fuse2:Int}{down2:Bool}{b32 b42:List Int}{x:List Int×Option E4}{Y:List (List D)} (hl:Q0 (.s1 t8 t9 state2 c2 index2 fuse2 down2 b32 b42)=ln) (h:R6 t8 t9 state2 c2 index2 fuse2 down2 b32 b42=some x) (ha:Z4 E ln (Cx.seq Tryz.f105 5 ln l φ0 J) C9 (G9 l) Q0 x Y):f5 E (Cx.seq Tryz.f105 5 ln l φ0 J (some Y)) (fun _ s=>O0 ln s) (.go (G9 l (.s1 t8 t9 state2 c2 index2 fuse2 down2 b32 b42))):=by
 subst hl
 unfold R6 at h
 refine zs 7 h (fun h=> ?_) fun h=> ?_
 ·
  refine l5 hm 13 _ ?_
  refine bJ7 (x:=t9) (s:= [some ⟨1,true,[[D.ptr 1 0 0]]⟩,some ⟨88,true,[[D.int .i64 state2.boot,D.int .i64 state2.known.Epoch,D.int .i64 state2.known.Target,D.int .i64 state2.known.Prev,D.int .i64 state2.known.Spill,D.int .i64 state2.known.Percent,D.int .i64 state2.known.Stamp,D.int .i64 state2.known.Since,D.int .i64 state2.known.Ramped,D.int .u64 state2.known.Up,D.int .u64 state2.known.Sup,D.sl false 1 (List.map (d7 .i64) state2.known.Pen),D.sl false 1 (List.map (d7 .i64) state2.known.Changes),D.int .i64 state2.heard,D.sl false 3 (List.map i6.enc state2.votes),D.int .i64 state2.hold.Epoch,D.int .i64 state2.hold.Nonce,D.int .u64 state2.hold.Grants,D.int .i64 state2.hold.Until,D.bool state2.asked.ever,D.int .i64 state2.asked.at_,D.int .i64 state2.prop.Epoch,D.int .i64 state2.prop.Ballot,D.int .i64 state2.prop.Phase,D.int .i64 state2.prop.Own.Epoch,D.int .i64 state2.prop.Own.Target,D.int .i64 state2.prop.Own.Prev,D.int .i64 state2.prop.Own.Spill,D.int .i64 state2.prop.Own.Percent,D.int .i64 state2.prop.Own.Stamp,D.int .i64 state2.prop.Own.Since,D.int .i64 state2.prop.Own.Ramped,D.int .u64 state2.prop.Own.Up,D.int .u64 state2.prop.Own.Sup,D.sl false 1 (List.map (d7 .i64) state2.prop.Own.Pen),D.sl false 1 (List.map (d7 .i64) state2.prop.Own.Changes),D.int .i64 state2.prop.Best,D.int .i64 state2.prop.Value.Epoch,D.int .i64 state2.prop.Value.Target,D.int .i64 state2.prop.Value.Prev,D.int .i64 state2.prop.Value.Spill,D.int .i64 state2.prop.Value.Percent,D.int .i64 state2.prop.Value.Stamp,D.int .i64 state2.prop.Value.Since,D.int .i64 state2.prop.Value.Ramped,D.int .u64 state2.prop.Value.Up,D.int .u64 state2.prop.Value.Sup,D.sl false 1 (List.map (d7 .i64) state2.prop.Value.Pen),D.sl false 1 (List.map (d7 .i64) state2.prop.Value.Changes),D.int .u64 state2.prop.Promises,D.int .u64 state2.prop.Accepts,D.int .i64 state2.made,D.int .i64 state2.top,D.int .u64 state2.sealed,D.bool state2.told.ever,D.int .i64 state2.told.at_,D.int .i64 c2.F_,D.int .i64 c2.Deciders,D.int .i64 c2.Targets,D.int .i64 c2.Routers,D.int .i64 c2.Observers,D.sl false 1 (List.map (d7 .i64) c2.Tiers),D.int .i64 c2.Every,D.int .i64 c2.Wait,D.int .i64 c2.Rise,D.int .i64 c2.Fall,D.int .i64 c2.Fresh,D.int .i64 c2.L_,D.int .i64 c2.M_,D.int .i64 c2.Dwell,D.int .i64 c2.D_,D.int .i64 c2.W_,D.int .i64 c2.B_,D.int .i64 c2.Hit,D.int .i64 c2.Suppress,D.int .i64 c2.Reuse,D.int .i64 c2.Half,D.int .i64 c2.First,D.int .i64 c2.Step,D.int .i64 c2.StepTime,D.int .i64 c2.S_,D.int .i64 c2.Cap,D.int .i64 c2.Span,D.int .i64 c2.Room,D.int .i64 c2.Tries,D.int .i64 c2.Retry,D.int .i64 index2,D.ptr 2 0 0]]⟩,some ⟨4,true,[[(f6 3 (List.map (d7 .u8) b32)),(f6 4 (List.map (d7 .u8) b42)),D.int .i64 fuse2,D.bool down2]]⟩,some ⟨1,false,(List.map (d7 .u8) b32)⟩,some ⟨1,false,(List.map (d7 .u8) b42)⟩]) h ha (by kernel_rfl) (by kernel_rfl) ?_ (fun p Y h ha=> ?_)
  ·--it is stopped
   refine l5 hm 5 _ ?_
   exact bo1 (d:=D.tup []) (s:= [some ⟨1,true,[[D.ptr 1 0 0]]⟩,some ⟨88,true,[[D.int .i64 state2.boot,D.int .i64 state2.known.Epoch,D.int .i64 state2.known.Target,D.int .i64 state2.known.Prev,D.int .i64 state2.known.Spill,D.int .i64 state2.known.Percent,D.int .i64 state2.known.Stamp,D.int .i64 state2.known.Since,D.int .i64 state2.known.Ramped,D.int .u64 state2.known.Up,D.int .u64 state2.known.Sup,D.sl false 1 (List.map (d7 .i64) state2.known.Pen),D.sl false 1 (List.map (d7 .i64) state2.known.Changes),D.int .i64 state2.heard,D.sl false 3 (List.map i6.enc state2.votes),D.int .i64 state2.hold.Epoch,D.int .i64 state2.hold.Nonce,D.int .u64 state2.hold.Grants,D.int .i64 state2.hold.Until,D.bool state2.asked.ever,D.int .i64 state2.asked.at_,D.int .i64 state2.prop.Epoch,D.int .i64 state2.prop.Ballot,D.int .i64 state2.prop.Phase,D.int .i64 state2.prop.Own.Epoch,D.int .i64 state2.prop.Own.Target,D.int .i64 state2.prop.Own.Prev,D.int .i64 state2.prop.Own.Spill,D.int .i64 state2.prop.Own.Percent,D.int .i64 state2.prop.Own.Stamp,D.int .i64 state2.prop.Own.Since,D.int .i64 state2.prop.Own.Ramped,D.int .u64 state2.prop.Own.Up,D.int .u64 state2.prop.Own.Sup,D.sl false 1 (List.map (d7 .i64) state2.prop.Own.Pen),D.sl false 1 (List.map (d7 .i64) state2.prop.Own.Changes),D.int .i64 state2.prop.Best,D.int .i64 state2.prop.Value.Epoch,D.int .i64 state2.prop.Value.Target,D.int .i64 state2.prop.Value.Prev,D.int .i64 state2.prop.Value.Spill,D.int .i64 state2.prop.Value.Percent,D.int .i64 state2.prop.Value.Stamp,D.int .i64 state2.prop.Value.Since,D.int .i64 state2.prop.Value.Ramped,D.int .u64 state2.prop.Value.Up,D.int .u64 state2.prop.Value.Sup,D.sl false 1 (List.map (d7 .i64) state2.prop.Value.Pen),D.sl false 1 (List.map (d7 .i64) state2.prop.Value.Changes),D.int .u64 state2.prop.Promises,D.int .u64 state2.prop.Accepts,D.int .i64 state2.made,D.int .i64 state2.top,D.int .u64 state2.sealed,D.bool state2.told.ever,D.int .i64 state2.told.at_,D.int .i64 c2.F_,D.int .i64 c2.Deciders,D.int .i64 c2.Targets,D.int .i64 c2.Routers,D.int .i64 c2.Observers,D.sl false 1 (List.map (d7 .i64) c2.Tiers),D.int .i64 c2.Every,D.int .i64 c2.Wait,D.int .i64 c2.Rise,D.int .i64 c2.Fall,D.int .i64 c2.Fresh,D.int .i64 c2.L_,D.int .i64 c2.M_,D.int .i64 c2.Dwell,D.int .i64 c2.D_,D.int .i64 c2.W_,D.int .i64 c2.B_,D.int .i64 c2.Hit,D.int .i64 c2.Suppress,D.int .i64 c2.Reuse,D.int .i64 c2.Half,D.int .i64 c2.First,D.int .i64 c2.Step,D.int .i64 c2.StepTime,D.int .i64 c2.S_,D.int .i64 c2.Cap,D.int .i64 c2.Span,D.int .i64 c2.Room,D.int .i64 c2.Tries,D.int .i64 c2.Retry,D.int .i64 index2,D.ptr 2 0 0]]⟩,some ⟨4,true,[[(f6 3 (List.map (d7 .u8) b32)),(f6 4 (List.map (d7 .u8) b42)),D.int .i64 fuse2,D.bool down2]]⟩,some ⟨1,false,(List.map (d7 .u8) b32)⟩,some ⟨1,false,(List.map (d7 .u8) b42)⟩]) (by kernel_rfl) (by kernel_rfl)
  ·--it goes on
   refine l5 hm 11 _ ?_
   obtain rfl:=Option.some.inj h
   exact aP7 (q' := .go (G9 l (.s1 t8 (IntKind.i64.wrap (t9+1)) state2 c2 index2 fuse2 down2 b32 b42))) (by kernel_rfl) (K3 (by kernel_rfl) ha)
 refine l5 hm 2 _ ?_
 obtain rfl:=Option.some.inj h
 exact bE4 (d:=D.tup []) (s:= [some ⟨1,true,[[D.ptr 1 0 0]]⟩,some ⟨88,true,[[D.int .i64 state2.boot,D.int .i64 state2.known.Epoch,D.int .i64 state2.known.Target,D.int .i64 state2.known.Prev,D.int .i64 state2.known.Spill,D.int .i64 state2.known.Percent,D.int .i64 state2.known.Stamp,D.int .i64 state2.known.Since,D.int .i64 state2.known.Ramped,D.int .u64 state2.known.Up,D.int .u64 state2.known.Sup,D.sl false 1 (List.map (d7 .i64) state2.known.Pen),D.sl false 1 (List.map (d7 .i64) state2.known.Changes),D.int .i64 state2.heard,D.sl false 3 (List.map i6.enc state2.votes),D.int .i64 state2.hold.Epoch,D.int .i64 state2.hold.Nonce,D.int .u64 state2.hold.Grants,D.int .i64 state2.hold.Until,D.bool state2.asked.ever,D.int .i64 state2.asked.at_,D.int .i64 state2.prop.Epoch,D.int .i64 state2.prop.Ballot,D.int .i64 state2.prop.Phase,D.int .i64 state2.prop.Own.Epoch,D.int .i64 state2.prop.Own.Target,D.int .i64 state2.prop.Own.Prev,D.int .i64 state2.prop.Own.Spill,D.int .i64 state2.prop.Own.Percent,D.int .i64 state2.prop.Own.Stamp,D.int .i64 state2.prop.Own.Since,D.int .i64 state2.prop.Own.Ramped,D.int .u64 state2.prop.Own.Up,D.int .u64 state2.prop.Own.Sup,D.sl false 1 (List.map (d7 .i64) state2.prop.Own.Pen),D.sl false 1 (List.map (d7 .i64) state2.prop.Own.Changes),D.int .i64 state2.prop.Best,D.int .i64 state2.prop.Value.Epoch,D.int .i64 state2.prop.Value.Target,D.int .i64 state2.prop.Value.Prev,D.int .i64 state2.prop.Value.Spill,D.int .i64 state2.prop.Value.Percent,D.int .i64 state2.prop.Value.Stamp,D.int .i64 state2.prop.Value.Since,D.int .i64 state2.prop.Value.Ramped,D.int .u64 state2.prop.Value.Up,D.int .u64 state2.prop.Value.Sup,D.sl false 1 (List.map (d7 .i64) state2.prop.Value.Pen),D.sl false 1 (List.map (d7 .i64) state2.prop.Value.Changes),D.int .u64 state2.prop.Promises,D.int .u64 state2.prop.Accepts,D.int .i64 state2.made,D.int .i64 state2.top,D.int .u64 state2.sealed,D.bool state2.told.ever,D.int .i64 state2.told.at_,D.int .i64 c2.F_,D.int .i64 c2.Deciders,D.int .i64 c2.Targets,D.int .i64 c2.Routers,D.int .i64 c2.Observers,D.sl false 1 (List.map (d7 .i64) c2.Tiers),D.int .i64 c2.Every,D.int .i64 c2.Wait,D.int .i64 c2.Rise,D.int .i64 c2.Fall,D.int .i64 c2.Fresh,D.int .i64 c2.L_,D.int .i64 c2.M_,D.int .i64 c2.Dwell,D.int .i64 c2.D_,D.int .i64 c2.W_,D.int .i64 c2.B_,D.int .i64 c2.Hit,D.int .i64 c2.Suppress,D.int .i64 c2.Reuse,D.int .i64 c2.Half,D.int .i64 c2.First,D.int .i64 c2.Step,D.int .i64 c2.StepTime,D.int .i64 c2.S_,D.int .i64 c2.Cap,D.int .i64 c2.Span,D.int .i64 c2.Room,D.int .i64 c2.Tries,D.int .i64 c2.Retry,D.int .i64 index2,D.ptr 2 0 0]]⟩,some ⟨4,true,[[(f6 3 (List.map (d7 .u8) b32)),(f6 4 (List.map (d7 .u8) b42)),D.int .i64 fuse2,D.bool down2]]⟩,some ⟨1,false,(List.map (d7 .u8) b32)⟩,some ⟨1,false,(List.map (d7 .u8) b42)⟩]) (by kernel_rfl) (by kernel_rfl) ha
noncomputable def aj3 (state:d9) (c:d8) (index fuse:Int) (down:Bool) (b3 b4:List Int):Option (List Int):=evl G8 (.s0 state c index fuse down b3 b4)
theorem bx5 {state:d9}{c:d8}{index fuse:Int}{down:Bool}{b3 b4 r:List Int} (h:aj3 state c index fuse down b3 b4=some r):ah7 E 105 [D.ptr 0 0 0] [some ⟨1,true,[[D.ptr 1 0 0]]⟩,some ⟨88,true,[[D.int .i64 state.boot,D.int .i64 state.known.Epoch,D.int .i64 state.known.Target,D.int .i64 state.known.Prev,D.int .i64 state.known.Spill,D.int .i64 state.known.Percent,D.int .i64 state.known.Stamp,D.int .i64 state.known.Since,D.int .i64 state.known.Ramped,D.int .u64 state.known.Up,D.int .u64 state.known.Sup,D.sl false 1 (List.map (d7 .i64) state.known.Pen),D.sl false 1 (List.map (d7 .i64) state.known.Changes),D.int .i64 state.heard,D.sl false 3 (List.map i6.enc state.votes),D.int .i64 state.hold.Epoch,D.int .i64 state.hold.Nonce,D.int .u64 state.hold.Grants,D.int .i64 state.hold.Until,D.bool state.asked.ever,D.int .i64 state.asked.at_,D.int .i64 state.prop.Epoch,D.int .i64 state.prop.Ballot,D.int .i64 state.prop.Phase,D.int .i64 state.prop.Own.Epoch,D.int .i64 state.prop.Own.Target,D.int .i64 state.prop.Own.Prev,D.int .i64 state.prop.Own.Spill,D.int .i64 state.prop.Own.Percent,D.int .i64 state.prop.Own.Stamp,D.int .i64 state.prop.Own.Since,D.int .i64 state.prop.Own.Ramped,D.int .u64 state.prop.Own.Up,D.int .u64 state.prop.Own.Sup,D.sl false 1 (List.map (d7 .i64) state.prop.Own.Pen),D.sl false 1 (List.map (d7 .i64) state.prop.Own.Changes),D.int .i64 state.prop.Best,D.int .i64 state.prop.Value.Epoch,D.int .i64 state.prop.Value.Target,D.int .i64 state.prop.Value.Prev,D.int .i64 state.prop.Value.Spill,D.int .i64 state.prop.Value.Percent,D.int .i64 state.prop.Value.Stamp,D.int .i64 state.prop.Value.Since,D.int .i64 state.prop.Value.Ramped,D.int .u64 state.prop.Value.Up,D.int .u64 state.prop.Value.Sup,D.sl false 1 (List.map (d7 .i64) state.prop.Value.Pen),D.sl false 1 (List.map (d7 .i64) state.prop.Value.Changes),D.int .u64 state.prop.Promises,D.int .u64 state.prop.Accepts,D.int .i64 state.made,D.int .i64 state.top,D.int .u64 state.sealed,D.bool state.told.ever,D.int .i64 state.told.at_,D.int .i64 c.F_,D.int .i64 c.Deciders,D.int .i64 c.Targets,D.int .i64 c.Routers,D.int .i64 c.Observers,D.sl false 1 (List.map (d7 .i64) c.Tiers),D.int .i64 c.Every,D.int .i64 c.Wait,D.int .i64 c.Rise,D.int .i64 c.Fall,D.int .i64 c.Fresh,D.int .i64 c.L_,D.int .i64 c.M_,D.int .i64 c.Dwell,D.int .i64 c.D_,D.int .i64 c.W_,D.int .i64 c.B_,D.int .i64 c.Hit,D.int .i64 c.Suppress,D.int .i64 c.Reuse,D.int .i64 c.Half,D.int .i64 c.First,D.int .i64 c.Step,D.int .i64 c.StepTime,D.int .i64 c.S_,D.int .i64 c.Cap,D.int .i64 c.Span,D.int .i64 c.Room,D.int .i64 c.Tries,D.int .i64 c.Retry,D.int .i64 index,D.ptr 2 0 0]]⟩,some ⟨4,true,[[(f6 3 (List.map (d7 .u8) b3)),(f6 4 (List.map (d7 .u8) b4)),D.int .i64 fuse,D.bool down]]⟩,some ⟨1,false,(List.map (d7 .u8) b3)⟩,some ⟨1,false,(List.map (d7 .u8) b4)⟩] [some ⟨1,true,[[D.ptr 1 0 0]]⟩,some ⟨88,true,[[D.int .i64 state.boot,D.int .i64 state.known.Epoch,D.int .i64 state.known.Target,D.int .i64 state.known.Prev,D.int .i64 state.known.Spill,D.int .i64 state.known.Percent,D.int .i64 state.known.Stamp,D.int .i64 state.known.Since,D.int .i64 state.known.Ramped,D.int .u64 state.known.Up,D.int .u64 state.known.Sup,D.sl false 1 (List.map (d7 .i64) state.known.Pen),D.sl false 1 (List.map (d7 .i64) state.known.Changes),D.int .i64 state.heard,D.sl false 3 (List.map i6.enc state.votes),D.int .i64 state.hold.Epoch,D.int .i64 state.hold.Nonce,D.int .u64 state.hold.Grants,D.int .i64 state.hold.Until,D.bool state.asked.ever,D.int .i64 state.asked.at_,D.int .i64 state.prop.Epoch,D.int .i64 state.prop.Ballot,D.int .i64 state.prop.Phase,D.int .i64 state.prop.Own.Epoch,D.int .i64 state.prop.Own.Target,D.int .i64 state.prop.Own.Prev,D.int .i64 state.prop.Own.Spill,D.int .i64 state.prop.Own.Percent,D.int .i64 state.prop.Own.Stamp,D.int .i64 state.prop.Own.Since,D.int .i64 state.prop.Own.Ramped,D.int .u64 state.prop.Own.Up,D.int .u64 state.prop.Own.Sup,D.sl false 1 (List.map (d7 .i64) state.prop.Own.Pen),D.sl false 1 (List.map (d7 .i64) state.prop.Own.Changes),D.int .i64 state.prop.Best,D.int .i64 state.prop.Value.Epoch,D.int .i64 state.prop.Value.Target,D.int .i64 state.prop.Value.Prev,D.int .i64 state.prop.Value.Spill,D.int .i64 state.prop.Value.Percent,D.int .i64 state.prop.Value.Stamp,D.int .i64 state.prop.Value.Since,D.int .i64 state.prop.Value.Ramped,D.int .u64 state.prop.Value.Up,D.int .u64 state.prop.Value.Sup,D.sl false 1 (List.map (d7 .i64) state.prop.Value.Pen),D.sl false 1 (List.map (d7 .i64) state.prop.Value.Changes),D.int .u64 state.prop.Promises,D.int .u64 state.prop.Accepts,D.int .i64 state.made,D.int .i64 state.top,D.int .u64 state.sealed,D.bool state.told.ever,D.int .i64 state.told.at_,D.int .i64 c.F_,D.int .i64 c.Deciders,D.int .i64 c.Targets,D.int .i64 c.Routers,D.int .i64 c.Observers,D.sl false 1 (List.map (d7 .i64) c.Tiers),D.int .i64 c.Every,D.int .i64 c.Wait,D.int .i64 c.Rise,D.int .i64 c.Fall,D.int .i64 c.Fresh,D.int .i64 c.L_,D.int .i64 c.M_,D.int .i64 c.Dwell,D.int .i64 c.D_,D.int .i64 c.W_,D.int .i64 c.B_,D.int .i64 c.Hit,D.int .i64 c.Suppress,D.int .i64 c.Reuse,D.int .i64 c.Half,D.int .i64 c.First,D.int .i64 c.Step,D.int .i64 c.StepTime,D.int .i64 c.S_,D.int .i64 c.Cap,D.int .i64 c.Span,D.int .i64 c.Room,D.int .i64 c.Tries,D.int .i64 c.Retry,D.int .i64 index,D.ptr 2 0 0]]⟩,some ⟨4,true,[[(f6 3 (List.map (d7 .u8) b3)),(f6 4 (List.map (d7 .u8) b4)),D.int .i64 fuse,D.bool down]]⟩,some ⟨1,false,(List.map (d7 .u8) b3)⟩,some ⟨1,false,(List.map (d7 .u8) b4)⟩] (List.map C9 r):=
 bz1 (m:=fun l=>G9 l (.s0 state c index fuse down b3 b4)) (fn:=Tryz.f105) (by kernel_rfl) (fun l=>by kernel_rfl) (show List.take _ _=_ by kernel_rfl) (show A9 _ _=_ by kernel_rfl) (fun l φ0 J=>bn3 (step:=G8) (lnS:=Q0) (fun s x Y hl hs ha=>by
  cases s with
  | s0=>exact bo0 hl hs ha
  | s1=>exact br2 hl hs ha) (by kernel_rfl) (bE3 h))
end Go.RX.L

namespace Go.RX.L
open Go Go.RX Go.Proofs
attribute [local irreducible] f5
noncomputable def n6:=n8 (p6 Tryz.f63)
noncomputable def v5 (state:d9) (c:d8) (index fuse:Int) (down:Bool) (b3 b4:List Int) (y:List e9):D×f3:=((f6 5 (List.map e9.enc y)),[some ⟨88,true,[(d9.l state (d8.l c [.int .i64 index,.ptr 2 0 0]))]⟩,some ⟨1,true,[[.ptr 0 0 0]]⟩,some ⟨4,true,[[(f6 3 (List.map (d7 .u8) b3)),(f6 4 (List.map (d7 .u8) b4)),.int .i64 fuse,.bool down]]⟩,some ⟨1,false,(List.map (d7 .u8) b3)⟩,some ⟨1,false,(List.map (d7 .u8) b4)⟩,some ⟨26,false,(List.map e9.enc y)⟩])
inductive q8 where
 | s0
 | s1 (b8:List e9)
 | s2 (m2:e9) (b8:List e9) (Y:List Int)
noncomputable def L1 (m:e9) (state:d9) (c:d8) (index fuse:Int) (down:Bool) (b3 b4:List Int):q8→M
 | .s0=>A2 Tryz.f63 [.ptr 0 0 0,.fn 105 [] [.ptr 1 0 0],.agg (e9.enc m)] [some ⟨88,true,[(d9.l state (d8.l c [.int .i64 index,.ptr 2 0 0]))]⟩,some ⟨1,true,[[.ptr 0 0 0]]⟩,some ⟨4,true,[[(f6 3 (List.map (d7 .u8) b3)),(f6 4 (List.map (d7 .u8) b4)),.int .i64 fuse,.bool down]]⟩,some ⟨1,false,(List.map (d7 .u8) b3)⟩,some ⟨1,false,(List.map (d7 .u8) b4)⟩]
 | .s1 b8=>⟨[.code (n6 [1,1,0,1,0]),.blk 0,.code (n6 [1,1,1])],[(3,.ptr 5 0 0),(5,.ptr 6 0 0),(7,.ptr 7 0 0),(9,.fn 105 [] [.ptr 1 0 0])],[some ⟨88,true,[(d9.l state (d8.l c [.int .i64 index,.ptr 2 0 0]))]⟩,some ⟨1,true,[[.ptr 0 0 0]]⟩,some ⟨4,true,[[(f6 3 (List.map (d7 .u8) b3)),(f6 4 (List.map (d7 .u8) b4)),.int .i64 fuse,.bool down]]⟩,some ⟨1,false,(List.map (d7 .u8) b3)⟩,some ⟨1,false,(List.map (d7 .u8) b4)⟩,some ⟨1,true,[[.ptr 0 0 0]]⟩,some ⟨26,false,[(e9.enc m)]⟩,some ⟨1,true,[[(f6 8 (List.map e9.enc b8))]]⟩,some ⟨26,false,(List.map e9.enc b8)⟩]⟩
 | .s2 m2 b8 Y=>⟨[.blk 0,.code (n6 [1,1,1])],[(3,.ptr 5 0 0),(5,.ptr 6 0 0),(7,.ptr 7 0 0),(9,.fn 105 [] [.ptr 1 0 0])],[some ⟨88,true,[(d9.l state (d8.l c [.int .i64 index,.ptr 2 0 0]))]⟩,some ⟨1,true,[[.ptr 0 0 0]]⟩,some ⟨4,true,[[(f6 3 (List.map (d7 .u8) b3)),(f6 4 (List.map (d7 .u8) b4)),.int .i64 fuse,.bool down]]⟩,some ⟨1,false,(List.map (d7 .u8) b3)⟩,some ⟨1,false,(List.map (d7 .u8) b4)⟩,some ⟨1,true,[[.ptr 0 0 0]]⟩,some ⟨26,false,[(e9.enc m2)]⟩,some ⟨1,true,[[(f6 8 (List.map e9.enc b8))]]⟩,some ⟨26,false,(List.map e9.enc b8)⟩]⟩
noncomputable def F0 (m:e9) (state:d9) (c:d8) (index fuse:Int) (down:Bool) (b3 b4:List Int):q8→(List e9)→Prop
 | .s0,r_=>f5 E (Cx.of Tryz.f63 true 5) (QW (Rs (v5 state c index fuse down b3 b4) r_)) (.go ((L1 m state c index fuse down b3 b4) (.s0)))
 | .s1 b8,r_=>f5 E (Cx.of Tryz.f63 true 5) (QW (Rs (v5 state c index fuse down b3 b4) r_)) (.go ((L1 m state c index fuse down b3 b4) (.s1 b8)))
 | .s2 m2 b8 Y,r_=>L3 E (Cx.of Tryz.f63 true 5) (QW (Rs (v5 state c index fuse down b3 b4) r_)) 8 (n6 [1,1,0,1,0]) [.blk 0,.code (n6 [1,1,1])] [(3,.ptr 5 0 0),(5,.ptr 6 0 0),(7,.ptr 7 0 0),(9,.fn 105 [] [.ptr 1 0 0])] [1,0,2,3,4] [some ⟨1,true,[[.ptr 0 0 0]]⟩,some ⟨88,true,[(d9.l state (d8.l c [.int .i64 index,.ptr 2 0 0]))]⟩,some ⟨4,true,[[(f6 3 (List.map (d7 .u8) b3)),(f6 4 (List.map (d7 .u8) b4)),.int .i64 fuse,.bool down]]⟩,some ⟨1,false,(List.map (d7 .u8) b3)⟩,some ⟨1,false,(List.map (d7 .u8) b4)⟩] (List.map C9 Y) [some ⟨88,true,[(d9.l state (d8.l c [.int .i64 index,.ptr 2 0 0]))]⟩,some ⟨1,true,[[.ptr 0 0 0]]⟩,some ⟨4,true,[[(f6 3 (List.map (d7 .u8) b3)),(f6 4 (List.map (d7 .u8) b4)),.int .i64 fuse,.bool down]]⟩,some ⟨1,false,(List.map (d7 .u8) b3)⟩,some ⟨1,false,(List.map (d7 .u8) b4)⟩,some ⟨1,true,[[.ptr 0 0 0]]⟩,some ⟨26,false,[(e9.enc m2)]⟩,some ⟨1,true,[[(f6 8 (List.map e9.enc b8))]]⟩,some ⟨26,false,(List.map e9.enc b8)⟩]
noncomputable def af7 (m:e9) (state:d9) (c:d8) (index fuse:Int) (down:Bool) (b3 b4:List Int):Option (q8⊕(List e9)):=(some (.inl (.s1 ([]))))
noncomputable def S4 (m:e9) (state:d9) (c:d8) (index fuse:Int) (down:Bool) (b3 b4:List Int) (b8:List e9):Option (q8⊕(List e9)):=((aj3 state c index fuse down b3 b4).bind fun y1=>(some (.inl (.s2 m b8 y1))))
noncomputable def Q2 (m:e9) (state:d9) (c:d8) (index fuse:Int) (down:Bool) (b3 b4:List Int) (m2:e9) (b8:List e9):Option (q8⊕(List e9)):=(some (.inr b8))
noncomputable def Q7 (m:e9) (state:d9) (c:d8) (index fuse:Int) (down:Bool) (b3 b4:List Int) (m2:e9) (b8:List e9) (y:Int) (Y:List Int):Option (q8⊕(List e9)):=((H6 c index).bind fun y1=>(bif (decide (((List.map e9.enc b8).length+1)*288≤i7)) then (some (.inl (.s2 (⟨m2.Kind,y1,y,m2.Epoch,m2.Ballot,m2.Accepted,m2.Nonce,m2.Time,m2.Up,m2.Code,m2.HasPlan,m2.Plan,m2.ID,m2.Session,m2.Payload⟩:e9) (b8++ [(⟨m2.Kind,y1,y,m2.Epoch,m2.Ballot,m2.Accepted,m2.Nonce,m2.Time,m2.Up,m2.Code,m2.HasPlan,m2.Plan,m2.ID,m2.Session,m2.Payload⟩:e9)]) Y))) else none))
noncomputable def S2 (m:e9) (state:d9) (c:d8) (index fuse:Int) (down:Bool) (b3 b4:List Int) (m2:e9) (b8:List e9):List Int→Option (q8⊕(List e9))
 | []=>Q2 m state c index fuse down b3 b4 m2 b8
 | y::Y=>Q7 m state c index fuse down b3 b4 m2 b8 y Y
noncomputable def D1 (m:e9) (state:d9) (c:d8) (index fuse:Int) (down:Bool) (b3 b4:List Int):q8→Option (q8⊕(List e9))
 | .s0=>af7 m state c index fuse down b3 b4
 | .s1 b8=>S4 m state c index fuse down b3 b4 b8
 | .s2 m2 b8 Y=>S2 m state c index fuse down b3 b4 m2 b8 Y
theorem aW5 {m:e9}{state:d9}{c:d8}{index fuse:Int}{down:Bool}{b3 b4:List Int}{r:List e9}{x:q8⊕(List e9)} (h:af7 m state c index fuse down b3 b4=some x) (ha:z5 (F0 m state c index fuse down b3 b4) r x):f5 E (Cx.of Tryz.f63 true 5) (QW (Rs (v5 state c index fuse down b3 b4) r)) (.go ((L1 m state c index fuse down b3 b4) (.s0))):=by
 unfold af7 at h
 refine l5 hm 16 _ ?_
 obtain rfl:=Option.some.inj h
 refine ap9 1704 [.matc 7 0 0 26] (m' :=⟨[.code (n6 [1,1,0,1,0]),.blk 0,.code (n6 [1,1,1])],[(3,.ptr 5 0 0),(5,.ptr 6 0 0),(7,.ptr 7 0 0),(9,.fn 105 [] [.ptr 1 0 0])],[some ⟨88,true,[(d9.l state (d8.l c [.int .i64 index,.ptr 2 0 0]))]⟩,some ⟨1,true,[[.ptr 0 0 0]]⟩,some ⟨4,true,[[(f6 3 (List.map (d7 .u8) b3)),(f6 4 (List.map (d7 .u8) b4)),.int .i64 fuse,.bool down]]⟩,some ⟨1,false,(List.map (d7 .u8) b3)⟩,some ⟨1,false,(List.map (d7 .u8) b4)⟩,some ⟨1,true,[[.ptr 0 0 0]]⟩,some ⟨26,false,[(e9.enc m)]⟩,some ⟨1,true,[[.msl 8 0 0 0 false]]⟩,some ⟨26,false,[]⟩]⟩) (by kernel_rfl) ?_
 refine ae9 (n1:=0) (n2:=(List.map e9.enc ([])).length) (fun n_len=> .go ⟨[.code (n6 [1,1,0,1,0]),.blk 0,.code (n6 [1,1,1])],[(3,.ptr 5 0 0),(5,.ptr 6 0 0),(7,.ptr 7 0 0),(9,.fn 105 [] [.ptr 1 0 0])],[some ⟨88,true,[(d9.l state (d8.l c [.int .i64 index,.ptr 2 0 0]))]⟩,some ⟨1,true,[[.ptr 0 0 0]]⟩,some ⟨4,true,[[(f6 3 (List.map (d7 .u8) b3)),(f6 4 (List.map (d7 .u8) b4)),.int .i64 fuse,.bool down]]⟩,some ⟨1,false,(List.map (d7 .u8) b3)⟩,some ⟨1,false,(List.map (d7 .u8) b4)⟩,some ⟨1,true,[[.ptr 0 0 0]]⟩,some ⟨26,false,[(e9.enc m)]⟩,some ⟨1,true,[[.msl 8 0 n_len n_len false]]⟩,some ⟨26,false,[]⟩]⟩) (by simp) ?_
 exact ha
theorem aY3 {m:e9}{state:d9}{c:d8}{index fuse:Int}{down:Bool}{b3 b4:List Int}{b8 r:List e9}{x:q8⊕(List e9)} (h:S4 m state c index fuse down b3 b4 b8=some x) (ha:z5 (F0 m state c index fuse down b3 b4) r x):f5 E (Cx.of Tryz.f63 true 5) (QW (Rs (v5 state c index fuse down b3 b4) r)) (.go ((L1 m state c index fuse down b3 b4) (.s1 b8))):=by
 unfold S4 at h
 refine l5 hm 1 _ ?_
 have ok1:=fun (y:List Int) (hy:aj3 state c index fuse down b3 b4=some y)=>bx5 hy
 refine cX6 (m:=8) (c:=n6 [1,1,0,1,0]) (t:= [.blk 0,.code (n6 [1,1,1])]) (fr:= [(3,.ptr 5 0 0),(5,.ptr 6 0 0),(7,.ptr 7 0 0),(9,.fn 105 [] [.ptr 1 0 0])]) (σ:= [some ⟨88,true,[(d9.l state (d8.l c [.int .i64 index,.ptr 2 0 0]))]⟩,some ⟨1,true,[[.ptr 0 0 0]]⟩,some ⟨4,true,[[(f6 3 (List.map (d7 .u8) b3)),(f6 4 (List.map (d7 .u8) b4)),.int .i64 fuse,.bool down]]⟩,some ⟨1,false,(List.map (d7 .u8) b3)⟩,some ⟨1,false,(List.map (d7 .u8) b4)⟩,some ⟨1,true,[[.ptr 0 0 0]]⟩,some ⟨26,false,[(e9.enc m)]⟩,some ⟨1,true,[[(f6 8 (List.map e9.enc b8))]]⟩,some ⟨26,false,(List.map e9.enc b8)⟩]) (ids:= [1,0,2,3,4]) (bs:= [some ⟨1,true,[[.ptr 0 0 0]]⟩,some ⟨88,true,[(d9.l state (d8.l c [.int .i64 index,.ptr 2 0 0]))]⟩,some ⟨4,true,[[(f6 3 (List.map (d7 .u8) b3)),(f6 4 (List.map (d7 .u8) b4)),.int .i64 fuse,.bool down]]⟩,some ⟨1,false,(List.map (d7 .u8) b3)⟩,some ⟨1,false,(List.map (d7 .u8) b4)⟩]) (caps1:= [.ptr 0 0 0]) (caps:= [.ptr 0 0 0]) (sub1:= [some ⟨1,true,[[.ptr 1 0 0]]⟩,some ⟨88,true,[(d9.l state (d8.l c [.int .i64 index,.ptr 2 0 0]))]⟩,some ⟨4,true,[[(f6 3 (List.map (d7 .u8) b3)),(f6 4 (List.map (d7 .u8) b4)),.int .i64 fuse,.bool down]]⟩,some ⟨1,false,(List.map (d7 .u8) b3)⟩,some ⟨1,false,(List.map (d7 .u8) b4)⟩]) (sub:= [some ⟨1,true,[[.ptr 1 0 0]]⟩,some ⟨88,true,[(d9.l state (d8.l c [.int .i64 index,.ptr 2 0 0]))]⟩,some ⟨4,true,[[(f6 3 (List.map (d7 .u8) b3)),(f6 4 (List.map (d7 .u8) b4)),.int .i64 fuse,.bool down]]⟩,some ⟨1,false,(List.map (d7 .u8) b3)⟩,some ⟨1,false,(List.map (d7 .u8) b4)⟩]) C9 h (by kernel_rfl) ⟨rfl,rfl⟩ (by kernel_rfl) (by kernel_rfl) (by kernel_rfl) (by kernel_rfl) (by kernel_rfl) ok1 (fun y1 h1 h=> ?_)
 obtain rfl:=Option.some.inj h
 exact ha
theorem aU6 {m:e9}{state:d9}{c:d8}{index fuse:Int}{down:Bool}{b3 b4:List Int}{m2:e9}{b8 r:List e9}{x:q8⊕(List e9)} (h:Q2 m state c index fuse down b3 b4 m2 b8=some x) (ha:z5 (F0 m state c index fuse down b3 b4) r x):L3 E (Cx.of Tryz.f63 true 5) (QW (Rs (v5 state c index fuse down b3 b4) r)) 8 (n6 [1,1,0,1,0]) [.blk 0,.code (n6 [1,1,1])] [(3,.ptr 5 0 0),(5,.ptr 6 0 0),(7,.ptr 7 0 0),(9,.fn 105 [] [.ptr 1 0 0])] [1,0,2,3,4] [some ⟨1,true,[[.ptr 0 0 0]]⟩,some ⟨88,true,[(d9.l state (d8.l c [.int .i64 index,.ptr 2 0 0]))]⟩,some ⟨4,true,[[(f6 3 (List.map (d7 .u8) b3)),(f6 4 (List.map (d7 .u8) b4)),.int .i64 fuse,.bool down]]⟩,some ⟨1,false,(List.map (d7 .u8) b3)⟩,some ⟨1,false,(List.map (d7 .u8) b4)⟩] ([]) [some ⟨88,true,[(d9.l state (d8.l c [.int .i64 index,.ptr 2 0 0]))]⟩,some ⟨1,true,[[.ptr 0 0 0]]⟩,some ⟨4,true,[[(f6 3 (List.map (d7 .u8) b3)),(f6 4 (List.map (d7 .u8) b4)),.int .i64 fuse,.bool down]]⟩,some ⟨1,false,(List.map (d7 .u8) b3)⟩,some ⟨1,false,(List.map (d7 .u8) b4)⟩,some ⟨1,true,[[.ptr 0 0 0]]⟩,some ⟨26,false,[(e9.enc m2)]⟩,some ⟨1,true,[[(f6 8 (List.map e9.enc b8))]]⟩,some ⟨26,false,(List.map e9.enc b8)⟩]:=by
 unfold Q2 at h
 refine aW2 ?_
 exact ztP 8 h ha
theorem aU9 {m:e9}{state:d9}{c:d8}{index fuse:Int}{down:Bool}{b3 b4:List Int}{m2:e9}{b8:List e9}{y:Int}{Y:List Int}{r:List e9}{x:q8⊕(List e9)} (h:Q7 m state c index fuse down b3 b4 m2 b8 y Y=some x) (ha:z5 (F0 m state c index fuse down b3 b4) r x):L3 E (Cx.of Tryz.f63 true 5) (QW (Rs (v5 state c index fuse down b3 b4) r)) 8 (n6 [1,1,0,1,0]) [.blk 0,.code (n6 [1,1,1])] [(3,.ptr 5 0 0),(5,.ptr 6 0 0),(7,.ptr 7 0 0),(9,.fn 105 [] [.ptr 1 0 0])] [1,0,2,3,4] [some ⟨1,true,[[.ptr 0 0 0]]⟩,some ⟨88,true,[(d9.l state (d8.l c [.int .i64 index,.ptr 2 0 0]))]⟩,some ⟨4,true,[[(f6 3 (List.map (d7 .u8) b3)),(f6 4 (List.map (d7 .u8) b4)),.int .i64 fuse,.bool down]]⟩,some ⟨1,false,(List.map (d7 .u8) b3)⟩,some ⟨1,false,(List.map (d7 .u8) b4)⟩] (C9 y::List.map C9 Y) [some ⟨88,true,[(d9.l state (d8.l c [.int .i64 index,.ptr 2 0 0]))]⟩,some ⟨1,true,[[.ptr 0 0 0]]⟩,some ⟨4,true,[[(f6 3 (List.map (d7 .u8) b3)),(f6 4 (List.map (d7 .u8) b4)),.int .i64 fuse,.bool down]]⟩,some ⟨1,false,(List.map (d7 .u8) b3)⟩,some ⟨1,false,(List.map (d7 .u8) b4)⟩,some ⟨1,true,[[.ptr 0 0 0]]⟩,some ⟨26,false,[(e9.enc m2)]⟩,some ⟨1,true,[[(f6 8 (List.map e9.enc b8))]]⟩,some ⟨26,false,(List.map e9.enc b8)⟩]:=by
 unfold Q7 at h
 refine aM7 ?_
 refine zd 7 [] h (fun _=>R4) fun y1 h=> ?_
 refine zn 12 h fun h=> ?_
 refine za 0 e9.enc b8 ([(⟨m2.Kind,y1,y,m2.Epoch,m2.Ballot,m2.Accepted,m2.Nonce,m2.Time,m2.Up,m2.Code,m2.HasPlan,m2.Plan,m2.ID,m2.Session,m2.Payload⟩:e9)]) ?_
 refine l5 hm 6 _ ?_
 obtain rfl:=Option.some.inj h
 exact aH6 [] (s1:= [some ⟨88,true,[(d9.l state (d8.l c [.int .i64 index,.ptr 2 0 0]))]⟩,some ⟨1,true,[[.ptr 0 0 0]]⟩,some ⟨4,true,[[(f6 3 (List.map (d7 .u8) b3)),(f6 4 (List.map (d7 .u8) b4)),.int .i64 fuse,.bool down]]⟩,some ⟨1,false,(List.map (d7 .u8) b3)⟩,some ⟨1,false,(List.map (d7 .u8) b4)⟩,some ⟨1,true,[[.ptr 0 0 0]]⟩,some ⟨26,false,[(.int .i64 m2.Kind:: .int .i64 y1:: .int .i64 y:: .int .i64 m2.Epoch:: .int .i64 m2.Ballot:: .int .i64 m2.Accepted:: .int .i64 m2.Nonce:: .int .i64 m2.Time:: .int .u64 m2.Up:: .int .i64 m2.Code:: .bool m2.HasPlan::Plan.l m2.Plan [.sl false 1 (List.map (d7 .i64) m2.ID),.sl false 1 (List.map (d7 .u8) m2.Session),.sl false 1 (List.map (d7 .u8) m2.Payload)])]⟩,some ⟨1,true,[[.msl 8 0 ((List.map e9.enc (b8++ [(⟨m2.Kind,y1,y,m2.Epoch,m2.Ballot,m2.Accepted,m2.Nonce,m2.Time,m2.Up,m2.Code,m2.HasPlan,m2.Plan,m2.ID,m2.Session,m2.Payload⟩:e9)])).length) ((List.map e9.enc (b8++ [(⟨m2.Kind,y1,y,m2.Epoch,m2.Ballot,m2.Accepted,m2.Nonce,m2.Time,m2.Up,m2.Code,m2.HasPlan,m2.Plan,m2.ID,m2.Session,m2.Payload⟩:e9)])).length) false]]⟩,some ⟨26,false,(List.map e9.enc (b8++ [(⟨m2.Kind,y1,y,m2.Epoch,m2.Ballot,m2.Accepted,m2.Nonce,m2.Time,m2.Up,m2.Code,m2.HasPlan,m2.Plan,m2.ID,m2.Session,m2.Payload⟩:e9)]))⟩]) (s:= [some ⟨88,true,[(d9.l state (d8.l c [.int .i64 index,.ptr 2 0 0]))]⟩,some ⟨1,true,[[.ptr 0 0 0]]⟩,some ⟨4,true,[[(f6 3 (List.map (d7 .u8) b3)),(f6 4 (List.map (d7 .u8) b4)),.int .i64 fuse,.bool down]]⟩,some ⟨1,false,(List.map (d7 .u8) b3)⟩,some ⟨1,false,(List.map (d7 .u8) b4)⟩,some ⟨1,true,[[.ptr 0 0 0]]⟩,some ⟨26,false,[(.int .i64 m2.Kind:: .int .i64 y1:: .int .i64 y:: .int .i64 m2.Epoch:: .int .i64 m2.Ballot:: .int .i64 m2.Accepted:: .int .i64 m2.Nonce:: .int .i64 m2.Time:: .int .u64 m2.Up:: .int .i64 m2.Code:: .bool m2.HasPlan::Plan.l m2.Plan [.sl false 1 (List.map (d7 .i64) m2.ID),.sl false 1 (List.map (d7 .u8) m2.Session),.sl false 1 (List.map (d7 .u8) m2.Payload)])]⟩,some ⟨1,true,[[.msl 8 0 ((List.map e9.enc (b8++ [(⟨m2.Kind,y1,y,m2.Epoch,m2.Ballot,m2.Accepted,m2.Nonce,m2.Time,m2.Up,m2.Code,m2.HasPlan,m2.Plan,m2.ID,m2.Session,m2.Payload⟩:e9)])).length) ((List.map e9.enc (b8++ [(⟨m2.Kind,y1,y,m2.Epoch,m2.Ballot,m2.Accepted,m2.Nonce,m2.Time,m2.Up,m2.Code,m2.HasPlan,m2.Plan,m2.ID,m2.Session,m2.Payload⟩:e9)])).length) false]]⟩,some ⟨26,false,(List.map e9.enc (b8++ [(⟨m2.Kind,y1,y,m2.Epoch,m2.Ballot,m2.Accepted,m2.Nonce,m2.Time,m2.Up,m2.Code,m2.HasPlan,m2.Plan,m2.ID,m2.Session,m2.Payload⟩:e9)]))⟩]) (by kernel_rfl) (rfl) (by kernel_rfl) ha
theorem aY9 {m:e9}{state:d9}{c:d8}{index fuse:Int}{down:Bool}{b3 b4:List Int}{m2:e9}{b8:List e9}{Y:List Int}{r:List e9}{x:q8⊕(List e9)} (h:S2 m state c index fuse down b3 b4 m2 b8 Y=some x) (ha:z5 (F0 m state c index fuse down b3 b4) r x):L3 E (Cx.of Tryz.f63 true 5) (QW (Rs (v5 state c index fuse down b3 b4) r)) 8 (n6 [1,1,0,1,0]) [.blk 0,.code (n6 [1,1,1])] [(3,.ptr 5 0 0),(5,.ptr 6 0 0),(7,.ptr 7 0 0),(9,.fn 105 [] [.ptr 1 0 0])] [1,0,2,3,4] [some ⟨1,true,[[.ptr 0 0 0]]⟩,some ⟨88,true,[(d9.l state (d8.l c [.int .i64 index,.ptr 2 0 0]))]⟩,some ⟨4,true,[[(f6 3 (List.map (d7 .u8) b3)),(f6 4 (List.map (d7 .u8) b4)),.int .i64 fuse,.bool down]]⟩,some ⟨1,false,(List.map (d7 .u8) b3)⟩,some ⟨1,false,(List.map (d7 .u8) b4)⟩] (List.map C9 Y) [some ⟨88,true,[(d9.l state (d8.l c [.int .i64 index,.ptr 2 0 0]))]⟩,some ⟨1,true,[[.ptr 0 0 0]]⟩,some ⟨4,true,[[(f6 3 (List.map (d7 .u8) b3)),(f6 4 (List.map (d7 .u8) b4)),.int .i64 fuse,.bool down]]⟩,some ⟨1,false,(List.map (d7 .u8) b3)⟩,some ⟨1,false,(List.map (d7 .u8) b4)⟩,some ⟨1,true,[[.ptr 0 0 0]]⟩,some ⟨26,false,[(e9.enc m2)]⟩,some ⟨1,true,[[(f6 8 (List.map e9.enc b8))]]⟩,some ⟨26,false,(List.map e9.enc b8)⟩]:=by
 cases Y with
 | nil=>exact aU6 h ha
 | cons y Y=>exact aU9 h ha
noncomputable def I7 (m:e9) (state:d9) (c:d8) (index fuse:Int) (down:Bool) (b3 b4:List Int):Option (List e9):=U9 (D1 m state c index fuse down b3 b4) (.s0)
theorem bf2 {m:e9}{state:d9}{c:d8}{index fuse:Int}{down:Bool}{b3 b4:List Int}{r:List e9} (h:Ev (D1 m state c index fuse down b3 b4) (.s0) r):i0 E 63 [.ptr 0 0 0,.fn 105 [] [.ptr 1 0 0],.agg (e9.enc m)] [some ⟨88,true,[(d9.l state (d8.l c [.int .i64 index,.ptr 2 0 0]))]⟩,some ⟨1,true,[[.ptr 0 0 0]]⟩,some ⟨4,true,[[(f6 3 (List.map (d7 .u8) b3)),(f6 4 (List.map (d7 .u8) b4)),.int .i64 fuse,.bool down]]⟩,some ⟨1,false,(List.map (d7 .u8) b3)⟩,some ⟨1,false,(List.map (d7 .u8) b4)⟩] (Rs (v5 state c index fuse down b3 b4) r):=
 am8 (m:=(L1 m state c index fuse down b3 b4) (.s0)) (fn:=Tryz.f63) (by kernel_rfl) (by kernel_rfl) (aW4 (Pd:=(F0 m state c index fuse down b3 b4)) (fun s x r hs ha=>by
  cases s with
  | s0=>exact aW5 hs ha
  | s1=>exact aY3 hs ha
  | s2=>exact aY9 hs ha) h)
theorem ac3 {m:e9}{state:d9}{c:d8}{index fuse:Int}{down:Bool}{b3 b4:List Int}{r:List e9} (h:I7 m state c index fuse down b3 b4=some r):i0 E 63 [.ptr 0 0 0,.fn 105 [] [.ptr 1 0 0],.agg (e9.enc m)] [some ⟨88,true,[(d9.l state (d8.l c [.int .i64 index,.ptr 2 0 0]))]⟩,some ⟨1,true,[[.ptr 0 0 0]]⟩,some ⟨4,true,[[(f6 3 (List.map (d7 .u8) b3)),(f6 4 (List.map (d7 .u8) b4)),.int .i64 fuse,.bool down]]⟩,some ⟨1,false,(List.map (d7 .u8) b3)⟩,some ⟨1,false,(List.map (d7 .u8) b4)⟩] (Rs (v5 state c index fuse down b3 b4) r):=bf2 (bb7 h)
end Go.RX.L

namespace Go.RX.L
open Go Go.RX Go.Proofs
attribute [local irreducible] f5
noncomputable def cv2 (c:d8) (index fuse:Int) (down:Bool) (b2 b3:List Int) (y:(List e9)×d9):D×f3:=(.sl false 26 (List.map e9.enc y.1),[some ⟨88,true,[(d9.l y.2 (d8.l c [.int .i64 index,.ptr 1 0 0]))]⟩,some ⟨4,true,[[(f6 2 (List.map (d7 .u8) b2)),(f6 3 (List.map (d7 .u8) b3)),.int .i64 fuse,.bool down]]⟩,some ⟨1,false,(List.map (d7 .u8) b2)⟩,some ⟨1,false,(List.map (d7 .u8) b3)⟩])
noncomputable def aE5 (now:Int) (state:d9) (c:d8) (index fuse:Int) (down:Bool) (b2 b3:List Int):Option ((List e9)×d9):=((W5 (⟨state.asked.ever,state.hold.Nonce⟩:S0) now (u5 (IntKind.i64.wrap (Int.tdiv c.L_ 2)) 1)).bind fun y1=>(bif (!y1) then (some ([],(⟨state.boot,state.known,state.heard,state.votes,state.hold,(⟨state.asked.ever,state.hold.Nonce⟩:S0),state.prop,state.made,state.top,state.sealed,state.told⟩:d9))) else ((bb8 state.hold 0 now).bind fun y3=>((K6 (⟨state.boot,state.known,state.heard,state.votes,y3,(⟨true,state.hold.Nonce⟩:S0),state.prop,state.made,state.top,state.sealed,state.told⟩:d9) c index fuse down b2 b3).bind fun y4=>((I7 (⟨10,0,0,0,0,0,now,0,0,2,false,(⟨0,0,0,0,0,0,0,0,0,0,[],[]⟩:Plan),[],[],[]⟩:e9) (⟨state.boot,state.known,state.heard,state.votes,y3,(⟨true,state.hold.Nonce⟩:S0),state.prop,state.made,state.top,state.sealed,state.told⟩:d9) c index fuse down b2 b3).bind fun y5=>(some (y5,(⟨state.boot,state.known,state.heard,state.votes,y3,(⟨true,state.hold.Nonce⟩:S0),state.prop,state.made,state.top,state.sealed,state.told⟩:d9))))))))
theorem cm4 {now:Int}{state:d9}{c:d8}{index fuse:Int}{down:Bool}{b2 b3:List Int}{r:(List e9)×d9} (h:aE5 now state c index fuse down b2 b3=some r):i0 E 50 [.ptr 0 0 0,.int .i64 now] [some ⟨88,true,[(d9.l state (d8.l c [.int .i64 index,.ptr 1 0 0]))]⟩,some ⟨4,true,[[(f6 2 (List.map (d7 .u8) b2)),(f6 3 (List.map (d7 .u8) b3)),.int .i64 fuse,.bool down]]⟩,some ⟨1,false,(List.map (d7 .u8) b2)⟩,some ⟨1,false,(List.map (d7 .u8) b3)⟩] (Rs (cv2 c index fuse down b2 b3) r):=so (fn:=Tryz.f50) (k:=true) (m:=4) h<| by
 intro r h;unfold aE5 at h
 refine zd 28 [] h (fun _=>aV6) fun y1 h=> ?_
 refine zs 1 h (fun h=> ?_) fun h=> ?_
 ·
  exact zu 5 h [.slot 0 [some 26]]
 refine zc 23 [] h (fun _=>cY9) fun y3 h=> ?_
 refine zc 12 [] h (fun _=>au3) fun y4 h=> ?_
 refine zc 3 [some 1,some 1,some 1,some 1,some 1] h (fun _=>ac3) fun y5 h=> ?_
 refine l5 hm 2 _ ?_
 refine bX2 4 (n1:=(0+(List.map e9.enc y5).length)) (n2:=((List.map e9.enc y5).length)) (raw:=(List.take ((List.map e9.enc y5).length) (List.drop 0 (List.map e9.enc y5)))) (rs:=(List.map e9.enc y5)) (by kernel_rfl) (u7 _) (by simp only [z7,E3,List.map_take,List.map_drop]) ?_
 exact zu 1 h
end Go.RX.L

namespace Go.RX.L
open Go Go.RX Go.Proofs
attribute [local irreducible] f5
noncomputable def bM2:=n8 (p6 Tryz.f51)
noncomputable def bM8 (c:d8) (index fuse:Int) (down:Bool) (b2 b3:List Int) (y:(List e9)×d9):D×f3:=(.sl false 26 (List.map e9.enc y.1),[some ⟨88,true,[(d9.l y.2 (d8.l c [.int .i64 index,.ptr 1 0 0]))]⟩,some ⟨4,true,[[(f6 2 (List.map (d7 .u8) b2)),(f6 3 (List.map (d7 .u8) b3)),.int .i64 fuse,.bool down]]⟩,some ⟨1,false,(List.map (d7 .u8) b2)⟩,some ⟨1,false,(List.map (d7 .u8) b3)⟩])
abbrev cO5 (now:Int) (state:d9) (c:d8) (index fuse:Int) (down:Bool) (b2 b3:List Int):=AOk E (Cx.of Tryz.f51 true 4) (bM8 c index fuse down b2 b3)
noncomputable def cu7 (now:Int) (state:d9) (c:d8) (index fuse:Int) (down:Bool) (b2 b3:List Int) (t26:Bool):M:=⟨[.code (bM2 [1,0,1]),.code (bM2 [1,1])],[(0,.ptr 0 0 0),(1,.int .i64 now),(26,.bool t26)],[some ⟨88,true,[(d9.l state (d8.l c [.int .i64 index,.ptr 1 0 0]))]⟩,some ⟨4,true,[[(f6 2 (List.map (d7 .u8) b2)),(f6 3 (List.map (d7 .u8) b3)),.int .i64 fuse,.bool down]]⟩,some ⟨1,false,(List.map (d7 .u8) b2)⟩,some ⟨1,false,(List.map (d7 .u8) b3)⟩]⟩
noncomputable def ax5 (now:Int) (state:d9) (c:d8) (index fuse:Int) (down:Bool) (b2 b3:List Int) (t26:Bool):Option ((List e9)×d9):=(bif t26 then (some ([],state)) else ((as8 now state c index fuse down b2 b3).bind fun y2=>(some (y2.1,y2.2))))
theorem bp9 {now state c index fuse down b2 b3 t26}:cO5 now state c index fuse down b2 b3 (cu7 now state c index fuse down b2 b3 t26) (ax5 now state c index fuse down b2 b3 t26):=by
 intro r h;unfold ax5 at h
 refine zs 1 h (fun h=> ?_) fun h=> ?_
 ·
  exact zu 5 h [.slot 0 [some 26]]
 refine zc 6 [] h (fun _=>bu2) fun y2 h=> ?_
 exact zu 3 h
noncomputable def aK3 (now:Int) (state:d9) (c:d8) (index fuse:Int) (down:Bool) (b2 b3:List Int):Option ((List e9)×d9):=(bif ((state.known.Epoch:Int)==0) then (ax5 now state c index fuse down b2 b3 true) else ((W5 state.told now c.Retry).bind fun y2=>(ax5 now state c index fuse down b2 b3 (!y2))))
theorem cB4 {now:Int}{state:d9}{c:d8}{index fuse:Int}{down:Bool}{b2 b3:List Int}{r:(List e9)×d9} (h:aK3 now state c index fuse down b2 b3=some r):i0 E 51 [.ptr 0 0 0,.int .i64 now] [some ⟨88,true,[(d9.l state (d8.l c [.int .i64 index,.ptr 1 0 0]))]⟩,some ⟨4,true,[[(f6 2 (List.map (d7 .u8) b2)),(f6 3 (List.map (d7 .u8) b3)),.int .i64 fuse,.bool down]]⟩,some ⟨1,false,(List.map (d7 .u8) b2)⟩,some ⟨1,false,(List.map (d7 .u8) b3)⟩] (Rs (bM8 c index fuse down b2 b3) r):=so (fn:=Tryz.f51) (k:=true) (m:=4) h<| by
 intro r h;unfold aK3 at h
 refine zs 8 h (fun h=> ?_) fun h=> ?_
 ·
  exact zg 13 (bp9 h)
 refine zd 13 [] h (fun _=>aV6) fun y2 h=> ?_
 exact zg 2 (bp9 h)
end Go.RX.L

namespace Go.RX.L
open Go Go.RX Go.Proofs
attribute [local irreducible] f5
noncomputable def cz9 (y:Bool):D×f3:=(.bool y,[])
noncomputable def aq7 (j:q0):Option Bool:=(some j.down)
theorem bu0 {j:q0}{r:Bool} (h:aq7 j=some r):i0 E 47 [.iptr 4 [(q0.enc j)] 0 0] [] (Rs cz9 r):=so (fn:=Tryz.f47) (k:=false) (m:=0) h<| by
 intro r h;unfold aq7 at h
 exact zu 14 h
end Go.RX.L

namespace Go.RX.L
open Go Go.RX Go.Proofs
attribute [local irreducible] f5
noncomputable def cq0 (state:d9) (c:d8) (index fuse:Int) (down:Bool) (b2 b3:List Int) (y:Bool):D×f3:=(.bool y,[some ⟨88,true,[(d9.l state (d8.l c [.int .i64 index,.ptr 1 0 0]))]⟩,some ⟨4,true,[[(f6 2 (List.map (d7 .u8) b2)),(f6 3 (List.map (d7 .u8) b3)),.int .i64 fuse,.bool down]]⟩,some ⟨1,false,(List.map (d7 .u8) b2)⟩,some ⟨1,false,(List.map (d7 .u8) b3)⟩])
noncomputable def ak4 (now:Int) (state:d9) (c:d8) (index fuse:Int) (down:Bool) (b2 b3:List Int):Option Bool:=(bif ((state.boot:Int) !=0) then ((aq7 (⟨b2,b3,fuse,down⟩:q0)).bind fun y2=>(bif (!y2) then ((aU1 state.hold 0 now).bind fun y4=>(some y4)) else (some false))) else (some false))
theorem br4 {now:Int}{state:d9}{c:d8}{index fuse:Int}{down:Bool}{b2 b3:List Int}{r:Bool} (h:ak4 now state c index fuse down b2 b3=some r):i0 E 21 [.ptr 0 0 0,.int .i64 now] [some ⟨88,true,[(d9.l state (d8.l c [.int .i64 index,.ptr 1 0 0]))]⟩,some ⟨4,true,[[(f6 2 (List.map (d7 .u8) b2)),(f6 3 (List.map (d7 .u8) b3)),.int .i64 fuse,.bool down]]⟩,some ⟨1,false,(List.map (d7 .u8) b2)⟩,some ⟨1,false,(List.map (d7 .u8) b3)⟩] (Rs (cq0 state c index fuse down b2 b3) r):=so (fn:=Tryz.f21) (k:=true) (m:=4) h<| by
 intro r h;unfold ak4 at h
 refine zs 15 h (fun h=> ?_) fun h=> ?_
 ·
  refine zm 9 (b:=(Nat.ble (0+(List.map (d7 .u8) b2).length) ((List.map (d7 .u8) b2).length))) (u7 _) ?_
  refine zm 0 (b:=(Nat.ble (0+(List.map (d7 .u8) b3).length) ((List.map (d7 .u8) b3).length))) (u7 _) ?_
  refine zcE 0 [] (args1:= [.iptr 4 [[.sl false 1 (List.take ((List.map (d7 .u8) b2).length) (List.drop 0 (List.map (d7 .u8) b2))),.sl false 1 (List.take ((List.map (d7 .u8) b3).length) (List.drop 0 (List.map (d7 .u8) b3))),.int .i64 fuse,.bool down]] 0 0]) h (fun _=>bu0) ⟨by simp [d8.enc,d8.l,i5.enc,i5.l,n5.enc,n5.l,q0.enc,q0.l,e9.enc,e9.l,Op.enc,Op.l,Plan.enc,Plan.l,C6.enc,C6.l,i6.enc,i6.l,n7.enc,n7.l,l8.enc,l8.l,d9.enc,d9.l,List.take_of_length_le,List.map_take,List.map_drop],rfl⟩ fun y2 h=> ?_
  refine zs 6 h (fun h=> ?_) fun h=> ?_
  ·
   refine zc 13 [] h (fun _=>cN5) fun y4 h=> ?_
   exact zu 5 h
  exact zu 17 h
 exact zu 32 h
end Go.RX.L

namespace Go.RX.L
open Go Go.RX Go.Proofs
attribute [local irreducible] f5
noncomputable def bZ8:=n8 (p6 Tryz.f116)
def I6 (y:Int):List D:= [D.int .i64 y]
inductive K7 where
 | s0 (t:List Int)
 | s1 (t5:List Int) (t6:Int) (t7:Int)
noncomputable def N7 (l:Nat):K7→M
 | .s0 t=>⟨[.code (p6 Tryz.f116)],[(0,D.yld l),(1,D.iptr 1 [[D.sl false 1 (List.map (d7 .i64) t)]] 0 0)],[]⟩
 | .s1 t5 t6 t7=>⟨[.lpc (bZ8 [1,0,0]) 225,.blk 0],[(0,D.yld l),(5,D.sl false 1 (List.map (d7 .i64) t5)),(6,D.int .i64 t6),(7,D.int .i64 t7)],[]⟩
noncomputable def aq1 (t:List Int):Option (List Int×Option K7):=(some ([],some (.s1 t (((List.map (d7 .i64) t).length:Nat):Int) 0)))
noncomputable def ad7 (t5:List Int) (t6 t7:Int):Option (List Int×Option K7):=(bif (decide ((t7:Int)<t6)) then (bif ((decide ((0:Int)≤t7))&&(decide ((t7:Int)<(((List.map (d7 .i64) t5).length:Nat):Int)))) then (((t5)[t7.toNat]?).bind fun y3=>(Option.map (fun p=>(y3::p.1,p.2)) (some ([],some (.s1 t5 t6 (IntKind.i64.wrap (t7+1))))))) else none) else (some ([],none)))
noncomputable def Z2:K7→f3
 | .s0 t=> []
 | .s1 t5 t6 t7=> []
noncomputable def N3:K7→Option (List Int×Option K7)
 | .s0 t=>aq1 t
 | .s1 t5 t6 t7=>ad7 t5 t6 t7
theorem bI8 {l:Nat}{ln:f3}{φ0:p9}{J:Option (List (List D))→World→(Nat→Prop)→(Nat→Prop)→Prop}{t:List Int}{x:List Int×Option K7}{Y:List (List D)} (hl:Z2 (.s0 t)=ln) (h:aq1 t=some x) (ha:Z4 E ln (Cx.seq Tryz.f116 0 ln l φ0 J) I6 (N7 l) Z2 x Y):f5 E (Cx.seq Tryz.f116 0 ln l φ0 J (some Y)) (fun _ s=>O0 ln s) (.go (N7 l (.s0 t))):=by
 subst hl
 unfold aq1 at h
 refine l5 hm 10 _ ?_
 obtain rfl:=Option.some.inj h
 exact aP7 (q' := .go (N7 l (.s1 t (((List.map (d7 .i64) t).length:Nat):Int) 0))) (by kernel_rfl) (K3 (by kernel_rfl) ha)
theorem bH4 {l:Nat}{ln:f3}{φ0:p9}{J:Option (List (List D))→World→(Nat→Prop)→(Nat→Prop)→Prop}{t5:List Int}{t6 t7:Int}{x:List Int×Option K7}{Y:List (List D)} (hl:Z2 (.s1 t5 t6 t7)=ln) (h:ad7 t5 t6 t7=some x) (ha:Z4 E ln (Cx.seq Tryz.f116 0 ln l φ0 J) I6 (N7 l) Z2 x Y):f5 E (Cx.seq Tryz.f116 0 ln l φ0 J (some Y)) (fun _ s=>O0 ln s) (.go (N7 l (.s1 t5 t6 t7))):=by
 subst hl
 unfold ad7 at h
 refine zs 7 h (fun h=> ?_) fun h=> ?_
 ·
  refine zn 6 h fun h=> ?_
  refine zr 1 (d7 .i64) h fun y3 h=> ?_
  refine l5 hm 7 _ ?_
  refine bJ7 (x:=y3) (s:= []) h ha (by kernel_rfl) (by kernel_rfl) ?_ (fun p Y h ha=> ?_)
  ·--it is stopped
   refine l5 hm 5 _ ?_
   exact bo1 (d:=D.tup []) (s:= []) (by kernel_rfl) (by kernel_rfl)
  ·--it goes on
   refine l5 hm 11 _ ?_
   obtain rfl:=Option.some.inj h
   exact aP7 (q' := .go (N7 l (.s1 t5 t6 (IntKind.i64.wrap (t7+1))))) (by kernel_rfl) (K3 (by kernel_rfl) ha)
 refine l5 hm 2 _ ?_
 obtain rfl:=Option.some.inj h
 exact bE4 (d:=D.tup []) (s:= []) (by kernel_rfl) (by kernel_rfl) ha
noncomputable def az3 (t:List Int):Option (List Int):=evl N3 (.s0 t)
theorem bS6 {t r:List Int} (h:az3 t=some r):ah7 E 116 [D.iptr 1 [[D.sl false 1 (List.map (d7 .i64) t)]] 0 0] [] [] (List.map I6 r):=
 bz1 (m:=fun l=>N7 l (.s0 t)) (fn:=Tryz.f116) (by kernel_rfl) (fun l=>by kernel_rfl) (show List.take _ _=_ by kernel_rfl) (show A9 _ _=_ by kernel_rfl) (fun l φ0 J=>bn3 (step:=N3) (lnS:=Z2) (fun s x Y hl hs ha=>by
  cases s with
  | s0=>exact bI8 hl hs ha
  | s1=>exact bH4 hl hs ha) (by kernel_rfl) (bE3 h))
end Go.RX.L

namespace Go.RX.L
open Go Go.RX Go.Proofs
attribute [local irreducible] f5
noncomputable def p8:=n8 (p6 Tryz.f63)
noncomputable def z4 (state:d9) (c:d8) (index fuse:Int) (down:Bool) (b2 b3:List Int) (y:List e9):D×f3:=((f6 4 (List.map e9.enc y)),[some ⟨88,true,[(d9.l state (d8.l c [.int .i64 index,.ptr 1 0 0]))]⟩,some ⟨4,true,[[(f6 2 (List.map (d7 .u8) b2)),(f6 3 (List.map (d7 .u8) b3)),.int .i64 fuse,.bool down]]⟩,some ⟨1,false,(List.map (d7 .u8) b2)⟩,some ⟨1,false,(List.map (d7 .u8) b3)⟩,some ⟨26,false,(List.map e9.enc y)⟩])
inductive s9 where
 | s0
 | s1 (b7:List e9)
 | s2 (m2:e9) (b7:List e9) (Y:List Int)
noncomputable def P3 (nodes:List Int) (m:e9) (state:d9) (c:d8) (index fuse:Int) (down:Bool) (b2 b3:List Int):s9→M
 | .s0=>A2 Tryz.f63 [.ptr 0 0 0,.fn 116 [] [.iptr 1 [[.sl false 1 (List.map (d7 .i64) nodes)]] 0 0],.agg (e9.enc m)] [some ⟨88,true,[(d9.l state (d8.l c [.int .i64 index,.ptr 1 0 0]))]⟩,some ⟨4,true,[[(f6 2 (List.map (d7 .u8) b2)),(f6 3 (List.map (d7 .u8) b3)),.int .i64 fuse,.bool down]]⟩,some ⟨1,false,(List.map (d7 .u8) b2)⟩,some ⟨1,false,(List.map (d7 .u8) b3)⟩]
 | .s1 b7=>⟨[.code (p8 [1,1,0,1,0]),.blk 0,.code (p8 [1,1,1])],[(3,.ptr 4 0 0),(5,.ptr 5 0 0),(7,.ptr 6 0 0),(9,.fn 116 [] [.iptr 1 [[.sl false 1 (List.map (d7 .i64) nodes)]] 0 0])],[some ⟨88,true,[(d9.l state (d8.l c [.int .i64 index,.ptr 1 0 0]))]⟩,some ⟨4,true,[[(f6 2 (List.map (d7 .u8) b2)),(f6 3 (List.map (d7 .u8) b3)),.int .i64 fuse,.bool down]]⟩,some ⟨1,false,(List.map (d7 .u8) b2)⟩,some ⟨1,false,(List.map (d7 .u8) b3)⟩,some ⟨1,true,[[.ptr 0 0 0]]⟩,some ⟨26,false,[(e9.enc m)]⟩,some ⟨1,true,[[(f6 7 (List.map e9.enc b7))]]⟩,some ⟨26,false,(List.map e9.enc b7)⟩]⟩
 | .s2 m2 b7 Y=>⟨[.blk 0,.code (p8 [1,1,1])],[(3,.ptr 4 0 0),(5,.ptr 5 0 0),(7,.ptr 6 0 0),(9,.fn 116 [] [.iptr 1 [[.sl false 1 (List.map (d7 .i64) nodes)]] 0 0])],[some ⟨88,true,[(d9.l state (d8.l c [.int .i64 index,.ptr 1 0 0]))]⟩,some ⟨4,true,[[(f6 2 (List.map (d7 .u8) b2)),(f6 3 (List.map (d7 .u8) b3)),.int .i64 fuse,.bool down]]⟩,some ⟨1,false,(List.map (d7 .u8) b2)⟩,some ⟨1,false,(List.map (d7 .u8) b3)⟩,some ⟨1,true,[[.ptr 0 0 0]]⟩,some ⟨26,false,[(e9.enc m2)]⟩,some ⟨1,true,[[(f6 7 (List.map e9.enc b7))]]⟩,some ⟨26,false,(List.map e9.enc b7)⟩]⟩
noncomputable def I8 (nodes:List Int) (m:e9) (state:d9) (c:d8) (index fuse:Int) (down:Bool) (b2 b3:List Int):s9→(List e9)→Prop
 | .s0,r_=>f5 E (Cx.of Tryz.f63 true 4) (QW (Rs (z4 state c index fuse down b2 b3) r_)) (.go ((P3 nodes m state c index fuse down b2 b3) (.s0)))
 | .s1 b7,r_=>f5 E (Cx.of Tryz.f63 true 4) (QW (Rs (z4 state c index fuse down b2 b3) r_)) (.go ((P3 nodes m state c index fuse down b2 b3) (.s1 b7)))
 | .s2 m2 b7 Y,r_=>L3 E (Cx.of Tryz.f63 true 4) (QW (Rs (z4 state c index fuse down b2 b3) r_)) 7 (p8 [1,1,0,1,0]) [.blk 0,.code (p8 [1,1,1])] [(3,.ptr 4 0 0),(5,.ptr 5 0 0),(7,.ptr 6 0 0),(9,.fn 116 [] [.iptr 1 [[.sl false 1 (List.map (d7 .i64) nodes)]] 0 0])] [] [] (List.map I6 Y) [some ⟨88,true,[(d9.l state (d8.l c [.int .i64 index,.ptr 1 0 0]))]⟩,some ⟨4,true,[[(f6 2 (List.map (d7 .u8) b2)),(f6 3 (List.map (d7 .u8) b3)),.int .i64 fuse,.bool down]]⟩,some ⟨1,false,(List.map (d7 .u8) b2)⟩,some ⟨1,false,(List.map (d7 .u8) b3)⟩,some ⟨1,true,[[.ptr 0 0 0]]⟩,some ⟨26,false,[(e9.enc m2)]⟩,some ⟨1,true,[[(f6 7 (List.map e9.enc b7))]]⟩,some ⟨26,false,(List.map e9.enc b7)⟩]
noncomputable def ao9 (nodes:List Int) (m:e9) (state:d9) (c:d8) (index fuse:Int) (down:Bool) (b2 b3:List Int):Option (s9⊕(List e9)):=(some (.inl (.s1 ([]))))
noncomputable def X9 (nodes:List Int) (m:e9) (state:d9) (c:d8) (index fuse:Int) (down:Bool) (b2 b3:List Int) (b7:List e9):Option (s9⊕(List e9)):=((az3 nodes).bind fun y1=>(some (.inl (.s2 m b7 y1))))
noncomputable def V4 (nodes:List Int) (m:e9) (state:d9) (c:d8) (index fuse:Int) (down:Bool) (b2 b3:List Int) (m2:e9) (b7:List e9):Option (s9⊕(List e9)):=(some (.inr b7))
noncomputable def V5 (nodes:List Int) (m:e9) (state:d9) (c:d8) (index fuse:Int) (down:Bool) (b2 b3:List Int) (m2:e9) (b7:List e9) (y:Int) (Y:List Int):Option (s9⊕(List e9)):=((H6 c index).bind fun y1=>(bif (decide (((List.map e9.enc b7).length+1)*288≤i7)) then (some (.inl (.s2 (⟨m2.Kind,y1,y,m2.Epoch,m2.Ballot,m2.Accepted,m2.Nonce,m2.Time,m2.Up,m2.Code,m2.HasPlan,m2.Plan,m2.ID,m2.Session,m2.Payload⟩:e9) (b7++ [(⟨m2.Kind,y1,y,m2.Epoch,m2.Ballot,m2.Accepted,m2.Nonce,m2.Time,m2.Up,m2.Code,m2.HasPlan,m2.Plan,m2.ID,m2.Session,m2.Payload⟩:e9)]) Y))) else none))
noncomputable def Y1 (nodes:List Int) (m:e9) (state:d9) (c:d8) (index fuse:Int) (down:Bool) (b2 b3:List Int) (m2:e9) (b7:List e9):List Int→Option (s9⊕(List e9))
 | []=>V4 nodes m state c index fuse down b2 b3 m2 b7
 | y::Y=>V5 nodes m state c index fuse down b2 b3 m2 b7 y Y
noncomputable def G1 (nodes:List Int) (m:e9) (state:d9) (c:d8) (index fuse:Int) (down:Bool) (b2 b3:List Int):s9→Option (s9⊕(List e9))
 | .s0=>ao9 nodes m state c index fuse down b2 b3
 | .s1 b7=>X9 nodes m state c index fuse down b2 b3 b7
 | .s2 m2 b7 Y=>Y1 nodes m state c index fuse down b2 b3 m2 b7 Y
theorem bj3 {nodes:List Int}{m:e9}{state:d9}{c:d8}{index fuse:Int}{down:Bool}{b2 b3:List Int}{r:List e9}{x:s9⊕(List e9)} (h:ao9 nodes m state c index fuse down b2 b3=some x) (ha:z5 (I8 nodes m state c index fuse down b2 b3) r x):f5 E (Cx.of Tryz.f63 true 4) (QW (Rs (z4 state c index fuse down b2 b3) r)) (.go ((P3 nodes m state c index fuse down b2 b3) (.s0))):=by
 unfold ao9 at h
 refine l5 hm 16 _ ?_
 obtain rfl:=Option.some.inj h
 refine ap9 1704 [.matc 6 0 0 26] (m' :=⟨[.code (p8 [1,1,0,1,0]),.blk 0,.code (p8 [1,1,1])],[(3,.ptr 4 0 0),(5,.ptr 5 0 0),(7,.ptr 6 0 0),(9,.fn 116 [] [.iptr 1 [[.sl false 1 (List.map (d7 .i64) nodes)]] 0 0])],[some ⟨88,true,[(d9.l state (d8.l c [.int .i64 index,.ptr 1 0 0]))]⟩,some ⟨4,true,[[(f6 2 (List.map (d7 .u8) b2)),(f6 3 (List.map (d7 .u8) b3)),.int .i64 fuse,.bool down]]⟩,some ⟨1,false,(List.map (d7 .u8) b2)⟩,some ⟨1,false,(List.map (d7 .u8) b3)⟩,some ⟨1,true,[[.ptr 0 0 0]]⟩,some ⟨26,false,[(e9.enc m)]⟩,some ⟨1,true,[[.msl 7 0 0 0 false]]⟩,some ⟨26,false,[]⟩]⟩) (by kernel_rfl) ?_
 refine ae9 (n1:=0) (n2:=(List.map e9.enc ([])).length) (fun n_len=> .go ⟨[.code (p8 [1,1,0,1,0]),.blk 0,.code (p8 [1,1,1])],[(3,.ptr 4 0 0),(5,.ptr 5 0 0),(7,.ptr 6 0 0),(9,.fn 116 [] [.iptr 1 [[.sl false 1 (List.map (d7 .i64) nodes)]] 0 0])],[some ⟨88,true,[(d9.l state (d8.l c [.int .i64 index,.ptr 1 0 0]))]⟩,some ⟨4,true,[[(f6 2 (List.map (d7 .u8) b2)),(f6 3 (List.map (d7 .u8) b3)),.int .i64 fuse,.bool down]]⟩,some ⟨1,false,(List.map (d7 .u8) b2)⟩,some ⟨1,false,(List.map (d7 .u8) b3)⟩,some ⟨1,true,[[.ptr 0 0 0]]⟩,some ⟨26,false,[(e9.enc m)]⟩,some ⟨1,true,[[.msl 7 0 n_len n_len false]]⟩,some ⟨26,false,[]⟩]⟩) (by simp) ?_
 exact ha
theorem bm6 {nodes:List Int}{m:e9}{state:d9}{c:d8}{index fuse:Int}{down:Bool}{b2 b3:List Int}{b7 r:List e9}{x:s9⊕(List e9)} (h:X9 nodes m state c index fuse down b2 b3 b7=some x) (ha:z5 (I8 nodes m state c index fuse down b2 b3) r x):f5 E (Cx.of Tryz.f63 true 4) (QW (Rs (z4 state c index fuse down b2 b3) r)) (.go ((P3 nodes m state c index fuse down b2 b3) (.s1 b7))):=by
 unfold X9 at h
 refine l5 hm 1 _ ?_
 have ok1:=fun (y:List Int) (hy:az3 nodes=some y)=>bS6 hy
 refine cP0 (m:=7) (c:=p8 [1,1,0,1,0]) (t:= [.blk 0,.code (p8 [1,1,1])]) (fr:= [(3,.ptr 4 0 0),(5,.ptr 5 0 0),(7,.ptr 6 0 0),(9,.fn 116 [] [.iptr 1 [[.sl false 1 (List.map (d7 .i64) nodes)]] 0 0])]) (σ:= [some ⟨88,true,[(d9.l state (d8.l c [.int .i64 index,.ptr 1 0 0]))]⟩,some ⟨4,true,[[(f6 2 (List.map (d7 .u8) b2)),(f6 3 (List.map (d7 .u8) b3)),.int .i64 fuse,.bool down]]⟩,some ⟨1,false,(List.map (d7 .u8) b2)⟩,some ⟨1,false,(List.map (d7 .u8) b3)⟩,some ⟨1,true,[[.ptr 0 0 0]]⟩,some ⟨26,false,[(e9.enc m)]⟩,some ⟨1,true,[[(f6 7 (List.map e9.enc b7))]]⟩,some ⟨26,false,(List.map e9.enc b7)⟩]) (caps1:= [.iptr 1 [[.sl false 1 (List.map (d7 .i64) nodes)]] 0 0]) (caps:= [.iptr 1 [[.sl false 1 (List.map (d7 .i64) nodes)]] 0 0]) (sub1:= []) (sub:= []) I6 h (by kernel_rfl) ⟨rfl,rfl⟩ (by kernel_rfl) (by kernel_rfl) ok1 (fun y1 h1 h=> ?_)
 obtain rfl:=Option.some.inj h
 exact ha
theorem be5 {nodes:List Int}{m:e9}{state:d9}{c:d8}{index fuse:Int}{down:Bool}{b2 b3:List Int}{m2:e9}{b7 r:List e9}{x:s9⊕(List e9)} (h:V4 nodes m state c index fuse down b2 b3 m2 b7=some x) (ha:z5 (I8 nodes m state c index fuse down b2 b3) r x):L3 E (Cx.of Tryz.f63 true 4) (QW (Rs (z4 state c index fuse down b2 b3) r)) 7 (p8 [1,1,0,1,0]) [.blk 0,.code (p8 [1,1,1])] [(3,.ptr 4 0 0),(5,.ptr 5 0 0),(7,.ptr 6 0 0),(9,.fn 116 [] [.iptr 1 [[.sl false 1 (List.map (d7 .i64) nodes)]] 0 0])] [] [] ([]) [some ⟨88,true,[(d9.l state (d8.l c [.int .i64 index,.ptr 1 0 0]))]⟩,some ⟨4,true,[[(f6 2 (List.map (d7 .u8) b2)),(f6 3 (List.map (d7 .u8) b3)),.int .i64 fuse,.bool down]]⟩,some ⟨1,false,(List.map (d7 .u8) b2)⟩,some ⟨1,false,(List.map (d7 .u8) b3)⟩,some ⟨1,true,[[.ptr 0 0 0]]⟩,some ⟨26,false,[(e9.enc m2)]⟩,some ⟨1,true,[[(f6 7 (List.map e9.enc b7))]]⟩,some ⟨26,false,(List.map e9.enc b7)⟩]:=by
 unfold V4 at h
 refine aW2 ?_
 exact ztP 8 h ha
theorem bf7 {nodes:List Int}{m:e9}{state:d9}{c:d8}{index fuse:Int}{down:Bool}{b2 b3:List Int}{m2:e9}{b7:List e9}{y:Int}{Y:List Int}{r:List e9}{x:s9⊕(List e9)} (h:V5 nodes m state c index fuse down b2 b3 m2 b7 y Y=some x) (ha:z5 (I8 nodes m state c index fuse down b2 b3) r x):L3 E (Cx.of Tryz.f63 true 4) (QW (Rs (z4 state c index fuse down b2 b3) r)) 7 (p8 [1,1,0,1,0]) [.blk 0,.code (p8 [1,1,1])] [(3,.ptr 4 0 0),(5,.ptr 5 0 0),(7,.ptr 6 0 0),(9,.fn 116 [] [.iptr 1 [[.sl false 1 (List.map (d7 .i64) nodes)]] 0 0])] [] [] (I6 y::List.map I6 Y) [some ⟨88,true,[(d9.l state (d8.l c [.int .i64 index,.ptr 1 0 0]))]⟩,some ⟨4,true,[[(f6 2 (List.map (d7 .u8) b2)),(f6 3 (List.map (d7 .u8) b3)),.int .i64 fuse,.bool down]]⟩,some ⟨1,false,(List.map (d7 .u8) b2)⟩,some ⟨1,false,(List.map (d7 .u8) b3)⟩,some ⟨1,true,[[.ptr 0 0 0]]⟩,some ⟨26,false,[(e9.enc m2)]⟩,some ⟨1,true,[[(f6 7 (List.map e9.enc b7))]]⟩,some ⟨26,false,(List.map e9.enc b7)⟩]:=by
 unfold V5 at h
 refine aM7 ?_
 refine zd 7 [] h (fun _=>R4) fun y1 h=> ?_
 refine zn 12 h fun h=> ?_
 refine za 0 e9.enc b7 ([(⟨m2.Kind,y1,y,m2.Epoch,m2.Ballot,m2.Accepted,m2.Nonce,m2.Time,m2.Up,m2.Code,m2.HasPlan,m2.Plan,m2.ID,m2.Session,m2.Payload⟩:e9)]) ?_
 refine l5 hm 6 _ ?_
 obtain rfl:=Option.some.inj h
 exact aH6 [] (s1:= [some ⟨88,true,[(d9.l state (d8.l c [.int .i64 index,.ptr 1 0 0]))]⟩,some ⟨4,true,[[(f6 2 (List.map (d7 .u8) b2)),(f6 3 (List.map (d7 .u8) b3)),.int .i64 fuse,.bool down]]⟩,some ⟨1,false,(List.map (d7 .u8) b2)⟩,some ⟨1,false,(List.map (d7 .u8) b3)⟩,some ⟨1,true,[[.ptr 0 0 0]]⟩,some ⟨26,false,[(.int .i64 m2.Kind:: .int .i64 y1:: .int .i64 y:: .int .i64 m2.Epoch:: .int .i64 m2.Ballot:: .int .i64 m2.Accepted:: .int .i64 m2.Nonce:: .int .i64 m2.Time:: .int .u64 m2.Up:: .int .i64 m2.Code:: .bool m2.HasPlan::Plan.l m2.Plan [.sl false 1 (List.map (d7 .i64) m2.ID),.sl false 1 (List.map (d7 .u8) m2.Session),.sl false 1 (List.map (d7 .u8) m2.Payload)])]⟩,some ⟨1,true,[[.msl 7 0 ((List.map e9.enc (b7++ [(⟨m2.Kind,y1,y,m2.Epoch,m2.Ballot,m2.Accepted,m2.Nonce,m2.Time,m2.Up,m2.Code,m2.HasPlan,m2.Plan,m2.ID,m2.Session,m2.Payload⟩:e9)])).length) ((List.map e9.enc (b7++ [(⟨m2.Kind,y1,y,m2.Epoch,m2.Ballot,m2.Accepted,m2.Nonce,m2.Time,m2.Up,m2.Code,m2.HasPlan,m2.Plan,m2.ID,m2.Session,m2.Payload⟩:e9)])).length) false]]⟩,some ⟨26,false,(List.map e9.enc (b7++ [(⟨m2.Kind,y1,y,m2.Epoch,m2.Ballot,m2.Accepted,m2.Nonce,m2.Time,m2.Up,m2.Code,m2.HasPlan,m2.Plan,m2.ID,m2.Session,m2.Payload⟩:e9)]))⟩]) (s:= [some ⟨88,true,[(d9.l state (d8.l c [.int .i64 index,.ptr 1 0 0]))]⟩,some ⟨4,true,[[(f6 2 (List.map (d7 .u8) b2)),(f6 3 (List.map (d7 .u8) b3)),.int .i64 fuse,.bool down]]⟩,some ⟨1,false,(List.map (d7 .u8) b2)⟩,some ⟨1,false,(List.map (d7 .u8) b3)⟩,some ⟨1,true,[[.ptr 0 0 0]]⟩,some ⟨26,false,[(.int .i64 m2.Kind:: .int .i64 y1:: .int .i64 y:: .int .i64 m2.Epoch:: .int .i64 m2.Ballot:: .int .i64 m2.Accepted:: .int .i64 m2.Nonce:: .int .i64 m2.Time:: .int .u64 m2.Up:: .int .i64 m2.Code:: .bool m2.HasPlan::Plan.l m2.Plan [.sl false 1 (List.map (d7 .i64) m2.ID),.sl false 1 (List.map (d7 .u8) m2.Session),.sl false 1 (List.map (d7 .u8) m2.Payload)])]⟩,some ⟨1,true,[[.msl 7 0 ((List.map e9.enc (b7++ [(⟨m2.Kind,y1,y,m2.Epoch,m2.Ballot,m2.Accepted,m2.Nonce,m2.Time,m2.Up,m2.Code,m2.HasPlan,m2.Plan,m2.ID,m2.Session,m2.Payload⟩:e9)])).length) ((List.map e9.enc (b7++ [(⟨m2.Kind,y1,y,m2.Epoch,m2.Ballot,m2.Accepted,m2.Nonce,m2.Time,m2.Up,m2.Code,m2.HasPlan,m2.Plan,m2.ID,m2.Session,m2.Payload⟩:e9)])).length) false]]⟩,some ⟨26,false,(List.map e9.enc (b7++ [(⟨m2.Kind,y1,y,m2.Epoch,m2.Ballot,m2.Accepted,m2.Nonce,m2.Time,m2.Up,m2.Code,m2.HasPlan,m2.Plan,m2.ID,m2.Session,m2.Payload⟩:e9)]))⟩]) (by kernel_rfl) (rfl) (by kernel_rfl) ha
theorem bj9 {nodes:List Int}{m:e9}{state:d9}{c:d8}{index fuse:Int}{down:Bool}{b2 b3:List Int}{m2:e9}{b7:List e9}{Y:List Int}{r:List e9}{x:s9⊕(List e9)} (h:Y1 nodes m state c index fuse down b2 b3 m2 b7 Y=some x) (ha:z5 (I8 nodes m state c index fuse down b2 b3) r x):L3 E (Cx.of Tryz.f63 true 4) (QW (Rs (z4 state c index fuse down b2 b3) r)) 7 (p8 [1,1,0,1,0]) [.blk 0,.code (p8 [1,1,1])] [(3,.ptr 4 0 0),(5,.ptr 5 0 0),(7,.ptr 6 0 0),(9,.fn 116 [] [.iptr 1 [[.sl false 1 (List.map (d7 .i64) nodes)]] 0 0])] [] [] (List.map I6 Y) [some ⟨88,true,[(d9.l state (d8.l c [.int .i64 index,.ptr 1 0 0]))]⟩,some ⟨4,true,[[(f6 2 (List.map (d7 .u8) b2)),(f6 3 (List.map (d7 .u8) b3)),.int .i64 fuse,.bool down]]⟩,some ⟨1,false,(List.map (d7 .u8) b2)⟩,some ⟨1,false,(List.map (d7 .u8) b3)⟩,some ⟨1,true,[[.ptr 0 0 0]]⟩,some ⟨26,false,[(e9.enc m2)]⟩,some ⟨1,true,[[(f6 7 (List.map e9.enc b7))]]⟩,some ⟨26,false,(List.map e9.enc b7)⟩]:=by
 cases Y with
 | nil=>exact be5 h ha
 | cons y Y=>exact bf7 h ha
noncomputable def au7 (nodes:List Int) (m:e9) (state:d9) (c:d8) (index fuse:Int) (down:Bool) (b2 b3:List Int):Option (List e9):=U9 (G1 nodes m state c index fuse down b2 b3) (.s0)
theorem bt2 {nodes:List Int}{m:e9}{state:d9}{c:d8}{index fuse:Int}{down:Bool}{b2 b3:List Int}{r:List e9} (h:Ev (G1 nodes m state c index fuse down b2 b3) (.s0) r):i0 E 63 [.ptr 0 0 0,.fn 116 [] [.iptr 1 [[.sl false 1 (List.map (d7 .i64) nodes)]] 0 0],.agg (e9.enc m)] [some ⟨88,true,[(d9.l state (d8.l c [.int .i64 index,.ptr 1 0 0]))]⟩,some ⟨4,true,[[(f6 2 (List.map (d7 .u8) b2)),(f6 3 (List.map (d7 .u8) b3)),.int .i64 fuse,.bool down]]⟩,some ⟨1,false,(List.map (d7 .u8) b2)⟩,some ⟨1,false,(List.map (d7 .u8) b3)⟩] (Rs (z4 state c index fuse down b2 b3) r):=
 am8 (m:=(P3 nodes m state c index fuse down b2 b3) (.s0)) (fn:=Tryz.f63) (by kernel_rfl) (by kernel_rfl) (aW4 (Pd:=(I8 nodes m state c index fuse down b2 b3)) (fun s x r hs ha=>by
  cases s with
  | s0=>exact bj3 hs ha
  | s1=>exact bm6 hs ha
  | s2=>exact bj9 hs ha) h)
theorem bt7 {nodes:List Int}{m:e9}{state:d9}{c:d8}{index fuse:Int}{down:Bool}{b2 b3:List Int}{r:List e9} (h:au7 nodes m state c index fuse down b2 b3=some r):i0 E 63 [.ptr 0 0 0,.fn 116 [] [.iptr 1 [[.sl false 1 (List.map (d7 .i64) nodes)]] 0 0],.agg (e9.enc m)] [some ⟨88,true,[(d9.l state (d8.l c [.int .i64 index,.ptr 1 0 0]))]⟩,some ⟨4,true,[[(f6 2 (List.map (d7 .u8) b2)),(f6 3 (List.map (d7 .u8) b3)),.int .i64 fuse,.bool down]]⟩,some ⟨1,false,(List.map (d7 .u8) b2)⟩,some ⟨1,false,(List.map (d7 .u8) b3)⟩] (Rs (z4 state c index fuse down b2 b3) r):=bt2 (bb7 h)
end Go.RX.L

namespace Go.RX.L
open Go Go.RX Go.Proofs
attribute [local irreducible] f5
noncomputable def cT1 (y:Bool):D×f3:=(.bool y,[])
noncomputable def aS8 (p_:Plan) (target:Int):Option Bool:=(bif (decide ((target:Int)≥0)) then (bif ((target:Int)==p_.Target) then (some true) else (bif ((target:Int)==p_.Prev) then (bif (decide ((p_.Percent:Int)<100)) then (some true) else (some ((target:Int)==p_.Spill))) else (some ((target:Int)==p_.Spill)))) else (some false))
theorem cK8 {p_:Plan}{target:Int}{r:Bool} (h:aS8 p_ target=some r):i0 E 83 [.agg (Plan.enc p_),.int .i64 target] [] (Rs cT1 r):=so (fn:=Tryz.f83) (k:=false) (m:=0) h<| by
 intro r h;unfold aS8 at h
 refine zs 11 h (fun h=> ?_) fun h=> ?_
 ·
  refine zs 10 h (fun h=> ?_) fun h=> ?_
  ·
   exact zu 34 h
  refine zs 10 h (fun h=> ?_) fun h=> ?_
  ·
   refine zs 14 h (fun h=> ?_) fun h=> ?_
   ·
    exact zu 14 h
   exact zu 15 h
  exact zu 29 h
 exact zu 32 h
end Go.RX.L

namespace Go.RX.L
open Go Go.RX Go.Proofs
attribute [local irreducible] f5
noncomputable def ci3 (y:i5):D×f3:=(.agg (i5.enc y),[])
noncomputable def aF9 (epoch ballot:Int) (own:Plan):Option i5:=(some (⟨epoch,ballot,1,(⟨epoch,own.Target,own.Prev,own.Spill,own.Percent,own.Stamp,own.Since,own.Ramped,own.Up,own.Sup,own.Pen,own.Changes⟩:Plan),0,(⟨0,0,0,0,0,0,0,0,0,0,[],[]⟩:Plan),0,0⟩:i5))
theorem cb1 {epoch ballot:Int}{own:Plan}{r:i5} (h:aF9 epoch ballot own=some r):i0 E 82 [.int .i64 epoch,.int .i64 ballot,.agg (Plan.enc own)] [] (Rs ci3 r):=so (fn:=Tryz.f82) (k:=false) (m:=0) h<| by
 intro r h;unfold aF9 at h
 exact zu 26 h [.slot 0 [some 1,some 1]]
end Go.RX.L

namespace Go.RX.L
open Go Go.RX Go.Proofs
attribute [local irreducible] f5
noncomputable def co6 (y:List Int):D×f3:=(.fn 116 [] [.iptr 1 [[.sl false 1 (List.map (d7 .i64) y)]] 0 0],[])
noncomputable def aL3 (s_:List Int):Option (List Int):=(some s_)
theorem ch1 {s_ r:List Int} (h:aL3 s_=some r):i0 E 84 [.sl false 1 (List.map (d7 .i64) s_)] [] (Rs co6 r):=so (fn:=Tryz.f84) (k:=false) (m:=0) h<| by
 intro r h;unfold aL3 at h
 exact zu 11 h
end Go.RX.L

namespace Go.RX.L
open Go Go.RX Go.Proofs
attribute [local irreducible] f5
noncomputable def r7:=n8 (p6 Tryz.f52)
noncomputable def bg8 (c:d8) (index fuse:Int) (down:Bool) (b2 b3:List Int) (y:(List e9)×d9):D×f3:=(.sl false 26 (List.map e9.enc y.1),[some ⟨88,true,[(d9.l y.2 (d8.l c [.int .i64 index,.ptr 1 0 0]))]⟩,some ⟨4,true,[[(f6 2 (List.map (d7 .u8) b2)),(f6 3 (List.map (d7 .u8) b3)),.int .i64 fuse,.bool down]]⟩,some ⟨1,false,(List.map (d7 .u8) b2)⟩,some ⟨1,false,(List.map (d7 .u8) b3)⟩])
inductive C5 where
 | s0
 | s1 (t42:Bool)
 | s3 (change t105:Bool) (next:Plan)
 | s2 (change:Bool) (b t154 t155:Int) (state2:d9) (named open_:List Int)
 | s4 (change:Bool) (b:Int) (open_:List Int) (state2:d9) (named:List Int)
 | s7 (b:Int) (open_:List Int) (state2:d9) (named:List Int) (out:List e9)
 | s6 (t220:Bool) (state2:d9) (out:List e9) (ask:e9)
 | s5 (state2:d9) (out:List e9) (ask:e9)
noncomputable def bg4 (now:Int) (state:d9) (c:d8) (index fuse:Int) (down:Bool) (b2 b3:List Int):C5→M
 | .s0=>A2 Tryz.f52 [.ptr 0 0 0,.int .i64 now] [some ⟨88,true,[(d9.l state (d8.l c [.int .i64 index,.ptr 1 0 0]))]⟩,some ⟨4,true,[[(f6 2 (List.map (d7 .u8) b2)),(f6 3 (List.map (d7 .u8) b3)),.int .i64 fuse,.bool down]]⟩,some ⟨1,false,(List.map (d7 .u8) b2)⟩,some ⟨1,false,(List.map (d7 .u8) b3)⟩]
 | .s1 t42=>⟨[.code (r7 [1,0,1]),.code (r7 [1,1])],[(0,.ptr 0 0 0),(1,.int .i64 now),(42,.bool t42)],[some ⟨88,true,[(d9.l state (d8.l c [.int .i64 index,.ptr 1 0 0]))]⟩,some ⟨4,true,[[(f6 2 (List.map (d7 .u8) b2)),(f6 3 (List.map (d7 .u8) b3)),.int .i64 fuse,.bool down]]⟩,some ⟨1,false,(List.map (d7 .u8) b2)⟩,some ⟨1,false,(List.map (d7 .u8) b3)⟩]⟩
 | .s3 change t105 next=>⟨[.code (r7 [1,1,1,1,1,0,1]),.code (r7 [1,1,1,1,1,1])],[(0,.ptr 0 0 0),(1,.int .i64 now),(5,.ptr 4 0 0),(7,.bool change),(105,.bool t105)],[some ⟨88,true,[(d9.l state (d8.l c [.int .i64 index,.ptr 1 0 0]))]⟩,some ⟨4,true,[[(f6 2 (List.map (d7 .u8) b2)),(f6 3 (List.map (d7 .u8) b3)),.int .i64 fuse,.bool down]]⟩,some ⟨1,false,(List.map (d7 .u8) b2)⟩,some ⟨1,false,(List.map (d7 .u8) b3)⟩,some ⟨12,false,[(Plan.enc next)]⟩]⟩
 | .s2 change b t154 t155 state2 named open_=>⟨[.lpc (r7 [1,1,1,1,1,1,1,1,1,1,0,1,0,0]) 68507889249886074290797726533575766546371841409,.blk 0,.code (r7 [1,1,1,1,1,1,1,1,1,1,1])],[(0,.ptr 0 0 0),(7,.bool change),(8,.int .i64 b),(10,(f6 4 (List.map (d7 .i64) named))),(11,(f6 5 (List.map (d7 .i64) open_))),(154,.int .i64 t154),(155,.int .i64 t155)],[some ⟨88,true,[(d9.l state2 (d8.l c [.int .i64 index,.ptr 1 0 0]))]⟩,some ⟨4,true,[[(f6 2 (List.map (d7 .u8) b2)),(f6 3 (List.map (d7 .u8) b3)),.int .i64 fuse,.bool down]]⟩,some ⟨1,false,(List.map (d7 .u8) b2)⟩,some ⟨1,false,(List.map (d7 .u8) b3)⟩,some ⟨1,false,(List.map (d7 .i64) named)⟩,some ⟨1,false,(List.map (d7 .i64) open_)⟩]⟩
 | .s4 change b open_ state2 named=>⟨[.code (r7 [1,1,1,1,1,1,1,1,1,1,1])],[(0,.ptr 0 0 0),(7,.bool change),(8,.int .i64 b),(10,(f6 4 (List.map (d7 .i64) named))),(11,.sl false 1 (List.map (d7 .i64) open_))],[some ⟨88,true,[(d9.l state2 (d8.l c [.int .i64 index,.ptr 1 0 0]))]⟩,some ⟨4,true,[[(f6 2 (List.map (d7 .u8) b2)),(f6 3 (List.map (d7 .u8) b3)),.int .i64 fuse,.bool down]]⟩,some ⟨1,false,(List.map (d7 .u8) b2)⟩,some ⟨1,false,(List.map (d7 .u8) b3)⟩,some ⟨1,false,(List.map (d7 .i64) named)⟩]⟩
 | .s7 b open_ state2 named out=>⟨[.code (r7 [1,1,1,1,1,1,1,1,1,1,1,1,1])],[(0,.ptr 0 0 0),(8,.int .i64 b),(10,(f6 4 (List.map (d7 .i64) named))),(11,.sl false 1 (List.map (d7 .i64) open_)),(13,(f6 5 (List.map e9.enc out)))],[some ⟨88,true,[(d9.l state2 (d8.l c [.int .i64 index,.ptr 1 0 0]))]⟩,some ⟨4,true,[[(f6 2 (List.map (d7 .u8) b2)),(f6 3 (List.map (d7 .u8) b3)),.int .i64 fuse,.bool down]]⟩,some ⟨1,false,(List.map (d7 .u8) b2)⟩,some ⟨1,false,(List.map (d7 .u8) b3)⟩,some ⟨1,false,(List.map (d7 .i64) named)⟩,some ⟨26,false,(List.map e9.enc out)⟩]⟩
 | .s6 t220 state2 out ask=>⟨[.code (r7 [1,1,1,1,1,1,1,1,1,1,1,1,1,1,0,1]),.code (r7 [1,1,1,1,1,1,1,1,1,1,1,1,1,1,1])],[(0,.ptr 0 0 0),(13,(f6 4 (List.map e9.enc out))),(14,.ptr 5 0 0),(220,.bool t220)],[some ⟨88,true,[(d9.l state2 (d8.l c [.int .i64 index,.ptr 1 0 0]))]⟩,some ⟨4,true,[[(f6 2 (List.map (d7 .u8) b2)),(f6 3 (List.map (d7 .u8) b3)),.int .i64 fuse,.bool down]]⟩,some ⟨1,false,(List.map (d7 .u8) b2)⟩,some ⟨1,false,(List.map (d7 .u8) b3)⟩,some ⟨26,false,(List.map e9.enc out)⟩,some ⟨26,false,[(e9.enc ask)]⟩]⟩
 | .s5 state2 out ask=>⟨[.code (r7 [1,1,1,1,1,1,1,1,1,1,1,1,1,1,1])],[(0,.ptr 0 0 0),(13,(f6 4 (List.map e9.enc out))),(14,.ptr 5 0 0)],[some ⟨88,true,[(d9.l state2 (d8.l c [.int .i64 index,.ptr 1 0 0]))]⟩,some ⟨4,true,[[(f6 2 (List.map (d7 .u8) b2)),(f6 3 (List.map (d7 .u8) b3)),.int .i64 fuse,.bool down]]⟩,some ⟨1,false,(List.map (d7 .u8) b2)⟩,some ⟨1,false,(List.map (d7 .u8) b3)⟩,some ⟨26,false,(List.map e9.enc out)⟩,some ⟨26,false,[(e9.enc ask)]⟩]⟩
abbrev K4 (now:Int) (state:d9) (c:d8) (index fuse:Int) (down:Bool) (b2 b3:List Int):=SOk E (Cx.of Tryz.f52 true 4) (bg8 c index fuse down b2 b3) (bg4 now state c index fuse down b2 b3)
noncomputable def ad8 (now:Int) (state:d9) (c:d8) (index fuse:Int) (down:Bool) (b2 b3:List Int):Option (C5⊕((List e9)×d9)):=((ak4 now state c index fuse down b2 b3).bind fun y1=>(bif (!y1) then (some (.inl (.s1 true))) else (bif ((state.prop.Phase:Int) !=0) then (some (.inl (.s1 (decide (((IntKind.i64.wrap (now-state.made)):Int)<c.Retry))))) else (some (.inl (.s1 false))))))
noncomputable def ac9 (now:Int) (state:d9) (c:d8) (index fuse:Int) (down:Bool) (b2 b3:List Int) (t42:Bool):Option (C5⊕((List e9)×d9)):=(bif t42 then (some (.inr ([],state))) else ((aZ8 state.votes c.Observers now c.Fresh).bind fun y2=>((ap2 c state.known y2 now).bind fun y3=>(bif (!y3.2) then (some (.inr ([],(⟨state.boot,state.known,state.heard,state.votes,state.hold,state.asked,(⟨0,0,0,(⟨0,0,0,0,0,0,0,0,0,0,[],[]⟩:Plan),0,(⟨0,0,0,0,0,0,0,0,0,0,[],[]⟩:Plan),0,0⟩:i5),state.made,state.top,state.sealed,state.told⟩:d9)))) else (bif ((y3.1.Target:Int) !=state.known.Target) then (some (.inl (.s3 ((y3.1.Target:Int) !=state.known.Target) (decide (((IntKind.i64.wrap (now-state.heard)):Int)<c.D_)) y3.1))) else (some (.inl (.s3 ((y3.1.Target:Int) !=state.known.Target) false y3.1))))))))
noncomputable def ae4 (now:Int) (state:d9) (c:d8) (index fuse:Int) (down:Bool) (b2 b3:List Int) (change t105:Bool) (next:Plan):Option (C5⊕((List e9)×d9)):=(bif t105 then (some (.inr ([],state))) else ((aJ7 state.top state.boot index).bind fun y2=>(bif ((y2.2:Int) !=0) then (some (.inr ([],state))) else ((aF9 (IntKind.i64.wrap (state.known.Epoch+1)) y2.1 next).bind fun y4=>(some (.inl (.s2 change y2.1 c.Targets 0 (⟨state.boot,state.known,state.heard,state.votes,state.hold,state.asked,y4,now,y2.1,state.sealed,state.told⟩:d9) ([]) ([]))))))))
noncomputable def O2 (now:Int) (state:d9) (c:d8) (index fuse:Int) (down:Bool) (b2 b3:List Int) (change:Bool) (b t154 t155:Int) (state2:d9) (named open_:List Int):Option (C5⊕((List e9)×d9)):=(bif (decide ((t155:Int)<t154)) then ((aS8 state2.known t155).bind fun y2=>(bif y2 then (bif (decide (((List.map (d7 .i64) named).length+1)*8≤i7)) then (bif (!decide ((t155:Int)<0)) then (bif (((i9 .u64 (m7 .u64 state2.sealed t155) 1):Int)==0) then ((X2 c t155).bind fun y7=>(bif (decide (((List.map (d7 .i64) open_).length+1)*8≤i7)) then (some (.inl (.s2 change b t154 (IntKind.i64.wrap (t155+1)) state2 (named++ [t155]) (open_++ [y7])))) else none)) else (some (.inl (.s2 change b t154 (IntKind.i64.wrap (t155+1)) state2 (named++ [t155]) open_)))) else none) else none) else (some (.inl (.s2 change b t154 (IntKind.i64.wrap (t155+1)) state2 named open_))))) else (some (.inl (.s4 change b open_ state2 named))))
noncomputable def ap6 (now:Int) (state:d9) (c:d8) (index fuse:Int) (down:Bool) (b2 b3:List Int) (change:Bool) (b:Int) (open_:List Int) (state2:d9) (named:List Int):Option (C5⊕((List e9)×d9)):=(bif change then ((aL3 open_).bind fun y2=>((au7 y2 (⟨12,0,0,state2.prop.Epoch,0,0,0,0,0,0,false,(⟨0,0,0,0,0,0,0,0,0,0,[],[]⟩:Plan),[],[],[]⟩:e9) state2 c index fuse down b2 b3).bind fun y3=>(some (.inl (.s7 b open_ state2 named y3))))) else (some (.inl (.s7 b open_ state2 named ([])))))
noncomputable def ap7 (now:Int) (state:d9) (c:d8) (index fuse:Int) (down:Bool) (b2 b3:List Int) (b:Int) (open_:List Int) (state2:d9) (named:List Int) (out:List e9):Option (C5⊕((List e9)×d9)):=(bif (decide (((((List.map (d7 .i64) named).length:Nat):Int):Int)>0)) then (some (.inl (.s6 (((((List.map (d7 .i64) open_).length:Nat):Int):Int)==0) state2 out (⟨4,0,0,state2.prop.Epoch,b,0,0,0,0,0,true,state2.known,[],[],[]⟩:e9)))) else (some (.inl (.s6 false state2 out (⟨4,0,0,state2.prop.Epoch,b,0,0,0,0,0,true,state2.known,[],[],[]⟩:e9)))))
noncomputable def aI0 (now:Int) (state:d9) (c:d8) (index fuse:Int) (down:Bool) (b2 b3:List Int) (t220:Bool) (state2:d9) (out:List e9) (ask:e9):Option (C5⊕((List e9)×d9)):=(bif t220 then (some (.inl (.s5 state2 out (⟨ask.Kind,ask.From,ask.To,ask.Epoch,ask.Ballot,ask.Accepted,ask.Nonce,ask.Time,ask.Up,1,ask.HasPlan,ask.Plan,ask.ID,ask.Session,ask.Payload⟩:e9)))) else (some (.inl (.s5 state2 out ask))))
noncomputable def aq0 (now:Int) (state:d9) (c:d8) (index fuse:Int) (down:Bool) (b2 b3:List Int) (state2:d9) (out:List e9) (ask:e9):Option (C5⊕((List e9)×d9)):=((K6 state2 c index fuse down b2 b3).bind fun y1=>((I7 ask state2 c index fuse down b2 b3).bind fun y2=>(bif (decide (((List.map e9.enc out).length+(List.take ((List.map e9.enc y2).length) (List.drop 0 (List.map e9.enc y2))).length)*288≤i7)) then (some (.inr ((out++y2),state2))) else none)))
noncomputable def m9 (now:Int) (state:d9) (c:d8) (index fuse:Int) (down:Bool) (b2 b3:List Int):C5→Option (C5⊕((List e9)×d9))
 | .s0=>ad8 now state c index fuse down b2 b3
 | .s1 t42=>ac9 now state c index fuse down b2 b3 t42
 | .s3 change t105 next=>ae4 now state c index fuse down b2 b3 change t105 next
 | .s2 change b t154 t155 state2 named open_=>O2 now state c index fuse down b2 b3 change b t154 t155 state2 named open_
 | .s4 change b open_ state2 named=>ap6 now state c index fuse down b2 b3 change b open_ state2 named
 | .s7 b open_ state2 named out=>ap7 now state c index fuse down b2 b3 b open_ state2 named out
 | .s6 t220 state2 out ask=>aI0 now state c index fuse down b2 b3 t220 state2 out ask
 | .s5 state2 out ask=>aq0 now state c index fuse down b2 b3 state2 out ask
theorem bH9 {now state c index fuse down b2 b3}:K4 now state c index fuse down b2 b3 .s0 (ad8 now state c index fuse down b2 b3):=by
 intro r x h ha;unfold ad8 at h
 refine zdR 7 [] h (fun _=>br4) fun y1 h=> ?_
 refine zs 0 h (fun h=> ?_) fun h=> ?_
 ·
  exact zk 9 h ha
 refine zs 8 h (fun h=> ?_) fun h=> ?_
 ·
  exact zk 17 h ha
 exact zk 15 h ha
theorem bG1 {now state c index fuse down b2 b3 t42}:K4 now state c index fuse down b2 b3 (.s1 t42) (ac9 now state c index fuse down b2 b3 t42):=by
 intro r x h ha;unfold ac9 at h
 refine zs 1 h (fun h=> ?_) fun h=> ?_
 ·
  exact zt 5 h ha [.slot 0 [some 26]]
 refine zd 8 [] h (fun _=>cx3) fun y2 h=> ?_
 refine zd 0 [] h (fun _=>cB2) fun y3 h=> ?_
 refine zs 9 h (fun h=> ?_) fun h=> ?_
 ·
  refine zf 15 [.blk 0 [some 1,some 1,some 1,some 1]] ?_
  exact zt 1 h ha [.slot 0 [some 26]]
 refine zs 8 h (fun h=> ?_) fun h=> ?_
 ·
  exact zk 15 h ha
 exact zk 13 h ha
theorem bH7 {now state c index fuse down b2 b3 change t105 next}:K4 now state c index fuse down b2 b3 (.s3 change t105 next) (ae4 now state c index fuse down b2 b3 change t105 next):=by
 intro r x h ha;unfold ae4 at h
 refine zs 1 h (fun h=> ?_) fun h=> ?_
 ·
  exact zt 5 h ha [.slot 0 [some 26]]
 refine zd 6 [] h (fun _=>cB6) fun y2 h=> ?_
 refine zs 7 h (fun h=> ?_) fun h=> ?_
 ·
  exact zt 5 h ha [.slot 0 [some 26]]
 refine zd 5 [] h (fun _=>cb1) fun y4 h=> ?_
 refine l5 hm 25 _ ?_
 obtain rfl:=Option.some.inj h
 refine ap9 68507889249886074290797726533575766546371841409 [.mat 10 1,.mat 11 1] (m' :=⟨[.lpc (r7 [1,1,1,1,1,1,1,1,1,1,0,1,0,0]) 68507889249886074290797726533575766546371841409,.blk 0,.code (r7 [1,1,1,1,1,1,1,1,1,1,1])],[(0,.ptr 0 0 0),(7,.bool change),(8,.int .i64 y2.1),(10,.msl 4 0 0 0 false),(11,.msl 5 0 0 0 false),(154,.int .i64 c.Targets),(155,.int .i64 0)],[some ⟨88,true,[(.int .i64 state.boot::Plan.l state.known (.int .i64 state.heard:: .sl false 3 (List.map i6.enc state.votes)::n5.l state.hold (.bool state.asked.ever:: .int .i64 state.asked.at_::i5.l y4 (.int .i64 now:: .int .i64 y2.1:: .int .u64 state.sealed:: .bool state.told.ever:: .int .i64 state.told.at_::d8.l c [.int .i64 index,.ptr 1 0 0]))))]⟩,some ⟨4,true,[[(f6 2 (List.map (d7 .u8) b2)),(f6 3 (List.map (d7 .u8) b3)),.int .i64 fuse,.bool down]]⟩,some ⟨1,false,(List.map (d7 .u8) b2)⟩,some ⟨1,false,(List.map (d7 .u8) b3)⟩,some ⟨1,false,[]⟩,some ⟨1,false,[]⟩]⟩) (by kernel_rfl) ?_
 refine ae9 (n1:=0) (n2:=(List.map (d7 .i64) ([])).length) (fun n_len=> .go ⟨[.lpc (r7 [1,1,1,1,1,1,1,1,1,1,0,1,0,0]) 68507889249886074290797726533575766546371841409,.blk 0,.code (r7 [1,1,1,1,1,1,1,1,1,1,1])],[(0,.ptr 0 0 0),(7,.bool change),(8,.int .i64 y2.1),(10,.msl 4 0 n_len n_len false),(11,.msl 5 0 0 0 false),(154,.int .i64 c.Targets),(155,.int .i64 0)],[some ⟨88,true,[(.int .i64 state.boot::Plan.l state.known (.int .i64 state.heard:: .sl false 3 (List.map i6.enc state.votes)::n5.l state.hold (.bool state.asked.ever:: .int .i64 state.asked.at_::i5.l y4 (.int .i64 now:: .int .i64 y2.1:: .int .u64 state.sealed:: .bool state.told.ever:: .int .i64 state.told.at_::d8.l c [.int .i64 index,.ptr 1 0 0]))))]⟩,some ⟨4,true,[[(f6 2 (List.map (d7 .u8) b2)),(f6 3 (List.map (d7 .u8) b3)),.int .i64 fuse,.bool down]]⟩,some ⟨1,false,(List.map (d7 .u8) b2)⟩,some ⟨1,false,(List.map (d7 .u8) b3)⟩,some ⟨1,false,[]⟩,some ⟨1,false,[]⟩]⟩) (by simp) ?_
 refine ae9 (n1:=0) (n2:=(List.map (d7 .i64) ([])).length) (fun n_len=> .go ⟨[.lpc (r7 [1,1,1,1,1,1,1,1,1,1,0,1,0,0]) 68507889249886074290797726533575766546371841409,.blk 0,.code (r7 [1,1,1,1,1,1,1,1,1,1,1])],[(0,.ptr 0 0 0),(7,.bool change),(8,.int .i64 y2.1),(10,.msl 4 0 ((List.map (d7 .i64) ([])).length) ((List.map (d7 .i64) ([])).length) false),(11,.msl 5 0 n_len n_len false),(154,.int .i64 c.Targets),(155,.int .i64 0)],[some ⟨88,true,[(.int .i64 state.boot::Plan.l state.known (.int .i64 state.heard:: .sl false 3 (List.map i6.enc state.votes)::n5.l state.hold (.bool state.asked.ever:: .int .i64 state.asked.at_::i5.l y4 (.int .i64 now:: .int .i64 y2.1:: .int .u64 state.sealed:: .bool state.told.ever:: .int .i64 state.told.at_::d8.l c [.int .i64 index,.ptr 1 0 0]))))]⟩,some ⟨4,true,[[(f6 2 (List.map (d7 .u8) b2)),(f6 3 (List.map (d7 .u8) b3)),.int .i64 fuse,.bool down]]⟩,some ⟨1,false,(List.map (d7 .u8) b2)⟩,some ⟨1,false,(List.map (d7 .u8) b3)⟩,some ⟨1,false,[]⟩,some ⟨1,false,[]⟩]⟩) (by simp) ?_
 exact ha
theorem bH1 {now state c index fuse down b2 b3 change b t154 t155 state2 named open_}:K4 now state c index fuse down b2 b3 (.s2 change b t154 t155 state2 named open_) (O2 now state c index fuse down b2 b3 change b t154 t155 state2 named open_):=by
 intro r x h ha;unfold O2 at h
 refine zs 7 h (fun h=> ?_) fun h=> ?_
 ·
  refine zc 18 [] h (fun _=>cK8) fun y2 h=> ?_
  refine zs 2 h (fun h=> ?_) fun h=> ?_
  ·
   refine zn 7 h fun h=> ?_
   refine za 0 (d7 .i64) named ([t155]) ?_
   refine zn 12 h fun h=> ?_
   refine zs 4 h (fun h=> ?_) fun h=> ?_
   ·
    refine zc 9 [] h (fun _=>aI3) fun y7 h=> ?_
    refine zn 3 h fun h=> ?_
    refine za 0 (d7 .i64) open_ ([y7]) ?_
    exact zj 8 h ha
   exact zj 7 h ha
  exact zj 7 h ha
 refine l5 hm 1 _ ?_
 refine bX2 11 (n1:=(0+(List.map (d7 .i64) open_).length)) (n2:=((List.map (d7 .i64) open_).length)) (raw:=(List.take ((List.map (d7 .i64) open_).length) (List.drop 0 (List.map (d7 .i64) open_)))) (rs:=(List.map (d7 .i64) open_)) (by kernel_rfl) (u7 _) (by simp only [z7,E3,List.map_take,List.map_drop]) ?_
 exact zk 0 h ha
theorem bE5 {now state c index fuse down b2 b3 change b open_ state2 named}:K4 now state c index fuse down b2 b3 (.s4 change b open_ state2 named) (ap6 now state c index fuse down b2 b3 change b open_ state2 named):=by
 intro r x h ha;unfold ap6 at h
 refine zs 10 h (fun h=> ?_) fun h=> ?_
 ·
  refine zd 1 [] h (fun _=>ch1) fun y2 h=> ?_
  refine zc 1 [some 1,some 1,some 1,some 1,some 1] h (fun _=>bt7) fun y3 h=> ?_
  exact zk 0 h ha
 refine l5 hm 1 _ ?_
 obtain rfl:=Option.some.inj h
 refine ap9 11521 [.mat 13 26] (m' :=⟨[.code (r7 [1,1,1,1,1,1,1,1,1,1,1,1,1])],[(0,.ptr 0 0 0),(8,.int .i64 b),(10,(f6 4 (List.map (d7 .i64) named))),(11,.sl false 1 (List.map (d7 .i64) open_)),(13,.msl 5 0 0 0 false)],[some ⟨88,true,[(d9.l state2 (d8.l c [.int .i64 index,.ptr 1 0 0]))]⟩,some ⟨4,true,[[(f6 2 (List.map (d7 .u8) b2)),(f6 3 (List.map (d7 .u8) b3)),.int .i64 fuse,.bool down]]⟩,some ⟨1,false,(List.map (d7 .u8) b2)⟩,some ⟨1,false,(List.map (d7 .u8) b3)⟩,some ⟨1,false,(List.map (d7 .i64) named)⟩,some ⟨26,false,[]⟩]⟩) (by kernel_rfl) ?_
 refine ae9 (n1:=0) (n2:=(List.map e9.enc ([])).length) (fun n_len=> .go ⟨[.code (r7 [1,1,1,1,1,1,1,1,1,1,1,1,1])],[(0,.ptr 0 0 0),(8,.int .i64 b),(10,(f6 4 (List.map (d7 .i64) named))),(11,.sl false 1 (List.map (d7 .i64) open_)),(13,.msl 5 0 n_len n_len false)],[some ⟨88,true,[(d9.l state2 (d8.l c [.int .i64 index,.ptr 1 0 0]))]⟩,some ⟨4,true,[[(f6 2 (List.map (d7 .u8) b2)),(f6 3 (List.map (d7 .u8) b3)),.int .i64 fuse,.bool down]]⟩,some ⟨1,false,(List.map (d7 .u8) b2)⟩,some ⟨1,false,(List.map (d7 .u8) b3)⟩,some ⟨1,false,(List.map (d7 .i64) named)⟩,some ⟨26,false,[]⟩]⟩) (by simp) ?_
 exact ha
theorem bI9 {now state c index fuse down b2 b3 b open_ state2 named out}:K4 now state c index fuse down b2 b3 (.s7 b open_ state2 named out) (ap7 now state c index fuse down b2 b3 b open_ state2 named out):=by
 intro r x h ha;unfold ap7 at h
 refine zs 14 h (fun h=> ?_) fun h=> ?_
 ·
  exact zk 7 h ha [.blk 6 [some 1,some 1,some 1]]
 exact zk 7 h ha [.blk 6 [some 1,some 1,some 1]]
theorem bF4 {now state c index fuse down b2 b3 t220 state2 out ask}:K4 now state c index fuse down b2 b3 (.s6 t220 state2 out ask) (aI0 now state c index fuse down b2 b3 t220 state2 out ask):=by
 intro r x h ha;unfold aI0 at h
 refine zs 1 h (fun h=> ?_) fun h=> ?_
 ·
  exact zk 6 h ha
 exact zk 1 h ha
theorem bF5 {now state c index fuse down b2 b3 state2 out ask}:K4 now state c index fuse down b2 b3 (.s5 state2 out ask) (aq0 now state c index fuse down b2 b3 state2 out ask):=by
 intro r x h ha;unfold aq0 at h
 refine zdR 2 [] h (fun _=>au3) fun y1 h=> ?_
 refine zc 1 [] h (fun _=>ac3) fun y2 h=> ?_
 refine zm 0 (b:=(Nat.beq ((List.take ((List.map e9.enc y2).length) (List.drop 0 (List.map e9.enc y2))).length) ((List.map e9.enc y2).length))) (by simp) ?_
 refine zn 0 h fun h=> ?_
 refine zm 0 (u7 ((List.map e9.enc out).length)) ?_
 refine zw 0 (a:=(List.take ((List.map e9.enc out).length) (List.drop 0 (List.map e9.enc out))++(List.take ((List.map e9.enc y2).length) (List.drop 0 (List.map e9.enc y2))))) (b:=(List.map e9.enc (out++y2))) (by simp only [z7,E3,List.map_append,List.map_take,List.map_drop]) ?_
 refine bX2 4 (n1:=(0+(List.map e9.enc (out++y2)).length)) (n2:=((List.map e9.enc (out++y2)).length)) (raw:=(List.take ((List.map e9.enc (out++y2)).length) (List.drop 0 (List.map e9.enc (out++y2))))) (rs:=(List.map e9.enc (out++y2))) (by kernel_rfl) (u7 _) (by simp only [z7,E3,List.map_take,List.map_drop]) ?_
 exact zt 1 h ha
noncomputable def an3 (now:Int) (state:d9) (c:d8) (index fuse:Int) (down:Bool) (b2 b3:List Int):Option ((List e9)×d9):=U9 (m9 now state c index fuse down b2 b3) (.s0)
theorem bO8 {now:Int}{state:d9}{c:d8}{index fuse:Int}{down:Bool}{b2 b3:List Int}{r:(List e9)×d9} (h:an3 now state c index fuse down b2 b3=some r):i0 E 52 [.ptr 0 0 0,.int .i64 now] [some ⟨88,true,[(d9.l state (d8.l c [.int .i64 index,.ptr 1 0 0]))]⟩,some ⟨4,true,[[(f6 2 (List.map (d7 .u8) b2)),(f6 3 (List.map (d7 .u8) b3)),.int .i64 fuse,.bool down]]⟩,some ⟨1,false,(List.map (d7 .u8) b2)⟩,some ⟨1,false,(List.map (d7 .u8) b3)⟩] (Rs (bg8 c index fuse down b2 b3) r):=sc (fn:=Tryz.f52) (k:=true) (m:=4) (stM:=(bg4 now state c index fuse down b2 b3)) h fun s=>by
 cases s with
 | s0=>exact bH9
 | s1=>exact bG1
 | s3=>exact bH7
 | s2=>exact bH1
 | s4=>exact bE5
 | s7=>exact bI9
 | s6=>exact bF4
 | s5=>exact bF5
end Go.RX.L

namespace Go.RX.L
open Go Go.RX Go.Proofs
attribute [local irreducible] f5
end Go.RX.L

namespace Go.RX.L
open Go Go.RX
def t0 (c:d8) (i:Int):Int:=2*c.F_+1+i
section
variable {c : d8} (cb : CB c)
include cb
theorem dg6:al1 c=some (2*c.F_+1):=by
 have:=cb.f
 simp only [al1]
 rw [u4 (n:=2*c.F_) (by omega) (by omega),u4 (by omega) (by omega)]
theorem aW8 {i:Int} (hi:0≤i∧i≤100):H6 c i=some (t0 c i):=by
 have:=cb.f
 simp only [H6,dg6 cb,Option.bind_some,t0]
 rw [u4 (by omega) (by omega)]
theorem ci9 {i:Int} (hi:0≤i∧i≤100):X2 c i=some (t0 c (c.Deciders+i)):=by
 have:=cb.f;have:=cb.dec
 simp only [X2,aW8 cb (i:=c.Deciders) (by omega),Option.bind_some,t0]
 rw [u4 (by omega) (by omega)];congr 1;omega
theorem cU4 {i:Int} (hi:0≤i∧i≤100):X4 c i=some (t0 c (c.Deciders+c.Targets+c.Routers+i)):=by
 have:=cb.f;have:=cb.dec;have:=cb.t;have:=cb.rou
 simp only [X4,aG4,ci9 cb (i:=c.Targets) (by omega),Option.bind_some,t0]
 rw [u4 (n:=2*c.F_+1+(c.Deciders+c.Targets)+c.Routers) (by omega) (by omega),u4 (by omega) (by omega)];congr 1;omega
end
def aS3 (c:d8):Nat:=(c.Deciders+c.Targets+c.Routers).toNat
def av6 (c:d8):List Int:=(List.range (2*c.F_+1).toNat).map fun (k:Nat)=>(k:Int)
def bx6 (c:d8) (ix:Int) (l:List Nat):List Int:=(l.map fun (k:Nat)=>t0 c k).filter fun n=>n !=t0 c ix
def bx2 (c:d8) (ix:Int):List Int:=bx6 c ix (List.range (aS3 c))
def ftM (m:e9) (f t:Int):e9:=⟨m.Kind,f,t,m.Epoch,m.Ballot,m.Accepted,m.Nonce,m.Time,m.Up,m.Code,m.HasPlan,m.Plan,m.ID,m.Session,m.Payload⟩
def toL (c:d8) (ix:Int) (m:e9) (l:List Int):List e9:=l.map fun t=>ftM m (t0 c ix) t
theorem wD {k:Nat} (h:k≤3000000):IntKind.i64.wrap ((k:Int)+1)=((k+1:Nat):Int):=by rw [u4 (by omega) (by omega)];norm_cast
theorem bG8 {c:d8} (cb:CB c):(av6 c).length≤7:=by have:=cb.f;simp [av6];omega
theorem cR3 {c:d8} (cb:CB c) (ix:Int):(bx2 c ix).length≤24:=by
 have:=cb.dec;have:=cb.t;have:=cb.rou
 have h:=List.length_filter_le (fun n=>n !=t0 c ix) ((List.range (aS3 c)).map fun (k:Nat)=>t0 c k)
 rw [List.length_map,List.length_range] at h
 unfold bx2 bx6
 unfold aS3 at h
 unfold aS3
 omega
section
variable {c : d8} {ix : Int} {st : d9} {fuse : Int} {down : Bool} {s t : List Int}
theorem dx7 (n:Nat) (hn:n≤1000):∀(j k:Nat),k+j=n→EvL G8 (.s1 (n:Int) (k:Int) st c ix fuse down s t) (((List.range n).drop k).map fun (k:Nat)=>(k:Int)):=by
 intro j
 induction j with
 | zero=>
  intro k hk
  rw [List.drop_eq_nil_of_le (by simp;omega)]
  refine .done ?_
  simp only [G8,R6,geB (show n≤k by omega),cond_false,List.map_nil]
 | succ j ih=>
  intro k hk
  have hlt:k<n:=by omega
  rw [List.drop_eq_getElem_cons (by simpa using hlt),List.map_cons,List.getElem_range]
  refine EvL.next (l:= [(k:Int)]) (s' := .s1 (n:Int) ((k+1:Nat):Int) st c ix fuse down s t) ?_ (ih (k+1) (by omega))
  simp only [G8,R6,K0 hlt,cond_true,Option.map_some,wD (show k≤3000000 by omega)]
theorem dO3 (cb:CB c):aj3 st c ix fuse down s t=some (av6 c):=by
 have:=cb.f
 refine bC6 (EvL.next (l:= []) (s' := .s1 (((2*c.F_+1).toNat:Nat):Int) ((0:Nat):Int) st c ix fuse down s t) ?_ (dx7 _ (by omega) (2*c.F_+1).toNat 0 (by omega)))
 simp only [G8,aa4,dg6 cb,Option.bind_some]
 rw [show (((2*c.F_+1).toNat:Nat):Int)=2*c.F_+1 by omega];rfl
theorem ds4 (cb:CB c) (hix:0≤ix∧ix≤100):∀(j k:Nat),k+j=aS3 c→EvL H2 (.s1 (t0 c (k:Int)) st c ix fuse down s t) (bx6 c ix ((List.range (aS3 c)).drop k)):=by
 have:=cb.f;have:=cb.dec;have:=cb.t;have:=cb.rou
 have ho:=cU4 cb (i:=0) (by omega)
 have hd:=aW8 cb hix
 have hN:((aS3 c:Nat):Int)=c.Deciders+c.Targets+c.Routers:=by unfold aS3;omega
 intro j
 induction j with
 | zero=>
  intro k hk
  rw [List.drop_eq_nil_of_le (by simp;omega)]
  refine .done ?_
  have:decide (t0 c (k:Int)<t0 c (c.Deciders+c.Targets+c.Routers+0))=false:=decide_eq_false (by unfold t0;omega)
  simp only [H2,R5,ho,Option.bind_some,this,cond_false,bx6,List.map_nil,List.filter_nil]
 | succ j ih=>
  intro k hk
  have hlt:k<aS3 c:=by omega
  have lt:decide (t0 c (k:Int)<t0 c (c.Deciders+c.Targets+c.Routers+0))=true:=decide_eq_true (by unfold t0;omega)
  have w:IntKind.i64.wrap (t0 c (k:Int)+1)=t0 c ((k+1:Nat):Int):=by
   rw [u4 (by unfold t0;omega) (by unfold t0;omega)];unfold t0;omega
  have ih:=ih (k+1) (by omega)
  rw [List.drop_eq_getElem_cons (by simpa using hlt),List.getElem_range]
  by_cases he:t0 c (k:Int)=t0 c ix
  ·have e:(t0 c (k:Int) !=t0 c ix)=false:=by rw [he];simp
   have e2:bx6 c ix (k::(List.range (aS3 c)).drop (k+1))=bx6 c ix ((List.range (aS3 c)).drop (k+1)):=by simp only [bx6,List.map_cons,List.filter_cons,e];simp
   rw [e2]
   refine EvL.next (l:= []) (s' := .s1 (t0 c ((k+1:Nat):Int)) st c ix fuse down s t) ?_ ih
   simp only [H2,R5,ho,hd,Option.bind_some,lt,e,cond_true,cond_false,w]
  ·have e:(t0 c (k:Int) !=t0 c ix)=true:=bne_iff_ne.2 he
   have e2:bx6 c ix (k::(List.range (aS3 c)).drop (k+1))= [t0 c (k:Int)]++bx6 c ix ((List.range (aS3 c)).drop (k+1)):=by simp only [bx6,List.map_cons,List.filter_cons,e];simp
   rw [e2]
   refine EvL.next (l:= [t0 c (k:Int)]) (s' := .s1 (t0 c ((k+1:Nat):Int)) st c ix fuse down s t) ?_ ih
   simp only [H2,R5,ho,hd,Option.bind_some,lt,e,cond_true,Option.map_some,w]
theorem dK3 (cb:CB c) (hix:0≤ix∧ix≤100):av5 st c ix fuse down s t=some (bx2 c ix):=by
 refine bC6 (EvL.next (l:= []) (s' := .s1 (t0 c ((0:Nat):Int)) st c ix fuse down s t) ?_ (ds4 cb hix (aS3 c) 0 (by omega)))
 have:=aW8 cb (i:=0) (by omega)
 simp only [H2,am2,this,Option.bind_some];rfl
theorem dv9 (l:List Int) (hn:l.length≤1000):∀(j k:Nat),k+j=l.length→EvL N3 (.s1 l (l.length:Nat) (k:Int)) (l.drop k):=by
 intro j
 induction j with
 | zero=>
  intro k hk
  rw [List.drop_eq_nil_of_le (by omega)]
  refine .done ?_
  simp only [N3,ad7,geB (show l.length≤k by omega),cond_false]
 | succ j ih=>
  intro k hk
  have hlt:k<l.length:=by omega
  rw [List.drop_eq_getElem_cons hlt]
  refine EvL.next (l:= [l[k]]) (s' := .s1 l (l.length:Nat) ((k+1:Nat):Int)) ?_ (ih (k+1) (by omega))
  simp only [N3,ad7,K0 hlt,List.length_map,S5,Bool.and_self,cond_true,Int.toNat_natCast,List.getE hlt,Option.bind_some,Option.map_some,wD (show k≤3000000 by omega)]
theorem dM7 (l:List Int) (hn:l.length≤1000):az3 l=some l:=by
 refine bC6 (EvL.next (l:= []) (s' := .s1 l (l.length:Nat) ((0:Nat):Int)) ?_ (by simpa using dv9 l hn l.length 0 (by omega)))
 simp only [N3,aq1,List.length_map];rfl
theorem bh8 (cb:CB c) (hix:0≤ix∧ix≤100) (m:e9):∀(Y:List Int) (m2:e9) (out:List e9),out.length+Y.length≤1000→Ev (D1 m st c ix fuse down s t) (.s2 m2 out Y) (out++toL c ix m2 Y)
 | [],m2,out,h=> .done (by simp [D1,S2,Q2,toL])
 | y::Y,m2,out,h=>by
  simp only [List.length_cons] at h
  have hd:=aW8 cb hix
  have l1:decide ((out.length+1)*288≤i7)=true:=D3 (by omega)
  refine .next (s' := .s2 (ftM m2 (t0 c ix) y) (out++ [ftM m2 (t0 c ix) y]) Y) ?_ ?_
  ·simp only [D1,S2,Q7,hd,Option.bind_some,List.length_map,l1,cond_true];rfl
  ·have:=bh8 cb hix m Y (ftM m2 (t0 c ix) y) (out++ [ftM m2 (t0 c ix) y]) (by simp;omega)
   rw [List.append_assoc] at this
   exact this
theorem bn8 (cb:CB c) (hix:0≤ix∧ix≤100) (m:e9):I7 m st c ix fuse down s t=some (toL c ix m (av6 c)):=by
 have hl2:(av6 c).length≤100:=Nat.le_trans (bG8 cb) (by decide)
 refine u0 (.next (s' := .s1 []) rfl (.next (s' := .s2 m [] (av6 c)) ?_ (by simpa using bh8 cb hix m (av6 c) m [] (by simp;omega))))
 simp only [D1,S4,dO3 cb,Option.bind_some]
theorem bz0 (cb:CB c) (hix:0≤ix∧ix≤100) (m:e9):∀(Y:List Int) (m2:e9) (out:List e9),out.length+Y.length≤1000→Ev (G0 m st c ix fuse down s t) (.s2 m2 out Y) (out++toL c ix m2 Y)
 | [],m2,out,h=> .done (by simp [G0,Y3,V3,toL])
 | y::Y,m2,out,h=>by
  simp only [List.length_cons] at h
  have hd:=aW8 cb hix
  have l1:decide ((out.length+1)*288≤i7)=true:=D3 (by omega)
  refine .next (s' := .s2 (ftM m2 (t0 c ix) y) (out++ [ftM m2 (t0 c ix) y]) Y) ?_ ?_
  ·simp only [G0,Y3,V6,hd,Option.bind_some,List.length_map,l1,cond_true];rfl
  ·have:=bz0 cb hix m Y (ftM m2 (t0 c ix) y) (out++ [ftM m2 (t0 c ix) y]) (by simp;omega)
   rw [List.append_assoc] at this
   exact this
theorem dr4 (cb:CB c) (hix:0≤ix∧ix≤100) (m:e9):av4 m st c ix fuse down s t=some (toL c ix m (bx2 c ix)):=by
 have hl2:(bx2 c ix).length≤100:=Nat.le_trans (cR3 cb ix) (by decide)
 refine u0 (.next (s' := .s1 []) rfl (.next (s' := .s2 m [] (bx2 c ix)) ?_ (by simpa using bz0 cb hix m (bx2 c ix) m [] (by simp;omega))))
 simp only [G0,X7,dK3 cb hix,Option.bind_some]
theorem bC4 (l:List Int) (cb:CB c) (hix:0≤ix∧ix≤100) (m:e9):∀(Y:List Int) (m2:e9) (out:List e9),out.length+Y.length≤1000→Ev (G1 l m st c ix fuse down s t) (.s2 m2 out Y) (out++toL c ix m2 Y)
 | [],m2,out,h=> .done (by simp [G1,Y1,V4,toL])
 | y::Y,m2,out,h=>by
  simp only [List.length_cons] at h
  have hd:=aW8 cb hix
  have l1:decide ((out.length+1)*288≤i7)=true:=D3 (by omega)
  refine .next (s' := .s2 (ftM m2 (t0 c ix) y) (out++ [ftM m2 (t0 c ix) y]) Y) ?_ ?_
  ·simp only [G1,Y1,V5,hd,Option.bind_some,List.length_map,l1,cond_true];rfl
  ·have:=bC4 l cb hix m Y (ftM m2 (t0 c ix) y) (out++ [ftM m2 (t0 c ix) y]) (by simp;omega)
   rw [List.append_assoc] at this
   exact this
theorem dq2 (l:List Int) (hl:l.length≤100) (cb:CB c) (hix:0≤ix∧ix≤100) (m:e9):au7 l m st c ix fuse down s t=some (toL c ix m (l)):=by
 have hl2:(l).length≤100:=hl
 refine u0 (.next (s' := .s1 []) rfl (.next (s' := .s2 m [] (l)) ?_ (by simpa using bC4 l cb hix m (l) m [] (by simp;omega))))
 simp only [G1,X9,dM7 l (by omega),Option.bind_some]
def dz6 (p:Plan):e9:=⟨9,0,0,p.Epoch,0,0,0,0,0,0,true,p,[],[],[]⟩
def cQ0 (st:d9) (now:Int):d9:={ st with told:=⟨true,now⟩ }
theorem dg0 (cb:CB c) (hix:0≤ix∧ix≤100) (now:Int):as8 now st c ix fuse down s t=some (toL c ix (dz6 st.known) (bx2 c ix),cQ0 st now):=by
 have h0:∀st:d9,aG8 st c ix fuse down s t=some ():=fun _=>rfl
 simp only [as8,h0,Option.bind_some,dr4 cb hix];rfl
def cx9 (o:S0) (now wait:Int):Bool:= !o.ever || decide (IntKind.i64.wrap (now-o.at_)≥wait)
theorem dn7 (o:S0) (now wait:Int):W5 o now wait=some (cx9 o now wait):=by
 unfold W5 cx9;cases o.ever<;>simp
def bP9 (now:Int):e9:=⟨10,0,0,0,0,0,now,0,0,2,false,v7,[],[],[]⟩
def bw6 (st:d9) (now:Int):d9:={ st with hold:=cX3 st.hold 0 now,asked:=⟨true,st.hold.Nonce⟩ }
def af5 (c:d8) (ix now:Int) (st:d9):List e9×d9:=
 if cx9 ⟨st.asked.ever,st.hold.Nonce⟩ now (u5 (IntKind.i64.wrap (Int.tdiv c.L_ 2)) 1) then (toL c ix (bP9 now) (av6 c),bw6 st now) else ([],{ st with asked:=⟨st.asked.ever,st.hold.Nonce⟩ })
theorem dg7 (cb:CB c) (hix:0≤ix∧ix≤100) (now:Int):aE5 now st c ix fuse down s t=some (af5 c ix now st):=by
 have h0:∀st:d9,K6 st c ix fuse down s t=some ():=fun _=>rfl
 simp only [aE5,dn7,Option.bind_some,af5,dT0,h0,bn8 cb hix]
 cases cx9 ⟨st.asked.ever,st.hold.Nonce⟩ now (u5 (IntKind.i64.wrap (Int.tdiv c.L_ 2)) 1)<;>rfl
def aX1 (c:d8) (ix now:Int) (st:d9):List e9×d9:=
 if st.known.Epoch=0∨cx9 st.told now c.Retry=false then ([],st) else (toL c ix (dz6 st.known) (bx2 c ix),cQ0 st now)
theorem dr0 (cb:CB c) (hix:0≤ix∧ix≤100) (now:Int):aK3 now st c ix fuse down s t=some (aX1 c ix now st):=by
 simp only [aK3,dn7,Option.bind_some,aX1,ax5,dg0 cb hix]
 by_cases h:st.known.Epoch=0
 ·rw [beq_iff_eq.2 h,if_pos (.inl h)];rfl
 ·rw [beq_eq_false_iff_ne.2 h]
  cases h2:cx9 st.told now c.Retry
  ·rw [if_pos (.inr rfl)];rfl
  ·rw [if_neg (by simp [h])];rfl
end
end Go.RX.L

namespace Go.RX.L
open Go Go.RX
theorem dY4 {c:d8} (cb:CB c) {p:Plan} (hs:by3 p) (hu:0≤p.Up) (hv:0≤p.Sup):∃b,ap1 c p=some b∧(b=true→aW3 c p):=by
 simp only [ap1,aY1 hs hu hv,Option.bind_some]
 cases hr:Z5 p with
 | false=>exact ⟨false,rfl,fun h=>by cases h⟩
 | true=>
  have r:=af0.1 hr
  have no:∃b:Bool,(some false:Option Bool)=some b∧(b=true→aW3 c p):=⟨false,rfl,fun h=>by cases h⟩
  simp only [cond_true,List.length_map]
  cases h1:(((p.Pen.length:Nat):Int)==c.Targets) with
  | false=>exact no
  | true=>
   cases h2:decide (u5 (u5 p.Target p.Prev) p.Spill<c.Targets) with
   | false=>exact no
   | true=>
    obtain ⟨a,ha⟩:=Int.eq_ofNat_of_zero_le hu
    obtain ⟨b,hb⟩:=Int.eq_ofNat_of_zero_le hv
    have h3:=r.up
    have h4:=r.sup
    have hor:a ||| b<65536:=Nat.or_lt_two_pow (n:=16) (by omega) (by omega)
    have eor:orI .u64 p.Up p.Sup=((a ||| b:Nat):Int):=by rw [ha,hb];exact bX7 (by omega) (by omega)
    obtain ⟨n,hn,hlt⟩:=dz2 hor
    have cT:=cb.t
    simp only [cond_true,eor,hn,Option.bind_some]
    cases h5:decide ((n:Int)≤c.Targets) with
    | false=>exact no
    | true=>
     cases h6:decide (((p.Changes.length:Nat):Int)≤c.B_) with
     | false=>exact no
     | true=>
      refine ⟨_,rfl,fun h7=> ?_⟩
      have h1:=beq_iff_eq.1 h1
      have h2:=of_decide_eq_true h2
      have h5:=of_decide_eq_true h5
      have h6:=of_decide_eq_true h6
      have h7:=of_decide_eq_true h7
      have h8:=(hlt c.Targets.toNat (by omega)).1 (by omega)
      have o1:a≤a ||| b:=Nat.left_le_or
      have o2:b≤a ||| b:=Nat.right_le_or
      have mx:p.Target<c.Targets∧p.Prev<c.Targets∧p.Spill<c.Targets:=by
       unfold u5 at h2;split at h2<;>split at h2<;>omega
      exact ⟨r,hu,hv,h1,mx,by rw [ha,Int.toNat_natCast];omega,by rw [hb,Int.toNat_natCast];omega,h6,h7⟩
theorem dZ0 {c:d8} (hc:Z0 c=true) (ht:c.Tiers.length<9223372036854775807) {p:Plan} (hs:by3 p) (hu:0≤p.Up) (hv:0≤p.Sup) {up:Nat} (hup:up<18446744073709551616) {now:Int} (hn:0≤now):
  ∃r,ap2 c p (up:Int) now=some r∧(r.2=true→aW3 c p∧ap1 c p=some true∧r=au1 c p up now):=by
 obtain ⟨b,hb,hf⟩:=dY4 (aD1 hc) hs hu hv
 cases b with
 | true=>exact ⟨_,dB5 hc ht (hf rfl) hb hup hn,fun _=>⟨hf rfl,hb,rfl⟩⟩
 | false=>
  refine ⟨(zPl,false),?_,fun h=>by cases h⟩
  simp only [ap2,bb4 ht,hc,Option.bind_some,Bool.not_true,cond_false,hb,Bool.not_false,ak7,cond_true];rfl
section
variable {c : d8} {p : Plan}
theorem dT4 (cb:CB c) {m:Nat} (hm:m<2^c.Targets.toNat): -1≤aA3 c m∧aA3 c m≤15:=by
 have:=cb.t
 rcases dg2 (c:=c) hm (by omega) with h | ⟨i,h1,h2,h3⟩<;>omega
theorem dK1 {l:List Int}{t:Int} (h:srt l=true) (ht:∀x,l.getLast? =some x→x≤t):srt (l++ [t])=true:=by
 rw [df2] at h ⊢
 intro i h0 hi
 simp only [List.length_append,List.length_cons,List.length_nil] at hi
 by_cases hl:i<l.length
 ·have:=h i h0 hl
  simp only [List.getD_eq_getElem?_getD] at this ⊢
  rw [List.getElem?_append_left (by omega),List.getElem?_append_left hl];exact this
 ·have e:i=l.length:=by omega
  subst e
  have hx:l.getLast? =some (l.getD (l.length-1) 0):=by
   rw [List.getLast?_eq_getElem?,List.getD_eq_getElem?_getD,List.getElem?_eq_getElem (by omega)];rfl
  have:=ht _ hx
  simp only [List.getD_eq_getElem?_getD] at this ⊢
  rw [List.getElem?_append_left (by omega)]
  simpa using this
theorem dy7 {l:List Int} (h:srt l=true) (k:Nat):srt (l.drop k)=true:=by
 rw [df2] at h ⊢
 intro i h0 hi
 rw [List.length_drop] at hi
 have:=h (k+i) (by omega) (by omega)
 simp only [List.getD_eq_getElem?_getD,List.getElem?_drop] at this ⊢
 rw [show k+(i-1)=k+i-1 by omega];exact this
theorem dY3 (cb:CB c) (hf:aW3 c p) (up:Nat) {now:Int} (hn:0≤now):Rt (nxN c p up now)∧(nxN c p up now).Epoch=p.Epoch+1∧0≤(nxN c p up now).Up∧0≤(nxN c p up now).Sup:=by
 have hT:=cb.t
 have he:=hf.r.epoch
 have hst:=hf.r.times p.Stamp (by simp)
 have hsi:=hf.r.times p.Since (by simp)
 have hra:=hf.r.times p.Ramped (by simp)
 have htx:p.Stamp≤K5 p now∧K5 p now≤1099511627776:=by unfold K5 u5 z9;split<;>split<;>omega
 have htp:=hf.r.tps p.Target (by simp)
 have hpr:=hf.r.tps p.Prev (by simp)
 have hsp:=hf.r.tps p.Spill (by simp)
 have hto:=du0 cb hf up now
 have hp2:(2:Nat)^c.Targets.toNat≤2^16:=Nat.pow_le_pow_right (by decide) (by omega)
 have hU:=bQ1 c up
 have hS:nxS c p up now<2^p.Pen.length:=bn0 _ _
 have hpl:=hf.pen
 have hS2:(2:Nat)^p.Pen.length≤2^16:=Nat.pow_le_pow_right (by decide) (by omega)
 have u1:((nxU c up:Nat):Int)≤65535:=by omega
 have s1:((nxS c p up now:Nat):Int)≤65535:=by omega
 have pl:(aH3 c p (nxU c up) (K5 p now)).length≤16:=by simp [aH3];omega
 have pm:∀x∈aH3 c p (nxU c up) (K5 p now),0≤x∧x≤1000000:=fun x hx=>by
  obtain ⟨j,_,rfl⟩:=List.mem_map.1 hx
  exact du8 cb hf _ _ _
 have hpc:=hf.r.pc
 have hfi:=cb.first
 have hstp:=cb.step
 have hB:=cb.b
 have hch:=hf.ch
 unfold nxN
 split
 ·rename_i hc2
  have hc3:(ay9 c p up now≠p.Target)∧bH6 c p (K5 p now)=false:=by
   simp only [cf7,Bool.and_eq_true,decide_eq_true_eq,Bool.not_eq_true'] at hc2;exact ⟨hc2.1,hc2.2.1⟩
  have hcl:(ci7 c p (K5 p now)).length≤8:=by
   simp only [ci7,List.length_append,List.length_drop,List.length_cons,List.length_nil];omega
  have hcm:∀x∈ci7 c p (K5 p now),0≤x∧x≤1099511627776:=fun x hx=>by
   rcases List.mem_append.1 hx with hx | hx
   ·exact hf.r.ch x (List.mem_of_mem_drop hx)
   ·rw [List.mem_singleton.1 hx];omega
  have hcs:srt (ci7 c p (K5 p now))=true:=by
   refine dK1 (dy7 hf.r.srt _) fun x hx=> ?_
   have h2:=hc3.2
   simp only [bH6,Bool.or_eq_false_iff,Bool.and_eq_false_iff,decide_eq_false_iff_not] at h2
   have hd:=cb.d
   have hne:p.Changes.drop (p.Changes.length+1-c.B_.toNat)≠ []:=fun e=>by rw [e] at hx;simp at hx
   have hpos:0<p.Changes.length:=by
    rcases Nat.eq_zero_or_pos p.Changes.length with h | h
    ·exact absurd (by rw [List.length_eq_zero_iff.1 h];simp) hne
    ·exact h
   rw [List.getLast?_eq_getElem?,List.getElem?_drop,List.length_drop] at hx
   have hlen:0<p.Changes.length-(p.Changes.length+1-c.B_.toNat):=by
    rw [←List.length_drop];exact List.length_pos_iff.2 hne
   rw [show p.Changes.length+1-c.B_.toNat+(p.Changes.length-(p.Changes.length+1-c.B_.toNat)-1)=p.Changes.length-1 by omega] at hx
   rcases h2.1 with h3 | h3
   ·omega
   ·rw [hx] at h3;simp only [Option.getD_some] at h3;omega
  refine ⟨⟨by simp only;omega,?_,?_,?_,u1,s1,pl,hcl,pm,hcm,hcs⟩,rfl,by simp only;omega,by simp only;omega⟩
  ·simp only [List.mem_cons,List.not_mem_nil,or_false,forall_eq_or_imp,forall_eq];omega
  ·simp only;split<;>omega
  ·simp only [List.mem_cons,List.not_mem_nil,or_false,forall_eq_or_imp,forall_eq];omega
 ·split
  ·refine ⟨⟨by simp only;omega,?_,?_,?_,u1,s1,pl,hf.r.chl,pm,hf.r.ch,hf.r.srt⟩,rfl,by simp only;omega,by simp only;omega⟩
   ·exact hf.r.tps
   ·simp only [z9];split<;>omega
   ·simp only [List.mem_cons,List.not_mem_nil,or_false,forall_eq_or_imp,forall_eq];omega
  ·refine ⟨⟨by simp only;omega,hf.r.tps,hpc,?_,u1,s1,pl,hf.r.chl,pm,hf.r.ch,hf.r.srt⟩,rfl,by simp only;omega,by simp only;omega⟩
   simp only [List.mem_cons,List.not_mem_nil,or_false,forall_eq_or_imp,forall_eq];omega
theorem dI9 (cb:CB c) (hf:aW3 c p) (up:Nat) {now:Int} (hn:0≤now) (h:(au1 c p up now).2=true):Rt (au1 c p up now).1∧(au1 c p up now).1.Epoch=p.Epoch+1∧0≤(au1 c p up now).1.Up∧0≤(au1 c p up now).1.Sup:=by
 obtain ⟨r,h1,h2,h3⟩:=dY3 cb hf up hn
 have hb:=dT4 cb (m:=bR7 (nxG c p up now) (nxN c p up now).Target) (Nat.lt_of_le_of_lt (dh0 _ _) (cS7 c p up now))
 unfold au1 cx5 at h ⊢
 split at h
 ·cases h
 ·rename_i hs
  rw [if_neg hs]
  refine ⟨⟨r.epoch,?_,r.pc,r.times,r.up,r.sup,r.penl,r.chl,r.pen,r.ch,r.srt⟩,h1,h2,h3⟩
  have t1:=r.tps _ (by simp:(nxN c p up now).Target∈_)
  have t2:=r.tps _ (by simp:(nxN c p up now).Prev∈_)
  simp only [List.mem_cons,List.not_mem_nil,or_false,forall_eq_or_imp,forall_eq]
  omega
end
end Go.RX.L

namespace Go.RX.L
open Go Go.RX Go.Proofs
attribute [local irreducible] f5
noncomputable def cO0 (p_:i5) (c:d8) (y:Unit):D×f3:=(.fn 137 [] [.iptr 30 [(i5.enc p_)] 0 0,.iptr 30 [(d8.enc c)] 0 0],[])
noncomputable def ay4 (p_:i5) (c:d8):Option Unit:=(some ())
theorem bB3 {p_:i5}{c:d8}{r:Unit} (h:ay4 p_ c=some r):i0 E 104 [.agg (i5.enc p_),.agg (d8.enc c)] [] (Rs (cO0 p_ c) r):=so (fn:=Tryz.f104) (k:=false) (m:=0) h<| by
 intro r h;unfold ay4 at h
 exact zu 12 h
end Go.RX.L

namespace Go.RX.L
open Go Go.RX Go.Proofs
attribute [local irreducible] f5
noncomputable def ct2 (y:Bool):D×f3:=(.bool y,[])
noncomputable def aj8 (m:e9) (kind phase:Int) (t:i5) (t2:d8):Option Bool:=(bif ((t.Phase:Int)==phase) then (bif ((m.Kind:Int)==kind) then (bif ((m.Epoch:Int)==t.Epoch) then (bif ((m.Ballot:Int)==t.Ballot) then (bif (decide ((m.From:Int)≥0)) then ((ac5 t2).bind fun y6=>(some (decide ((m.From:Int)≤(IntKind.i64.wrap ((2:Int)*y6)))))) else (some false)) else (some false)) else (some false)) else (some false)) else (some false))
theorem bq2 {m:e9}{kind phase:Int}{t:i5}{t2:d8}{r:Bool} (h:aj8 m kind phase t t2=some r):i0 E 137 [.agg (e9.enc m),.int .i64 kind,.int .i64 phase,.iptr 30 [(i5.enc t)] 0 0,.iptr 30 [(d8.enc t2)] 0 0] [] (Rs ct2 r):=so (fn:=Tryz.f137) (k:=false) (m:=0) h<| by
 intro r h;unfold aj8 at h
 refine zs 8 h (fun h=> ?_) fun h=> ?_
 ·
  refine zs 5 h (fun h=> ?_) fun h=> ?_
  ·
   refine zs 7 h (fun h=> ?_) fun h=> ?_
   ·
    refine zs 7 h (fun h=> ?_) fun h=> ?_
    ·
     refine zs 4 h (fun h=> ?_) fun h=> ?_
     ·
      refine zd 5 [] h (fun _=>aN7) fun y6 h=> ?_
      exact zu 4 h
     exact zu 7 h
    exact zu 11 h
   exact zu 17 h
  exact zu 23 h
 exact zu 28 h
end Go.RX.L

namespace Go.RX.L
open Go Go.RX Go.Proofs
attribute [local irreducible] f5
noncomputable def Z7:=n8 (p6 Tryz.f62)
noncomputable def bc3 (y:i5):D×f3:=(.agg (i5.enc y),[])
abbrev aB2 (p_:i5) (c:d8) (m:e9):=AOk E (Cx.of Tryz.f62 false 0) bc3
noncomputable def bN4 (p_:i5) (c:d8) (m:e9) (p_2 b2:i5):M:=⟨[.code (Z7 [1,1,1])],[(3,.ptr 0 0 0),(4,.ptr 1 0 0),(6,.ptr 2 0 0)],[some ⟨30,false,[(i5.enc p_2)]⟩,some ⟨30,false,[(d8.enc c)]⟩,some ⟨30,false,[(i5.enc b2)]⟩]⟩
noncomputable def R7 (p_:i5) (c:d8) (m:e9) (p_2 b2:i5):Option i5:=((ab7 c p_2.Promises).bind fun y1=>(bif y1 then (bif ((p_2.Best:Int)==0) then (some (⟨p_2.Epoch,p_2.Ballot,2,p_2.Own,p_2.Best,p_2.Own,p_2.Promises,p_2.Accepts⟩:i5)) else (some (⟨p_2.Epoch,p_2.Ballot,2,p_2.Own,p_2.Best,p_2.Value,p_2.Promises,p_2.Accepts⟩:i5))) else (some p_2)))
theorem aP0 {p_ c m p_2 b2}:aB2 p_ c m (bN4 p_ c m p_2 b2) (R7 p_ c m p_2 b2):=by
 intro r h;unfold R7 at h
 refine zc 9 [] h (fun _=>aN3) fun y1 h=> ?_
 refine zs 2 h (fun h=> ?_) fun h=> ?_
 ·
  refine zs 15 h (fun h=> ?_) fun h=> ?_
  ·
   exact zu 19 h
  exact zu 11 h
 exact zu 11 h
noncomputable def bO2 (p_:i5) (c:d8) (m:e9) (t41:Bool) (p_2 b3:i5):M:=⟨[.code (Z7 [1,1,0,1,1]),.code (Z7 [1,1,1])],[(3,.ptr 0 0 0),(4,.ptr 1 0 0),(5,.ptr 2 0 0),(6,.ptr 3 0 0),(41,.bool t41)],[some ⟨30,false,[(i5.enc p_2)]⟩,some ⟨30,false,[(d8.enc c)]⟩,some ⟨26,false,[(e9.enc m)]⟩,some ⟨30,false,[(i5.enc b3)]⟩]⟩
noncomputable def Y9 (p_:i5) (c:d8) (m:e9) (t41:Bool) (p_2 b3:i5):Option i5:=(bif t41 then (R7 p_ c m (⟨p_2.Epoch,p_2.Ballot,p_2.Phase,p_2.Own,m.Accepted,m.Plan,p_2.Promises,p_2.Accepts⟩:i5) b3) else (R7 p_ c m p_2 b3))
theorem aO8 {p_ c m t41 p_2 b3}:aB2 p_ c m (bO2 p_ c m t41 p_2 b3) (Y9 p_ c m t41 p_2 b3):=by
 intro r h;unfold Y9 at h
 refine zs 1 h (fun h=> ?_) fun h=> ?_
 ·
  exact zg 7 (aP0 h)
 exact zg 1 (aP0 h)
noncomputable def bN5 (p_:i5) (c:d8) (m:e9) (t24:Bool) (b3:i5):M:=⟨[.code (Z7 [1,0,1]),.code (Z7 [1,1])],[(3,.ptr 0 0 0),(4,.ptr 1 0 0),(5,.ptr 2 0 0),(6,.ptr 3 0 0),(24,.bool t24)],[some ⟨30,false,[(i5.enc p_)]⟩,some ⟨30,false,[(d8.enc c)]⟩,some ⟨26,false,[(e9.enc m)]⟩,some ⟨30,false,[(i5.enc b3)]⟩]⟩
noncomputable def I0 (p_:i5) (c:d8) (m:e9) (t24:Bool) (b3:i5):Option i5:=(bif t24 then (some p_) else (bif (!decide ((m.From:Int)<0)) then (bif m.HasPlan then (Y9 p_ c m (decide ((m.Accepted:Int)>p_.Best)) (⟨p_.Epoch,p_.Ballot,p_.Phase,p_.Own,p_.Best,p_.Value,(orI .u64 p_.Promises (E6 .u64 1 m.From)),p_.Accepts⟩:i5) b3) else (Y9 p_ c m false (⟨p_.Epoch,p_.Ballot,p_.Phase,p_.Own,p_.Best,p_.Value,(orI .u64 p_.Promises (E6 .u64 1 m.From)),p_.Accepts⟩:i5) b3)) else none))
theorem aq5 {p_ c m t24 b3}:aB2 p_ c m (bN5 p_ c m t24 b3) (I0 p_ c m t24 b3):=by
 intro r h;unfold I0 at h
 refine zs 1 h (fun h=> ?_) fun h=> ?_
 ·
  exact zu 10 h
 refine zn 6 h fun h=> ?_
 refine zs 9 h (fun h=> ?_) fun h=> ?_
 ·
  exact zg 13 (aO8 h)
 exact zg 11 (aO8 h)
noncomputable def ah2 (p_:i5) (c:d8) (m:e9):Option i5:=((ay4 p_ c).bind fun y1=>((aj8 m 5 1 p_ c).bind fun y2=>(bif (!y2) then (I0 p_ c m true (⟨0,0,0,(⟨0,0,0,0,0,0,0,0,0,0,[],[]⟩:Plan),0,(⟨0,0,0,0,0,0,0,0,0,0,[],[]⟩:Plan),0,0⟩:i5)) else (bif m.HasPlan then (I0 p_ c m ((m.Plan.Epoch:Int) !=p_.Epoch) (⟨0,0,0,(⟨0,0,0,0,0,0,0,0,0,0,[],[]⟩:Plan),0,(⟨0,0,0,0,0,0,0,0,0,0,[],[]⟩:Plan),0,0⟩:i5)) else (I0 p_ c m false (⟨0,0,0,(⟨0,0,0,0,0,0,0,0,0,0,[],[]⟩:Plan),0,(⟨0,0,0,0,0,0,0,0,0,0,[],[]⟩:Plan),0,0⟩:i5))))))
theorem bN8 {p_:i5}{c:d8}{m:e9}{r:i5} (h:ah2 p_ c m=some r):i0 E 62 [.agg (i5.enc p_),.agg (d8.enc c),.agg (e9.enc m)] [] (Rs bc3 r):=so (fn:=Tryz.f62) (k:=false) (m:=0) h<| by
 intro r h;unfold ah2 at h
 refine zd 12 [] h (fun _=>bB3) fun y1 h=> ?_
 refine zd 1 [] h (fun _=>bq2) fun y2 h=> ?_
 refine zs 0 h (fun h=> ?_) fun h=> ?_
 ·
  exact zg 4 (aq5 h) [.blk 3 [some 1,some 1,some 1,some 1]]
 refine zs 3 h (fun h=> ?_) fun h=> ?_
 ·
  exact zg 10 (aq5 h) [.blk 3 [some 1,some 1,some 1,some 1]]
 exact zg 8 (aq5 h) [.blk 3 [some 1,some 1,some 1,some 1]]
end Go.RX.L

namespace Go.RX.L
open Go Go.RX Go.Proofs
attribute [local irreducible] f5
noncomputable def bO1 (y:i5):D×f3:=(.agg (i5.enc y),[])
noncomputable def ad0 (p_:i5) (c:d8) (m:e9):Option i5:=((ay4 p_ c).bind fun y1=>((aj8 m 8 2 p_ c).bind fun y2=>(bif (!y2) then (some p_) else (bif (!decide ((m.From:Int)<0)) then ((ab7 c (orI .u64 p_.Accepts (E6 .u64 1 m.From))).bind fun y5=>(bif y5 then (some (⟨p_.Epoch,p_.Ballot,3,p_.Own,p_.Best,p_.Value,p_.Promises,(orI .u64 p_.Accepts (E6 .u64 1 m.From))⟩:i5)) else (some (⟨p_.Epoch,p_.Ballot,p_.Phase,p_.Own,p_.Best,p_.Value,p_.Promises,(orI .u64 p_.Accepts (E6 .u64 1 m.From))⟩:i5)))) else none))))
theorem bI7 {p_:i5}{c:d8}{m:e9}{r:i5} (h:ad0 p_ c m=some r):i0 E 65 [.agg (i5.enc p_),.agg (d8.enc c),.agg (e9.enc m)] [] (Rs bO1 r):=so (fn:=Tryz.f65) (k:=false) (m:=0) h<| by
 intro r h;unfold ad0 at h
 refine zd 12 [] h (fun _=>bB3) fun y1 h=> ?_
 refine zc 2 [] h (fun _=>bq2) fun y2 h=> ?_
 refine zs 3 h (fun h=> ?_) fun h=> ?_
 ·
  exact zu 10 h
 refine zn 6 h fun h=> ?_
 refine zc 10 [] h (fun _=>aN3) fun y5 h=> ?_
 refine zs 2 h (fun h=> ?_) fun h=> ?_
 ·
  exact zu 16 h
 exact zu 11 h
end Go.RX.L

namespace Go.RX.L
open Go Go.RX
/-! ### promises -/
def toP (p:i5) (c:d8) (m:e9) (k f:Int):Bool:=decide (p.Phase=f)&&(decide (m.Kind=k)&&(decide (m.Epoch=p.Epoch)&&(decide (m.Ballot=p.Ballot)&&(decide (m.From≥0)&&decide (m.From≤2*(fN c:Int))))))
def cr0 (p:i5) (m:e9):Bool:= !(m.HasPlan&&decide (m.Plan.Epoch≠p.Epoch))
def orP (g:Int) (k:Nat):Int:=((g.toNat ||| 2^k:Nat):Int)
def st1 (p:i5) (m:e9):i5:=⟨p.Epoch,p.Ballot,p.Phase,p.Own,p.Best,p.Value,orP p.Promises m.From.toNat,p.Accepts⟩
def st2 (p:i5) (m:e9):i5:=bif m.HasPlan&&decide (m.Accepted>p.Best) then ⟨p.Epoch,p.Ballot,p.Phase,p.Own,m.Accepted,m.Plan,p.Promises,p.Accepts⟩ else p
def st3 (p:i5) (c:d8):i5:=bif aQ2 c p.Promises.toNat then ⟨p.Epoch,p.Ballot,2,p.Own,p.Best,bif decide (p.Best=0) then p.Own else p.Value,p.Promises,p.Accepts⟩ else p
def J1 (p:i5) (c:d8) (m:e9):i5:=bif toP p c m 5 1&&cr0 p m then st3 (st2 (st1 p m) m) c else p
def U4 (p:i5) (c:d8) (m:e9):i5:=bif toP p c m 8 2 then ⟨p.Epoch,p.Ballot,bif aQ2 c (orP p.Accepts m.From.toNat).toNat then 3 else p.Phase,p.Own,p.Best,p.Value,p.Promises,orP p.Accepts m.From.toNat⟩ else p
theorem dI2 (p:i5) (c:d8) (m:e9) (k f:Int):aj8 m k f p c=some (toP p c m k f):=by
 have hf:=bY0 c
 have e2:IntKind.i64.wrap ((2:Int)*(fN c:Int))=2*(fN c:Int):=u4 (by omega) (by omega)
 unfold aj8 ac5 toP
 simp only [Option.bind_some,dj2,e2]
 by_cases h1:p.Phase=f
 ·by_cases h2:m.Kind=k
  ·by_cases h3:m.Epoch=p.Epoch
   ·by_cases h4:m.Ballot=p.Ballot
    ·by_cases h5:m.From≥0
     ·simp [h1,h2,h3,h4,h5]
     ·simp [h1,h2,h3,h4,h5]
    ·simp [h1,h2,h3,h4,beq_eq_false_iff_ne.2 h4]
   ·simp [h1,h2,h3,beq_eq_false_iff_ne.2 h3]
  ·simp [h1,h2,beq_eq_false_iff_ne.2 h2]
 ·simp [h1,beq_eq_false_iff_ne.2 h1]
theorem bY9 {p:i5}{c:d8}{m:e9}{k f:Int} (h:toP p c m k f=true):0≤m.From∧m.From≤2*(fN c:Int):=by
 simp only [toP,Bool.and_eq_true,decide_eq_true_eq] at h
 omega
theorem cr9 {g:Int}{m:e9}{c:d8} (hg:n4 .u64 g) (h:0≤m.From∧m.From≤2*(fN c:Int)):orI .u64 g (E6 .u64 1 m.From)=orP g m.From.toNat∧n4 .u64 (orP g m.From.toNat)∧(orP g m.From.toNat).toNat<18446744073709551616:=by
 have hf:=bY0 c
 have hg' :=J7.1 hg
 obtain ⟨k,hk⟩:=Int.eq_ofNat_of_zero_le h.1
 obtain ⟨n,rfl⟩:=Int.eq_ofNat_of_zero_le hg'.1
 have hn:n<18446744073709551616:=by omega
 have hp:(2:Nat)^k≤2^6:=Nat.pow_le_pow_right (by decide) (by omega)
 have hlt:=di6 hn (show k≤6 by omega)
 unfold orP
 rw [hk,bd8 (by omega),bX7 hn (by omega)]
 simp only [Int.toNat_natCast]
 exact ⟨trivial,J7.2 (by omega),hlt⟩
theorem cW6 {p q:i5}{c:d8}{m:e9}{b:i5} (hg:n4 .u64 p.Promises):R7 q c m p b=some (st3 p c):=by
 have hg' :=J7.1 hg
 unfold R7 st3
 obtain ⟨n,hn⟩:=Int.eq_ofNat_of_zero_le hg'.1
 rw [hn,cD5 c (by omega)]
 simp only [Int.toNat_natCast,Option.bind_some]
 cases aQ2 c n with
 | false=>rfl
 | true=>
  by_cases h:p.Best=0
  ·simp [h]
  ·simp [h,beq_eq_false_iff_ne.2 h]
theorem dj0 (p:i5) (c:d8) (m:e9) (hp:n4 .u64 p.Promises):ah2 p c m=some (J1 p c m):=by
 have yes:∀b,toP p c m 5 1=true→I0 p c m false b=some (st3 (st2 (st1 p m) m) c):=fun b h=>by
  have hf:=bY9 h
  obtain ⟨o1,o2,o3⟩:=cr9 hp hf
  unfold I0 Y9
  rw [o1]
  have nn:(!decide (m.From<0))=true:=by simp;omega
  simp only [cond_false,nn,cond_true]
  cases hh:m.HasPlan with
  | false=>
   simp only [cond_false]
   refine (cW6 (p:=st1 p m) o2).trans ?_
   unfold st2
   rw [hh]
   rfl
  | true=>
   simp only [cond_true]
   have e:decide (m.Accepted>(st1 p m).Best)=decide (m.Accepted>p.Best):=rfl
   unfold st2
   rw [hh,e]
   cases decide (m.Accepted>p.Best) with
   | false=>
    simp only [cond_false,Bool.and_false]
    exact cW6 (p:=st1 p m) o2
   | true=>
    simp only [cond_true,Bool.and_true]
    exact cW6 (p:=⟨p.Epoch,p.Ballot,p.Phase,p.Own,m.Accepted,m.Plan,orP p.Promises m.From.toNat,p.Accepts⟩) o2
 have no:∀b,I0 p c m true b=some p:=fun b=>rfl
 have e0:ay4 p c=some ():=rfl
 unfold ah2 J1
 rw [e0]
 simp only [Option.bind_some,dI2]
 cases ht:toP p c m 5 1 with
 | false=>simp [no]
 | true=>
  simp only [Bool.not_true,cond_false,Bool.true_and]
  unfold cr0
  cases hh:m.HasPlan with
  | false=>simp [yes _ ht]
  | true=>
   by_cases h:m.Plan.Epoch=p.Epoch
   ·simp [h,yes _ ht]
   ·have hb:(m.Plan.Epoch !=p.Epoch)=true:=by simpa using h
    simp [h,hb,no]
theorem dd0 (p:i5) (c:d8) (m:e9) (hp:n4 .u64 p.Accepts):ad0 p c m=some (U4 p c m):=by
 have e0:ay4 p c=some ():=rfl
 unfold ad0 U4
 rw [e0]
 simp only [Option.bind_some,dI2]
 cases ht:toP p c m 8 2 with
 | false=>rfl
 | true=>
  have hf:=bY9 ht
  obtain ⟨o1,o2,o3⟩:=cr9 hp hf
  have nn:(!decide (m.From<0))=true:=by simp;omega
  rw [o1]
  simp only [Bool.not_true,cond_false,nn,cond_true]
  obtain ⟨n,hn⟩:=Int.eq_ofNat_of_zero_le (J7.1 o2).1
  rw [hn]
  rw [hn,Int.toNat_natCast] at o3
  rw [cD5 c o3]
  simp only [Option.bind_some,Int.toNat_natCast]
  cases aQ2 c n<;>rfl
def dm1 (a:Plan) (e:Int):Plan:=⟨e,a.Target,a.Prev,a.Spill,a.Percent,a.Stamp,a.Since,a.Ramped,a.Up,a.Sup,a.Pen,a.Changes⟩
def dZ5:Plan:=⟨0,0,0,0,0,0,0,0,0,0,[],[]⟩
theorem dD4 (e b:Int) (own:Plan):aF9 e b own=some ⟨e,b,1,dm1 own e,0,dZ5,0,0⟩:=rfl
theorem dB7 {p:i5}{c:d8}:(st3 p c).Promises=p.Promises:=by
 unfold st3;cases aQ2 c p.Promises.toNat<;>rfl
theorem dA9 {p:i5}{m:e9}:(st2 p m).Promises=p.Promises:=by
 unfold st2;cases (m.HasPlan&&decide (m.Accepted>p.Best))<;>rfl
theorem da8 {p:i5} (c:d8) (m:e9) (h:n4 .u64 p.Promises):n4 .u64 (J1 p c m).Promises:=by
 unfold J1
 cases hc:toP p c m 5 1&&cr0 p m with
 | false=>exact h
 | true=>
  simp only [Bool.and_eq_true] at hc
  simp only [cond_true]
  rw [dB7,dA9]
  exact (cr9 h (bY9 hc.1)).2.1
theorem cY4 {p:i5} (c:d8) (m:e9) (h:n4 .u64 p.Accepts):n4 .u64 (U4 p c m).Accepts:=by
 unfold U4
 cases hc:toP p c m 8 2 with
 | false=>exact h
 | true=>exact (cr9 h (bY9 hc)).2.1
end Go.RX.L

namespace Go.RX.L
open Go Go.RX Go.Proofs
attribute [local irreducible] f5
noncomputable def cF5:=n8 (p6 Tryz.f161)
noncomputable def cH7 (y:Int):D×f3:=(.int .u32 y,[])
inductive bc8 where
 | s0 (sum:Int) (b:List Int)
 | s1 (r_:Int) (t10:List Int) (t11 t12:Int)
noncomputable def cE4:bc8→M
 | .s0 sum b=>A2 Tryz.f161 [.int .u32 sum,.sl false 1 (List.map (d7 .u8) b)] []
 | .s1 r_ t10 t11 t12=>⟨[.lpc (cF5 [1,1,0,1,0,0]) 7200,.blk 0,.code (cF5 [1,1,1])],[(5,.int .u32 r_),(10,.sl false 1 (List.map (d7 .u8) t10)),(11,.int .i64 t11),(12,.int .i64 t12)],[]⟩
abbrev cE2:=SOk E (Cx.of Tryz.f161 false 0) cH7 cE4
noncomputable def bw4 (sum:Int) (b:List Int):Option (bc8⊕Int):=(some (.inl (.s1 (O1 .u32 4294967295 sum) b (((List.map (d7 .u8) b).length:Nat):Int) 0)))
noncomputable def be0 (r_:Int) (t10:List Int) (t11 t12:Int):Option (bc8⊕Int):=(bif (decide ((t12:Int)<t11)) then (bif ((decide ((0:Int)≤t12))&&(decide ((t12:Int)<(((List.map (d7 .u8) t10).length:Nat):Int)))) then (((t10)[t12.toNat]?).bind fun y3=>(bif ((decide ((0:Int)≤(i9 .u32 (O1 .u32 r_ (IntKind.u32.wrap (y3))) 15)))&&(decide (((i9 .u32 (O1 .u32 r_ (IntKind.u32.wrap (y3))) 15):Int)<((16:Nat):Int)))) then (((gl_four)[(0+(i9 .u32 (O1 .u32 r_ (IntKind.u32.wrap (y3))) 15).toNat)]?).bind fun y6=>(bif ((decide ((0:Int)≤(i9 .u32 (O1 .u32 (m7 .u32 (O1 .u32 r_ (IntKind.u32.wrap (y3))) 4) y6) 15)))&&(decide (((i9 .u32 (O1 .u32 (m7 .u32 (O1 .u32 r_ (IntKind.u32.wrap (y3))) 4) y6) 15):Int)<((16:Nat):Int)))) then (((gl_four)[(0+(i9 .u32 (O1 .u32 (m7 .u32 (O1 .u32 r_ (IntKind.u32.wrap (y3))) 4) y6) 15).toNat)]?).bind fun y9=>(some (.inl (.s1 (O1 .u32 (m7 .u32 (O1 .u32 (m7 .u32 (O1 .u32 r_ (IntKind.u32.wrap (y3))) 4) y6) 4) y9) t10 t11 (IntKind.i64.wrap (t12+1)))))) else none)) else none)) else none) else (some (.inr (O1 .u32 4294967295 r_))))
noncomputable def aC9:bc8→Option (bc8⊕Int)
 | .s0 sum b=>bw4 sum b
 | .s1 r_ t10 t11 t12=>be0 r_ t10 t11 t12
theorem cQ5 {sum b}:cE2 (.s0 sum b) (bw4 sum b):=by
 intro r x h ha;unfold bw4 at h
 exact zj 20 h ha
theorem cX4 {r_ t10 t11 t12}:cE2 (.s1 r_ t10 t11 t12) (be0 r_ t10 t11 t12):=by
 intro r x h ha;unfold be0 at h
 refine zs 7 h (fun h=> ?_) fun h=> ?_
 ·
  refine zn 6 h fun h=> ?_
  refine zr 1 (d7 .u8) h fun y3 h=> ?_
  refine zn 18 h fun h=> ?_
  refine zr 1 (d7 .u32) h fun y6 h=> ?_
  refine zn 10 h fun h=> ?_
  refine zr 1 (d7 .u32) h fun y9 h=> ?_
  exact zj 9 h ha
 exact zt 8 h ha
noncomputable def cw2 (sum:Int) (b:List Int):Option Int:=U9 aC9 (.s0 sum b)
theorem dm4 {sum:Int}{b:List Int}{r:Int} (h:cw2 sum b=some r):i0 E 161 [.int .u32 sum,.sl false 1 (List.map (d7 .u8) b)] [] (Rs cH7 r):=sc (fn:=Tryz.f161) (k:=false) (m:=0) (stM:=cE4) h fun s=>by
 cases s with
 | s0=>exact cQ5
 | s1=>exact cX4
end Go.RX.L

namespace Go.RX.L
open Go Go.RX Go.Proofs
attribute [local irreducible] f5
noncomputable def du6 (y:Int):D×f3:=(.int .u32 y,[])
noncomputable def bm9 (b:List Int):Option Int:=((cw2 0 b).bind fun y1=>(some y1))
theorem cq8 {b:List Int}{r:Int} (h:bm9 b=some r):i0 E 153 [.sl false 1 (List.map (d7 .u8) b)] [] (Rs du6 r):=so (fn:=Tryz.f153) (k:=false) (m:=0) h<| by
 intro r h;unfold bm9 at h
 refine zc 8 [] h (fun _=>dm4) fun y1 h=> ?_
 exact zu 3 h
end Go.RX.L
