/-
  Words and walks for DeciderSays. No condition.
-/
import Derived.Test.YtajehicfjidaiaaGreatDoorDeciderSaysY5
set_option linter.unusedSectionVars false
set_option linter.unnecessarySimpa false
set_option linter.unusedSimpArgs false
set_option linter.unusedVariables false
set_option maxRecDepth 100000
set_option maxHeartbeats 4000000
namespace Go.RX.L
open Go Go.RX Go.Proofs
attribute [local irreducible] i0
noncomputable def cs8 (y:Int):D×f4:=(.int .i64 y,[])
noncomputable def al7 (c:d9):Option Int:=(some (IntKind.i64.wrap ((IntKind.i64.wrap ((2:Int)*c.F_))+1)))
theorem br4 {c:d9}{r:Int} (h:al7 c=some r):i4 E 34 [.agg (d9.enc c)] [] (Rs cs8 r):=so (fn:=Tryz.f34) (k:=false) (m:=0) h<| by
 intro r h;unfold al7 at h
 exact zu 15 h
end Go.RX.L

namespace Go.RX.L
open Go Go.RX Go.Proofs
attribute [local irreducible] i0
noncomputable def cg3 (y:Int):D×f4:=(.int .i64 y,[])
noncomputable def D9 (c:d9) (i:Int):Option Int:=((al7 c).bind fun y1=>(some (IntKind.i64.wrap (y1+i))))
theorem J1 {c:d9}{i r:Int} (h:D9 c i=some r):i4 E 15 [.agg (d9.enc c),.int .i64 i] [] (Rs cg3 r):=so (fn:=Tryz.f15) (k:=false) (m:=0) h<| by
 intro r h;unfold D9 at h
 refine zc 10 [] h (fun _=>br4) fun y1 h=> ?_
 exact zu 5 h
end Go.RX.L

namespace Go.RX.L
open Go Go.RX Go.Proofs
attribute [local irreducible] i0
noncomputable def cp8 (y:Int):D×f4:=(.int .i64 y,[])
noncomputable def Y7 (c:d9) (i:Int):Option Int:=((D9 c c.Deciders).bind fun y1=>(some (IntKind.i64.wrap (y1+i))))
theorem aK8 {c:d9}{i r:Int} (h:Y7 c i=some r):i4 E 69 [.agg (d9.enc c),.int .i64 i] [] (Rs cp8 r):=so (fn:=Tryz.f69) (k:=false) (m:=0) h<| by
 intro r h;unfold Y7 at h
 refine zc 13 [] h (fun _=>J1) fun y1 h=> ?_
 exact zu 5 h
end Go.RX.L

namespace Go.RX.L
open Go Go.RX Go.Proofs
attribute [local irreducible] i0
noncomputable def ck5 (y:Int):D×f4:=(.int .i64 y,[])
noncomputable def aI3 (c:d9) (i:Int):Option Int:=((Y7 c c.Targets).bind fun y1=>(some (IntKind.i64.wrap (y1+i))))
theorem cf6 {c:d9}{i r:Int} (h:aI3 c i=some r):i4 E 36 [.agg (d9.enc c),.int .i64 i] [] (Rs ck5 r):=so (fn:=Tryz.f36) (k:=false) (m:=0) h<| by
 intro r h;unfold aI3 at h
 refine zc 13 [] h (fun _=>aK8) fun y1 h=> ?_
 exact zu 5 h
end Go.RX.L

namespace Go.RX.L
open Go Go.RX Go.Proofs
attribute [local irreducible] i0
noncomputable def bX0 (y:Int):D×f4:=(.int .i64 y,[])
noncomputable def M6 (c:d9) (i:Int):Option Int:=((aI3 c c.Routers).bind fun y1=>(some (IntKind.i64.wrap (y1+i))))
theorem ak7 {c:d9}{i r:Int} (h:M6 c i=some r):i4 E 17 [.agg (d9.enc c),.int .i64 i] [] (Rs bX0 r):=so (fn:=Tryz.f17) (k:=false) (m:=0) h<| by
 intro r h;unfold M6 at h
 refine zc 13 [] h (fun _=>cf6) fun y1 h=> ?_
 exact zu 5 h
end Go.RX.L

namespace Go.RX.L
open Go Go.RX Go.Proofs
attribute [local irreducible] i0
noncomputable def bZ8:=p7 (q0 Tryz.f138)
def H4 (y:Int):List D:= [D.int .i64 y]
inductive J6 where
 | s0 (state:e9) (c:d9) (index:Int) (fuse:Int) (down:Bool) (b3:List Int) (b4:List Int)
 | s1 (n:Int) (state2:e9) (c2:d9) (index2:Int) (fuse2:Int) (down2:Bool) (b32:List Int) (b42:List Int)
noncomputable def J5 (l:Nat):J6→M
 | .s0 state c index fuse down b3 b4=>⟨[.code (q0 Tryz.f138)],[(0,D.yld l),(1,D.ptr 0 0 0)],[some ⟨1,true,[[D.ptr 1 0 0]]⟩,some ⟨88,true,[[D.int .i64 state.boot,D.int .i64 state.known.Epoch,D.int .i64 state.known.Target,D.int .i64 state.known.Prev,D.int .i64 state.known.Spill,D.int .i64 state.known.Percent,D.int .i64 state.known.Stamp,D.int .i64 state.known.Since,D.int .i64 state.known.Ramped,D.int .u64 state.known.Up,D.int .u64 state.known.Sup,D.sl false 1 (List.map (d8 .i64) state.known.Pen),D.sl false 1 (List.map (d8 .i64) state.known.Changes),D.int .i64 state.heard,D.sl false 3 (List.map i9.enc state.votes),D.int .i64 state.hold.Epoch,D.int .i64 state.hold.Nonce,D.int .u64 state.hold.Grants,D.int .i64 state.hold.Until,D.bool state.asked.ever,D.int .i64 state.asked.at_,D.int .i64 state.prop.Epoch,D.int .i64 state.prop.Ballot,D.int .i64 state.prop.Phase,D.int .i64 state.prop.Own.Epoch,D.int .i64 state.prop.Own.Target,D.int .i64 state.prop.Own.Prev,D.int .i64 state.prop.Own.Spill,D.int .i64 state.prop.Own.Percent,D.int .i64 state.prop.Own.Stamp,D.int .i64 state.prop.Own.Since,D.int .i64 state.prop.Own.Ramped,D.int .u64 state.prop.Own.Up,D.int .u64 state.prop.Own.Sup,D.sl false 1 (List.map (d8 .i64) state.prop.Own.Pen),D.sl false 1 (List.map (d8 .i64) state.prop.Own.Changes),D.int .i64 state.prop.Best,D.int .i64 state.prop.Value.Epoch,D.int .i64 state.prop.Value.Target,D.int .i64 state.prop.Value.Prev,D.int .i64 state.prop.Value.Spill,D.int .i64 state.prop.Value.Percent,D.int .i64 state.prop.Value.Stamp,D.int .i64 state.prop.Value.Since,D.int .i64 state.prop.Value.Ramped,D.int .u64 state.prop.Value.Up,D.int .u64 state.prop.Value.Sup,D.sl false 1 (List.map (d8 .i64) state.prop.Value.Pen),D.sl false 1 (List.map (d8 .i64) state.prop.Value.Changes),D.int .u64 state.prop.Promises,D.int .u64 state.prop.Accepts,D.int .i64 state.made,D.int .i64 state.top,D.int .u64 state.sealed,D.bool state.told.ever,D.int .i64 state.told.at_,D.int .i64 c.F_,D.int .i64 c.Deciders,D.int .i64 c.Targets,D.int .i64 c.Routers,D.int .i64 c.Observers,D.sl false 1 (List.map (d8 .i64) c.Tiers),D.int .i64 c.Every,D.int .i64 c.Wait,D.int .i64 c.Rise,D.int .i64 c.Fall,D.int .i64 c.Fresh,D.int .i64 c.L_,D.int .i64 c.M_,D.int .i64 c.Dwell,D.int .i64 c.D_,D.int .i64 c.W_,D.int .i64 c.B_,D.int .i64 c.Hit,D.int .i64 c.Suppress,D.int .i64 c.Reuse,D.int .i64 c.Half,D.int .i64 c.First,D.int .i64 c.Step,D.int .i64 c.StepTime,D.int .i64 c.S_,D.int .i64 c.Cap,D.int .i64 c.Span,D.int .i64 c.Room,D.int .i64 c.Tries,D.int .i64 c.Retry,D.int .i64 index,D.ptr 2 0 0]]⟩,some ⟨4,true,[[(f6 3 (List.map (d8 .u8) b3)),(f6 4 (List.map (d8 .u8) b4)),D.int .i64 fuse,D.bool down]]⟩,some ⟨1,false,(List.map (d8 .u8) b3)⟩,some ⟨1,false,(List.map (d8 .u8) b4)⟩]⟩
 | .s1 n state2 c2 index2 fuse2 down2 b32 b42=>⟨[.lpc (bZ8 [1,0,0]) 11,.blk 0],[(0,D.yld l),(1,D.ptr 0 0 0),(3,D.int .i64 n)],[some ⟨1,true,[[D.ptr 1 0 0]]⟩,some ⟨88,true,[[D.int .i64 state2.boot,D.int .i64 state2.known.Epoch,D.int .i64 state2.known.Target,D.int .i64 state2.known.Prev,D.int .i64 state2.known.Spill,D.int .i64 state2.known.Percent,D.int .i64 state2.known.Stamp,D.int .i64 state2.known.Since,D.int .i64 state2.known.Ramped,D.int .u64 state2.known.Up,D.int .u64 state2.known.Sup,D.sl false 1 (List.map (d8 .i64) state2.known.Pen),D.sl false 1 (List.map (d8 .i64) state2.known.Changes),D.int .i64 state2.heard,D.sl false 3 (List.map i9.enc state2.votes),D.int .i64 state2.hold.Epoch,D.int .i64 state2.hold.Nonce,D.int .u64 state2.hold.Grants,D.int .i64 state2.hold.Until,D.bool state2.asked.ever,D.int .i64 state2.asked.at_,D.int .i64 state2.prop.Epoch,D.int .i64 state2.prop.Ballot,D.int .i64 state2.prop.Phase,D.int .i64 state2.prop.Own.Epoch,D.int .i64 state2.prop.Own.Target,D.int .i64 state2.prop.Own.Prev,D.int .i64 state2.prop.Own.Spill,D.int .i64 state2.prop.Own.Percent,D.int .i64 state2.prop.Own.Stamp,D.int .i64 state2.prop.Own.Since,D.int .i64 state2.prop.Own.Ramped,D.int .u64 state2.prop.Own.Up,D.int .u64 state2.prop.Own.Sup,D.sl false 1 (List.map (d8 .i64) state2.prop.Own.Pen),D.sl false 1 (List.map (d8 .i64) state2.prop.Own.Changes),D.int .i64 state2.prop.Best,D.int .i64 state2.prop.Value.Epoch,D.int .i64 state2.prop.Value.Target,D.int .i64 state2.prop.Value.Prev,D.int .i64 state2.prop.Value.Spill,D.int .i64 state2.prop.Value.Percent,D.int .i64 state2.prop.Value.Stamp,D.int .i64 state2.prop.Value.Since,D.int .i64 state2.prop.Value.Ramped,D.int .u64 state2.prop.Value.Up,D.int .u64 state2.prop.Value.Sup,D.sl false 1 (List.map (d8 .i64) state2.prop.Value.Pen),D.sl false 1 (List.map (d8 .i64) state2.prop.Value.Changes),D.int .u64 state2.prop.Promises,D.int .u64 state2.prop.Accepts,D.int .i64 state2.made,D.int .i64 state2.top,D.int .u64 state2.sealed,D.bool state2.told.ever,D.int .i64 state2.told.at_,D.int .i64 c2.F_,D.int .i64 c2.Deciders,D.int .i64 c2.Targets,D.int .i64 c2.Routers,D.int .i64 c2.Observers,D.sl false 1 (List.map (d8 .i64) c2.Tiers),D.int .i64 c2.Every,D.int .i64 c2.Wait,D.int .i64 c2.Rise,D.int .i64 c2.Fall,D.int .i64 c2.Fresh,D.int .i64 c2.L_,D.int .i64 c2.M_,D.int .i64 c2.Dwell,D.int .i64 c2.D_,D.int .i64 c2.W_,D.int .i64 c2.B_,D.int .i64 c2.Hit,D.int .i64 c2.Suppress,D.int .i64 c2.Reuse,D.int .i64 c2.Half,D.int .i64 c2.First,D.int .i64 c2.Step,D.int .i64 c2.StepTime,D.int .i64 c2.S_,D.int .i64 c2.Cap,D.int .i64 c2.Span,D.int .i64 c2.Room,D.int .i64 c2.Tries,D.int .i64 c2.Retry,D.int .i64 index2,D.ptr 2 0 0]]⟩,some ⟨4,true,[[(f6 3 (List.map (d8 .u8) b32)),(f6 4 (List.map (d8 .u8) b42)),D.int .i64 fuse2,D.bool down2]]⟩,some ⟨1,false,(List.map (d8 .u8) b32)⟩,some ⟨1,false,(List.map (d8 .u8) b42)⟩]⟩
noncomputable def ap2 (state:e9) (c:d9) (index fuse:Int) (down:Bool) (b3 b4:List Int):Option (List Int×Option J6):=((D9 c 0).bind fun y1=>(some ([],some (.s1 y1 state c index fuse down b3 b4))))
noncomputable def S6 (n:Int) (state2:e9) (c2:d9) (index2 fuse2:Int) (down2:Bool) (b32 b42:List Int):Option (List Int×Option J6):=((M6 c2 0).bind fun y1=>(bif (decide ((n:Int)<y1)) then ((D9 c2 index2).bind fun y3=>(bif ((n:Int) !=y3) then (Option.map (fun p=>(n::p.1,p.2)) (some ([],some (.s1 (IntKind.i64.wrap (n+1)) state2 c2 index2 fuse2 down2 b32 b42)))) else (some ([],some (.s1 (IntKind.i64.wrap (n+1)) state2 c2 index2 fuse2 down2 b32 b42))))) else (some ([],none))))
noncomputable def X2:J6→f4
 | .s0 state c index fuse down b3 b4=> [some ⟨1,true,[[D.ptr 1 0 0]]⟩,some ⟨88,true,[[D.int .i64 state.boot,D.int .i64 state.known.Epoch,D.int .i64 state.known.Target,D.int .i64 state.known.Prev,D.int .i64 state.known.Spill,D.int .i64 state.known.Percent,D.int .i64 state.known.Stamp,D.int .i64 state.known.Since,D.int .i64 state.known.Ramped,D.int .u64 state.known.Up,D.int .u64 state.known.Sup,D.sl false 1 (List.map (d8 .i64) state.known.Pen),D.sl false 1 (List.map (d8 .i64) state.known.Changes),D.int .i64 state.heard,D.sl false 3 (List.map i9.enc state.votes),D.int .i64 state.hold.Epoch,D.int .i64 state.hold.Nonce,D.int .u64 state.hold.Grants,D.int .i64 state.hold.Until,D.bool state.asked.ever,D.int .i64 state.asked.at_,D.int .i64 state.prop.Epoch,D.int .i64 state.prop.Ballot,D.int .i64 state.prop.Phase,D.int .i64 state.prop.Own.Epoch,D.int .i64 state.prop.Own.Target,D.int .i64 state.prop.Own.Prev,D.int .i64 state.prop.Own.Spill,D.int .i64 state.prop.Own.Percent,D.int .i64 state.prop.Own.Stamp,D.int .i64 state.prop.Own.Since,D.int .i64 state.prop.Own.Ramped,D.int .u64 state.prop.Own.Up,D.int .u64 state.prop.Own.Sup,D.sl false 1 (List.map (d8 .i64) state.prop.Own.Pen),D.sl false 1 (List.map (d8 .i64) state.prop.Own.Changes),D.int .i64 state.prop.Best,D.int .i64 state.prop.Value.Epoch,D.int .i64 state.prop.Value.Target,D.int .i64 state.prop.Value.Prev,D.int .i64 state.prop.Value.Spill,D.int .i64 state.prop.Value.Percent,D.int .i64 state.prop.Value.Stamp,D.int .i64 state.prop.Value.Since,D.int .i64 state.prop.Value.Ramped,D.int .u64 state.prop.Value.Up,D.int .u64 state.prop.Value.Sup,D.sl false 1 (List.map (d8 .i64) state.prop.Value.Pen),D.sl false 1 (List.map (d8 .i64) state.prop.Value.Changes),D.int .u64 state.prop.Promises,D.int .u64 state.prop.Accepts,D.int .i64 state.made,D.int .i64 state.top,D.int .u64 state.sealed,D.bool state.told.ever,D.int .i64 state.told.at_,D.int .i64 c.F_,D.int .i64 c.Deciders,D.int .i64 c.Targets,D.int .i64 c.Routers,D.int .i64 c.Observers,D.sl false 1 (List.map (d8 .i64) c.Tiers),D.int .i64 c.Every,D.int .i64 c.Wait,D.int .i64 c.Rise,D.int .i64 c.Fall,D.int .i64 c.Fresh,D.int .i64 c.L_,D.int .i64 c.M_,D.int .i64 c.Dwell,D.int .i64 c.D_,D.int .i64 c.W_,D.int .i64 c.B_,D.int .i64 c.Hit,D.int .i64 c.Suppress,D.int .i64 c.Reuse,D.int .i64 c.Half,D.int .i64 c.First,D.int .i64 c.Step,D.int .i64 c.StepTime,D.int .i64 c.S_,D.int .i64 c.Cap,D.int .i64 c.Span,D.int .i64 c.Room,D.int .i64 c.Tries,D.int .i64 c.Retry,D.int .i64 index,D.ptr 2 0 0]]⟩,some ⟨4,true,[[(f6 3 (List.map (d8 .u8) b3)),(f6 4 (List.map (d8 .u8) b4)),D.int .i64 fuse,D.bool down]]⟩,some ⟨1,false,(List.map (d8 .u8) b3)⟩,some ⟨1,false,(List.map (d8 .u8) b4)⟩]
 | .s1 n state2 c2 index2 fuse2 down2 b32 b42=> [some ⟨1,true,[[D.ptr 1 0 0]]⟩,some ⟨88,true,[[D.int .i64 state2.boot,D.int .i64 state2.known.Epoch,D.int .i64 state2.known.Target,D.int .i64 state2.known.Prev,D.int .i64 state2.known.Spill,D.int .i64 state2.known.Percent,D.int .i64 state2.known.Stamp,D.int .i64 state2.known.Since,D.int .i64 state2.known.Ramped,D.int .u64 state2.known.Up,D.int .u64 state2.known.Sup,D.sl false 1 (List.map (d8 .i64) state2.known.Pen),D.sl false 1 (List.map (d8 .i64) state2.known.Changes),D.int .i64 state2.heard,D.sl false 3 (List.map i9.enc state2.votes),D.int .i64 state2.hold.Epoch,D.int .i64 state2.hold.Nonce,D.int .u64 state2.hold.Grants,D.int .i64 state2.hold.Until,D.bool state2.asked.ever,D.int .i64 state2.asked.at_,D.int .i64 state2.prop.Epoch,D.int .i64 state2.prop.Ballot,D.int .i64 state2.prop.Phase,D.int .i64 state2.prop.Own.Epoch,D.int .i64 state2.prop.Own.Target,D.int .i64 state2.prop.Own.Prev,D.int .i64 state2.prop.Own.Spill,D.int .i64 state2.prop.Own.Percent,D.int .i64 state2.prop.Own.Stamp,D.int .i64 state2.prop.Own.Since,D.int .i64 state2.prop.Own.Ramped,D.int .u64 state2.prop.Own.Up,D.int .u64 state2.prop.Own.Sup,D.sl false 1 (List.map (d8 .i64) state2.prop.Own.Pen),D.sl false 1 (List.map (d8 .i64) state2.prop.Own.Changes),D.int .i64 state2.prop.Best,D.int .i64 state2.prop.Value.Epoch,D.int .i64 state2.prop.Value.Target,D.int .i64 state2.prop.Value.Prev,D.int .i64 state2.prop.Value.Spill,D.int .i64 state2.prop.Value.Percent,D.int .i64 state2.prop.Value.Stamp,D.int .i64 state2.prop.Value.Since,D.int .i64 state2.prop.Value.Ramped,D.int .u64 state2.prop.Value.Up,D.int .u64 state2.prop.Value.Sup,D.sl false 1 (List.map (d8 .i64) state2.prop.Value.Pen),D.sl false 1 (List.map (d8 .i64) state2.prop.Value.Changes),D.int .u64 state2.prop.Promises,D.int .u64 state2.prop.Accepts,D.int .i64 state2.made,D.int .i64 state2.top,D.int .u64 state2.sealed,D.bool state2.told.ever,D.int .i64 state2.told.at_,D.int .i64 c2.F_,D.int .i64 c2.Deciders,D.int .i64 c2.Targets,D.int .i64 c2.Routers,D.int .i64 c2.Observers,D.sl false 1 (List.map (d8 .i64) c2.Tiers),D.int .i64 c2.Every,D.int .i64 c2.Wait,D.int .i64 c2.Rise,D.int .i64 c2.Fall,D.int .i64 c2.Fresh,D.int .i64 c2.L_,D.int .i64 c2.M_,D.int .i64 c2.Dwell,D.int .i64 c2.D_,D.int .i64 c2.W_,D.int .i64 c2.B_,D.int .i64 c2.Hit,D.int .i64 c2.Suppress,D.int .i64 c2.Reuse,D.int .i64 c2.Half,D.int .i64 c2.First,D.int .i64 c2.Step,D.int .i64 c2.StepTime,D.int .i64 c2.S_,D.int .i64 c2.Cap,D.int .i64 c2.Span,D.int .i64 c2.Room,D.int .i64 c2.Tries,D.int .i64 c2.Retry,D.int .i64 index2,D.ptr 2 0 0]]⟩,some ⟨4,true,[[(f6 3 (List.map (d8 .u8) b32)),(f6 4 (List.map (d8 .u8) b42)),D.int .i64 fuse2,D.bool down2]]⟩,some ⟨1,false,(List.map (d8 .u8) b32)⟩,some ⟨1,false,(List.map (d8 .u8) b42)⟩]
noncomputable def I8:J6→Option (List Int×Option J6)
 | .s0 state c index fuse down b3 b4=>ap2 state c index fuse down b3 b4
 | .s1 n state2 c2 index2 fuse2 down2 b32 b42=>S6 n state2 c2 index2 fuse2 down2 b32 b42
theorem bD0 {l:Nat}{ln:f4}{φ0:q8}{J:Option (List (List D))→World→(Nat→Prop)→(Nat→Prop)→Prop}{state:e9}{c:d9}{index fuse:Int}{down:Bool}{b3 b4:List Int}{x:List Int×Option J6}{Y:List (List D)} (hl:X2 (.s0 state c index fuse down b3 b4)=ln) (h:ap2 state c index fuse down b3 b4=some x) (ha:aa5 E ln (Cx.seq Tryz.f138 5 ln l φ0 J) H4 (J5 l) X2 x Y):i0 E (Cx.seq Tryz.f138 5 ln l φ0 J (some Y)) (fun _ s=>P0 ln s) (.go (J5 l (.s0 state c index fuse down b3 b4))):=by
 subst hl
 unfold ap2 at h
 refine zc 9 [] h (fun _=>J1) fun y1 h=> ?_
 refine l6 hm 5 _ ?_
 obtain rfl:=Option.some.inj h
 exact aR3 (q' := .go (J5 l (.s1 y1 state c index fuse down b3 b4))) (by kernel_rfl) (L1 (by kernel_rfl) ha)
theorem bH6 {l:Nat}{ln:f4}{φ0:q8}{J:Option (List (List D))→World→(Nat→Prop)→(Nat→Prop)→Prop}{n:Int}{state2:e9}{c2:d9}{index2 fuse2:Int}{down2:Bool}{b32 b42:List Int}{x:List Int×Option J6}{Y:List (List D)} (hl:X2 (.s1 n state2 c2 index2 fuse2 down2 b32 b42)=ln) (h:S6 n state2 c2 index2 fuse2 down2 b32 b42=some x) (ha:aa5 E ln (Cx.seq Tryz.f138 5 ln l φ0 J) H4 (J5 l) X2 x Y):i0 E (Cx.seq Tryz.f138 5 ln l φ0 J (some Y)) (fun _ s=>P0 ln s) (.go (J5 l (.s1 n state2 c2 index2 fuse2 down2 b32 b42))):=by
 subst hl
 unfold S6 at h
 refine zc 12 [] h (fun _=>ak7) fun y1 h=> ?_
 refine zs 3 h (fun h=> ?_) fun h=> ?_
 ·
  refine zd 9 [] h (fun _=>J1) fun y3 h=> ?_
  refine zs 0 h (fun h=> ?_) fun h=> ?_
  ·
   refine l6 hm 3 _ ?_
   refine bH9 (x:=n) (s:= [some ⟨1,true,[[D.ptr 1 0 0]]⟩,some ⟨88,true,[[D.int .i64 state2.boot,D.int .i64 state2.known.Epoch,D.int .i64 state2.known.Target,D.int .i64 state2.known.Prev,D.int .i64 state2.known.Spill,D.int .i64 state2.known.Percent,D.int .i64 state2.known.Stamp,D.int .i64 state2.known.Since,D.int .i64 state2.known.Ramped,D.int .u64 state2.known.Up,D.int .u64 state2.known.Sup,D.sl false 1 (List.map (d8 .i64) state2.known.Pen),D.sl false 1 (List.map (d8 .i64) state2.known.Changes),D.int .i64 state2.heard,D.sl false 3 (List.map i9.enc state2.votes),D.int .i64 state2.hold.Epoch,D.int .i64 state2.hold.Nonce,D.int .u64 state2.hold.Grants,D.int .i64 state2.hold.Until,D.bool state2.asked.ever,D.int .i64 state2.asked.at_,D.int .i64 state2.prop.Epoch,D.int .i64 state2.prop.Ballot,D.int .i64 state2.prop.Phase,D.int .i64 state2.prop.Own.Epoch,D.int .i64 state2.prop.Own.Target,D.int .i64 state2.prop.Own.Prev,D.int .i64 state2.prop.Own.Spill,D.int .i64 state2.prop.Own.Percent,D.int .i64 state2.prop.Own.Stamp,D.int .i64 state2.prop.Own.Since,D.int .i64 state2.prop.Own.Ramped,D.int .u64 state2.prop.Own.Up,D.int .u64 state2.prop.Own.Sup,D.sl false 1 (List.map (d8 .i64) state2.prop.Own.Pen),D.sl false 1 (List.map (d8 .i64) state2.prop.Own.Changes),D.int .i64 state2.prop.Best,D.int .i64 state2.prop.Value.Epoch,D.int .i64 state2.prop.Value.Target,D.int .i64 state2.prop.Value.Prev,D.int .i64 state2.prop.Value.Spill,D.int .i64 state2.prop.Value.Percent,D.int .i64 state2.prop.Value.Stamp,D.int .i64 state2.prop.Value.Since,D.int .i64 state2.prop.Value.Ramped,D.int .u64 state2.prop.Value.Up,D.int .u64 state2.prop.Value.Sup,D.sl false 1 (List.map (d8 .i64) state2.prop.Value.Pen),D.sl false 1 (List.map (d8 .i64) state2.prop.Value.Changes),D.int .u64 state2.prop.Promises,D.int .u64 state2.prop.Accepts,D.int .i64 state2.made,D.int .i64 state2.top,D.int .u64 state2.sealed,D.bool state2.told.ever,D.int .i64 state2.told.at_,D.int .i64 c2.F_,D.int .i64 c2.Deciders,D.int .i64 c2.Targets,D.int .i64 c2.Routers,D.int .i64 c2.Observers,D.sl false 1 (List.map (d8 .i64) c2.Tiers),D.int .i64 c2.Every,D.int .i64 c2.Wait,D.int .i64 c2.Rise,D.int .i64 c2.Fall,D.int .i64 c2.Fresh,D.int .i64 c2.L_,D.int .i64 c2.M_,D.int .i64 c2.Dwell,D.int .i64 c2.D_,D.int .i64 c2.W_,D.int .i64 c2.B_,D.int .i64 c2.Hit,D.int .i64 c2.Suppress,D.int .i64 c2.Reuse,D.int .i64 c2.Half,D.int .i64 c2.First,D.int .i64 c2.Step,D.int .i64 c2.StepTime,D.int .i64 c2.S_,D.int .i64 c2.Cap,D.int .i64 c2.Span,D.int .i64 c2.Room,D.int .i64 c2.Tries,D.int .i64 c2.Retry,D.int .i64 index2,D.ptr 2 0 0]]⟩,some ⟨4,true,[[(f6 3 (List.map (d8 .u8) b32)),(f6 4 (List.map (d8 .u8) b42)),D.int .i64 fuse2,D.bool down2]]⟩,some ⟨1,false,(List.map (d8 .u8) b32)⟩,some ⟨1,false,(List.map (d8 .u8) b42)⟩]) h ha (by kernel_rfl) (by kernel_rfl) ?_ (fun p Y h ha=> ?_)
   ·--it is stopped
    refine l6 hm 8 _ ?_
    exact bt5 (d:=D.tup []) (s:= [some ⟨1,true,[[D.ptr 1 0 0]]⟩,some ⟨88,true,[[D.int .i64 state2.boot,D.int .i64 state2.known.Epoch,D.int .i64 state2.known.Target,D.int .i64 state2.known.Prev,D.int .i64 state2.known.Spill,D.int .i64 state2.known.Percent,D.int .i64 state2.known.Stamp,D.int .i64 state2.known.Since,D.int .i64 state2.known.Ramped,D.int .u64 state2.known.Up,D.int .u64 state2.known.Sup,D.sl false 1 (List.map (d8 .i64) state2.known.Pen),D.sl false 1 (List.map (d8 .i64) state2.known.Changes),D.int .i64 state2.heard,D.sl false 3 (List.map i9.enc state2.votes),D.int .i64 state2.hold.Epoch,D.int .i64 state2.hold.Nonce,D.int .u64 state2.hold.Grants,D.int .i64 state2.hold.Until,D.bool state2.asked.ever,D.int .i64 state2.asked.at_,D.int .i64 state2.prop.Epoch,D.int .i64 state2.prop.Ballot,D.int .i64 state2.prop.Phase,D.int .i64 state2.prop.Own.Epoch,D.int .i64 state2.prop.Own.Target,D.int .i64 state2.prop.Own.Prev,D.int .i64 state2.prop.Own.Spill,D.int .i64 state2.prop.Own.Percent,D.int .i64 state2.prop.Own.Stamp,D.int .i64 state2.prop.Own.Since,D.int .i64 state2.prop.Own.Ramped,D.int .u64 state2.prop.Own.Up,D.int .u64 state2.prop.Own.Sup,D.sl false 1 (List.map (d8 .i64) state2.prop.Own.Pen),D.sl false 1 (List.map (d8 .i64) state2.prop.Own.Changes),D.int .i64 state2.prop.Best,D.int .i64 state2.prop.Value.Epoch,D.int .i64 state2.prop.Value.Target,D.int .i64 state2.prop.Value.Prev,D.int .i64 state2.prop.Value.Spill,D.int .i64 state2.prop.Value.Percent,D.int .i64 state2.prop.Value.Stamp,D.int .i64 state2.prop.Value.Since,D.int .i64 state2.prop.Value.Ramped,D.int .u64 state2.prop.Value.Up,D.int .u64 state2.prop.Value.Sup,D.sl false 1 (List.map (d8 .i64) state2.prop.Value.Pen),D.sl false 1 (List.map (d8 .i64) state2.prop.Value.Changes),D.int .u64 state2.prop.Promises,D.int .u64 state2.prop.Accepts,D.int .i64 state2.made,D.int .i64 state2.top,D.int .u64 state2.sealed,D.bool state2.told.ever,D.int .i64 state2.told.at_,D.int .i64 c2.F_,D.int .i64 c2.Deciders,D.int .i64 c2.Targets,D.int .i64 c2.Routers,D.int .i64 c2.Observers,D.sl false 1 (List.map (d8 .i64) c2.Tiers),D.int .i64 c2.Every,D.int .i64 c2.Wait,D.int .i64 c2.Rise,D.int .i64 c2.Fall,D.int .i64 c2.Fresh,D.int .i64 c2.L_,D.int .i64 c2.M_,D.int .i64 c2.Dwell,D.int .i64 c2.D_,D.int .i64 c2.W_,D.int .i64 c2.B_,D.int .i64 c2.Hit,D.int .i64 c2.Suppress,D.int .i64 c2.Reuse,D.int .i64 c2.Half,D.int .i64 c2.First,D.int .i64 c2.Step,D.int .i64 c2.StepTime,D.int .i64 c2.S_,D.int .i64 c2.Cap,D.int .i64 c2.Span,D.int .i64 c2.Room,D.int .i64 c2.Tries,D.int .i64 c2.Retry,D.int .i64 index2,D.ptr 2 0 0]]⟩,some ⟨4,true,[[(f6 3 (List.map (d8 .u8) b32)),(f6 4 (List.map (d8 .u8) b42)),D.int .i64 fuse2,D.bool down2]]⟩,some ⟨1,false,(List.map (d8 .u8) b32)⟩,some ⟨1,false,(List.map (d8 .u8) b42)⟩]) (by kernel_rfl) (by kernel_rfl)
   ·--it goes on
    refine l6 hm 15 _ ?_
    obtain rfl:=Option.some.inj h
    exact aR3 (q' := .go (J5 l (.s1 (IntKind.i64.wrap (n+1)) state2 c2 index2 fuse2 down2 b32 b42))) (by kernel_rfl) (L1 (by kernel_rfl) ha)
  refine l6 hm 18 _ ?_
  obtain rfl:=Option.some.inj h
  exact aR3 (q' := .go (J5 l (.s1 (IntKind.i64.wrap (n+1)) state2 c2 index2 fuse2 down2 b32 b42))) (by kernel_rfl) (L1 (by kernel_rfl) ha)
 refine l6 hm 2 _ ?_
 obtain rfl:=Option.some.inj h
 exact bD8 (d:=D.tup []) (s:= [some ⟨1,true,[[D.ptr 1 0 0]]⟩,some ⟨88,true,[[D.int .i64 state2.boot,D.int .i64 state2.known.Epoch,D.int .i64 state2.known.Target,D.int .i64 state2.known.Prev,D.int .i64 state2.known.Spill,D.int .i64 state2.known.Percent,D.int .i64 state2.known.Stamp,D.int .i64 state2.known.Since,D.int .i64 state2.known.Ramped,D.int .u64 state2.known.Up,D.int .u64 state2.known.Sup,D.sl false 1 (List.map (d8 .i64) state2.known.Pen),D.sl false 1 (List.map (d8 .i64) state2.known.Changes),D.int .i64 state2.heard,D.sl false 3 (List.map i9.enc state2.votes),D.int .i64 state2.hold.Epoch,D.int .i64 state2.hold.Nonce,D.int .u64 state2.hold.Grants,D.int .i64 state2.hold.Until,D.bool state2.asked.ever,D.int .i64 state2.asked.at_,D.int .i64 state2.prop.Epoch,D.int .i64 state2.prop.Ballot,D.int .i64 state2.prop.Phase,D.int .i64 state2.prop.Own.Epoch,D.int .i64 state2.prop.Own.Target,D.int .i64 state2.prop.Own.Prev,D.int .i64 state2.prop.Own.Spill,D.int .i64 state2.prop.Own.Percent,D.int .i64 state2.prop.Own.Stamp,D.int .i64 state2.prop.Own.Since,D.int .i64 state2.prop.Own.Ramped,D.int .u64 state2.prop.Own.Up,D.int .u64 state2.prop.Own.Sup,D.sl false 1 (List.map (d8 .i64) state2.prop.Own.Pen),D.sl false 1 (List.map (d8 .i64) state2.prop.Own.Changes),D.int .i64 state2.prop.Best,D.int .i64 state2.prop.Value.Epoch,D.int .i64 state2.prop.Value.Target,D.int .i64 state2.prop.Value.Prev,D.int .i64 state2.prop.Value.Spill,D.int .i64 state2.prop.Value.Percent,D.int .i64 state2.prop.Value.Stamp,D.int .i64 state2.prop.Value.Since,D.int .i64 state2.prop.Value.Ramped,D.int .u64 state2.prop.Value.Up,D.int .u64 state2.prop.Value.Sup,D.sl false 1 (List.map (d8 .i64) state2.prop.Value.Pen),D.sl false 1 (List.map (d8 .i64) state2.prop.Value.Changes),D.int .u64 state2.prop.Promises,D.int .u64 state2.prop.Accepts,D.int .i64 state2.made,D.int .i64 state2.top,D.int .u64 state2.sealed,D.bool state2.told.ever,D.int .i64 state2.told.at_,D.int .i64 c2.F_,D.int .i64 c2.Deciders,D.int .i64 c2.Targets,D.int .i64 c2.Routers,D.int .i64 c2.Observers,D.sl false 1 (List.map (d8 .i64) c2.Tiers),D.int .i64 c2.Every,D.int .i64 c2.Wait,D.int .i64 c2.Rise,D.int .i64 c2.Fall,D.int .i64 c2.Fresh,D.int .i64 c2.L_,D.int .i64 c2.M_,D.int .i64 c2.Dwell,D.int .i64 c2.D_,D.int .i64 c2.W_,D.int .i64 c2.B_,D.int .i64 c2.Hit,D.int .i64 c2.Suppress,D.int .i64 c2.Reuse,D.int .i64 c2.Half,D.int .i64 c2.First,D.int .i64 c2.Step,D.int .i64 c2.StepTime,D.int .i64 c2.S_,D.int .i64 c2.Cap,D.int .i64 c2.Span,D.int .i64 c2.Room,D.int .i64 c2.Tries,D.int .i64 c2.Retry,D.int .i64 index2,D.ptr 2 0 0]]⟩,some ⟨4,true,[[(f6 3 (List.map (d8 .u8) b32)),(f6 4 (List.map (d8 .u8) b42)),D.int .i64 fuse2,D.bool down2]]⟩,some ⟨1,false,(List.map (d8 .u8) b32)⟩,some ⟨1,false,(List.map (d8 .u8) b42)⟩]) (by kernel_rfl) (by kernel_rfl) ha
noncomputable def aw9 (state:e9) (c:d9) (index fuse:Int) (down:Bool) (b3 b4:List Int):Option (List Int):=evl I8 (.s0 state c index fuse down b3 b4)
theorem bR7 {state:e9}{c:d9}{index fuse:Int}{down:Bool}{b3 b4 r:List Int} (h:aw9 state c index fuse down b3 b4=some r):aj2 E 138 [D.ptr 0 0 0] [some ⟨1,true,[[D.ptr 1 0 0]]⟩,some ⟨88,true,[[D.int .i64 state.boot,D.int .i64 state.known.Epoch,D.int .i64 state.known.Target,D.int .i64 state.known.Prev,D.int .i64 state.known.Spill,D.int .i64 state.known.Percent,D.int .i64 state.known.Stamp,D.int .i64 state.known.Since,D.int .i64 state.known.Ramped,D.int .u64 state.known.Up,D.int .u64 state.known.Sup,D.sl false 1 (List.map (d8 .i64) state.known.Pen),D.sl false 1 (List.map (d8 .i64) state.known.Changes),D.int .i64 state.heard,D.sl false 3 (List.map i9.enc state.votes),D.int .i64 state.hold.Epoch,D.int .i64 state.hold.Nonce,D.int .u64 state.hold.Grants,D.int .i64 state.hold.Until,D.bool state.asked.ever,D.int .i64 state.asked.at_,D.int .i64 state.prop.Epoch,D.int .i64 state.prop.Ballot,D.int .i64 state.prop.Phase,D.int .i64 state.prop.Own.Epoch,D.int .i64 state.prop.Own.Target,D.int .i64 state.prop.Own.Prev,D.int .i64 state.prop.Own.Spill,D.int .i64 state.prop.Own.Percent,D.int .i64 state.prop.Own.Stamp,D.int .i64 state.prop.Own.Since,D.int .i64 state.prop.Own.Ramped,D.int .u64 state.prop.Own.Up,D.int .u64 state.prop.Own.Sup,D.sl false 1 (List.map (d8 .i64) state.prop.Own.Pen),D.sl false 1 (List.map (d8 .i64) state.prop.Own.Changes),D.int .i64 state.prop.Best,D.int .i64 state.prop.Value.Epoch,D.int .i64 state.prop.Value.Target,D.int .i64 state.prop.Value.Prev,D.int .i64 state.prop.Value.Spill,D.int .i64 state.prop.Value.Percent,D.int .i64 state.prop.Value.Stamp,D.int .i64 state.prop.Value.Since,D.int .i64 state.prop.Value.Ramped,D.int .u64 state.prop.Value.Up,D.int .u64 state.prop.Value.Sup,D.sl false 1 (List.map (d8 .i64) state.prop.Value.Pen),D.sl false 1 (List.map (d8 .i64) state.prop.Value.Changes),D.int .u64 state.prop.Promises,D.int .u64 state.prop.Accepts,D.int .i64 state.made,D.int .i64 state.top,D.int .u64 state.sealed,D.bool state.told.ever,D.int .i64 state.told.at_,D.int .i64 c.F_,D.int .i64 c.Deciders,D.int .i64 c.Targets,D.int .i64 c.Routers,D.int .i64 c.Observers,D.sl false 1 (List.map (d8 .i64) c.Tiers),D.int .i64 c.Every,D.int .i64 c.Wait,D.int .i64 c.Rise,D.int .i64 c.Fall,D.int .i64 c.Fresh,D.int .i64 c.L_,D.int .i64 c.M_,D.int .i64 c.Dwell,D.int .i64 c.D_,D.int .i64 c.W_,D.int .i64 c.B_,D.int .i64 c.Hit,D.int .i64 c.Suppress,D.int .i64 c.Reuse,D.int .i64 c.Half,D.int .i64 c.First,D.int .i64 c.Step,D.int .i64 c.StepTime,D.int .i64 c.S_,D.int .i64 c.Cap,D.int .i64 c.Span,D.int .i64 c.Room,D.int .i64 c.Tries,D.int .i64 c.Retry,D.int .i64 index,D.ptr 2 0 0]]⟩,some ⟨4,true,[[(f6 3 (List.map (d8 .u8) b3)),(f6 4 (List.map (d8 .u8) b4)),D.int .i64 fuse,D.bool down]]⟩,some ⟨1,false,(List.map (d8 .u8) b3)⟩,some ⟨1,false,(List.map (d8 .u8) b4)⟩] [some ⟨1,true,[[D.ptr 1 0 0]]⟩,some ⟨88,true,[[D.int .i64 state.boot,D.int .i64 state.known.Epoch,D.int .i64 state.known.Target,D.int .i64 state.known.Prev,D.int .i64 state.known.Spill,D.int .i64 state.known.Percent,D.int .i64 state.known.Stamp,D.int .i64 state.known.Since,D.int .i64 state.known.Ramped,D.int .u64 state.known.Up,D.int .u64 state.known.Sup,D.sl false 1 (List.map (d8 .i64) state.known.Pen),D.sl false 1 (List.map (d8 .i64) state.known.Changes),D.int .i64 state.heard,D.sl false 3 (List.map i9.enc state.votes),D.int .i64 state.hold.Epoch,D.int .i64 state.hold.Nonce,D.int .u64 state.hold.Grants,D.int .i64 state.hold.Until,D.bool state.asked.ever,D.int .i64 state.asked.at_,D.int .i64 state.prop.Epoch,D.int .i64 state.prop.Ballot,D.int .i64 state.prop.Phase,D.int .i64 state.prop.Own.Epoch,D.int .i64 state.prop.Own.Target,D.int .i64 state.prop.Own.Prev,D.int .i64 state.prop.Own.Spill,D.int .i64 state.prop.Own.Percent,D.int .i64 state.prop.Own.Stamp,D.int .i64 state.prop.Own.Since,D.int .i64 state.prop.Own.Ramped,D.int .u64 state.prop.Own.Up,D.int .u64 state.prop.Own.Sup,D.sl false 1 (List.map (d8 .i64) state.prop.Own.Pen),D.sl false 1 (List.map (d8 .i64) state.prop.Own.Changes),D.int .i64 state.prop.Best,D.int .i64 state.prop.Value.Epoch,D.int .i64 state.prop.Value.Target,D.int .i64 state.prop.Value.Prev,D.int .i64 state.prop.Value.Spill,D.int .i64 state.prop.Value.Percent,D.int .i64 state.prop.Value.Stamp,D.int .i64 state.prop.Value.Since,D.int .i64 state.prop.Value.Ramped,D.int .u64 state.prop.Value.Up,D.int .u64 state.prop.Value.Sup,D.sl false 1 (List.map (d8 .i64) state.prop.Value.Pen),D.sl false 1 (List.map (d8 .i64) state.prop.Value.Changes),D.int .u64 state.prop.Promises,D.int .u64 state.prop.Accepts,D.int .i64 state.made,D.int .i64 state.top,D.int .u64 state.sealed,D.bool state.told.ever,D.int .i64 state.told.at_,D.int .i64 c.F_,D.int .i64 c.Deciders,D.int .i64 c.Targets,D.int .i64 c.Routers,D.int .i64 c.Observers,D.sl false 1 (List.map (d8 .i64) c.Tiers),D.int .i64 c.Every,D.int .i64 c.Wait,D.int .i64 c.Rise,D.int .i64 c.Fall,D.int .i64 c.Fresh,D.int .i64 c.L_,D.int .i64 c.M_,D.int .i64 c.Dwell,D.int .i64 c.D_,D.int .i64 c.W_,D.int .i64 c.B_,D.int .i64 c.Hit,D.int .i64 c.Suppress,D.int .i64 c.Reuse,D.int .i64 c.Half,D.int .i64 c.First,D.int .i64 c.Step,D.int .i64 c.StepTime,D.int .i64 c.S_,D.int .i64 c.Cap,D.int .i64 c.Span,D.int .i64 c.Room,D.int .i64 c.Tries,D.int .i64 c.Retry,D.int .i64 index,D.ptr 2 0 0]]⟩,some ⟨4,true,[[(f6 3 (List.map (d8 .u8) b3)),(f6 4 (List.map (d8 .u8) b4)),D.int .i64 fuse,D.bool down]]⟩,some ⟨1,false,(List.map (d8 .u8) b3)⟩,some ⟨1,false,(List.map (d8 .u8) b4)⟩] (List.map H4 r):=
 bE1 (m:=fun l=>J5 l (.s0 state c index fuse down b3 b4)) (fn:=Tryz.f138) (by kernel_rfl) (fun l=>by kernel_rfl) (show List.take _ _=_ by kernel_rfl) (show B7 _ _=_ by kernel_rfl) (fun l φ0 J=>bq0 (step:=I8) (lnS:=X2) (fun s x Y hl hs ha=>by
  cases s with
  | s0=>exact bD0 hl hs ha
  | s1=>exact bH6 hl hs ha) (by kernel_rfl) (bH4 h))
end Go.RX.L

namespace Go.RX.L
open Go Go.RX Go.Proofs
attribute [local irreducible] i0
noncomputable def r5:=p7 (q0 Tryz.f63)
noncomputable def z6 (state:e9) (c:d9) (index fuse:Int) (down:Bool) (b3 b4:List Int) (y:List f3):D×f4:=((f6 5 (List.map f3.enc y)),[some ⟨88,true,[(e9.l state (d9.l c [.int .i64 index,.ptr 2 0 0]))]⟩,some ⟨1,true,[[.ptr 0 0 0]]⟩,some ⟨4,true,[[(f6 3 (List.map (d8 .u8) b3)),(f6 4 (List.map (d8 .u8) b4)),.int .i64 fuse,.bool down]]⟩,some ⟨1,false,(List.map (d8 .u8) b3)⟩,some ⟨1,false,(List.map (d8 .u8) b4)⟩,some ⟨26,false,(List.map f3.enc y)⟩])
inductive u4 where
 | s0
 | s1 (b8:List f3)
 | s2 (m2:f3) (b8:List f3) (Y:List Int)
noncomputable def Q7 (m:f3) (state:e9) (c:d9) (index fuse:Int) (down:Bool) (b3 b4:List Int):u4→M
 | .s0=>A6 Tryz.f63 [.ptr 0 0 0,.fn 138 [] [.ptr 1 0 0],.agg (f3.enc m)] [some ⟨88,true,[(e9.l state (d9.l c [.int .i64 index,.ptr 2 0 0]))]⟩,some ⟨1,true,[[.ptr 0 0 0]]⟩,some ⟨4,true,[[(f6 3 (List.map (d8 .u8) b3)),(f6 4 (List.map (d8 .u8) b4)),.int .i64 fuse,.bool down]]⟩,some ⟨1,false,(List.map (d8 .u8) b3)⟩,some ⟨1,false,(List.map (d8 .u8) b4)⟩]
 | .s1 b8=>⟨[.code (r5 [1,1,0,1,0]),.blk 0,.code (r5 [1,1,1])],[(3,.ptr 5 0 0),(5,.ptr 6 0 0),(7,.ptr 7 0 0),(9,.fn 138 [] [.ptr 1 0 0])],[some ⟨88,true,[(e9.l state (d9.l c [.int .i64 index,.ptr 2 0 0]))]⟩,some ⟨1,true,[[.ptr 0 0 0]]⟩,some ⟨4,true,[[(f6 3 (List.map (d8 .u8) b3)),(f6 4 (List.map (d8 .u8) b4)),.int .i64 fuse,.bool down]]⟩,some ⟨1,false,(List.map (d8 .u8) b3)⟩,some ⟨1,false,(List.map (d8 .u8) b4)⟩,some ⟨1,true,[[.ptr 0 0 0]]⟩,some ⟨26,false,[(f3.enc m)]⟩,some ⟨1,true,[[(f6 8 (List.map f3.enc b8))]]⟩,some ⟨26,false,(List.map f3.enc b8)⟩]⟩
 | .s2 m2 b8 Y=>⟨[.blk 0,.code (r5 [1,1,1])],[(3,.ptr 5 0 0),(5,.ptr 6 0 0),(7,.ptr 7 0 0),(9,.fn 138 [] [.ptr 1 0 0])],[some ⟨88,true,[(e9.l state (d9.l c [.int .i64 index,.ptr 2 0 0]))]⟩,some ⟨1,true,[[.ptr 0 0 0]]⟩,some ⟨4,true,[[(f6 3 (List.map (d8 .u8) b3)),(f6 4 (List.map (d8 .u8) b4)),.int .i64 fuse,.bool down]]⟩,some ⟨1,false,(List.map (d8 .u8) b3)⟩,some ⟨1,false,(List.map (d8 .u8) b4)⟩,some ⟨1,true,[[.ptr 0 0 0]]⟩,some ⟨26,false,[(f3.enc m2)]⟩,some ⟨1,true,[[(f6 8 (List.map f3.enc b8))]]⟩,some ⟨26,false,(List.map f3.enc b8)⟩]⟩
noncomputable def J8 (m:f3) (state:e9) (c:d9) (index fuse:Int) (down:Bool) (b3 b4:List Int):u4→(List f3)→Prop
 | .s0,r_=>i0 E (Cx.of Tryz.f63 true 5) (QW (Rs (z6 state c index fuse down b3 b4) r_)) (.go ((Q7 m state c index fuse down b3 b4) (.s0)))
 | .s1 b8,r_=>i0 E (Cx.of Tryz.f63 true 5) (QW (Rs (z6 state c index fuse down b3 b4) r_)) (.go ((Q7 m state c index fuse down b3 b4) (.s1 b8)))
 | .s2 m2 b8 Y,r_=>M2 E (Cx.of Tryz.f63 true 5) (QW (Rs (z6 state c index fuse down b3 b4) r_)) 8 (r5 [1,1,0,1,0]) [.blk 0,.code (r5 [1,1,1])] [(3,.ptr 5 0 0),(5,.ptr 6 0 0),(7,.ptr 7 0 0),(9,.fn 138 [] [.ptr 1 0 0])] [1,0,2,3,4] [some ⟨1,true,[[.ptr 0 0 0]]⟩,some ⟨88,true,[(e9.l state (d9.l c [.int .i64 index,.ptr 2 0 0]))]⟩,some ⟨4,true,[[(f6 3 (List.map (d8 .u8) b3)),(f6 4 (List.map (d8 .u8) b4)),.int .i64 fuse,.bool down]]⟩,some ⟨1,false,(List.map (d8 .u8) b3)⟩,some ⟨1,false,(List.map (d8 .u8) b4)⟩] (List.map H4 Y) [some ⟨88,true,[(e9.l state (d9.l c [.int .i64 index,.ptr 2 0 0]))]⟩,some ⟨1,true,[[.ptr 0 0 0]]⟩,some ⟨4,true,[[(f6 3 (List.map (d8 .u8) b3)),(f6 4 (List.map (d8 .u8) b4)),.int .i64 fuse,.bool down]]⟩,some ⟨1,false,(List.map (d8 .u8) b3)⟩,some ⟨1,false,(List.map (d8 .u8) b4)⟩,some ⟨1,true,[[.ptr 0 0 0]]⟩,some ⟨26,false,[(f3.enc m2)]⟩,some ⟨1,true,[[(f6 8 (List.map f3.enc b8))]]⟩,some ⟨26,false,(List.map f3.enc b8)⟩]
noncomputable def aq2 (m:f3) (state:e9) (c:d9) (index fuse:Int) (down:Bool) (b3 b4:List Int):Option (u4⊕(List f3)):=(some (.inl (.s1 ([]))))
noncomputable def aa2 (m:f3) (state:e9) (c:d9) (index fuse:Int) (down:Bool) (b3 b4:List Int) (b8:List f3):Option (u4⊕(List f3)):=((aw9 state c index fuse down b3 b4).bind fun y1=>(some (.inl (.s2 m b8 y1))))
noncomputable def W9 (m:f3) (state:e9) (c:d9) (index fuse:Int) (down:Bool) (b3 b4:List Int) (m2:f3) (b8:List f3):Option (u4⊕(List f3)):=(some (.inr b8))
noncomputable def X0 (m:f3) (state:e9) (c:d9) (index fuse:Int) (down:Bool) (b3 b4:List Int) (m2:f3) (b8:List f3) (y:Int) (Y:List Int):Option (u4⊕(List f3)):=((D9 c index).bind fun y1=>(bif (decide (((List.map f3.enc b8).length+1)*288≤i7)) then (some (.inl (.s2 (⟨m2.Kind,y1,y,m2.Epoch,m2.Ballot,m2.Accepted,m2.Nonce,m2.Time,m2.Up,m2.Code,m2.HasPlan,m2.Plan,m2.ID,m2.Session,m2.Payload⟩:f3) (b8++ [(⟨m2.Kind,y1,y,m2.Epoch,m2.Ballot,m2.Accepted,m2.Nonce,m2.Time,m2.Up,m2.Code,m2.HasPlan,m2.Plan,m2.ID,m2.Session,m2.Payload⟩:f3)]) Y))) else none))
noncomputable def Z4 (m:f3) (state:e9) (c:d9) (index fuse:Int) (down:Bool) (b3 b4:List Int) (m2:f3) (b8:List f3):List Int→Option (u4⊕(List f3))
 | []=>W9 m state c index fuse down b3 b4 m2 b8
 | y::Y=>X0 m state c index fuse down b3 b4 m2 b8 y Y
noncomputable def G5 (m:f3) (state:e9) (c:d9) (index fuse:Int) (down:Bool) (b3 b4:List Int):u4→Option (u4⊕(List f3))
 | .s0=>aq2 m state c index fuse down b3 b4
 | .s1 b8=>aa2 m state c index fuse down b3 b4 b8
 | .s2 m2 b8 Y=>Z4 m state c index fuse down b3 b4 m2 b8 Y
theorem bl6 {m:f3}{state:e9}{c:d9}{index fuse:Int}{down:Bool}{b3 b4:List Int}{r:List f3}{x:u4⊕(List f3)} (h:aq2 m state c index fuse down b3 b4=some x) (ha:z8 (J8 m state c index fuse down b3 b4) r x):i0 E (Cx.of Tryz.f63 true 5) (QW (Rs (z6 state c index fuse down b3 b4) r)) (.go ((Q7 m state c index fuse down b3 b4) (.s0))):=by
 unfold aq2 at h
 refine l6 hm 16 _ ?_
 obtain rfl:=Option.some.inj h
 refine ar4 1704 [.matc 7 0 0 26] (m' :=⟨[.code (r5 [1,1,0,1,0]),.blk 0,.code (r5 [1,1,1])],[(3,.ptr 5 0 0),(5,.ptr 6 0 0),(7,.ptr 7 0 0),(9,.fn 138 [] [.ptr 1 0 0])],[some ⟨88,true,[(e9.l state (d9.l c [.int .i64 index,.ptr 2 0 0]))]⟩,some ⟨1,true,[[.ptr 0 0 0]]⟩,some ⟨4,true,[[(f6 3 (List.map (d8 .u8) b3)),(f6 4 (List.map (d8 .u8) b4)),.int .i64 fuse,.bool down]]⟩,some ⟨1,false,(List.map (d8 .u8) b3)⟩,some ⟨1,false,(List.map (d8 .u8) b4)⟩,some ⟨1,true,[[.ptr 0 0 0]]⟩,some ⟨26,false,[(f3.enc m)]⟩,some ⟨1,true,[[.msl 8 0 0 0 false]]⟩,some ⟨26,false,[]⟩]⟩) (by kernel_rfl) ?_
 refine ac8 (n1:=0) (n2:=(List.map f3.enc ([])).length) (fun n_len=> .go ⟨[.code (r5 [1,1,0,1,0]),.blk 0,.code (r5 [1,1,1])],[(3,.ptr 5 0 0),(5,.ptr 6 0 0),(7,.ptr 7 0 0),(9,.fn 138 [] [.ptr 1 0 0])],[some ⟨88,true,[(e9.l state (d9.l c [.int .i64 index,.ptr 2 0 0]))]⟩,some ⟨1,true,[[.ptr 0 0 0]]⟩,some ⟨4,true,[[(f6 3 (List.map (d8 .u8) b3)),(f6 4 (List.map (d8 .u8) b4)),.int .i64 fuse,.bool down]]⟩,some ⟨1,false,(List.map (d8 .u8) b3)⟩,some ⟨1,false,(List.map (d8 .u8) b4)⟩,some ⟨1,true,[[.ptr 0 0 0]]⟩,some ⟨26,false,[(f3.enc m)]⟩,some ⟨1,true,[[.msl 8 0 n_len n_len false]]⟩,some ⟨26,false,[]⟩]⟩) (by simp) ?_
 exact ha
theorem bm4 {m:f3}{state:e9}{c:d9}{index fuse:Int}{down:Bool}{b3 b4:List Int}{b8 r:List f3}{x:u4⊕(List f3)} (h:aa2 m state c index fuse down b3 b4 b8=some x) (ha:z8 (J8 m state c index fuse down b3 b4) r x):i0 E (Cx.of Tryz.f63 true 5) (QW (Rs (z6 state c index fuse down b3 b4) r)) (.go ((Q7 m state c index fuse down b3 b4) (.s1 b8))):=by
 unfold aa2 at h
 refine l6 hm 1 _ ?_
 have ok1:=fun (y:List Int) (hy:aw9 state c index fuse down b3 b4=some y)=>bR7 hy
 refine dg1 (m:=8) (c:=r5 [1,1,0,1,0]) (t:= [.blk 0,.code (r5 [1,1,1])]) (fr:= [(3,.ptr 5 0 0),(5,.ptr 6 0 0),(7,.ptr 7 0 0),(9,.fn 138 [] [.ptr 1 0 0])]) (σ:= [some ⟨88,true,[(e9.l state (d9.l c [.int .i64 index,.ptr 2 0 0]))]⟩,some ⟨1,true,[[.ptr 0 0 0]]⟩,some ⟨4,true,[[(f6 3 (List.map (d8 .u8) b3)),(f6 4 (List.map (d8 .u8) b4)),.int .i64 fuse,.bool down]]⟩,some ⟨1,false,(List.map (d8 .u8) b3)⟩,some ⟨1,false,(List.map (d8 .u8) b4)⟩,some ⟨1,true,[[.ptr 0 0 0]]⟩,some ⟨26,false,[(f3.enc m)]⟩,some ⟨1,true,[[(f6 8 (List.map f3.enc b8))]]⟩,some ⟨26,false,(List.map f3.enc b8)⟩]) (ids:= [1,0,2,3,4]) (bs:= [some ⟨1,true,[[.ptr 0 0 0]]⟩,some ⟨88,true,[(e9.l state (d9.l c [.int .i64 index,.ptr 2 0 0]))]⟩,some ⟨4,true,[[(f6 3 (List.map (d8 .u8) b3)),(f6 4 (List.map (d8 .u8) b4)),.int .i64 fuse,.bool down]]⟩,some ⟨1,false,(List.map (d8 .u8) b3)⟩,some ⟨1,false,(List.map (d8 .u8) b4)⟩]) (caps1:= [.ptr 0 0 0]) (caps:= [.ptr 0 0 0]) (sub1:= [some ⟨1,true,[[.ptr 1 0 0]]⟩,some ⟨88,true,[(e9.l state (d9.l c [.int .i64 index,.ptr 2 0 0]))]⟩,some ⟨4,true,[[(f6 3 (List.map (d8 .u8) b3)),(f6 4 (List.map (d8 .u8) b4)),.int .i64 fuse,.bool down]]⟩,some ⟨1,false,(List.map (d8 .u8) b3)⟩,some ⟨1,false,(List.map (d8 .u8) b4)⟩]) (sub:= [some ⟨1,true,[[.ptr 1 0 0]]⟩,some ⟨88,true,[(e9.l state (d9.l c [.int .i64 index,.ptr 2 0 0]))]⟩,some ⟨4,true,[[(f6 3 (List.map (d8 .u8) b3)),(f6 4 (List.map (d8 .u8) b4)),.int .i64 fuse,.bool down]]⟩,some ⟨1,false,(List.map (d8 .u8) b3)⟩,some ⟨1,false,(List.map (d8 .u8) b4)⟩]) H4 h (by kernel_rfl) ⟨rfl,rfl⟩ (by kernel_rfl) (by kernel_rfl) (by kernel_rfl) (by kernel_rfl) (by kernel_rfl) ok1 (fun y1 h1 h=> ?_)
 obtain rfl:=Option.some.inj h
 exact ha
theorem bi1 {m:f3}{state:e9}{c:d9}{index fuse:Int}{down:Bool}{b3 b4:List Int}{m2:f3}{b8 r:List f3}{x:u4⊕(List f3)} (h:W9 m state c index fuse down b3 b4 m2 b8=some x) (ha:z8 (J8 m state c index fuse down b3 b4) r x):M2 E (Cx.of Tryz.f63 true 5) (QW (Rs (z6 state c index fuse down b3 b4) r)) 8 (r5 [1,1,0,1,0]) [.blk 0,.code (r5 [1,1,1])] [(3,.ptr 5 0 0),(5,.ptr 6 0 0),(7,.ptr 7 0 0),(9,.fn 138 [] [.ptr 1 0 0])] [1,0,2,3,4] [some ⟨1,true,[[.ptr 0 0 0]]⟩,some ⟨88,true,[(e9.l state (d9.l c [.int .i64 index,.ptr 2 0 0]))]⟩,some ⟨4,true,[[(f6 3 (List.map (d8 .u8) b3)),(f6 4 (List.map (d8 .u8) b4)),.int .i64 fuse,.bool down]]⟩,some ⟨1,false,(List.map (d8 .u8) b3)⟩,some ⟨1,false,(List.map (d8 .u8) b4)⟩] ([]) [some ⟨88,true,[(e9.l state (d9.l c [.int .i64 index,.ptr 2 0 0]))]⟩,some ⟨1,true,[[.ptr 0 0 0]]⟩,some ⟨4,true,[[(f6 3 (List.map (d8 .u8) b3)),(f6 4 (List.map (d8 .u8) b4)),.int .i64 fuse,.bool down]]⟩,some ⟨1,false,(List.map (d8 .u8) b3)⟩,some ⟨1,false,(List.map (d8 .u8) b4)⟩,some ⟨1,true,[[.ptr 0 0 0]]⟩,some ⟨26,false,[(f3.enc m2)]⟩,some ⟨1,true,[[(f6 8 (List.map f3.enc b8))]]⟩,some ⟨26,false,(List.map f3.enc b8)⟩]:=by
 unfold W9 at h
 refine aZ4 ?_
 exact ztP 8 h ha
theorem bi2 {m:f3}{state:e9}{c:d9}{index fuse:Int}{down:Bool}{b3 b4:List Int}{m2:f3}{b8:List f3}{y:Int}{Y:List Int}{r:List f3}{x:u4⊕(List f3)} (h:X0 m state c index fuse down b3 b4 m2 b8 y Y=some x) (ha:z8 (J8 m state c index fuse down b3 b4) r x):M2 E (Cx.of Tryz.f63 true 5) (QW (Rs (z6 state c index fuse down b3 b4) r)) 8 (r5 [1,1,0,1,0]) [.blk 0,.code (r5 [1,1,1])] [(3,.ptr 5 0 0),(5,.ptr 6 0 0),(7,.ptr 7 0 0),(9,.fn 138 [] [.ptr 1 0 0])] [1,0,2,3,4] [some ⟨1,true,[[.ptr 0 0 0]]⟩,some ⟨88,true,[(e9.l state (d9.l c [.int .i64 index,.ptr 2 0 0]))]⟩,some ⟨4,true,[[(f6 3 (List.map (d8 .u8) b3)),(f6 4 (List.map (d8 .u8) b4)),.int .i64 fuse,.bool down]]⟩,some ⟨1,false,(List.map (d8 .u8) b3)⟩,some ⟨1,false,(List.map (d8 .u8) b4)⟩] (H4 y::List.map H4 Y) [some ⟨88,true,[(e9.l state (d9.l c [.int .i64 index,.ptr 2 0 0]))]⟩,some ⟨1,true,[[.ptr 0 0 0]]⟩,some ⟨4,true,[[(f6 3 (List.map (d8 .u8) b3)),(f6 4 (List.map (d8 .u8) b4)),.int .i64 fuse,.bool down]]⟩,some ⟨1,false,(List.map (d8 .u8) b3)⟩,some ⟨1,false,(List.map (d8 .u8) b4)⟩,some ⟨1,true,[[.ptr 0 0 0]]⟩,some ⟨26,false,[(f3.enc m2)]⟩,some ⟨1,true,[[(f6 8 (List.map f3.enc b8))]]⟩,some ⟨26,false,(List.map f3.enc b8)⟩]:=by
 unfold X0 at h
 refine aQ1 ?_
 refine zd 7 [] h (fun _=>J1) fun y1 h=> ?_
 refine zn 12 h fun h=> ?_
 refine za 0 f3.enc b8 ([(⟨m2.Kind,y1,y,m2.Epoch,m2.Ballot,m2.Accepted,m2.Nonce,m2.Time,m2.Up,m2.Code,m2.HasPlan,m2.Plan,m2.ID,m2.Session,m2.Payload⟩:f3)]) ?_
 refine l6 hm 6 _ ?_
 obtain rfl:=Option.some.inj h
 exact aH8 [] (s1:= [some ⟨88,true,[(e9.l state (d9.l c [.int .i64 index,.ptr 2 0 0]))]⟩,some ⟨1,true,[[.ptr 0 0 0]]⟩,some ⟨4,true,[[(f6 3 (List.map (d8 .u8) b3)),(f6 4 (List.map (d8 .u8) b4)),.int .i64 fuse,.bool down]]⟩,some ⟨1,false,(List.map (d8 .u8) b3)⟩,some ⟨1,false,(List.map (d8 .u8) b4)⟩,some ⟨1,true,[[.ptr 0 0 0]]⟩,some ⟨26,false,[(.int .i64 m2.Kind:: .int .i64 y1:: .int .i64 y:: .int .i64 m2.Epoch:: .int .i64 m2.Ballot:: .int .i64 m2.Accepted:: .int .i64 m2.Nonce:: .int .i64 m2.Time:: .int .u64 m2.Up:: .int .i64 m2.Code:: .bool m2.HasPlan::Plan.l m2.Plan [.sl false 1 (List.map (d8 .i64) m2.ID),.sl false 1 (List.map (d8 .u8) m2.Session),.sl false 1 (List.map (d8 .u8) m2.Payload)])]⟩,some ⟨1,true,[[.msl 8 0 ((List.map f3.enc (b8++ [(⟨m2.Kind,y1,y,m2.Epoch,m2.Ballot,m2.Accepted,m2.Nonce,m2.Time,m2.Up,m2.Code,m2.HasPlan,m2.Plan,m2.ID,m2.Session,m2.Payload⟩:f3)])).length) ((List.map f3.enc (b8++ [(⟨m2.Kind,y1,y,m2.Epoch,m2.Ballot,m2.Accepted,m2.Nonce,m2.Time,m2.Up,m2.Code,m2.HasPlan,m2.Plan,m2.ID,m2.Session,m2.Payload⟩:f3)])).length) false]]⟩,some ⟨26,false,(List.map f3.enc (b8++ [(⟨m2.Kind,y1,y,m2.Epoch,m2.Ballot,m2.Accepted,m2.Nonce,m2.Time,m2.Up,m2.Code,m2.HasPlan,m2.Plan,m2.ID,m2.Session,m2.Payload⟩:f3)]))⟩]) (s:= [some ⟨88,true,[(e9.l state (d9.l c [.int .i64 index,.ptr 2 0 0]))]⟩,some ⟨1,true,[[.ptr 0 0 0]]⟩,some ⟨4,true,[[(f6 3 (List.map (d8 .u8) b3)),(f6 4 (List.map (d8 .u8) b4)),.int .i64 fuse,.bool down]]⟩,some ⟨1,false,(List.map (d8 .u8) b3)⟩,some ⟨1,false,(List.map (d8 .u8) b4)⟩,some ⟨1,true,[[.ptr 0 0 0]]⟩,some ⟨26,false,[(.int .i64 m2.Kind:: .int .i64 y1:: .int .i64 y:: .int .i64 m2.Epoch:: .int .i64 m2.Ballot:: .int .i64 m2.Accepted:: .int .i64 m2.Nonce:: .int .i64 m2.Time:: .int .u64 m2.Up:: .int .i64 m2.Code:: .bool m2.HasPlan::Plan.l m2.Plan [.sl false 1 (List.map (d8 .i64) m2.ID),.sl false 1 (List.map (d8 .u8) m2.Session),.sl false 1 (List.map (d8 .u8) m2.Payload)])]⟩,some ⟨1,true,[[.msl 8 0 ((List.map f3.enc (b8++ [(⟨m2.Kind,y1,y,m2.Epoch,m2.Ballot,m2.Accepted,m2.Nonce,m2.Time,m2.Up,m2.Code,m2.HasPlan,m2.Plan,m2.ID,m2.Session,m2.Payload⟩:f3)])).length) ((List.map f3.enc (b8++ [(⟨m2.Kind,y1,y,m2.Epoch,m2.Ballot,m2.Accepted,m2.Nonce,m2.Time,m2.Up,m2.Code,m2.HasPlan,m2.Plan,m2.ID,m2.Session,m2.Payload⟩:f3)])).length) false]]⟩,some ⟨26,false,(List.map f3.enc (b8++ [(⟨m2.Kind,y1,y,m2.Epoch,m2.Ballot,m2.Accepted,m2.Nonce,m2.Time,m2.Up,m2.Code,m2.HasPlan,m2.Plan,m2.ID,m2.Session,m2.Payload⟩:f3)]))⟩]) (by kernel_rfl) (rfl) (by kernel_rfl) ha
theorem bn0 {m:f3}{state:e9}{c:d9}{index fuse:Int}{down:Bool}{b3 b4:List Int}{m2:f3}{b8:List f3}{Y:List Int}{r:List f3}{x:u4⊕(List f3)} (h:Z4 m state c index fuse down b3 b4 m2 b8 Y=some x) (ha:z8 (J8 m state c index fuse down b3 b4) r x):M2 E (Cx.of Tryz.f63 true 5) (QW (Rs (z6 state c index fuse down b3 b4) r)) 8 (r5 [1,1,0,1,0]) [.blk 0,.code (r5 [1,1,1])] [(3,.ptr 5 0 0),(5,.ptr 6 0 0),(7,.ptr 7 0 0),(9,.fn 138 [] [.ptr 1 0 0])] [1,0,2,3,4] [some ⟨1,true,[[.ptr 0 0 0]]⟩,some ⟨88,true,[(e9.l state (d9.l c [.int .i64 index,.ptr 2 0 0]))]⟩,some ⟨4,true,[[(f6 3 (List.map (d8 .u8) b3)),(f6 4 (List.map (d8 .u8) b4)),.int .i64 fuse,.bool down]]⟩,some ⟨1,false,(List.map (d8 .u8) b3)⟩,some ⟨1,false,(List.map (d8 .u8) b4)⟩] (List.map H4 Y) [some ⟨88,true,[(e9.l state (d9.l c [.int .i64 index,.ptr 2 0 0]))]⟩,some ⟨1,true,[[.ptr 0 0 0]]⟩,some ⟨4,true,[[(f6 3 (List.map (d8 .u8) b3)),(f6 4 (List.map (d8 .u8) b4)),.int .i64 fuse,.bool down]]⟩,some ⟨1,false,(List.map (d8 .u8) b3)⟩,some ⟨1,false,(List.map (d8 .u8) b4)⟩,some ⟨1,true,[[.ptr 0 0 0]]⟩,some ⟨26,false,[(f3.enc m2)]⟩,some ⟨1,true,[[(f6 8 (List.map f3.enc b8))]]⟩,some ⟨26,false,(List.map f3.enc b8)⟩]:=by
 cases Y with
 | nil=>exact bi1 h ha
 | cons y Y=>exact bi2 h ha
noncomputable def aw4 (m:f3) (state:e9) (c:d9) (index fuse:Int) (down:Bool) (b3 b4:List Int):Option (List f3):=T8 (G5 m state c index fuse down b3 b4) (.s0)
theorem bw6 {m:f3}{state:e9}{c:d9}{index fuse:Int}{down:Bool}{b3 b4:List Int}{r:List f3} (h:Ev (G5 m state c index fuse down b3 b4) (.s0) r):i4 E 63 [.ptr 0 0 0,.fn 138 [] [.ptr 1 0 0],.agg (f3.enc m)] [some ⟨88,true,[(e9.l state (d9.l c [.int .i64 index,.ptr 2 0 0]))]⟩,some ⟨1,true,[[.ptr 0 0 0]]⟩,some ⟨4,true,[[(f6 3 (List.map (d8 .u8) b3)),(f6 4 (List.map (d8 .u8) b4)),.int .i64 fuse,.bool down]]⟩,some ⟨1,false,(List.map (d8 .u8) b3)⟩,some ⟨1,false,(List.map (d8 .u8) b4)⟩] (Rs (z6 state c index fuse down b3 b4) r):=
 ao1 (m:=(Q7 m state c index fuse down b3 b4) (.s0)) (fn:=Tryz.f63) (by kernel_rfl) (by kernel_rfl) (bc3 (Pd:=(J8 m state c index fuse down b3 b4)) (fun s x r hs ha=>by
  cases s with
  | s0=>exact bl6 hs ha
  | s1=>exact bm4 hs ha
  | s2=>exact bn0 hs ha) h)
theorem bw2 {m:f3}{state:e9}{c:d9}{index fuse:Int}{down:Bool}{b3 b4:List Int}{r:List f3} (h:aw4 m state c index fuse down b3 b4=some r):i4 E 63 [.ptr 0 0 0,.fn 138 [] [.ptr 1 0 0],.agg (f3.enc m)] [some ⟨88,true,[(e9.l state (d9.l c [.int .i64 index,.ptr 2 0 0]))]⟩,some ⟨1,true,[[.ptr 0 0 0]]⟩,some ⟨4,true,[[(f6 3 (List.map (d8 .u8) b3)),(f6 4 (List.map (d8 .u8) b4)),.int .i64 fuse,.bool down]]⟩,some ⟨1,false,(List.map (d8 .u8) b3)⟩,some ⟨1,false,(List.map (d8 .u8) b4)⟩] (Rs (z6 state c index fuse down b3 b4) r):=bw6 (bf3 h)
end Go.RX.L

namespace Go.RX.L
open Go Go.RX Go.Proofs
attribute [local irreducible] i0
noncomputable def cB4 (c:d9) (index fuse:Int) (down:Bool) (b2 b3:List Int) (y:(List f3)×e9):D×f4:=(.sl false 26 (List.map f3.enc y.1),[some ⟨88,true,[(e9.l y.2 (d9.l c [.int .i64 index,.ptr 1 0 0]))]⟩,some ⟨4,true,[[(f6 2 (List.map (d8 .u8) b2)),(f6 3 (List.map (d8 .u8) b3)),.int .i64 fuse,.bool down]]⟩,some ⟨1,false,(List.map (d8 .u8) b2)⟩,some ⟨1,false,(List.map (d8 .u8) b3)⟩])
noncomputable def as6 (now:Int) (state:e9) (c:d9) (index fuse:Int) (down:Bool) (b2 b3:List Int):Option ((List f3)×e9):=((aI1 (⟨state.boot,state.known,state.heard,state.votes,state.hold,state.asked,state.prop,state.made,state.top,state.sealed,(⟨true,now⟩:T5)⟩:e9) c index fuse down b2 b3).bind fun y1=>((aw4 (⟨9,0,0,state.known.Epoch,0,0,0,0,0,0,true,state.known,[],[],[]⟩:f3) (⟨state.boot,state.known,state.heard,state.votes,state.hold,state.asked,state.prop,state.made,state.top,state.sealed,(⟨true,now⟩:T5)⟩:e9) c index fuse down b2 b3).bind fun y2=>(some (y2,(⟨state.boot,state.known,state.heard,state.votes,state.hold,state.asked,state.prop,state.made,state.top,state.sealed,(⟨true,now⟩:T5)⟩:e9)))))
theorem bx7 {now:Int}{state:e9}{c:d9}{index fuse:Int}{down:Bool}{b2 b3:List Int}{r:(List f3)×e9} (h:as6 now state c index fuse down b2 b3=some r):i4 E 67 [.ptr 0 0 0,.int .i64 now] [some ⟨88,true,[(e9.l state (d9.l c [.int .i64 index,.ptr 1 0 0]))]⟩,some ⟨4,true,[[(f6 2 (List.map (d8 .u8) b2)),(f6 3 (List.map (d8 .u8) b3)),.int .i64 fuse,.bool down]]⟩,some ⟨1,false,(List.map (d8 .u8) b2)⟩,some ⟨1,false,(List.map (d8 .u8) b3)⟩] (Rs (cB4 c index fuse down b2 b3) r):=so (fn:=Tryz.f67) (k:=true) (m:=4) h<| by
 intro r h;unfold as6 at h
 refine zdR 18 [] h (fun _=>cg7) fun y1 h=> ?_
 refine zc 2 [some 1,some 1,some 1] h (fun _=>bw2) fun y2 h=> ?_
 refine cc1 4 (n1:=(0+(List.map f3.enc y2).length)) (n2:=((List.map f3.enc y2).length)) (raw:=(List.take ((List.map f3.enc y2).length) (List.drop 0 (List.map f3.enc y2)))) (rs:=(List.map f3.enc y2)) (by kernel_rfl) (v6 _) (by simp only [A1,E8,List.map_take,List.map_drop]) ?_
 exact zu 1 h
end Go.RX.L

namespace Go.RX.L
open Go Go.RX Go.Proofs
attribute [local irreducible] i0
noncomputable def bR6 (state:e9) (c:d9) (index fuse:Int) (down:Bool) (b2 b3:List Int) (y:Unit):D×f4:=(.fn 105 [] [.ptr 4 0 0],[some ⟨88,true,[(e9.l state (d9.l c [.int .i64 index,.ptr 1 0 0]))]⟩,some ⟨4,true,[[(f6 2 (List.map (d8 .u8) b2)),(f6 3 (List.map (d8 .u8) b3)),.int .i64 fuse,.bool down]]⟩,some ⟨1,false,(List.map (d8 .u8) b2)⟩,some ⟨1,false,(List.map (d8 .u8) b3)⟩,some ⟨1,true,[[.ptr 0 0 0]]⟩])
noncomputable def L5 (state:e9) (c:d9) (index fuse:Int) (down:Bool) (b2 b3:List Int):Option Unit:=(some ())
theorem aw3 {state:e9}{c:d9}{index fuse:Int}{down:Bool}{b2 b3:List Int}{r:Unit} (h:L5 state c index fuse down b2 b3=some r):i4 E 64 [.ptr 0 0 0] [some ⟨88,true,[(e9.l state (d9.l c [.int .i64 index,.ptr 1 0 0]))]⟩,some ⟨4,true,[[(f6 2 (List.map (d8 .u8) b2)),(f6 3 (List.map (d8 .u8) b3)),.int .i64 fuse,.bool down]]⟩,some ⟨1,false,(List.map (d8 .u8) b2)⟩,some ⟨1,false,(List.map (d8 .u8) b3)⟩] (Rs (bR6 state c index fuse down b2 b3) r):=so (fn:=Tryz.f64) (k:=true) (m:=4) h<| by
 intro r h;unfold L5 at h
 exact zu 11 h
end Go.RX.L

namespace Go.RX.L
open Go Go.RX Go.Proofs
attribute [local irreducible] i0
noncomputable def bW9 (y:Bool):D×f4:=(.bool y,[])
noncomputable def Y4 (o:T5) (now wait:Int):Option Bool:=(bif (!o.ever) then (some true) else (some (decide (((IntKind.i64.wrap (now-o.at_)):Int)≥wait))))
theorem aY2 {o:T5}{now wait:Int}{r:Bool} (h:Y4 o now wait=some r):i4 E 77 [.agg [.bool o.ever,.int .i64 o.at_],.int .i64 now,.int .i64 wait] [] (Rs bW9 r):=so (fn:=Tryz.f77) (k:=false) (m:=0) h<| by
 intro r h;unfold Y4 at h
 refine zs 13 h (fun h=> ?_) fun h=> ?_
 ·
  exact zu 15 h
 exact zu 16 h
end Go.RX.L

namespace Go.RX.L
open Go Go.RX Go.Proofs
attribute [local irreducible] i0
noncomputable def bE6:=p7 (q0 Tryz.f105)
def D2 (y:Int):List D:= [D.int .i64 y]
inductive F0 where
 | s0 (state:e9) (c:d9) (index:Int) (fuse:Int) (down:Bool) (b3:List Int) (b4:List Int)
 | s1 (t8:Int) (t9:Int) (state2:e9) (c2:d9) (index2:Int) (fuse2:Int) (down2:Bool) (b32:List Int) (b42:List Int)
noncomputable def I7 (l:Nat):F0→M
 | .s0 state c index fuse down b3 b4=>⟨[.code (q0 Tryz.f105)],[(0,D.yld l),(1,D.ptr 0 0 0)],[some ⟨1,true,[[D.ptr 1 0 0]]⟩,some ⟨88,true,[[D.int .i64 state.boot,D.int .i64 state.known.Epoch,D.int .i64 state.known.Target,D.int .i64 state.known.Prev,D.int .i64 state.known.Spill,D.int .i64 state.known.Percent,D.int .i64 state.known.Stamp,D.int .i64 state.known.Since,D.int .i64 state.known.Ramped,D.int .u64 state.known.Up,D.int .u64 state.known.Sup,D.sl false 1 (List.map (d8 .i64) state.known.Pen),D.sl false 1 (List.map (d8 .i64) state.known.Changes),D.int .i64 state.heard,D.sl false 3 (List.map i9.enc state.votes),D.int .i64 state.hold.Epoch,D.int .i64 state.hold.Nonce,D.int .u64 state.hold.Grants,D.int .i64 state.hold.Until,D.bool state.asked.ever,D.int .i64 state.asked.at_,D.int .i64 state.prop.Epoch,D.int .i64 state.prop.Ballot,D.int .i64 state.prop.Phase,D.int .i64 state.prop.Own.Epoch,D.int .i64 state.prop.Own.Target,D.int .i64 state.prop.Own.Prev,D.int .i64 state.prop.Own.Spill,D.int .i64 state.prop.Own.Percent,D.int .i64 state.prop.Own.Stamp,D.int .i64 state.prop.Own.Since,D.int .i64 state.prop.Own.Ramped,D.int .u64 state.prop.Own.Up,D.int .u64 state.prop.Own.Sup,D.sl false 1 (List.map (d8 .i64) state.prop.Own.Pen),D.sl false 1 (List.map (d8 .i64) state.prop.Own.Changes),D.int .i64 state.prop.Best,D.int .i64 state.prop.Value.Epoch,D.int .i64 state.prop.Value.Target,D.int .i64 state.prop.Value.Prev,D.int .i64 state.prop.Value.Spill,D.int .i64 state.prop.Value.Percent,D.int .i64 state.prop.Value.Stamp,D.int .i64 state.prop.Value.Since,D.int .i64 state.prop.Value.Ramped,D.int .u64 state.prop.Value.Up,D.int .u64 state.prop.Value.Sup,D.sl false 1 (List.map (d8 .i64) state.prop.Value.Pen),D.sl false 1 (List.map (d8 .i64) state.prop.Value.Changes),D.int .u64 state.prop.Promises,D.int .u64 state.prop.Accepts,D.int .i64 state.made,D.int .i64 state.top,D.int .u64 state.sealed,D.bool state.told.ever,D.int .i64 state.told.at_,D.int .i64 c.F_,D.int .i64 c.Deciders,D.int .i64 c.Targets,D.int .i64 c.Routers,D.int .i64 c.Observers,D.sl false 1 (List.map (d8 .i64) c.Tiers),D.int .i64 c.Every,D.int .i64 c.Wait,D.int .i64 c.Rise,D.int .i64 c.Fall,D.int .i64 c.Fresh,D.int .i64 c.L_,D.int .i64 c.M_,D.int .i64 c.Dwell,D.int .i64 c.D_,D.int .i64 c.W_,D.int .i64 c.B_,D.int .i64 c.Hit,D.int .i64 c.Suppress,D.int .i64 c.Reuse,D.int .i64 c.Half,D.int .i64 c.First,D.int .i64 c.Step,D.int .i64 c.StepTime,D.int .i64 c.S_,D.int .i64 c.Cap,D.int .i64 c.Span,D.int .i64 c.Room,D.int .i64 c.Tries,D.int .i64 c.Retry,D.int .i64 index,D.ptr 2 0 0]]⟩,some ⟨4,true,[[(f6 3 (List.map (d8 .u8) b3)),(f6 4 (List.map (d8 .u8) b4)),D.int .i64 fuse,D.bool down]]⟩,some ⟨1,false,(List.map (d8 .u8) b3)⟩,some ⟨1,false,(List.map (d8 .u8) b4)⟩]⟩
 | .s1 t8 t9 state2 c2 index2 fuse2 down2 b32 b42=>⟨[.lpc (bE6 [1,0,0]) 769,.blk 0],[(0,D.yld l),(8,D.int .i64 t8),(9,D.int .i64 t9)],[some ⟨1,true,[[D.ptr 1 0 0]]⟩,some ⟨88,true,[[D.int .i64 state2.boot,D.int .i64 state2.known.Epoch,D.int .i64 state2.known.Target,D.int .i64 state2.known.Prev,D.int .i64 state2.known.Spill,D.int .i64 state2.known.Percent,D.int .i64 state2.known.Stamp,D.int .i64 state2.known.Since,D.int .i64 state2.known.Ramped,D.int .u64 state2.known.Up,D.int .u64 state2.known.Sup,D.sl false 1 (List.map (d8 .i64) state2.known.Pen),D.sl false 1 (List.map (d8 .i64) state2.known.Changes),D.int .i64 state2.heard,D.sl false 3 (List.map i9.enc state2.votes),D.int .i64 state2.hold.Epoch,D.int .i64 state2.hold.Nonce,D.int .u64 state2.hold.Grants,D.int .i64 state2.hold.Until,D.bool state2.asked.ever,D.int .i64 state2.asked.at_,D.int .i64 state2.prop.Epoch,D.int .i64 state2.prop.Ballot,D.int .i64 state2.prop.Phase,D.int .i64 state2.prop.Own.Epoch,D.int .i64 state2.prop.Own.Target,D.int .i64 state2.prop.Own.Prev,D.int .i64 state2.prop.Own.Spill,D.int .i64 state2.prop.Own.Percent,D.int .i64 state2.prop.Own.Stamp,D.int .i64 state2.prop.Own.Since,D.int .i64 state2.prop.Own.Ramped,D.int .u64 state2.prop.Own.Up,D.int .u64 state2.prop.Own.Sup,D.sl false 1 (List.map (d8 .i64) state2.prop.Own.Pen),D.sl false 1 (List.map (d8 .i64) state2.prop.Own.Changes),D.int .i64 state2.prop.Best,D.int .i64 state2.prop.Value.Epoch,D.int .i64 state2.prop.Value.Target,D.int .i64 state2.prop.Value.Prev,D.int .i64 state2.prop.Value.Spill,D.int .i64 state2.prop.Value.Percent,D.int .i64 state2.prop.Value.Stamp,D.int .i64 state2.prop.Value.Since,D.int .i64 state2.prop.Value.Ramped,D.int .u64 state2.prop.Value.Up,D.int .u64 state2.prop.Value.Sup,D.sl false 1 (List.map (d8 .i64) state2.prop.Value.Pen),D.sl false 1 (List.map (d8 .i64) state2.prop.Value.Changes),D.int .u64 state2.prop.Promises,D.int .u64 state2.prop.Accepts,D.int .i64 state2.made,D.int .i64 state2.top,D.int .u64 state2.sealed,D.bool state2.told.ever,D.int .i64 state2.told.at_,D.int .i64 c2.F_,D.int .i64 c2.Deciders,D.int .i64 c2.Targets,D.int .i64 c2.Routers,D.int .i64 c2.Observers,D.sl false 1 (List.map (d8 .i64) c2.Tiers),D.int .i64 c2.Every,D.int .i64 c2.Wait,D.int .i64 c2.Rise,D.int .i64 c2.Fall,D.int .i64 c2.Fresh,D.int .i64 c2.L_,D.int .i64 c2.M_,D.int .i64 c2.Dwell,D.int .i64 c2.D_,D.int .i64 c2.W_,D.int .i64 c2.B_,D.int .i64 c2.Hit,D.int .i64 c2.Suppress,D.int .i64 c2.Reuse,D.int .i64 c2.Half,D.int .i64 c2.First,D.int .i64 c2.Step,D.int .i64 c2.StepTime,D.int .i64 c2.S_,D.int .i64 c2.Cap,D.int .i64 c2.Span,D.int .i64 c2.Room,D.int .i64 c2.Tries,D.int .i64 c2.Retry,D.int .i64 index2,D.ptr 2 0 0]]⟩,some ⟨4,true,[[(f6 3 (List.map (d8 .u8) b32)),(f6 4 (List.map (d8 .u8) b42)),D.int .i64 fuse2,D.bool down2]]⟩,some ⟨1,false,(List.map (d8 .u8) b32)⟩,some ⟨1,false,(List.map (d8 .u8) b42)⟩]⟩
noncomputable def ab5 (state:e9) (c:d9) (index fuse:Int) (down:Bool) (b3 b4:List Int):Option (List Int×Option F0):=((al7 c).bind fun y1=>(some ([],some (.s1 y1 0 state c index fuse down b3 b4))))
noncomputable def S8 (t8 t9:Int) (state2:e9) (c2:d9) (index2 fuse2:Int) (down2:Bool) (b32 b42:List Int):Option (List Int×Option F0):=(bif (decide ((t9:Int)<t8)) then (Option.map (fun p=>(t9::p.1,p.2)) (some ([],some (.s1 t8 (IntKind.i64.wrap (t9+1)) state2 c2 index2 fuse2 down2 b32 b42)))) else (some ([],none)))
noncomputable def Q8:F0→f4
 | .s0 state c index fuse down b3 b4=> [some ⟨1,true,[[D.ptr 1 0 0]]⟩,some ⟨88,true,[[D.int .i64 state.boot,D.int .i64 state.known.Epoch,D.int .i64 state.known.Target,D.int .i64 state.known.Prev,D.int .i64 state.known.Spill,D.int .i64 state.known.Percent,D.int .i64 state.known.Stamp,D.int .i64 state.known.Since,D.int .i64 state.known.Ramped,D.int .u64 state.known.Up,D.int .u64 state.known.Sup,D.sl false 1 (List.map (d8 .i64) state.known.Pen),D.sl false 1 (List.map (d8 .i64) state.known.Changes),D.int .i64 state.heard,D.sl false 3 (List.map i9.enc state.votes),D.int .i64 state.hold.Epoch,D.int .i64 state.hold.Nonce,D.int .u64 state.hold.Grants,D.int .i64 state.hold.Until,D.bool state.asked.ever,D.int .i64 state.asked.at_,D.int .i64 state.prop.Epoch,D.int .i64 state.prop.Ballot,D.int .i64 state.prop.Phase,D.int .i64 state.prop.Own.Epoch,D.int .i64 state.prop.Own.Target,D.int .i64 state.prop.Own.Prev,D.int .i64 state.prop.Own.Spill,D.int .i64 state.prop.Own.Percent,D.int .i64 state.prop.Own.Stamp,D.int .i64 state.prop.Own.Since,D.int .i64 state.prop.Own.Ramped,D.int .u64 state.prop.Own.Up,D.int .u64 state.prop.Own.Sup,D.sl false 1 (List.map (d8 .i64) state.prop.Own.Pen),D.sl false 1 (List.map (d8 .i64) state.prop.Own.Changes),D.int .i64 state.prop.Best,D.int .i64 state.prop.Value.Epoch,D.int .i64 state.prop.Value.Target,D.int .i64 state.prop.Value.Prev,D.int .i64 state.prop.Value.Spill,D.int .i64 state.prop.Value.Percent,D.int .i64 state.prop.Value.Stamp,D.int .i64 state.prop.Value.Since,D.int .i64 state.prop.Value.Ramped,D.int .u64 state.prop.Value.Up,D.int .u64 state.prop.Value.Sup,D.sl false 1 (List.map (d8 .i64) state.prop.Value.Pen),D.sl false 1 (List.map (d8 .i64) state.prop.Value.Changes),D.int .u64 state.prop.Promises,D.int .u64 state.prop.Accepts,D.int .i64 state.made,D.int .i64 state.top,D.int .u64 state.sealed,D.bool state.told.ever,D.int .i64 state.told.at_,D.int .i64 c.F_,D.int .i64 c.Deciders,D.int .i64 c.Targets,D.int .i64 c.Routers,D.int .i64 c.Observers,D.sl false 1 (List.map (d8 .i64) c.Tiers),D.int .i64 c.Every,D.int .i64 c.Wait,D.int .i64 c.Rise,D.int .i64 c.Fall,D.int .i64 c.Fresh,D.int .i64 c.L_,D.int .i64 c.M_,D.int .i64 c.Dwell,D.int .i64 c.D_,D.int .i64 c.W_,D.int .i64 c.B_,D.int .i64 c.Hit,D.int .i64 c.Suppress,D.int .i64 c.Reuse,D.int .i64 c.Half,D.int .i64 c.First,D.int .i64 c.Step,D.int .i64 c.StepTime,D.int .i64 c.S_,D.int .i64 c.Cap,D.int .i64 c.Span,D.int .i64 c.Room,D.int .i64 c.Tries,D.int .i64 c.Retry,D.int .i64 index,D.ptr 2 0 0]]⟩,some ⟨4,true,[[(f6 3 (List.map (d8 .u8) b3)),(f6 4 (List.map (d8 .u8) b4)),D.int .i64 fuse,D.bool down]]⟩,some ⟨1,false,(List.map (d8 .u8) b3)⟩,some ⟨1,false,(List.map (d8 .u8) b4)⟩]
 | .s1 t8 t9 state2 c2 index2 fuse2 down2 b32 b42=> [some ⟨1,true,[[D.ptr 1 0 0]]⟩,some ⟨88,true,[[D.int .i64 state2.boot,D.int .i64 state2.known.Epoch,D.int .i64 state2.known.Target,D.int .i64 state2.known.Prev,D.int .i64 state2.known.Spill,D.int .i64 state2.known.Percent,D.int .i64 state2.known.Stamp,D.int .i64 state2.known.Since,D.int .i64 state2.known.Ramped,D.int .u64 state2.known.Up,D.int .u64 state2.known.Sup,D.sl false 1 (List.map (d8 .i64) state2.known.Pen),D.sl false 1 (List.map (d8 .i64) state2.known.Changes),D.int .i64 state2.heard,D.sl false 3 (List.map i9.enc state2.votes),D.int .i64 state2.hold.Epoch,D.int .i64 state2.hold.Nonce,D.int .u64 state2.hold.Grants,D.int .i64 state2.hold.Until,D.bool state2.asked.ever,D.int .i64 state2.asked.at_,D.int .i64 state2.prop.Epoch,D.int .i64 state2.prop.Ballot,D.int .i64 state2.prop.Phase,D.int .i64 state2.prop.Own.Epoch,D.int .i64 state2.prop.Own.Target,D.int .i64 state2.prop.Own.Prev,D.int .i64 state2.prop.Own.Spill,D.int .i64 state2.prop.Own.Percent,D.int .i64 state2.prop.Own.Stamp,D.int .i64 state2.prop.Own.Since,D.int .i64 state2.prop.Own.Ramped,D.int .u64 state2.prop.Own.Up,D.int .u64 state2.prop.Own.Sup,D.sl false 1 (List.map (d8 .i64) state2.prop.Own.Pen),D.sl false 1 (List.map (d8 .i64) state2.prop.Own.Changes),D.int .i64 state2.prop.Best,D.int .i64 state2.prop.Value.Epoch,D.int .i64 state2.prop.Value.Target,D.int .i64 state2.prop.Value.Prev,D.int .i64 state2.prop.Value.Spill,D.int .i64 state2.prop.Value.Percent,D.int .i64 state2.prop.Value.Stamp,D.int .i64 state2.prop.Value.Since,D.int .i64 state2.prop.Value.Ramped,D.int .u64 state2.prop.Value.Up,D.int .u64 state2.prop.Value.Sup,D.sl false 1 (List.map (d8 .i64) state2.prop.Value.Pen),D.sl false 1 (List.map (d8 .i64) state2.prop.Value.Changes),D.int .u64 state2.prop.Promises,D.int .u64 state2.prop.Accepts,D.int .i64 state2.made,D.int .i64 state2.top,D.int .u64 state2.sealed,D.bool state2.told.ever,D.int .i64 state2.told.at_,D.int .i64 c2.F_,D.int .i64 c2.Deciders,D.int .i64 c2.Targets,D.int .i64 c2.Routers,D.int .i64 c2.Observers,D.sl false 1 (List.map (d8 .i64) c2.Tiers),D.int .i64 c2.Every,D.int .i64 c2.Wait,D.int .i64 c2.Rise,D.int .i64 c2.Fall,D.int .i64 c2.Fresh,D.int .i64 c2.L_,D.int .i64 c2.M_,D.int .i64 c2.Dwell,D.int .i64 c2.D_,D.int .i64 c2.W_,D.int .i64 c2.B_,D.int .i64 c2.Hit,D.int .i64 c2.Suppress,D.int .i64 c2.Reuse,D.int .i64 c2.Half,D.int .i64 c2.First,D.int .i64 c2.Step,D.int .i64 c2.StepTime,D.int .i64 c2.S_,D.int .i64 c2.Cap,D.int .i64 c2.Span,D.int .i64 c2.Room,D.int .i64 c2.Tries,D.int .i64 c2.Retry,D.int .i64 index2,D.ptr 2 0 0]]⟩,some ⟨4,true,[[(f6 3 (List.map (d8 .u8) b32)),(f6 4 (List.map (d8 .u8) b42)),D.int .i64 fuse2,D.bool down2]]⟩,some ⟨1,false,(List.map (d8 .u8) b32)⟩,some ⟨1,false,(List.map (d8 .u8) b42)⟩]
noncomputable def I5:F0→Option (List Int×Option F0)
 | .s0 state c index fuse down b3 b4=>ab5 state c index fuse down b3 b4
 | .s1 t8 t9 state2 c2 index2 fuse2 down2 b32 b42=>S8 t8 t9 state2 c2 index2 fuse2 down2 b32 b42
theorem br6 {l:Nat}{ln:f4}{φ0:q8}{J:Option (List (List D))→World→(Nat→Prop)→(Nat→Prop)→Prop}{state:e9}{c:d9}{index fuse:Int}{down:Bool}{b3 b4:List Int}{x:List Int×Option F0}{Y:List (List D)} (hl:Q8 (.s0 state c index fuse down b3 b4)=ln) (h:ab5 state c index fuse down b3 b4=some x) (ha:aa5 E ln (Cx.seq Tryz.f105 5 ln l φ0 J) D2 (I7 l) Q8 x Y):i0 E (Cx.seq Tryz.f105 5 ln l φ0 J (some Y)) (fun _ s=>P0 ln s) (.go (I7 l (.s0 state c index fuse down b3 b4))):=by
 subst hl
 unfold ab5 at h
 refine zc 9 [] h (fun _=>br4) fun y1 h=> ?_
 refine l6 hm 5 _ ?_
 obtain rfl:=Option.some.inj h
 exact aR3 (q' := .go (I7 l (.s1 y1 0 state c index fuse down b3 b4))) (by kernel_rfl) (L1 (by kernel_rfl) ha)
theorem bu1 {l:Nat}{ln:f4}{φ0:q8}{J:Option (List (List D))→World→(Nat→Prop)→(Nat→Prop)→Prop}{t8 t9:Int}{state2:e9}{c2:d9}{index2 fuse2:Int}{down2:Bool}{b32 b42:List Int}{x:List Int×Option F0}{Y:List (List D)} (hl:Q8 (.s1 t8 t9 state2 c2 index2 fuse2 down2 b32 b42)=ln) (h:S8 t8 t9 state2 c2 index2 fuse2 down2 b32 b42=some x) (ha:aa5 E ln (Cx.seq Tryz.f105 5 ln l φ0 J) D2 (I7 l) Q8 x Y):i0 E (Cx.seq Tryz.f105 5 ln l φ0 J (some Y)) (fun _ s=>P0 ln s) (.go (I7 l (.s1 t8 t9 state2 c2 index2 fuse2 down2 b32 b42))):=by
 subst hl
 unfold S8 at h
 refine zs 7 h (fun h=> ?_) fun h=> ?_
 ·
  refine l6 hm 13 _ ?_
  refine bH9 (x:=t9) (s:= [some ⟨1,true,[[D.ptr 1 0 0]]⟩,some ⟨88,true,[[D.int .i64 state2.boot,D.int .i64 state2.known.Epoch,D.int .i64 state2.known.Target,D.int .i64 state2.known.Prev,D.int .i64 state2.known.Spill,D.int .i64 state2.known.Percent,D.int .i64 state2.known.Stamp,D.int .i64 state2.known.Since,D.int .i64 state2.known.Ramped,D.int .u64 state2.known.Up,D.int .u64 state2.known.Sup,D.sl false 1 (List.map (d8 .i64) state2.known.Pen),D.sl false 1 (List.map (d8 .i64) state2.known.Changes),D.int .i64 state2.heard,D.sl false 3 (List.map i9.enc state2.votes),D.int .i64 state2.hold.Epoch,D.int .i64 state2.hold.Nonce,D.int .u64 state2.hold.Grants,D.int .i64 state2.hold.Until,D.bool state2.asked.ever,D.int .i64 state2.asked.at_,D.int .i64 state2.prop.Epoch,D.int .i64 state2.prop.Ballot,D.int .i64 state2.prop.Phase,D.int .i64 state2.prop.Own.Epoch,D.int .i64 state2.prop.Own.Target,D.int .i64 state2.prop.Own.Prev,D.int .i64 state2.prop.Own.Spill,D.int .i64 state2.prop.Own.Percent,D.int .i64 state2.prop.Own.Stamp,D.int .i64 state2.prop.Own.Since,D.int .i64 state2.prop.Own.Ramped,D.int .u64 state2.prop.Own.Up,D.int .u64 state2.prop.Own.Sup,D.sl false 1 (List.map (d8 .i64) state2.prop.Own.Pen),D.sl false 1 (List.map (d8 .i64) state2.prop.Own.Changes),D.int .i64 state2.prop.Best,D.int .i64 state2.prop.Value.Epoch,D.int .i64 state2.prop.Value.Target,D.int .i64 state2.prop.Value.Prev,D.int .i64 state2.prop.Value.Spill,D.int .i64 state2.prop.Value.Percent,D.int .i64 state2.prop.Value.Stamp,D.int .i64 state2.prop.Value.Since,D.int .i64 state2.prop.Value.Ramped,D.int .u64 state2.prop.Value.Up,D.int .u64 state2.prop.Value.Sup,D.sl false 1 (List.map (d8 .i64) state2.prop.Value.Pen),D.sl false 1 (List.map (d8 .i64) state2.prop.Value.Changes),D.int .u64 state2.prop.Promises,D.int .u64 state2.prop.Accepts,D.int .i64 state2.made,D.int .i64 state2.top,D.int .u64 state2.sealed,D.bool state2.told.ever,D.int .i64 state2.told.at_,D.int .i64 c2.F_,D.int .i64 c2.Deciders,D.int .i64 c2.Targets,D.int .i64 c2.Routers,D.int .i64 c2.Observers,D.sl false 1 (List.map (d8 .i64) c2.Tiers),D.int .i64 c2.Every,D.int .i64 c2.Wait,D.int .i64 c2.Rise,D.int .i64 c2.Fall,D.int .i64 c2.Fresh,D.int .i64 c2.L_,D.int .i64 c2.M_,D.int .i64 c2.Dwell,D.int .i64 c2.D_,D.int .i64 c2.W_,D.int .i64 c2.B_,D.int .i64 c2.Hit,D.int .i64 c2.Suppress,D.int .i64 c2.Reuse,D.int .i64 c2.Half,D.int .i64 c2.First,D.int .i64 c2.Step,D.int .i64 c2.StepTime,D.int .i64 c2.S_,D.int .i64 c2.Cap,D.int .i64 c2.Span,D.int .i64 c2.Room,D.int .i64 c2.Tries,D.int .i64 c2.Retry,D.int .i64 index2,D.ptr 2 0 0]]⟩,some ⟨4,true,[[(f6 3 (List.map (d8 .u8) b32)),(f6 4 (List.map (d8 .u8) b42)),D.int .i64 fuse2,D.bool down2]]⟩,some ⟨1,false,(List.map (d8 .u8) b32)⟩,some ⟨1,false,(List.map (d8 .u8) b42)⟩]) h ha (by kernel_rfl) (by kernel_rfl) ?_ (fun p Y h ha=> ?_)
  ·--it is stopped
   refine l6 hm 5 _ ?_
   exact bt5 (d:=D.tup []) (s:= [some ⟨1,true,[[D.ptr 1 0 0]]⟩,some ⟨88,true,[[D.int .i64 state2.boot,D.int .i64 state2.known.Epoch,D.int .i64 state2.known.Target,D.int .i64 state2.known.Prev,D.int .i64 state2.known.Spill,D.int .i64 state2.known.Percent,D.int .i64 state2.known.Stamp,D.int .i64 state2.known.Since,D.int .i64 state2.known.Ramped,D.int .u64 state2.known.Up,D.int .u64 state2.known.Sup,D.sl false 1 (List.map (d8 .i64) state2.known.Pen),D.sl false 1 (List.map (d8 .i64) state2.known.Changes),D.int .i64 state2.heard,D.sl false 3 (List.map i9.enc state2.votes),D.int .i64 state2.hold.Epoch,D.int .i64 state2.hold.Nonce,D.int .u64 state2.hold.Grants,D.int .i64 state2.hold.Until,D.bool state2.asked.ever,D.int .i64 state2.asked.at_,D.int .i64 state2.prop.Epoch,D.int .i64 state2.prop.Ballot,D.int .i64 state2.prop.Phase,D.int .i64 state2.prop.Own.Epoch,D.int .i64 state2.prop.Own.Target,D.int .i64 state2.prop.Own.Prev,D.int .i64 state2.prop.Own.Spill,D.int .i64 state2.prop.Own.Percent,D.int .i64 state2.prop.Own.Stamp,D.int .i64 state2.prop.Own.Since,D.int .i64 state2.prop.Own.Ramped,D.int .u64 state2.prop.Own.Up,D.int .u64 state2.prop.Own.Sup,D.sl false 1 (List.map (d8 .i64) state2.prop.Own.Pen),D.sl false 1 (List.map (d8 .i64) state2.prop.Own.Changes),D.int .i64 state2.prop.Best,D.int .i64 state2.prop.Value.Epoch,D.int .i64 state2.prop.Value.Target,D.int .i64 state2.prop.Value.Prev,D.int .i64 state2.prop.Value.Spill,D.int .i64 state2.prop.Value.Percent,D.int .i64 state2.prop.Value.Stamp,D.int .i64 state2.prop.Value.Since,D.int .i64 state2.prop.Value.Ramped,D.int .u64 state2.prop.Value.Up,D.int .u64 state2.prop.Value.Sup,D.sl false 1 (List.map (d8 .i64) state2.prop.Value.Pen),D.sl false 1 (List.map (d8 .i64) state2.prop.Value.Changes),D.int .u64 state2.prop.Promises,D.int .u64 state2.prop.Accepts,D.int .i64 state2.made,D.int .i64 state2.top,D.int .u64 state2.sealed,D.bool state2.told.ever,D.int .i64 state2.told.at_,D.int .i64 c2.F_,D.int .i64 c2.Deciders,D.int .i64 c2.Targets,D.int .i64 c2.Routers,D.int .i64 c2.Observers,D.sl false 1 (List.map (d8 .i64) c2.Tiers),D.int .i64 c2.Every,D.int .i64 c2.Wait,D.int .i64 c2.Rise,D.int .i64 c2.Fall,D.int .i64 c2.Fresh,D.int .i64 c2.L_,D.int .i64 c2.M_,D.int .i64 c2.Dwell,D.int .i64 c2.D_,D.int .i64 c2.W_,D.int .i64 c2.B_,D.int .i64 c2.Hit,D.int .i64 c2.Suppress,D.int .i64 c2.Reuse,D.int .i64 c2.Half,D.int .i64 c2.First,D.int .i64 c2.Step,D.int .i64 c2.StepTime,D.int .i64 c2.S_,D.int .i64 c2.Cap,D.int .i64 c2.Span,D.int .i64 c2.Room,D.int .i64 c2.Tries,D.int .i64 c2.Retry,D.int .i64 index2,D.ptr 2 0 0]]⟩,some ⟨4,true,[[(f6 3 (List.map (d8 .u8) b32)),(f6 4 (List.map (d8 .u8) b42)),D.int .i64 fuse2,D.bool down2]]⟩,some ⟨1,false,(List.map (d8 .u8) b32)⟩,some ⟨1,false,(List.map (d8 .u8) b42)⟩]) (by kernel_rfl) (by kernel_rfl)
  ·--it goes on
   refine l6 hm 11 _ ?_
   obtain rfl:=Option.some.inj h
   exact aR3 (q' := .go (I7 l (.s1 t8 (IntKind.i64.wrap (t9+1)) state2 c2 index2 fuse2 down2 b32 b42))) (by kernel_rfl) (L1 (by kernel_rfl) ha)
 refine l6 hm 2 _ ?_
 obtain rfl:=Option.some.inj h
 exact bD8 (d:=D.tup []) (s:= [some ⟨1,true,[[D.ptr 1 0 0]]⟩,some ⟨88,true,[[D.int .i64 state2.boot,D.int .i64 state2.known.Epoch,D.int .i64 state2.known.Target,D.int .i64 state2.known.Prev,D.int .i64 state2.known.Spill,D.int .i64 state2.known.Percent,D.int .i64 state2.known.Stamp,D.int .i64 state2.known.Since,D.int .i64 state2.known.Ramped,D.int .u64 state2.known.Up,D.int .u64 state2.known.Sup,D.sl false 1 (List.map (d8 .i64) state2.known.Pen),D.sl false 1 (List.map (d8 .i64) state2.known.Changes),D.int .i64 state2.heard,D.sl false 3 (List.map i9.enc state2.votes),D.int .i64 state2.hold.Epoch,D.int .i64 state2.hold.Nonce,D.int .u64 state2.hold.Grants,D.int .i64 state2.hold.Until,D.bool state2.asked.ever,D.int .i64 state2.asked.at_,D.int .i64 state2.prop.Epoch,D.int .i64 state2.prop.Ballot,D.int .i64 state2.prop.Phase,D.int .i64 state2.prop.Own.Epoch,D.int .i64 state2.prop.Own.Target,D.int .i64 state2.prop.Own.Prev,D.int .i64 state2.prop.Own.Spill,D.int .i64 state2.prop.Own.Percent,D.int .i64 state2.prop.Own.Stamp,D.int .i64 state2.prop.Own.Since,D.int .i64 state2.prop.Own.Ramped,D.int .u64 state2.prop.Own.Up,D.int .u64 state2.prop.Own.Sup,D.sl false 1 (List.map (d8 .i64) state2.prop.Own.Pen),D.sl false 1 (List.map (d8 .i64) state2.prop.Own.Changes),D.int .i64 state2.prop.Best,D.int .i64 state2.prop.Value.Epoch,D.int .i64 state2.prop.Value.Target,D.int .i64 state2.prop.Value.Prev,D.int .i64 state2.prop.Value.Spill,D.int .i64 state2.prop.Value.Percent,D.int .i64 state2.prop.Value.Stamp,D.int .i64 state2.prop.Value.Since,D.int .i64 state2.prop.Value.Ramped,D.int .u64 state2.prop.Value.Up,D.int .u64 state2.prop.Value.Sup,D.sl false 1 (List.map (d8 .i64) state2.prop.Value.Pen),D.sl false 1 (List.map (d8 .i64) state2.prop.Value.Changes),D.int .u64 state2.prop.Promises,D.int .u64 state2.prop.Accepts,D.int .i64 state2.made,D.int .i64 state2.top,D.int .u64 state2.sealed,D.bool state2.told.ever,D.int .i64 state2.told.at_,D.int .i64 c2.F_,D.int .i64 c2.Deciders,D.int .i64 c2.Targets,D.int .i64 c2.Routers,D.int .i64 c2.Observers,D.sl false 1 (List.map (d8 .i64) c2.Tiers),D.int .i64 c2.Every,D.int .i64 c2.Wait,D.int .i64 c2.Rise,D.int .i64 c2.Fall,D.int .i64 c2.Fresh,D.int .i64 c2.L_,D.int .i64 c2.M_,D.int .i64 c2.Dwell,D.int .i64 c2.D_,D.int .i64 c2.W_,D.int .i64 c2.B_,D.int .i64 c2.Hit,D.int .i64 c2.Suppress,D.int .i64 c2.Reuse,D.int .i64 c2.Half,D.int .i64 c2.First,D.int .i64 c2.Step,D.int .i64 c2.StepTime,D.int .i64 c2.S_,D.int .i64 c2.Cap,D.int .i64 c2.Span,D.int .i64 c2.Room,D.int .i64 c2.Tries,D.int .i64 c2.Retry,D.int .i64 index2,D.ptr 2 0 0]]⟩,some ⟨4,true,[[(f6 3 (List.map (d8 .u8) b32)),(f6 4 (List.map (d8 .u8) b42)),D.int .i64 fuse2,D.bool down2]]⟩,some ⟨1,false,(List.map (d8 .u8) b32)⟩,some ⟨1,false,(List.map (d8 .u8) b42)⟩]) (by kernel_rfl) (by kernel_rfl) ha
noncomputable def ak9 (state:e9) (c:d9) (index fuse:Int) (down:Bool) (b3 b4:List Int):Option (List Int):=evl I5 (.s0 state c index fuse down b3 b4)
theorem bz8 {state:e9}{c:d9}{index fuse:Int}{down:Bool}{b3 b4 r:List Int} (h:ak9 state c index fuse down b3 b4=some r):aj2 E 105 [D.ptr 0 0 0] [some ⟨1,true,[[D.ptr 1 0 0]]⟩,some ⟨88,true,[[D.int .i64 state.boot,D.int .i64 state.known.Epoch,D.int .i64 state.known.Target,D.int .i64 state.known.Prev,D.int .i64 state.known.Spill,D.int .i64 state.known.Percent,D.int .i64 state.known.Stamp,D.int .i64 state.known.Since,D.int .i64 state.known.Ramped,D.int .u64 state.known.Up,D.int .u64 state.known.Sup,D.sl false 1 (List.map (d8 .i64) state.known.Pen),D.sl false 1 (List.map (d8 .i64) state.known.Changes),D.int .i64 state.heard,D.sl false 3 (List.map i9.enc state.votes),D.int .i64 state.hold.Epoch,D.int .i64 state.hold.Nonce,D.int .u64 state.hold.Grants,D.int .i64 state.hold.Until,D.bool state.asked.ever,D.int .i64 state.asked.at_,D.int .i64 state.prop.Epoch,D.int .i64 state.prop.Ballot,D.int .i64 state.prop.Phase,D.int .i64 state.prop.Own.Epoch,D.int .i64 state.prop.Own.Target,D.int .i64 state.prop.Own.Prev,D.int .i64 state.prop.Own.Spill,D.int .i64 state.prop.Own.Percent,D.int .i64 state.prop.Own.Stamp,D.int .i64 state.prop.Own.Since,D.int .i64 state.prop.Own.Ramped,D.int .u64 state.prop.Own.Up,D.int .u64 state.prop.Own.Sup,D.sl false 1 (List.map (d8 .i64) state.prop.Own.Pen),D.sl false 1 (List.map (d8 .i64) state.prop.Own.Changes),D.int .i64 state.prop.Best,D.int .i64 state.prop.Value.Epoch,D.int .i64 state.prop.Value.Target,D.int .i64 state.prop.Value.Prev,D.int .i64 state.prop.Value.Spill,D.int .i64 state.prop.Value.Percent,D.int .i64 state.prop.Value.Stamp,D.int .i64 state.prop.Value.Since,D.int .i64 state.prop.Value.Ramped,D.int .u64 state.prop.Value.Up,D.int .u64 state.prop.Value.Sup,D.sl false 1 (List.map (d8 .i64) state.prop.Value.Pen),D.sl false 1 (List.map (d8 .i64) state.prop.Value.Changes),D.int .u64 state.prop.Promises,D.int .u64 state.prop.Accepts,D.int .i64 state.made,D.int .i64 state.top,D.int .u64 state.sealed,D.bool state.told.ever,D.int .i64 state.told.at_,D.int .i64 c.F_,D.int .i64 c.Deciders,D.int .i64 c.Targets,D.int .i64 c.Routers,D.int .i64 c.Observers,D.sl false 1 (List.map (d8 .i64) c.Tiers),D.int .i64 c.Every,D.int .i64 c.Wait,D.int .i64 c.Rise,D.int .i64 c.Fall,D.int .i64 c.Fresh,D.int .i64 c.L_,D.int .i64 c.M_,D.int .i64 c.Dwell,D.int .i64 c.D_,D.int .i64 c.W_,D.int .i64 c.B_,D.int .i64 c.Hit,D.int .i64 c.Suppress,D.int .i64 c.Reuse,D.int .i64 c.Half,D.int .i64 c.First,D.int .i64 c.Step,D.int .i64 c.StepTime,D.int .i64 c.S_,D.int .i64 c.Cap,D.int .i64 c.Span,D.int .i64 c.Room,D.int .i64 c.Tries,D.int .i64 c.Retry,D.int .i64 index,D.ptr 2 0 0]]⟩,some ⟨4,true,[[(f6 3 (List.map (d8 .u8) b3)),(f6 4 (List.map (d8 .u8) b4)),D.int .i64 fuse,D.bool down]]⟩,some ⟨1,false,(List.map (d8 .u8) b3)⟩,some ⟨1,false,(List.map (d8 .u8) b4)⟩] [some ⟨1,true,[[D.ptr 1 0 0]]⟩,some ⟨88,true,[[D.int .i64 state.boot,D.int .i64 state.known.Epoch,D.int .i64 state.known.Target,D.int .i64 state.known.Prev,D.int .i64 state.known.Spill,D.int .i64 state.known.Percent,D.int .i64 state.known.Stamp,D.int .i64 state.known.Since,D.int .i64 state.known.Ramped,D.int .u64 state.known.Up,D.int .u64 state.known.Sup,D.sl false 1 (List.map (d8 .i64) state.known.Pen),D.sl false 1 (List.map (d8 .i64) state.known.Changes),D.int .i64 state.heard,D.sl false 3 (List.map i9.enc state.votes),D.int .i64 state.hold.Epoch,D.int .i64 state.hold.Nonce,D.int .u64 state.hold.Grants,D.int .i64 state.hold.Until,D.bool state.asked.ever,D.int .i64 state.asked.at_,D.int .i64 state.prop.Epoch,D.int .i64 state.prop.Ballot,D.int .i64 state.prop.Phase,D.int .i64 state.prop.Own.Epoch,D.int .i64 state.prop.Own.Target,D.int .i64 state.prop.Own.Prev,D.int .i64 state.prop.Own.Spill,D.int .i64 state.prop.Own.Percent,D.int .i64 state.prop.Own.Stamp,D.int .i64 state.prop.Own.Since,D.int .i64 state.prop.Own.Ramped,D.int .u64 state.prop.Own.Up,D.int .u64 state.prop.Own.Sup,D.sl false 1 (List.map (d8 .i64) state.prop.Own.Pen),D.sl false 1 (List.map (d8 .i64) state.prop.Own.Changes),D.int .i64 state.prop.Best,D.int .i64 state.prop.Value.Epoch,D.int .i64 state.prop.Value.Target,D.int .i64 state.prop.Value.Prev,D.int .i64 state.prop.Value.Spill,D.int .i64 state.prop.Value.Percent,D.int .i64 state.prop.Value.Stamp,D.int .i64 state.prop.Value.Since,D.int .i64 state.prop.Value.Ramped,D.int .u64 state.prop.Value.Up,D.int .u64 state.prop.Value.Sup,D.sl false 1 (List.map (d8 .i64) state.prop.Value.Pen),D.sl false 1 (List.map (d8 .i64) state.prop.Value.Changes),D.int .u64 state.prop.Promises,D.int .u64 state.prop.Accepts,D.int .i64 state.made,D.int .i64 state.top,D.int .u64 state.sealed,D.bool state.told.ever,D.int .i64 state.told.at_,D.int .i64 c.F_,D.int .i64 c.Deciders,D.int .i64 c.Targets,D.int .i64 c.Routers,D.int .i64 c.Observers,D.sl false 1 (List.map (d8 .i64) c.Tiers),D.int .i64 c.Every,D.int .i64 c.Wait,D.int .i64 c.Rise,D.int .i64 c.Fall,D.int .i64 c.Fresh,D.int .i64 c.L_,D.int .i64 c.M_,D.int .i64 c.Dwell,D.int .i64 c.D_,D.int .i64 c.W_,D.int .i64 c.B_,D.int .i64 c.Hit,D.int .i64 c.Suppress,D.int .i64 c.Reuse,D.int .i64 c.Half,D.int .i64 c.First,D.int .i64 c.Step,D.int .i64 c.StepTime,D.int .i64 c.S_,D.int .i64 c.Cap,D.int .i64 c.Span,D.int .i64 c.Room,D.int .i64 c.Tries,D.int .i64 c.Retry,D.int .i64 index,D.ptr 2 0 0]]⟩,some ⟨4,true,[[(f6 3 (List.map (d8 .u8) b3)),(f6 4 (List.map (d8 .u8) b4)),D.int .i64 fuse,D.bool down]]⟩,some ⟨1,false,(List.map (d8 .u8) b3)⟩,some ⟨1,false,(List.map (d8 .u8) b4)⟩] (List.map D2 r):=
 bE1 (m:=fun l=>I7 l (.s0 state c index fuse down b3 b4)) (fn:=Tryz.f105) (by kernel_rfl) (fun l=>by kernel_rfl) (show List.take _ _=_ by kernel_rfl) (show B7 _ _=_ by kernel_rfl) (fun l φ0 J=>bq0 (step:=I5) (lnS:=Q8) (fun s x Y hl hs ha=>by
  cases s with
  | s0=>exact br6 hl hs ha
  | s1=>exact bu1 hl hs ha) (by kernel_rfl) (bH4 h))
end Go.RX.L

namespace Go.RX.L
open Go Go.RX Go.Proofs
attribute [local irreducible] i0
noncomputable def p5:=p7 (q0 Tryz.f63)
noncomputable def v9 (state:e9) (c:d9) (index fuse:Int) (down:Bool) (b3 b4:List Int) (y:List f3):D×f4:=((f6 5 (List.map f3.enc y)),[some ⟨88,true,[(e9.l state (d9.l c [.int .i64 index,.ptr 2 0 0]))]⟩,some ⟨1,true,[[.ptr 0 0 0]]⟩,some ⟨4,true,[[(f6 3 (List.map (d8 .u8) b3)),(f6 4 (List.map (d8 .u8) b4)),.int .i64 fuse,.bool down]]⟩,some ⟨1,false,(List.map (d8 .u8) b3)⟩,some ⟨1,false,(List.map (d8 .u8) b4)⟩,some ⟨26,false,(List.map f3.enc y)⟩])
inductive r7 where
 | s0
 | s1 (b8:List f3)
 | s2 (m2:f3) (b8:List f3) (Y:List Int)
noncomputable def M1 (m:f3) (state:e9) (c:d9) (index fuse:Int) (down:Bool) (b3 b4:List Int):r7→M
 | .s0=>A6 Tryz.f63 [.ptr 0 0 0,.fn 105 [] [.ptr 1 0 0],.agg (f3.enc m)] [some ⟨88,true,[(e9.l state (d9.l c [.int .i64 index,.ptr 2 0 0]))]⟩,some ⟨1,true,[[.ptr 0 0 0]]⟩,some ⟨4,true,[[(f6 3 (List.map (d8 .u8) b3)),(f6 4 (List.map (d8 .u8) b4)),.int .i64 fuse,.bool down]]⟩,some ⟨1,false,(List.map (d8 .u8) b3)⟩,some ⟨1,false,(List.map (d8 .u8) b4)⟩]
 | .s1 b8=>⟨[.code (p5 [1,1,0,1,0]),.blk 0,.code (p5 [1,1,1])],[(3,.ptr 5 0 0),(5,.ptr 6 0 0),(7,.ptr 7 0 0),(9,.fn 105 [] [.ptr 1 0 0])],[some ⟨88,true,[(e9.l state (d9.l c [.int .i64 index,.ptr 2 0 0]))]⟩,some ⟨1,true,[[.ptr 0 0 0]]⟩,some ⟨4,true,[[(f6 3 (List.map (d8 .u8) b3)),(f6 4 (List.map (d8 .u8) b4)),.int .i64 fuse,.bool down]]⟩,some ⟨1,false,(List.map (d8 .u8) b3)⟩,some ⟨1,false,(List.map (d8 .u8) b4)⟩,some ⟨1,true,[[.ptr 0 0 0]]⟩,some ⟨26,false,[(f3.enc m)]⟩,some ⟨1,true,[[(f6 8 (List.map f3.enc b8))]]⟩,some ⟨26,false,(List.map f3.enc b8)⟩]⟩
 | .s2 m2 b8 Y=>⟨[.blk 0,.code (p5 [1,1,1])],[(3,.ptr 5 0 0),(5,.ptr 6 0 0),(7,.ptr 7 0 0),(9,.fn 105 [] [.ptr 1 0 0])],[some ⟨88,true,[(e9.l state (d9.l c [.int .i64 index,.ptr 2 0 0]))]⟩,some ⟨1,true,[[.ptr 0 0 0]]⟩,some ⟨4,true,[[(f6 3 (List.map (d8 .u8) b3)),(f6 4 (List.map (d8 .u8) b4)),.int .i64 fuse,.bool down]]⟩,some ⟨1,false,(List.map (d8 .u8) b3)⟩,some ⟨1,false,(List.map (d8 .u8) b4)⟩,some ⟨1,true,[[.ptr 0 0 0]]⟩,some ⟨26,false,[(f3.enc m2)]⟩,some ⟨1,true,[[(f6 8 (List.map f3.enc b8))]]⟩,some ⟨26,false,(List.map f3.enc b8)⟩]⟩
noncomputable def F4 (m:f3) (state:e9) (c:d9) (index fuse:Int) (down:Bool) (b3 b4:List Int):r7→(List f3)→Prop
 | .s0,r_=>i0 E (Cx.of Tryz.f63 true 5) (QW (Rs (v9 state c index fuse down b3 b4) r_)) (.go ((M1 m state c index fuse down b3 b4) (.s0)))
 | .s1 b8,r_=>i0 E (Cx.of Tryz.f63 true 5) (QW (Rs (v9 state c index fuse down b3 b4) r_)) (.go ((M1 m state c index fuse down b3 b4) (.s1 b8)))
 | .s2 m2 b8 Y,r_=>M2 E (Cx.of Tryz.f63 true 5) (QW (Rs (v9 state c index fuse down b3 b4) r_)) 8 (p5 [1,1,0,1,0]) [.blk 0,.code (p5 [1,1,1])] [(3,.ptr 5 0 0),(5,.ptr 6 0 0),(7,.ptr 7 0 0),(9,.fn 105 [] [.ptr 1 0 0])] [1,0,2,3,4] [some ⟨1,true,[[.ptr 0 0 0]]⟩,some ⟨88,true,[(e9.l state (d9.l c [.int .i64 index,.ptr 2 0 0]))]⟩,some ⟨4,true,[[(f6 3 (List.map (d8 .u8) b3)),(f6 4 (List.map (d8 .u8) b4)),.int .i64 fuse,.bool down]]⟩,some ⟨1,false,(List.map (d8 .u8) b3)⟩,some ⟨1,false,(List.map (d8 .u8) b4)⟩] (List.map D2 Y) [some ⟨88,true,[(e9.l state (d9.l c [.int .i64 index,.ptr 2 0 0]))]⟩,some ⟨1,true,[[.ptr 0 0 0]]⟩,some ⟨4,true,[[(f6 3 (List.map (d8 .u8) b3)),(f6 4 (List.map (d8 .u8) b4)),.int .i64 fuse,.bool down]]⟩,some ⟨1,false,(List.map (d8 .u8) b3)⟩,some ⟨1,false,(List.map (d8 .u8) b4)⟩,some ⟨1,true,[[.ptr 0 0 0]]⟩,some ⟨26,false,[(f3.enc m2)]⟩,some ⟨1,true,[[(f6 8 (List.map f3.enc b8))]]⟩,some ⟨26,false,(List.map f3.enc b8)⟩]
noncomputable def ag7 (m:f3) (state:e9) (c:d9) (index fuse:Int) (down:Bool) (b3 b4:List Int):Option (r7⊕(List f3)):=(some (.inl (.s1 ([]))))
noncomputable def T4 (m:f3) (state:e9) (c:d9) (index fuse:Int) (down:Bool) (b3 b4:List Int) (b8:List f3):Option (r7⊕(List f3)):=((ak9 state c index fuse down b3 b4).bind fun y1=>(some (.inl (.s2 m b8 y1))))
noncomputable def R9 (m:f3) (state:e9) (c:d9) (index fuse:Int) (down:Bool) (b3 b4:List Int) (m2:f3) (b8:List f3):Option (r7⊕(List f3)):=(some (.inr b8))
noncomputable def R5 (m:f3) (state:e9) (c:d9) (index fuse:Int) (down:Bool) (b3 b4:List Int) (m2:f3) (b8:List f3) (y:Int) (Y:List Int):Option (r7⊕(List f3)):=((D9 c index).bind fun y1=>(bif (decide (((List.map f3.enc b8).length+1)*288≤i7)) then (some (.inl (.s2 (⟨m2.Kind,y1,y,m2.Epoch,m2.Ballot,m2.Accepted,m2.Nonce,m2.Time,m2.Up,m2.Code,m2.HasPlan,m2.Plan,m2.ID,m2.Session,m2.Payload⟩:f3) (b8++ [(⟨m2.Kind,y1,y,m2.Epoch,m2.Ballot,m2.Accepted,m2.Nonce,m2.Time,m2.Up,m2.Code,m2.HasPlan,m2.Plan,m2.ID,m2.Session,m2.Payload⟩:f3)]) Y))) else none))
noncomputable def T1 (m:f3) (state:e9) (c:d9) (index fuse:Int) (down:Bool) (b3 b4:List Int) (m2:f3) (b8:List f3):List Int→Option (r7⊕(List f3))
 | []=>R9 m state c index fuse down b3 b4 m2 b8
 | y::Y=>R5 m state c index fuse down b3 b4 m2 b8 y Y
noncomputable def D4 (m:f3) (state:e9) (c:d9) (index fuse:Int) (down:Bool) (b3 b4:List Int):r7→Option (r7⊕(List f3))
 | .s0=>ag7 m state c index fuse down b3 b4
 | .s1 b8=>T4 m state c index fuse down b3 b4 b8
 | .s2 m2 b8 Y=>T1 m state c index fuse down b3 b4 m2 b8 Y
theorem aZ3 {m:f3}{state:e9}{c:d9}{index fuse:Int}{down:Bool}{b3 b4:List Int}{r:List f3}{x:r7⊕(List f3)} (h:ag7 m state c index fuse down b3 b4=some x) (ha:z8 (F4 m state c index fuse down b3 b4) r x):i0 E (Cx.of Tryz.f63 true 5) (QW (Rs (v9 state c index fuse down b3 b4) r)) (.go ((M1 m state c index fuse down b3 b4) (.s0))):=by
 unfold ag7 at h
 refine l6 hm 16 _ ?_
 obtain rfl:=Option.some.inj h
 refine ar4 1704 [.matc 7 0 0 26] (m' :=⟨[.code (p5 [1,1,0,1,0]),.blk 0,.code (p5 [1,1,1])],[(3,.ptr 5 0 0),(5,.ptr 6 0 0),(7,.ptr 7 0 0),(9,.fn 105 [] [.ptr 1 0 0])],[some ⟨88,true,[(e9.l state (d9.l c [.int .i64 index,.ptr 2 0 0]))]⟩,some ⟨1,true,[[.ptr 0 0 0]]⟩,some ⟨4,true,[[(f6 3 (List.map (d8 .u8) b3)),(f6 4 (List.map (d8 .u8) b4)),.int .i64 fuse,.bool down]]⟩,some ⟨1,false,(List.map (d8 .u8) b3)⟩,some ⟨1,false,(List.map (d8 .u8) b4)⟩,some ⟨1,true,[[.ptr 0 0 0]]⟩,some ⟨26,false,[(f3.enc m)]⟩,some ⟨1,true,[[.msl 8 0 0 0 false]]⟩,some ⟨26,false,[]⟩]⟩) (by kernel_rfl) ?_
 refine ac8 (n1:=0) (n2:=(List.map f3.enc ([])).length) (fun n_len=> .go ⟨[.code (p5 [1,1,0,1,0]),.blk 0,.code (p5 [1,1,1])],[(3,.ptr 5 0 0),(5,.ptr 6 0 0),(7,.ptr 7 0 0),(9,.fn 105 [] [.ptr 1 0 0])],[some ⟨88,true,[(e9.l state (d9.l c [.int .i64 index,.ptr 2 0 0]))]⟩,some ⟨1,true,[[.ptr 0 0 0]]⟩,some ⟨4,true,[[(f6 3 (List.map (d8 .u8) b3)),(f6 4 (List.map (d8 .u8) b4)),.int .i64 fuse,.bool down]]⟩,some ⟨1,false,(List.map (d8 .u8) b3)⟩,some ⟨1,false,(List.map (d8 .u8) b4)⟩,some ⟨1,true,[[.ptr 0 0 0]]⟩,some ⟨26,false,[(f3.enc m)]⟩,some ⟨1,true,[[.msl 8 0 n_len n_len false]]⟩,some ⟨26,false,[]⟩]⟩) (by simp) ?_
 exact ha
theorem aZ1 {m:f3}{state:e9}{c:d9}{index fuse:Int}{down:Bool}{b3 b4:List Int}{b8 r:List f3}{x:r7⊕(List f3)} (h:T4 m state c index fuse down b3 b4 b8=some x) (ha:z8 (F4 m state c index fuse down b3 b4) r x):i0 E (Cx.of Tryz.f63 true 5) (QW (Rs (v9 state c index fuse down b3 b4) r)) (.go ((M1 m state c index fuse down b3 b4) (.s1 b8))):=by
 unfold T4 at h
 refine l6 hm 1 _ ?_
 have ok1:=fun (y:List Int) (hy:ak9 state c index fuse down b3 b4=some y)=>bz8 hy
 refine dg1 (m:=8) (c:=p5 [1,1,0,1,0]) (t:= [.blk 0,.code (p5 [1,1,1])]) (fr:= [(3,.ptr 5 0 0),(5,.ptr 6 0 0),(7,.ptr 7 0 0),(9,.fn 105 [] [.ptr 1 0 0])]) (σ:= [some ⟨88,true,[(e9.l state (d9.l c [.int .i64 index,.ptr 2 0 0]))]⟩,some ⟨1,true,[[.ptr 0 0 0]]⟩,some ⟨4,true,[[(f6 3 (List.map (d8 .u8) b3)),(f6 4 (List.map (d8 .u8) b4)),.int .i64 fuse,.bool down]]⟩,some ⟨1,false,(List.map (d8 .u8) b3)⟩,some ⟨1,false,(List.map (d8 .u8) b4)⟩,some ⟨1,true,[[.ptr 0 0 0]]⟩,some ⟨26,false,[(f3.enc m)]⟩,some ⟨1,true,[[(f6 8 (List.map f3.enc b8))]]⟩,some ⟨26,false,(List.map f3.enc b8)⟩]) (ids:= [1,0,2,3,4]) (bs:= [some ⟨1,true,[[.ptr 0 0 0]]⟩,some ⟨88,true,[(e9.l state (d9.l c [.int .i64 index,.ptr 2 0 0]))]⟩,some ⟨4,true,[[(f6 3 (List.map (d8 .u8) b3)),(f6 4 (List.map (d8 .u8) b4)),.int .i64 fuse,.bool down]]⟩,some ⟨1,false,(List.map (d8 .u8) b3)⟩,some ⟨1,false,(List.map (d8 .u8) b4)⟩]) (caps1:= [.ptr 0 0 0]) (caps:= [.ptr 0 0 0]) (sub1:= [some ⟨1,true,[[.ptr 1 0 0]]⟩,some ⟨88,true,[(e9.l state (d9.l c [.int .i64 index,.ptr 2 0 0]))]⟩,some ⟨4,true,[[(f6 3 (List.map (d8 .u8) b3)),(f6 4 (List.map (d8 .u8) b4)),.int .i64 fuse,.bool down]]⟩,some ⟨1,false,(List.map (d8 .u8) b3)⟩,some ⟨1,false,(List.map (d8 .u8) b4)⟩]) (sub:= [some ⟨1,true,[[.ptr 1 0 0]]⟩,some ⟨88,true,[(e9.l state (d9.l c [.int .i64 index,.ptr 2 0 0]))]⟩,some ⟨4,true,[[(f6 3 (List.map (d8 .u8) b3)),(f6 4 (List.map (d8 .u8) b4)),.int .i64 fuse,.bool down]]⟩,some ⟨1,false,(List.map (d8 .u8) b3)⟩,some ⟨1,false,(List.map (d8 .u8) b4)⟩]) D2 h (by kernel_rfl) ⟨rfl,rfl⟩ (by kernel_rfl) (by kernel_rfl) (by kernel_rfl) (by kernel_rfl) (by kernel_rfl) ok1 (fun y1 h1 h=> ?_)
 obtain rfl:=Option.some.inj h
 exact ha
theorem aX7 {m:f3}{state:e9}{c:d9}{index fuse:Int}{down:Bool}{b3 b4:List Int}{m2:f3}{b8 r:List f3}{x:r7⊕(List f3)} (h:R9 m state c index fuse down b3 b4 m2 b8=some x) (ha:z8 (F4 m state c index fuse down b3 b4) r x):M2 E (Cx.of Tryz.f63 true 5) (QW (Rs (v9 state c index fuse down b3 b4) r)) 8 (p5 [1,1,0,1,0]) [.blk 0,.code (p5 [1,1,1])] [(3,.ptr 5 0 0),(5,.ptr 6 0 0),(7,.ptr 7 0 0),(9,.fn 105 [] [.ptr 1 0 0])] [1,0,2,3,4] [some ⟨1,true,[[.ptr 0 0 0]]⟩,some ⟨88,true,[(e9.l state (d9.l c [.int .i64 index,.ptr 2 0 0]))]⟩,some ⟨4,true,[[(f6 3 (List.map (d8 .u8) b3)),(f6 4 (List.map (d8 .u8) b4)),.int .i64 fuse,.bool down]]⟩,some ⟨1,false,(List.map (d8 .u8) b3)⟩,some ⟨1,false,(List.map (d8 .u8) b4)⟩] ([]) [some ⟨88,true,[(e9.l state (d9.l c [.int .i64 index,.ptr 2 0 0]))]⟩,some ⟨1,true,[[.ptr 0 0 0]]⟩,some ⟨4,true,[[(f6 3 (List.map (d8 .u8) b3)),(f6 4 (List.map (d8 .u8) b4)),.int .i64 fuse,.bool down]]⟩,some ⟨1,false,(List.map (d8 .u8) b3)⟩,some ⟨1,false,(List.map (d8 .u8) b4)⟩,some ⟨1,true,[[.ptr 0 0 0]]⟩,some ⟨26,false,[(f3.enc m2)]⟩,some ⟨1,true,[[(f6 8 (List.map f3.enc b8))]]⟩,some ⟨26,false,(List.map f3.enc b8)⟩]:=by
 unfold R9 at h
 refine aZ4 ?_
 exact ztP 8 h ha
theorem aX6 {m:f3}{state:e9}{c:d9}{index fuse:Int}{down:Bool}{b3 b4:List Int}{m2:f3}{b8:List f3}{y:Int}{Y:List Int}{r:List f3}{x:r7⊕(List f3)} (h:R5 m state c index fuse down b3 b4 m2 b8 y Y=some x) (ha:z8 (F4 m state c index fuse down b3 b4) r x):M2 E (Cx.of Tryz.f63 true 5) (QW (Rs (v9 state c index fuse down b3 b4) r)) 8 (p5 [1,1,0,1,0]) [.blk 0,.code (p5 [1,1,1])] [(3,.ptr 5 0 0),(5,.ptr 6 0 0),(7,.ptr 7 0 0),(9,.fn 105 [] [.ptr 1 0 0])] [1,0,2,3,4] [some ⟨1,true,[[.ptr 0 0 0]]⟩,some ⟨88,true,[(e9.l state (d9.l c [.int .i64 index,.ptr 2 0 0]))]⟩,some ⟨4,true,[[(f6 3 (List.map (d8 .u8) b3)),(f6 4 (List.map (d8 .u8) b4)),.int .i64 fuse,.bool down]]⟩,some ⟨1,false,(List.map (d8 .u8) b3)⟩,some ⟨1,false,(List.map (d8 .u8) b4)⟩] (D2 y::List.map D2 Y) [some ⟨88,true,[(e9.l state (d9.l c [.int .i64 index,.ptr 2 0 0]))]⟩,some ⟨1,true,[[.ptr 0 0 0]]⟩,some ⟨4,true,[[(f6 3 (List.map (d8 .u8) b3)),(f6 4 (List.map (d8 .u8) b4)),.int .i64 fuse,.bool down]]⟩,some ⟨1,false,(List.map (d8 .u8) b3)⟩,some ⟨1,false,(List.map (d8 .u8) b4)⟩,some ⟨1,true,[[.ptr 0 0 0]]⟩,some ⟨26,false,[(f3.enc m2)]⟩,some ⟨1,true,[[(f6 8 (List.map f3.enc b8))]]⟩,some ⟨26,false,(List.map f3.enc b8)⟩]:=by
 unfold R5 at h
 refine aQ1 ?_
 refine zd 7 [] h (fun _=>J1) fun y1 h=> ?_
 refine zn 12 h fun h=> ?_
 refine za 0 f3.enc b8 ([(⟨m2.Kind,y1,y,m2.Epoch,m2.Ballot,m2.Accepted,m2.Nonce,m2.Time,m2.Up,m2.Code,m2.HasPlan,m2.Plan,m2.ID,m2.Session,m2.Payload⟩:f3)]) ?_
 refine l6 hm 6 _ ?_
 obtain rfl:=Option.some.inj h
 exact aH8 [] (s1:= [some ⟨88,true,[(e9.l state (d9.l c [.int .i64 index,.ptr 2 0 0]))]⟩,some ⟨1,true,[[.ptr 0 0 0]]⟩,some ⟨4,true,[[(f6 3 (List.map (d8 .u8) b3)),(f6 4 (List.map (d8 .u8) b4)),.int .i64 fuse,.bool down]]⟩,some ⟨1,false,(List.map (d8 .u8) b3)⟩,some ⟨1,false,(List.map (d8 .u8) b4)⟩,some ⟨1,true,[[.ptr 0 0 0]]⟩,some ⟨26,false,[(.int .i64 m2.Kind:: .int .i64 y1:: .int .i64 y:: .int .i64 m2.Epoch:: .int .i64 m2.Ballot:: .int .i64 m2.Accepted:: .int .i64 m2.Nonce:: .int .i64 m2.Time:: .int .u64 m2.Up:: .int .i64 m2.Code:: .bool m2.HasPlan::Plan.l m2.Plan [.sl false 1 (List.map (d8 .i64) m2.ID),.sl false 1 (List.map (d8 .u8) m2.Session),.sl false 1 (List.map (d8 .u8) m2.Payload)])]⟩,some ⟨1,true,[[.msl 8 0 ((List.map f3.enc (b8++ [(⟨m2.Kind,y1,y,m2.Epoch,m2.Ballot,m2.Accepted,m2.Nonce,m2.Time,m2.Up,m2.Code,m2.HasPlan,m2.Plan,m2.ID,m2.Session,m2.Payload⟩:f3)])).length) ((List.map f3.enc (b8++ [(⟨m2.Kind,y1,y,m2.Epoch,m2.Ballot,m2.Accepted,m2.Nonce,m2.Time,m2.Up,m2.Code,m2.HasPlan,m2.Plan,m2.ID,m2.Session,m2.Payload⟩:f3)])).length) false]]⟩,some ⟨26,false,(List.map f3.enc (b8++ [(⟨m2.Kind,y1,y,m2.Epoch,m2.Ballot,m2.Accepted,m2.Nonce,m2.Time,m2.Up,m2.Code,m2.HasPlan,m2.Plan,m2.ID,m2.Session,m2.Payload⟩:f3)]))⟩]) (s:= [some ⟨88,true,[(e9.l state (d9.l c [.int .i64 index,.ptr 2 0 0]))]⟩,some ⟨1,true,[[.ptr 0 0 0]]⟩,some ⟨4,true,[[(f6 3 (List.map (d8 .u8) b3)),(f6 4 (List.map (d8 .u8) b4)),.int .i64 fuse,.bool down]]⟩,some ⟨1,false,(List.map (d8 .u8) b3)⟩,some ⟨1,false,(List.map (d8 .u8) b4)⟩,some ⟨1,true,[[.ptr 0 0 0]]⟩,some ⟨26,false,[(.int .i64 m2.Kind:: .int .i64 y1:: .int .i64 y:: .int .i64 m2.Epoch:: .int .i64 m2.Ballot:: .int .i64 m2.Accepted:: .int .i64 m2.Nonce:: .int .i64 m2.Time:: .int .u64 m2.Up:: .int .i64 m2.Code:: .bool m2.HasPlan::Plan.l m2.Plan [.sl false 1 (List.map (d8 .i64) m2.ID),.sl false 1 (List.map (d8 .u8) m2.Session),.sl false 1 (List.map (d8 .u8) m2.Payload)])]⟩,some ⟨1,true,[[.msl 8 0 ((List.map f3.enc (b8++ [(⟨m2.Kind,y1,y,m2.Epoch,m2.Ballot,m2.Accepted,m2.Nonce,m2.Time,m2.Up,m2.Code,m2.HasPlan,m2.Plan,m2.ID,m2.Session,m2.Payload⟩:f3)])).length) ((List.map f3.enc (b8++ [(⟨m2.Kind,y1,y,m2.Epoch,m2.Ballot,m2.Accepted,m2.Nonce,m2.Time,m2.Up,m2.Code,m2.HasPlan,m2.Plan,m2.ID,m2.Session,m2.Payload⟩:f3)])).length) false]]⟩,some ⟨26,false,(List.map f3.enc (b8++ [(⟨m2.Kind,y1,y,m2.Epoch,m2.Ballot,m2.Accepted,m2.Nonce,m2.Time,m2.Up,m2.Code,m2.HasPlan,m2.Plan,m2.ID,m2.Session,m2.Payload⟩:f3)]))⟩]) (by kernel_rfl) (rfl) (by kernel_rfl) ha
theorem bb1 {m:f3}{state:e9}{c:d9}{index fuse:Int}{down:Bool}{b3 b4:List Int}{m2:f3}{b8:List f3}{Y:List Int}{r:List f3}{x:r7⊕(List f3)} (h:T1 m state c index fuse down b3 b4 m2 b8 Y=some x) (ha:z8 (F4 m state c index fuse down b3 b4) r x):M2 E (Cx.of Tryz.f63 true 5) (QW (Rs (v9 state c index fuse down b3 b4) r)) 8 (p5 [1,1,0,1,0]) [.blk 0,.code (p5 [1,1,1])] [(3,.ptr 5 0 0),(5,.ptr 6 0 0),(7,.ptr 7 0 0),(9,.fn 105 [] [.ptr 1 0 0])] [1,0,2,3,4] [some ⟨1,true,[[.ptr 0 0 0]]⟩,some ⟨88,true,[(e9.l state (d9.l c [.int .i64 index,.ptr 2 0 0]))]⟩,some ⟨4,true,[[(f6 3 (List.map (d8 .u8) b3)),(f6 4 (List.map (d8 .u8) b4)),.int .i64 fuse,.bool down]]⟩,some ⟨1,false,(List.map (d8 .u8) b3)⟩,some ⟨1,false,(List.map (d8 .u8) b4)⟩] (List.map D2 Y) [some ⟨88,true,[(e9.l state (d9.l c [.int .i64 index,.ptr 2 0 0]))]⟩,some ⟨1,true,[[.ptr 0 0 0]]⟩,some ⟨4,true,[[(f6 3 (List.map (d8 .u8) b3)),(f6 4 (List.map (d8 .u8) b4)),.int .i64 fuse,.bool down]]⟩,some ⟨1,false,(List.map (d8 .u8) b3)⟩,some ⟨1,false,(List.map (d8 .u8) b4)⟩,some ⟨1,true,[[.ptr 0 0 0]]⟩,some ⟨26,false,[(f3.enc m2)]⟩,some ⟨1,true,[[(f6 8 (List.map f3.enc b8))]]⟩,some ⟨26,false,(List.map f3.enc b8)⟩]:=by
 cases Y with
 | nil=>exact aX7 h ha
 | cons y Y=>exact aX6 h ha
noncomputable def J7 (m:f3) (state:e9) (c:d9) (index fuse:Int) (down:Bool) (b3 b4:List Int):Option (List f3):=T8 (D4 m state c index fuse down b3 b4) (.s0)
theorem bi8 {m:f3}{state:e9}{c:d9}{index fuse:Int}{down:Bool}{b3 b4:List Int}{r:List f3} (h:Ev (D4 m state c index fuse down b3 b4) (.s0) r):i4 E 63 [.ptr 0 0 0,.fn 105 [] [.ptr 1 0 0],.agg (f3.enc m)] [some ⟨88,true,[(e9.l state (d9.l c [.int .i64 index,.ptr 2 0 0]))]⟩,some ⟨1,true,[[.ptr 0 0 0]]⟩,some ⟨4,true,[[(f6 3 (List.map (d8 .u8) b3)),(f6 4 (List.map (d8 .u8) b4)),.int .i64 fuse,.bool down]]⟩,some ⟨1,false,(List.map (d8 .u8) b3)⟩,some ⟨1,false,(List.map (d8 .u8) b4)⟩] (Rs (v9 state c index fuse down b3 b4) r):=
 ao1 (m:=(M1 m state c index fuse down b3 b4) (.s0)) (fn:=Tryz.f63) (by kernel_rfl) (by kernel_rfl) (bc3 (Pd:=(F4 m state c index fuse down b3 b4)) (fun s x r hs ha=>by
  cases s with
  | s0=>exact aZ3 hs ha
  | s1=>exact aZ1 hs ha
  | s2=>exact bb1 hs ha) h)
theorem ae1 {m:f3}{state:e9}{c:d9}{index fuse:Int}{down:Bool}{b3 b4:List Int}{r:List f3} (h:J7 m state c index fuse down b3 b4=some r):i4 E 63 [.ptr 0 0 0,.fn 105 [] [.ptr 1 0 0],.agg (f3.enc m)] [some ⟨88,true,[(e9.l state (d9.l c [.int .i64 index,.ptr 2 0 0]))]⟩,some ⟨1,true,[[.ptr 0 0 0]]⟩,some ⟨4,true,[[(f6 3 (List.map (d8 .u8) b3)),(f6 4 (List.map (d8 .u8) b4)),.int .i64 fuse,.bool down]]⟩,some ⟨1,false,(List.map (d8 .u8) b3)⟩,some ⟨1,false,(List.map (d8 .u8) b4)⟩] (Rs (v9 state c index fuse down b3 b4) r):=bi8 (bf3 h)
end Go.RX.L

namespace Go.RX.L
open Go Go.RX Go.Proofs
attribute [local irreducible] i0
noncomputable def cz8 (c:d9) (index fuse:Int) (down:Bool) (b2 b3:List Int) (y:(List f3)×e9):D×f4:=(.sl false 26 (List.map f3.enc y.1),[some ⟨88,true,[(e9.l y.2 (d9.l c [.int .i64 index,.ptr 1 0 0]))]⟩,some ⟨4,true,[[(f6 2 (List.map (d8 .u8) b2)),(f6 3 (List.map (d8 .u8) b3)),.int .i64 fuse,.bool down]]⟩,some ⟨1,false,(List.map (d8 .u8) b2)⟩,some ⟨1,false,(List.map (d8 .u8) b3)⟩])
noncomputable def aF9 (now:Int) (state:e9) (c:d9) (index fuse:Int) (down:Bool) (b2 b3:List Int):Option ((List f3)×e9):=((Y4 (⟨state.asked.ever,state.hold.Nonce⟩:T5) now (u9 (IntKind.i64.wrap (Int.tdiv c.L_ 2)) 1)).bind fun y1=>(bif (!y1) then (some ([],(⟨state.boot,state.known,state.heard,state.votes,state.hold,(⟨state.asked.ever,state.hold.Nonce⟩:T5),state.prop,state.made,state.top,state.sealed,state.told⟩:e9))) else ((be9 state.hold 0 now).bind fun y3=>((L5 (⟨state.boot,state.known,state.heard,state.votes,y3,(⟨true,state.hold.Nonce⟩:T5),state.prop,state.made,state.top,state.sealed,state.told⟩:e9) c index fuse down b2 b3).bind fun y4=>((J7 (⟨10,0,0,0,0,0,now,0,0,2,false,(⟨0,0,0,0,0,0,0,0,0,0,[],[]⟩:Plan),[],[],[]⟩:f3) (⟨state.boot,state.known,state.heard,state.votes,y3,(⟨true,state.hold.Nonce⟩:T5),state.prop,state.made,state.top,state.sealed,state.told⟩:e9) c index fuse down b2 b3).bind fun y5=>(some (y5,(⟨state.boot,state.known,state.heard,state.votes,y3,(⟨true,state.hold.Nonce⟩:T5),state.prop,state.made,state.top,state.sealed,state.told⟩:e9))))))))
theorem cy0 {now:Int}{state:e9}{c:d9}{index fuse:Int}{down:Bool}{b2 b3:List Int}{r:(List f3)×e9} (h:aF9 now state c index fuse down b2 b3=some r):i4 E 50 [.ptr 0 0 0,.int .i64 now] [some ⟨88,true,[(e9.l state (d9.l c [.int .i64 index,.ptr 1 0 0]))]⟩,some ⟨4,true,[[(f6 2 (List.map (d8 .u8) b2)),(f6 3 (List.map (d8 .u8) b3)),.int .i64 fuse,.bool down]]⟩,some ⟨1,false,(List.map (d8 .u8) b2)⟩,some ⟨1,false,(List.map (d8 .u8) b3)⟩] (Rs (cz8 c index fuse down b2 b3) r):=so (fn:=Tryz.f50) (k:=true) (m:=4) h<| by
 intro r h;unfold aF9 at h
 refine zd 28 [] h (fun _=>aY2) fun y1 h=> ?_
 refine zs 1 h (fun h=> ?_) fun h=> ?_
 ·
  exact zu 5 h [.slot 0 [some 26]]
 refine zc 23 [] h (fun _=>de7) fun y3 h=> ?_
 refine zc 12 [] h (fun _=>aw3) fun y4 h=> ?_
 refine zc 3 [some 1,some 1,some 1,some 1,some 1] h (fun _=>ae1) fun y5 h=> ?_
 refine l6 hm 2 _ ?_
 refine cc1 4 (n1:=(0+(List.map f3.enc y5).length)) (n2:=((List.map f3.enc y5).length)) (raw:=(List.take ((List.map f3.enc y5).length) (List.drop 0 (List.map f3.enc y5)))) (rs:=(List.map f3.enc y5)) (by kernel_rfl) (v6 _) (by simp only [A1,E8,List.map_take,List.map_drop]) ?_
 exact zu 1 h
end Go.RX.L

namespace Go.RX.L
open Go Go.RX Go.Proofs
attribute [local irreducible] i0
noncomputable def bR0:=p7 (q0 Tryz.f51)
noncomputable def bQ6 (c:d9) (index fuse:Int) (down:Bool) (b2 b3:List Int) (y:(List f3)×e9):D×f4:=(.sl false 26 (List.map f3.enc y.1),[some ⟨88,true,[(e9.l y.2 (d9.l c [.int .i64 index,.ptr 1 0 0]))]⟩,some ⟨4,true,[[(f6 2 (List.map (d8 .u8) b2)),(f6 3 (List.map (d8 .u8) b3)),.int .i64 fuse,.bool down]]⟩,some ⟨1,false,(List.map (d8 .u8) b2)⟩,some ⟨1,false,(List.map (d8 .u8) b3)⟩])
abbrev cP8 (now:Int) (state:e9) (c:d9) (index fuse:Int) (down:Bool) (b2 b3:List Int):=AOk E (Cx.of Tryz.f51 true 4) (bQ6 c index fuse down b2 b3)
noncomputable def cE1 (now:Int) (state:e9) (c:d9) (index fuse:Int) (down:Bool) (b2 b3:List Int) (t26:Bool):M:=⟨[.code (bR0 [1,0,1]),.code (bR0 [1,1])],[(0,.ptr 0 0 0),(1,.int .i64 now),(26,.bool t26)],[some ⟨88,true,[(e9.l state (d9.l c [.int .i64 index,.ptr 1 0 0]))]⟩,some ⟨4,true,[[(f6 2 (List.map (d8 .u8) b2)),(f6 3 (List.map (d8 .u8) b3)),.int .i64 fuse,.bool down]]⟩,some ⟨1,false,(List.map (d8 .u8) b2)⟩,some ⟨1,false,(List.map (d8 .u8) b3)⟩]⟩
noncomputable def az5 (now:Int) (state:e9) (c:d9) (index fuse:Int) (down:Bool) (b2 b3:List Int) (t26:Bool):Option ((List f3)×e9):=(bif t26 then (some ([],state)) else ((as6 now state c index fuse down b2 b3).bind fun y2=>(some (y2.1,y2.2))))
theorem br3 {now state c index fuse down b2 b3 t26}:cP8 now state c index fuse down b2 b3 (cE1 now state c index fuse down b2 b3 t26) (az5 now state c index fuse down b2 b3 t26):=by
 intro r h;unfold az5 at h
 refine zs 1 h (fun h=> ?_) fun h=> ?_
 ·
  exact zu 5 h [.slot 0 [some 26]]
 refine zc 6 [] h (fun _=>bx7) fun y2 h=> ?_
 exact zu 3 h
noncomputable def aN5 (now:Int) (state:e9) (c:d9) (index fuse:Int) (down:Bool) (b2 b3:List Int):Option ((List f3)×e9):=(bif ((state.known.Epoch:Int)==0) then (az5 now state c index fuse down b2 b3 true) else ((Y4 state.told now c.Retry).bind fun y2=>(az5 now state c index fuse down b2 b3 (!y2))))
theorem cH0 {now:Int}{state:e9}{c:d9}{index fuse:Int}{down:Bool}{b2 b3:List Int}{r:(List f3)×e9} (h:aN5 now state c index fuse down b2 b3=some r):i4 E 51 [.ptr 0 0 0,.int .i64 now] [some ⟨88,true,[(e9.l state (d9.l c [.int .i64 index,.ptr 1 0 0]))]⟩,some ⟨4,true,[[(f6 2 (List.map (d8 .u8) b2)),(f6 3 (List.map (d8 .u8) b3)),.int .i64 fuse,.bool down]]⟩,some ⟨1,false,(List.map (d8 .u8) b2)⟩,some ⟨1,false,(List.map (d8 .u8) b3)⟩] (Rs (bQ6 c index fuse down b2 b3) r):=so (fn:=Tryz.f51) (k:=true) (m:=4) h<| by
 intro r h;unfold aN5 at h
 refine zs 8 h (fun h=> ?_) fun h=> ?_
 ·
  exact zg 13 (br3 h)
 refine zd 13 [] h (fun _=>aY2) fun y2 h=> ?_
 exact zg 2 (br3 h)
end Go.RX.L

namespace Go.RX.L
open Go Go.RX Go.Proofs
attribute [local irreducible] i0
noncomputable def cF8 (y:Bool):D×f4:=(.bool y,[])
noncomputable def as9 (j:r6):Option Bool:=(some j.down)
theorem bx4 {j:r6}{r:Bool} (h:as9 j=some r):i4 E 47 [.iptr 4 [(r6.enc j)] 0 0] [] (Rs cF8 r):=so (fn:=Tryz.f47) (k:=false) (m:=0) h<| by
 intro r h;unfold as9 at h
 exact zu 14 h
end Go.RX.L

namespace Go.RX.L
open Go Go.RX Go.Proofs
attribute [local irreducible] i0
noncomputable def cw6 (state:e9) (c:d9) (index fuse:Int) (down:Bool) (b2 b3:List Int) (y:Bool):D×f4:=(.bool y,[some ⟨88,true,[(e9.l state (d9.l c [.int .i64 index,.ptr 1 0 0]))]⟩,some ⟨4,true,[[(f6 2 (List.map (d8 .u8) b2)),(f6 3 (List.map (d8 .u8) b3)),.int .i64 fuse,.bool down]]⟩,some ⟨1,false,(List.map (d8 .u8) b2)⟩,some ⟨1,false,(List.map (d8 .u8) b3)⟩])
noncomputable def am0 (now:Int) (state:e9) (c:d9) (index fuse:Int) (down:Bool) (b2 b3:List Int):Option Bool:=(bif ((state.boot:Int) !=0) then ((as9 (⟨b2,b3,fuse,down⟩:r6)).bind fun y2=>(bif (!y2) then ((aU0 state.hold 0 now).bind fun y4=>(some y4)) else (some false))) else (some false))
theorem bv3 {now:Int}{state:e9}{c:d9}{index fuse:Int}{down:Bool}{b2 b3:List Int}{r:Bool} (h:am0 now state c index fuse down b2 b3=some r):i4 E 21 [.ptr 0 0 0,.int .i64 now] [some ⟨88,true,[(e9.l state (d9.l c [.int .i64 index,.ptr 1 0 0]))]⟩,some ⟨4,true,[[(f6 2 (List.map (d8 .u8) b2)),(f6 3 (List.map (d8 .u8) b3)),.int .i64 fuse,.bool down]]⟩,some ⟨1,false,(List.map (d8 .u8) b2)⟩,some ⟨1,false,(List.map (d8 .u8) b3)⟩] (Rs (cw6 state c index fuse down b2 b3) r):=so (fn:=Tryz.f21) (k:=true) (m:=4) h<| by
 intro r h;unfold am0 at h
 refine zs 15 h (fun h=> ?_) fun h=> ?_
 ·
  refine zm 9 (b:=(Nat.ble (0+(List.map (d8 .u8) b2).length) ((List.map (d8 .u8) b2).length))) (v6 _) ?_
  refine zm 0 (b:=(Nat.ble (0+(List.map (d8 .u8) b3).length) ((List.map (d8 .u8) b3).length))) (v6 _) ?_
  refine zcE 0 [] (args1:= [.iptr 4 [[.sl false 1 (List.take ((List.map (d8 .u8) b2).length) (List.drop 0 (List.map (d8 .u8) b2))),.sl false 1 (List.take ((List.map (d8 .u8) b3).length) (List.drop 0 (List.map (d8 .u8) b3))),.int .i64 fuse,.bool down]] 0 0]) h (fun _=>bx4) ⟨by simp [d9.enc,d9.l,i8.enc,i8.l,n9.enc,n9.l,r6.enc,r6.l,f3.enc,f3.l,Op.enc,Op.l,Plan.enc,Plan.l,D0.enc,D0.l,i9.enc,i9.l,p6.enc,p6.l,m9.enc,m9.l,e9.enc,e9.l,List.take_of_length_le,List.map_take,List.map_drop],rfl⟩ fun y2 h=> ?_
  refine zs 6 h (fun h=> ?_) fun h=> ?_
  ·
   refine zc 13 [] h (fun _=>cP2) fun y4 h=> ?_
   exact zu 5 h
  exact zu 17 h
 exact zu 32 h
end Go.RX.L

namespace Go.RX.L
open Go Go.RX Go.Proofs
attribute [local irreducible] i0
noncomputable def ce2:=p7 (q0 Tryz.f116)
def J2 (y:Int):List D:= [D.int .i64 y]
inductive L2 where
 | s0 (t:List Int)
 | s1 (t5:List Int) (t6:Int) (t7:Int)
noncomputable def P4 (l:Nat):L2→M
 | .s0 t=>⟨[.code (q0 Tryz.f116)],[(0,D.yld l),(1,D.iptr 1 [[D.sl false 1 (List.map (d8 .i64) t)]] 0 0)],[]⟩
 | .s1 t5 t6 t7=>⟨[.lpc (ce2 [1,0,0]) 225,.blk 0],[(0,D.yld l),(5,D.sl false 1 (List.map (d8 .i64) t5)),(6,D.int .i64 t6),(7,D.int .i64 t7)],[]⟩
noncomputable def ar9 (t:List Int):Option (List Int×Option L2):=(some ([],some (.s1 t (((List.map (d8 .i64) t).length:Nat):Int) 0)))
noncomputable def af3 (t5:List Int) (t6 t7:Int):Option (List Int×Option L2):=(bif (decide ((t7:Int)<t6)) then (bif ((decide ((0:Int)≤t7))&&(decide ((t7:Int)<(((List.map (d8 .i64) t5).length:Nat):Int)))) then (((t5)[t7.toNat]?).bind fun y3=>(Option.map (fun p=>(y3::p.1,p.2)) (some ([],some (.s1 t5 t6 (IntKind.i64.wrap (t7+1))))))) else none) else (some ([],none)))
noncomputable def ab0:L2→f4
 | .s0 t=> []
 | .s1 t5 t6 t7=> []
noncomputable def O2:L2→Option (List Int×Option L2)
 | .s0 t=>ar9 t
 | .s1 t5 t6 t7=>af3 t5 t6 t7
theorem bJ2 {l:Nat}{ln:f4}{φ0:q8}{J:Option (List (List D))→World→(Nat→Prop)→(Nat→Prop)→Prop}{t:List Int}{x:List Int×Option L2}{Y:List (List D)} (hl:ab0 (.s0 t)=ln) (h:ar9 t=some x) (ha:aa5 E ln (Cx.seq Tryz.f116 0 ln l φ0 J) J2 (P4 l) ab0 x Y):i0 E (Cx.seq Tryz.f116 0 ln l φ0 J (some Y)) (fun _ s=>P0 ln s) (.go (P4 l (.s0 t))):=by
 subst hl
 unfold ar9 at h
 refine l6 hm 10 _ ?_
 obtain rfl:=Option.some.inj h
 exact aR3 (q' := .go (P4 l (.s1 t (((List.map (d8 .i64) t).length:Nat):Int) 0))) (by kernel_rfl) (L1 (by kernel_rfl) ha)
theorem bO9 {l:Nat}{ln:f4}{φ0:q8}{J:Option (List (List D))→World→(Nat→Prop)→(Nat→Prop)→Prop}{t5:List Int}{t6 t7:Int}{x:List Int×Option L2}{Y:List (List D)} (hl:ab0 (.s1 t5 t6 t7)=ln) (h:af3 t5 t6 t7=some x) (ha:aa5 E ln (Cx.seq Tryz.f116 0 ln l φ0 J) J2 (P4 l) ab0 x Y):i0 E (Cx.seq Tryz.f116 0 ln l φ0 J (some Y)) (fun _ s=>P0 ln s) (.go (P4 l (.s1 t5 t6 t7))):=by
 subst hl
 unfold af3 at h
 refine zs 7 h (fun h=> ?_) fun h=> ?_
 ·
  refine zn 6 h fun h=> ?_
  refine zr 1 (d8 .i64) h fun y3 h=> ?_
  refine l6 hm 7 _ ?_
  refine bH9 (x:=y3) (s:= []) h ha (by kernel_rfl) (by kernel_rfl) ?_ (fun p Y h ha=> ?_)
  ·--it is stopped
   refine l6 hm 5 _ ?_
   exact bt5 (d:=D.tup []) (s:= []) (by kernel_rfl) (by kernel_rfl)
  ·--it goes on
   refine l6 hm 11 _ ?_
   obtain rfl:=Option.some.inj h
   exact aR3 (q' := .go (P4 l (.s1 t5 t6 (IntKind.i64.wrap (t7+1))))) (by kernel_rfl) (L1 (by kernel_rfl) ha)
 refine l6 hm 2 _ ?_
 obtain rfl:=Option.some.inj h
 exact bD8 (d:=D.tup []) (s:= []) (by kernel_rfl) (by kernel_rfl) ha
noncomputable def aC1 (t:List Int):Option (List Int):=evl O2 (.s0 t)
theorem bZ2 {t r:List Int} (h:aC1 t=some r):aj2 E 116 [D.iptr 1 [[D.sl false 1 (List.map (d8 .i64) t)]] 0 0] [] [] (List.map J2 r):=
 bE1 (m:=fun l=>P4 l (.s0 t)) (fn:=Tryz.f116) (by kernel_rfl) (fun l=>by kernel_rfl) (show List.take _ _=_ by kernel_rfl) (show B7 _ _=_ by kernel_rfl) (fun l φ0 J=>bq0 (step:=O2) (lnS:=ab0) (fun s x Y hl hs ha=>by
  cases s with
  | s0=>exact bJ2 hl hs ha
  | s1=>exact bO9 hl hs ha) (by kernel_rfl) (bH4 h))
end Go.RX.L

namespace Go.RX.L
open Go Go.RX Go.Proofs
attribute [local irreducible] i0
noncomputable def q9:=p7 (q0 Tryz.f63)
noncomputable def z7 (state:e9) (c:d9) (index fuse:Int) (down:Bool) (b2 b3:List Int) (y:List f3):D×f4:=((f6 4 (List.map f3.enc y)),[some ⟨88,true,[(e9.l state (d9.l c [.int .i64 index,.ptr 1 0 0]))]⟩,some ⟨4,true,[[(f6 2 (List.map (d8 .u8) b2)),(f6 3 (List.map (d8 .u8) b3)),.int .i64 fuse,.bool down]]⟩,some ⟨1,false,(List.map (d8 .u8) b2)⟩,some ⟨1,false,(List.map (d8 .u8) b3)⟩,some ⟨26,false,(List.map f3.enc y)⟩])
inductive u5 where
 | s0
 | s1 (b7:List f3)
 | s2 (m2:f3) (b7:List f3) (Y:List Int)
noncomputable def Q9 (nodes:List Int) (m:f3) (state:e9) (c:d9) (index fuse:Int) (down:Bool) (b2 b3:List Int):u5→M
 | .s0=>A6 Tryz.f63 [.ptr 0 0 0,.fn 116 [] [.iptr 1 [[.sl false 1 (List.map (d8 .i64) nodes)]] 0 0],.agg (f3.enc m)] [some ⟨88,true,[(e9.l state (d9.l c [.int .i64 index,.ptr 1 0 0]))]⟩,some ⟨4,true,[[(f6 2 (List.map (d8 .u8) b2)),(f6 3 (List.map (d8 .u8) b3)),.int .i64 fuse,.bool down]]⟩,some ⟨1,false,(List.map (d8 .u8) b2)⟩,some ⟨1,false,(List.map (d8 .u8) b3)⟩]
 | .s1 b7=>⟨[.code (q9 [1,1,0,1,0]),.blk 0,.code (q9 [1,1,1])],[(3,.ptr 4 0 0),(5,.ptr 5 0 0),(7,.ptr 6 0 0),(9,.fn 116 [] [.iptr 1 [[.sl false 1 (List.map (d8 .i64) nodes)]] 0 0])],[some ⟨88,true,[(e9.l state (d9.l c [.int .i64 index,.ptr 1 0 0]))]⟩,some ⟨4,true,[[(f6 2 (List.map (d8 .u8) b2)),(f6 3 (List.map (d8 .u8) b3)),.int .i64 fuse,.bool down]]⟩,some ⟨1,false,(List.map (d8 .u8) b2)⟩,some ⟨1,false,(List.map (d8 .u8) b3)⟩,some ⟨1,true,[[.ptr 0 0 0]]⟩,some ⟨26,false,[(f3.enc m)]⟩,some ⟨1,true,[[(f6 7 (List.map f3.enc b7))]]⟩,some ⟨26,false,(List.map f3.enc b7)⟩]⟩
 | .s2 m2 b7 Y=>⟨[.blk 0,.code (q9 [1,1,1])],[(3,.ptr 4 0 0),(5,.ptr 5 0 0),(7,.ptr 6 0 0),(9,.fn 116 [] [.iptr 1 [[.sl false 1 (List.map (d8 .i64) nodes)]] 0 0])],[some ⟨88,true,[(e9.l state (d9.l c [.int .i64 index,.ptr 1 0 0]))]⟩,some ⟨4,true,[[(f6 2 (List.map (d8 .u8) b2)),(f6 3 (List.map (d8 .u8) b3)),.int .i64 fuse,.bool down]]⟩,some ⟨1,false,(List.map (d8 .u8) b2)⟩,some ⟨1,false,(List.map (d8 .u8) b3)⟩,some ⟨1,true,[[.ptr 0 0 0]]⟩,some ⟨26,false,[(f3.enc m2)]⟩,some ⟨1,true,[[(f6 7 (List.map f3.enc b7))]]⟩,some ⟨26,false,(List.map f3.enc b7)⟩]⟩
noncomputable def J9 (nodes:List Int) (m:f3) (state:e9) (c:d9) (index fuse:Int) (down:Bool) (b2 b3:List Int):u5→(List f3)→Prop
 | .s0,r_=>i0 E (Cx.of Tryz.f63 true 4) (QW (Rs (z7 state c index fuse down b2 b3) r_)) (.go ((Q9 nodes m state c index fuse down b2 b3) (.s0)))
 | .s1 b7,r_=>i0 E (Cx.of Tryz.f63 true 4) (QW (Rs (z7 state c index fuse down b2 b3) r_)) (.go ((Q9 nodes m state c index fuse down b2 b3) (.s1 b7)))
 | .s2 m2 b7 Y,r_=>M2 E (Cx.of Tryz.f63 true 4) (QW (Rs (z7 state c index fuse down b2 b3) r_)) 7 (q9 [1,1,0,1,0]) [.blk 0,.code (q9 [1,1,1])] [(3,.ptr 4 0 0),(5,.ptr 5 0 0),(7,.ptr 6 0 0),(9,.fn 116 [] [.iptr 1 [[.sl false 1 (List.map (d8 .i64) nodes)]] 0 0])] [] [] (List.map J2 Y) [some ⟨88,true,[(e9.l state (d9.l c [.int .i64 index,.ptr 1 0 0]))]⟩,some ⟨4,true,[[(f6 2 (List.map (d8 .u8) b2)),(f6 3 (List.map (d8 .u8) b3)),.int .i64 fuse,.bool down]]⟩,some ⟨1,false,(List.map (d8 .u8) b2)⟩,some ⟨1,false,(List.map (d8 .u8) b3)⟩,some ⟨1,true,[[.ptr 0 0 0]]⟩,some ⟨26,false,[(f3.enc m2)]⟩,some ⟨1,true,[[(f6 7 (List.map f3.enc b7))]]⟩,some ⟨26,false,(List.map f3.enc b7)⟩]
noncomputable def ap8 (nodes:List Int) (m:f3) (state:e9) (c:d9) (index fuse:Int) (down:Bool) (b2 b3:List Int):Option (u5⊕(List f3)):=(some (.inl (.s1 ([]))))
noncomputable def Z9 (nodes:List Int) (m:f3) (state:e9) (c:d9) (index fuse:Int) (down:Bool) (b2 b3:List Int) (b7:List f3):Option (u5⊕(List f3)):=((aC1 nodes).bind fun y1=>(some (.inl (.s2 m b7 y1))))
noncomputable def W7 (nodes:List Int) (m:f3) (state:e9) (c:d9) (index fuse:Int) (down:Bool) (b2 b3:List Int) (m2:f3) (b7:List f3):Option (u5⊕(List f3)):=(some (.inr b7))
noncomputable def W8 (nodes:List Int) (m:f3) (state:e9) (c:d9) (index fuse:Int) (down:Bool) (b2 b3:List Int) (m2:f3) (b7:List f3) (y:Int) (Y:List Int):Option (u5⊕(List f3)):=((D9 c index).bind fun y1=>(bif (decide (((List.map f3.enc b7).length+1)*288≤i7)) then (some (.inl (.s2 (⟨m2.Kind,y1,y,m2.Epoch,m2.Ballot,m2.Accepted,m2.Nonce,m2.Time,m2.Up,m2.Code,m2.HasPlan,m2.Plan,m2.ID,m2.Session,m2.Payload⟩:f3) (b7++ [(⟨m2.Kind,y1,y,m2.Epoch,m2.Ballot,m2.Accepted,m2.Nonce,m2.Time,m2.Up,m2.Code,m2.HasPlan,m2.Plan,m2.ID,m2.Session,m2.Payload⟩:f3)]) Y))) else none))
noncomputable def aa0 (nodes:List Int) (m:f3) (state:e9) (c:d9) (index fuse:Int) (down:Bool) (b2 b3:List Int) (m2:f3) (b7:List f3):List Int→Option (u5⊕(List f3))
 | []=>W7 nodes m state c index fuse down b2 b3 m2 b7
 | y::Y=>W8 nodes m state c index fuse down b2 b3 m2 b7 y Y
noncomputable def G7 (nodes:List Int) (m:f3) (state:e9) (c:d9) (index fuse:Int) (down:Bool) (b2 b3:List Int):u5→Option (u5⊕(List f3))
 | .s0=>ap8 nodes m state c index fuse down b2 b3
 | .s1 b7=>Z9 nodes m state c index fuse down b2 b3 b7
 | .s2 m2 b7 Y=>aa0 nodes m state c index fuse down b2 b3 m2 b7 Y
theorem bm8 {nodes:List Int}{m:f3}{state:e9}{c:d9}{index fuse:Int}{down:Bool}{b2 b3:List Int}{r:List f3}{x:u5⊕(List f3)} (h:ap8 nodes m state c index fuse down b2 b3=some x) (ha:z8 (J9 nodes m state c index fuse down b2 b3) r x):i0 E (Cx.of Tryz.f63 true 4) (QW (Rs (z7 state c index fuse down b2 b3) r)) (.go ((Q9 nodes m state c index fuse down b2 b3) (.s0))):=by
 unfold ap8 at h
 refine l6 hm 16 _ ?_
 obtain rfl:=Option.some.inj h
 refine ar4 1704 [.matc 6 0 0 26] (m' :=⟨[.code (q9 [1,1,0,1,0]),.blk 0,.code (q9 [1,1,1])],[(3,.ptr 4 0 0),(5,.ptr 5 0 0),(7,.ptr 6 0 0),(9,.fn 116 [] [.iptr 1 [[.sl false 1 (List.map (d8 .i64) nodes)]] 0 0])],[some ⟨88,true,[(e9.l state (d9.l c [.int .i64 index,.ptr 1 0 0]))]⟩,some ⟨4,true,[[(f6 2 (List.map (d8 .u8) b2)),(f6 3 (List.map (d8 .u8) b3)),.int .i64 fuse,.bool down]]⟩,some ⟨1,false,(List.map (d8 .u8) b2)⟩,some ⟨1,false,(List.map (d8 .u8) b3)⟩,some ⟨1,true,[[.ptr 0 0 0]]⟩,some ⟨26,false,[(f3.enc m)]⟩,some ⟨1,true,[[.msl 7 0 0 0 false]]⟩,some ⟨26,false,[]⟩]⟩) (by kernel_rfl) ?_
 refine ac8 (n1:=0) (n2:=(List.map f3.enc ([])).length) (fun n_len=> .go ⟨[.code (q9 [1,1,0,1,0]),.blk 0,.code (q9 [1,1,1])],[(3,.ptr 4 0 0),(5,.ptr 5 0 0),(7,.ptr 6 0 0),(9,.fn 116 [] [.iptr 1 [[.sl false 1 (List.map (d8 .i64) nodes)]] 0 0])],[some ⟨88,true,[(e9.l state (d9.l c [.int .i64 index,.ptr 1 0 0]))]⟩,some ⟨4,true,[[(f6 2 (List.map (d8 .u8) b2)),(f6 3 (List.map (d8 .u8) b3)),.int .i64 fuse,.bool down]]⟩,some ⟨1,false,(List.map (d8 .u8) b2)⟩,some ⟨1,false,(List.map (d8 .u8) b3)⟩,some ⟨1,true,[[.ptr 0 0 0]]⟩,some ⟨26,false,[(f3.enc m)]⟩,some ⟨1,true,[[.msl 7 0 n_len n_len false]]⟩,some ⟨26,false,[]⟩]⟩) (by simp) ?_
 exact ha
theorem bo6 {nodes:List Int}{m:f3}{state:e9}{c:d9}{index fuse:Int}{down:Bool}{b2 b3:List Int}{b7 r:List f3}{x:u5⊕(List f3)} (h:Z9 nodes m state c index fuse down b2 b3 b7=some x) (ha:z8 (J9 nodes m state c index fuse down b2 b3) r x):i0 E (Cx.of Tryz.f63 true 4) (QW (Rs (z7 state c index fuse down b2 b3) r)) (.go ((Q9 nodes m state c index fuse down b2 b3) (.s1 b7))):=by
 unfold Z9 at h
 refine l6 hm 1 _ ?_
 have ok1:=fun (y:List Int) (hy:aC1 nodes=some y)=>bZ2 hy
 refine cU6 (m:=7) (c:=q9 [1,1,0,1,0]) (t:= [.blk 0,.code (q9 [1,1,1])]) (fr:= [(3,.ptr 4 0 0),(5,.ptr 5 0 0),(7,.ptr 6 0 0),(9,.fn 116 [] [.iptr 1 [[.sl false 1 (List.map (d8 .i64) nodes)]] 0 0])]) (σ:= [some ⟨88,true,[(e9.l state (d9.l c [.int .i64 index,.ptr 1 0 0]))]⟩,some ⟨4,true,[[(f6 2 (List.map (d8 .u8) b2)),(f6 3 (List.map (d8 .u8) b3)),.int .i64 fuse,.bool down]]⟩,some ⟨1,false,(List.map (d8 .u8) b2)⟩,some ⟨1,false,(List.map (d8 .u8) b3)⟩,some ⟨1,true,[[.ptr 0 0 0]]⟩,some ⟨26,false,[(f3.enc m)]⟩,some ⟨1,true,[[(f6 7 (List.map f3.enc b7))]]⟩,some ⟨26,false,(List.map f3.enc b7)⟩]) (caps1:= [.iptr 1 [[.sl false 1 (List.map (d8 .i64) nodes)]] 0 0]) (caps:= [.iptr 1 [[.sl false 1 (List.map (d8 .i64) nodes)]] 0 0]) (sub1:= []) (sub:= []) J2 h (by kernel_rfl) ⟨rfl,rfl⟩ (by kernel_rfl) (by kernel_rfl) ok1 (fun y1 h1 h=> ?_)
 obtain rfl:=Option.some.inj h
 exact ha
theorem bj3 {nodes:List Int}{m:f3}{state:e9}{c:d9}{index fuse:Int}{down:Bool}{b2 b3:List Int}{m2:f3}{b7 r:List f3}{x:u5⊕(List f3)} (h:W7 nodes m state c index fuse down b2 b3 m2 b7=some x) (ha:z8 (J9 nodes m state c index fuse down b2 b3) r x):M2 E (Cx.of Tryz.f63 true 4) (QW (Rs (z7 state c index fuse down b2 b3) r)) 7 (q9 [1,1,0,1,0]) [.blk 0,.code (q9 [1,1,1])] [(3,.ptr 4 0 0),(5,.ptr 5 0 0),(7,.ptr 6 0 0),(9,.fn 116 [] [.iptr 1 [[.sl false 1 (List.map (d8 .i64) nodes)]] 0 0])] [] [] ([]) [some ⟨88,true,[(e9.l state (d9.l c [.int .i64 index,.ptr 1 0 0]))]⟩,some ⟨4,true,[[(f6 2 (List.map (d8 .u8) b2)),(f6 3 (List.map (d8 .u8) b3)),.int .i64 fuse,.bool down]]⟩,some ⟨1,false,(List.map (d8 .u8) b2)⟩,some ⟨1,false,(List.map (d8 .u8) b3)⟩,some ⟨1,true,[[.ptr 0 0 0]]⟩,some ⟨26,false,[(f3.enc m2)]⟩,some ⟨1,true,[[(f6 7 (List.map f3.enc b7))]]⟩,some ⟨26,false,(List.map f3.enc b7)⟩]:=by
 unfold W7 at h
 refine aZ4 ?_
 exact ztP 8 h ha
theorem bi3 {nodes:List Int}{m:f3}{state:e9}{c:d9}{index fuse:Int}{down:Bool}{b2 b3:List Int}{m2:f3}{b7:List f3}{y:Int}{Y:List Int}{r:List f3}{x:u5⊕(List f3)} (h:W8 nodes m state c index fuse down b2 b3 m2 b7 y Y=some x) (ha:z8 (J9 nodes m state c index fuse down b2 b3) r x):M2 E (Cx.of Tryz.f63 true 4) (QW (Rs (z7 state c index fuse down b2 b3) r)) 7 (q9 [1,1,0,1,0]) [.blk 0,.code (q9 [1,1,1])] [(3,.ptr 4 0 0),(5,.ptr 5 0 0),(7,.ptr 6 0 0),(9,.fn 116 [] [.iptr 1 [[.sl false 1 (List.map (d8 .i64) nodes)]] 0 0])] [] [] (J2 y::List.map J2 Y) [some ⟨88,true,[(e9.l state (d9.l c [.int .i64 index,.ptr 1 0 0]))]⟩,some ⟨4,true,[[(f6 2 (List.map (d8 .u8) b2)),(f6 3 (List.map (d8 .u8) b3)),.int .i64 fuse,.bool down]]⟩,some ⟨1,false,(List.map (d8 .u8) b2)⟩,some ⟨1,false,(List.map (d8 .u8) b3)⟩,some ⟨1,true,[[.ptr 0 0 0]]⟩,some ⟨26,false,[(f3.enc m2)]⟩,some ⟨1,true,[[(f6 7 (List.map f3.enc b7))]]⟩,some ⟨26,false,(List.map f3.enc b7)⟩]:=by
 unfold W8 at h
 refine aQ1 ?_
 refine zd 7 [] h (fun _=>J1) fun y1 h=> ?_
 refine zn 12 h fun h=> ?_
 refine za 0 f3.enc b7 ([(⟨m2.Kind,y1,y,m2.Epoch,m2.Ballot,m2.Accepted,m2.Nonce,m2.Time,m2.Up,m2.Code,m2.HasPlan,m2.Plan,m2.ID,m2.Session,m2.Payload⟩:f3)]) ?_
 refine l6 hm 6 _ ?_
 obtain rfl:=Option.some.inj h
 exact aH8 [] (s1:= [some ⟨88,true,[(e9.l state (d9.l c [.int .i64 index,.ptr 1 0 0]))]⟩,some ⟨4,true,[[(f6 2 (List.map (d8 .u8) b2)),(f6 3 (List.map (d8 .u8) b3)),.int .i64 fuse,.bool down]]⟩,some ⟨1,false,(List.map (d8 .u8) b2)⟩,some ⟨1,false,(List.map (d8 .u8) b3)⟩,some ⟨1,true,[[.ptr 0 0 0]]⟩,some ⟨26,false,[(.int .i64 m2.Kind:: .int .i64 y1:: .int .i64 y:: .int .i64 m2.Epoch:: .int .i64 m2.Ballot:: .int .i64 m2.Accepted:: .int .i64 m2.Nonce:: .int .i64 m2.Time:: .int .u64 m2.Up:: .int .i64 m2.Code:: .bool m2.HasPlan::Plan.l m2.Plan [.sl false 1 (List.map (d8 .i64) m2.ID),.sl false 1 (List.map (d8 .u8) m2.Session),.sl false 1 (List.map (d8 .u8) m2.Payload)])]⟩,some ⟨1,true,[[.msl 7 0 ((List.map f3.enc (b7++ [(⟨m2.Kind,y1,y,m2.Epoch,m2.Ballot,m2.Accepted,m2.Nonce,m2.Time,m2.Up,m2.Code,m2.HasPlan,m2.Plan,m2.ID,m2.Session,m2.Payload⟩:f3)])).length) ((List.map f3.enc (b7++ [(⟨m2.Kind,y1,y,m2.Epoch,m2.Ballot,m2.Accepted,m2.Nonce,m2.Time,m2.Up,m2.Code,m2.HasPlan,m2.Plan,m2.ID,m2.Session,m2.Payload⟩:f3)])).length) false]]⟩,some ⟨26,false,(List.map f3.enc (b7++ [(⟨m2.Kind,y1,y,m2.Epoch,m2.Ballot,m2.Accepted,m2.Nonce,m2.Time,m2.Up,m2.Code,m2.HasPlan,m2.Plan,m2.ID,m2.Session,m2.Payload⟩:f3)]))⟩]) (s:= [some ⟨88,true,[(e9.l state (d9.l c [.int .i64 index,.ptr 1 0 0]))]⟩,some ⟨4,true,[[(f6 2 (List.map (d8 .u8) b2)),(f6 3 (List.map (d8 .u8) b3)),.int .i64 fuse,.bool down]]⟩,some ⟨1,false,(List.map (d8 .u8) b2)⟩,some ⟨1,false,(List.map (d8 .u8) b3)⟩,some ⟨1,true,[[.ptr 0 0 0]]⟩,some ⟨26,false,[(.int .i64 m2.Kind:: .int .i64 y1:: .int .i64 y:: .int .i64 m2.Epoch:: .int .i64 m2.Ballot:: .int .i64 m2.Accepted:: .int .i64 m2.Nonce:: .int .i64 m2.Time:: .int .u64 m2.Up:: .int .i64 m2.Code:: .bool m2.HasPlan::Plan.l m2.Plan [.sl false 1 (List.map (d8 .i64) m2.ID),.sl false 1 (List.map (d8 .u8) m2.Session),.sl false 1 (List.map (d8 .u8) m2.Payload)])]⟩,some ⟨1,true,[[.msl 7 0 ((List.map f3.enc (b7++ [(⟨m2.Kind,y1,y,m2.Epoch,m2.Ballot,m2.Accepted,m2.Nonce,m2.Time,m2.Up,m2.Code,m2.HasPlan,m2.Plan,m2.ID,m2.Session,m2.Payload⟩:f3)])).length) ((List.map f3.enc (b7++ [(⟨m2.Kind,y1,y,m2.Epoch,m2.Ballot,m2.Accepted,m2.Nonce,m2.Time,m2.Up,m2.Code,m2.HasPlan,m2.Plan,m2.ID,m2.Session,m2.Payload⟩:f3)])).length) false]]⟩,some ⟨26,false,(List.map f3.enc (b7++ [(⟨m2.Kind,y1,y,m2.Epoch,m2.Ballot,m2.Accepted,m2.Nonce,m2.Time,m2.Up,m2.Code,m2.HasPlan,m2.Plan,m2.ID,m2.Session,m2.Payload⟩:f3)]))⟩]) (by kernel_rfl) (rfl) (by kernel_rfl) ha
theorem bo5 {nodes:List Int}{m:f3}{state:e9}{c:d9}{index fuse:Int}{down:Bool}{b2 b3:List Int}{m2:f3}{b7:List f3}{Y:List Int}{r:List f3}{x:u5⊕(List f3)} (h:aa0 nodes m state c index fuse down b2 b3 m2 b7 Y=some x) (ha:z8 (J9 nodes m state c index fuse down b2 b3) r x):M2 E (Cx.of Tryz.f63 true 4) (QW (Rs (z7 state c index fuse down b2 b3) r)) 7 (q9 [1,1,0,1,0]) [.blk 0,.code (q9 [1,1,1])] [(3,.ptr 4 0 0),(5,.ptr 5 0 0),(7,.ptr 6 0 0),(9,.fn 116 [] [.iptr 1 [[.sl false 1 (List.map (d8 .i64) nodes)]] 0 0])] [] [] (List.map J2 Y) [some ⟨88,true,[(e9.l state (d9.l c [.int .i64 index,.ptr 1 0 0]))]⟩,some ⟨4,true,[[(f6 2 (List.map (d8 .u8) b2)),(f6 3 (List.map (d8 .u8) b3)),.int .i64 fuse,.bool down]]⟩,some ⟨1,false,(List.map (d8 .u8) b2)⟩,some ⟨1,false,(List.map (d8 .u8) b3)⟩,some ⟨1,true,[[.ptr 0 0 0]]⟩,some ⟨26,false,[(f3.enc m2)]⟩,some ⟨1,true,[[(f6 7 (List.map f3.enc b7))]]⟩,some ⟨26,false,(List.map f3.enc b7)⟩]:=by
 cases Y with
 | nil=>exact bj3 h ha
 | cons y Y=>exact bi3 h ha
noncomputable def ax6 (nodes:List Int) (m:f3) (state:e9) (c:d9) (index fuse:Int) (down:Bool) (b2 b3:List Int):Option (List f3):=T8 (G7 nodes m state c index fuse down b2 b3) (.s0)
theorem bw1 {nodes:List Int}{m:f3}{state:e9}{c:d9}{index fuse:Int}{down:Bool}{b2 b3:List Int}{r:List f3} (h:Ev (G7 nodes m state c index fuse down b2 b3) (.s0) r):i4 E 63 [.ptr 0 0 0,.fn 116 [] [.iptr 1 [[.sl false 1 (List.map (d8 .i64) nodes)]] 0 0],.agg (f3.enc m)] [some ⟨88,true,[(e9.l state (d9.l c [.int .i64 index,.ptr 1 0 0]))]⟩,some ⟨4,true,[[(f6 2 (List.map (d8 .u8) b2)),(f6 3 (List.map (d8 .u8) b3)),.int .i64 fuse,.bool down]]⟩,some ⟨1,false,(List.map (d8 .u8) b2)⟩,some ⟨1,false,(List.map (d8 .u8) b3)⟩] (Rs (z7 state c index fuse down b2 b3) r):=
 ao1 (m:=(Q9 nodes m state c index fuse down b2 b3) (.s0)) (fn:=Tryz.f63) (by kernel_rfl) (by kernel_rfl) (bc3 (Pd:=(J9 nodes m state c index fuse down b2 b3)) (fun s x r hs ha=>by
  cases s with
  | s0=>exact bm8 hs ha
  | s1=>exact bo6 hs ha
  | s2=>exact bo5 hs ha) h)
theorem bw4 {nodes:List Int}{m:f3}{state:e9}{c:d9}{index fuse:Int}{down:Bool}{b2 b3:List Int}{r:List f3} (h:ax6 nodes m state c index fuse down b2 b3=some r):i4 E 63 [.ptr 0 0 0,.fn 116 [] [.iptr 1 [[.sl false 1 (List.map (d8 .i64) nodes)]] 0 0],.agg (f3.enc m)] [some ⟨88,true,[(e9.l state (d9.l c [.int .i64 index,.ptr 1 0 0]))]⟩,some ⟨4,true,[[(f6 2 (List.map (d8 .u8) b2)),(f6 3 (List.map (d8 .u8) b3)),.int .i64 fuse,.bool down]]⟩,some ⟨1,false,(List.map (d8 .u8) b2)⟩,some ⟨1,false,(List.map (d8 .u8) b3)⟩] (Rs (z7 state c index fuse down b2 b3) r):=bw1 (bf3 h)
end Go.RX.L

namespace Go.RX.L
open Go Go.RX Go.Proofs
attribute [local irreducible] i0
noncomputable def db5 (y:Bool):D×f4:=(.bool y,[])
noncomputable def aV2 (p_:Plan) (target:Int):Option Bool:=(bif (decide ((target:Int)≥0)) then (bif ((target:Int)==p_.Target) then (some true) else (bif ((target:Int)==p_.Prev) then (bif (decide ((p_.Percent:Int)<100)) then (some true) else (some ((target:Int)==p_.Spill))) else (some ((target:Int)==p_.Spill)))) else (some false))
theorem cS6 {p_:Plan}{target:Int}{r:Bool} (h:aV2 p_ target=some r):i4 E 83 [.agg (Plan.enc p_),.int .i64 target] [] (Rs db5 r):=so (fn:=Tryz.f83) (k:=false) (m:=0) h<| by
 intro r h;unfold aV2 at h
 refine zs 11 h (fun h=> ?_) fun h=> ?_
 ·
  refine zs 10 h (fun h=> ?_) fun h=> ?_
  ·
   exact zu 34 h
  refine zs 10 h (fun h=> ?_) fun h=> ?_
  ·
   refine zs 14 h (fun h=> ?_) fun h=> ?_
   ·
    exact zu 14 h
   exact zu 15 h
  exact zu 29 h
 exact zu 32 h
end Go.RX.L

namespace Go.RX.L
open Go Go.RX Go.Proofs
attribute [local irreducible] i0
noncomputable def cl4 (y:i8):D×f4:=(.agg (i8.enc y),[])
noncomputable def aI2 (epoch ballot:Int) (own:Plan):Option i8:=(some (⟨epoch,ballot,1,(⟨epoch,own.Target,own.Prev,own.Spill,own.Percent,own.Stamp,own.Since,own.Ramped,own.Up,own.Sup,own.Pen,own.Changes⟩:Plan),0,(⟨0,0,0,0,0,0,0,0,0,0,[],[]⟩:Plan),0,0⟩:i8))
theorem cf1 {epoch ballot:Int}{own:Plan}{r:i8} (h:aI2 epoch ballot own=some r):i4 E 82 [.int .i64 epoch,.int .i64 ballot,.agg (Plan.enc own)] [] (Rs cl4 r):=so (fn:=Tryz.f82) (k:=false) (m:=0) h<| by
 intro r h;unfold aI2 at h
 exact zu 26 h [.slot 0 [some 1,some 1]]
end Go.RX.L

namespace Go.RX.L
open Go Go.RX Go.Proofs
attribute [local irreducible] i0
noncomputable def cw7 (y:List Int):D×f4:=(.fn 116 [] [.iptr 1 [[.sl false 1 (List.map (d8 .i64) y)]] 0 0],[])
noncomputable def aP2 (s_:List Int):Option (List Int):=(some s_)
theorem cm9 {s_ r:List Int} (h:aP2 s_=some r):i4 E 84 [.sl false 1 (List.map (d8 .i64) s_)] [] (Rs cw7 r):=so (fn:=Tryz.f84) (k:=false) (m:=0) h<| by
 intro r h;unfold aP2 at h
 exact zu 11 h
end Go.RX.L

namespace Go.RX.L
open Go Go.RX Go.Proofs
attribute [local irreducible] i0
noncomputable def r9:=p7 (q0 Tryz.f52)
noncomputable def bj6 (c:d9) (index fuse:Int) (down:Bool) (b2 b3:List Int) (y:(List f3)×e9):D×f4:=(.sl false 26 (List.map f3.enc y.1),[some ⟨88,true,[(e9.l y.2 (d9.l c [.int .i64 index,.ptr 1 0 0]))]⟩,some ⟨4,true,[[(f6 2 (List.map (d8 .u8) b2)),(f6 3 (List.map (d8 .u8) b3)),.int .i64 fuse,.bool down]]⟩,some ⟨1,false,(List.map (d8 .u8) b2)⟩,some ⟨1,false,(List.map (d8 .u8) b3)⟩])
inductive C8 where
 | s0
 | s1 (t42:Bool)
 | s3 (change t105:Bool) (next:Plan)
 | s2 (change:Bool) (b t154 t155:Int) (state2:e9) (named open_:List Int)
 | s4 (change:Bool) (b:Int) (open_:List Int) (state2:e9) (named:List Int)
 | s7 (b:Int) (open_:List Int) (state2:e9) (named:List Int) (out:List f3)
 | s6 (t220:Bool) (state2:e9) (out:List f3) (ask:f3)
 | s5 (state2:e9) (out:List f3) (ask:f3)
noncomputable def bk8 (now:Int) (state:e9) (c:d9) (index fuse:Int) (down:Bool) (b2 b3:List Int):C8→M
 | .s0=>A6 Tryz.f52 [.ptr 0 0 0,.int .i64 now] [some ⟨88,true,[(e9.l state (d9.l c [.int .i64 index,.ptr 1 0 0]))]⟩,some ⟨4,true,[[(f6 2 (List.map (d8 .u8) b2)),(f6 3 (List.map (d8 .u8) b3)),.int .i64 fuse,.bool down]]⟩,some ⟨1,false,(List.map (d8 .u8) b2)⟩,some ⟨1,false,(List.map (d8 .u8) b3)⟩]
 | .s1 t42=>⟨[.code (r9 [1,0,1]),.code (r9 [1,1])],[(0,.ptr 0 0 0),(1,.int .i64 now),(42,.bool t42)],[some ⟨88,true,[(e9.l state (d9.l c [.int .i64 index,.ptr 1 0 0]))]⟩,some ⟨4,true,[[(f6 2 (List.map (d8 .u8) b2)),(f6 3 (List.map (d8 .u8) b3)),.int .i64 fuse,.bool down]]⟩,some ⟨1,false,(List.map (d8 .u8) b2)⟩,some ⟨1,false,(List.map (d8 .u8) b3)⟩]⟩
 | .s3 change t105 next=>⟨[.code (r9 [1,1,1,1,1,0,1]),.code (r9 [1,1,1,1,1,1])],[(0,.ptr 0 0 0),(1,.int .i64 now),(5,.ptr 4 0 0),(7,.bool change),(105,.bool t105)],[some ⟨88,true,[(e9.l state (d9.l c [.int .i64 index,.ptr 1 0 0]))]⟩,some ⟨4,true,[[(f6 2 (List.map (d8 .u8) b2)),(f6 3 (List.map (d8 .u8) b3)),.int .i64 fuse,.bool down]]⟩,some ⟨1,false,(List.map (d8 .u8) b2)⟩,some ⟨1,false,(List.map (d8 .u8) b3)⟩,some ⟨12,false,[(Plan.enc next)]⟩]⟩
 | .s2 change b t154 t155 state2 named open_=>⟨[.lpc (r9 [1,1,1,1,1,1,1,1,1,1,0,1,0,0]) 68507889249886074290797726533575766546371841409,.blk 0,.code (r9 [1,1,1,1,1,1,1,1,1,1,1])],[(0,.ptr 0 0 0),(7,.bool change),(8,.int .i64 b),(10,(f6 4 (List.map (d8 .i64) named))),(11,(f6 5 (List.map (d8 .i64) open_))),(154,.int .i64 t154),(155,.int .i64 t155)],[some ⟨88,true,[(e9.l state2 (d9.l c [.int .i64 index,.ptr 1 0 0]))]⟩,some ⟨4,true,[[(f6 2 (List.map (d8 .u8) b2)),(f6 3 (List.map (d8 .u8) b3)),.int .i64 fuse,.bool down]]⟩,some ⟨1,false,(List.map (d8 .u8) b2)⟩,some ⟨1,false,(List.map (d8 .u8) b3)⟩,some ⟨1,false,(List.map (d8 .i64) named)⟩,some ⟨1,false,(List.map (d8 .i64) open_)⟩]⟩
 | .s4 change b open_ state2 named=>⟨[.code (r9 [1,1,1,1,1,1,1,1,1,1,1])],[(0,.ptr 0 0 0),(7,.bool change),(8,.int .i64 b),(10,(f6 4 (List.map (d8 .i64) named))),(11,.sl false 1 (List.map (d8 .i64) open_))],[some ⟨88,true,[(e9.l state2 (d9.l c [.int .i64 index,.ptr 1 0 0]))]⟩,some ⟨4,true,[[(f6 2 (List.map (d8 .u8) b2)),(f6 3 (List.map (d8 .u8) b3)),.int .i64 fuse,.bool down]]⟩,some ⟨1,false,(List.map (d8 .u8) b2)⟩,some ⟨1,false,(List.map (d8 .u8) b3)⟩,some ⟨1,false,(List.map (d8 .i64) named)⟩]⟩
 | .s7 b open_ state2 named out=>⟨[.code (r9 [1,1,1,1,1,1,1,1,1,1,1,1,1])],[(0,.ptr 0 0 0),(8,.int .i64 b),(10,(f6 4 (List.map (d8 .i64) named))),(11,.sl false 1 (List.map (d8 .i64) open_)),(13,(f6 5 (List.map f3.enc out)))],[some ⟨88,true,[(e9.l state2 (d9.l c [.int .i64 index,.ptr 1 0 0]))]⟩,some ⟨4,true,[[(f6 2 (List.map (d8 .u8) b2)),(f6 3 (List.map (d8 .u8) b3)),.int .i64 fuse,.bool down]]⟩,some ⟨1,false,(List.map (d8 .u8) b2)⟩,some ⟨1,false,(List.map (d8 .u8) b3)⟩,some ⟨1,false,(List.map (d8 .i64) named)⟩,some ⟨26,false,(List.map f3.enc out)⟩]⟩
 | .s6 t220 state2 out ask=>⟨[.code (r9 [1,1,1,1,1,1,1,1,1,1,1,1,1,1,0,1]),.code (r9 [1,1,1,1,1,1,1,1,1,1,1,1,1,1,1])],[(0,.ptr 0 0 0),(13,(f6 4 (List.map f3.enc out))),(14,.ptr 5 0 0),(220,.bool t220)],[some ⟨88,true,[(e9.l state2 (d9.l c [.int .i64 index,.ptr 1 0 0]))]⟩,some ⟨4,true,[[(f6 2 (List.map (d8 .u8) b2)),(f6 3 (List.map (d8 .u8) b3)),.int .i64 fuse,.bool down]]⟩,some ⟨1,false,(List.map (d8 .u8) b2)⟩,some ⟨1,false,(List.map (d8 .u8) b3)⟩,some ⟨26,false,(List.map f3.enc out)⟩,some ⟨26,false,[(f3.enc ask)]⟩]⟩
 | .s5 state2 out ask=>⟨[.code (r9 [1,1,1,1,1,1,1,1,1,1,1,1,1,1,1])],[(0,.ptr 0 0 0),(13,(f6 4 (List.map f3.enc out))),(14,.ptr 5 0 0)],[some ⟨88,true,[(e9.l state2 (d9.l c [.int .i64 index,.ptr 1 0 0]))]⟩,some ⟨4,true,[[(f6 2 (List.map (d8 .u8) b2)),(f6 3 (List.map (d8 .u8) b3)),.int .i64 fuse,.bool down]]⟩,some ⟨1,false,(List.map (d8 .u8) b2)⟩,some ⟨1,false,(List.map (d8 .u8) b3)⟩,some ⟨26,false,(List.map f3.enc out)⟩,some ⟨26,false,[(f3.enc ask)]⟩]⟩
abbrev L3 (now:Int) (state:e9) (c:d9) (index fuse:Int) (down:Bool) (b2 b3:List Int):=SOk E (Cx.of Tryz.f52 true 4) (bj6 c index fuse down b2 b3) (bk8 now state c index fuse down b2 b3)
noncomputable def ae7 (now:Int) (state:e9) (c:d9) (index fuse:Int) (down:Bool) (b2 b3:List Int):Option (C8⊕((List f3)×e9)):=((am0 now state c index fuse down b2 b3).bind fun y1=>(bif (!y1) then (some (.inl (.s1 true))) else (bif ((state.prop.Phase:Int) !=0) then (some (.inl (.s1 (decide (((IntKind.i64.wrap (now-state.made)):Int)<c.Retry))))) else (some (.inl (.s1 false))))))
noncomputable def af2 (now:Int) (state:e9) (c:d9) (index fuse:Int) (down:Bool) (b2 b3:List Int) (t42:Bool):Option (C8⊕((List f3)×e9)):=(bif t42 then (some (.inr ([],state))) else ((bd1 state.votes c.Observers now c.Fresh).bind fun y2=>((ap3 c state.known y2 now).bind fun y3=>(bif (!y3.2) then (some (.inr ([],(⟨state.boot,state.known,state.heard,state.votes,state.hold,state.asked,(⟨0,0,0,(⟨0,0,0,0,0,0,0,0,0,0,[],[]⟩:Plan),0,(⟨0,0,0,0,0,0,0,0,0,0,[],[]⟩:Plan),0,0⟩:i8),state.made,state.top,state.sealed,state.told⟩:e9)))) else (bif ((y3.1.Target:Int) !=state.known.Target) then (some (.inl (.s3 ((y3.1.Target:Int) !=state.known.Target) (decide (((IntKind.i64.wrap (now-state.heard)):Int)<c.D_)) y3.1))) else (some (.inl (.s3 ((y3.1.Target:Int) !=state.known.Target) false y3.1))))))))
noncomputable def ae9 (now:Int) (state:e9) (c:d9) (index fuse:Int) (down:Bool) (b2 b3:List Int) (change t105:Bool) (next:Plan):Option (C8⊕((List f3)×e9)):=(bif t105 then (some (.inr ([],state))) else ((aN1 state.top state.boot index).bind fun y2=>(bif ((y2.2:Int) !=0) then (some (.inr ([],state))) else ((aI2 (IntKind.i64.wrap (state.known.Epoch+1)) y2.1 next).bind fun y4=>(some (.inl (.s2 change y2.1 c.Targets 0 (⟨state.boot,state.known,state.heard,state.votes,state.hold,state.asked,y4,now,y2.1,state.sealed,state.told⟩:e9) ([]) ([]))))))))
noncomputable def O6 (now:Int) (state:e9) (c:d9) (index fuse:Int) (down:Bool) (b2 b3:List Int) (change:Bool) (b t154 t155:Int) (state2:e9) (named open_:List Int):Option (C8⊕((List f3)×e9)):=(bif (decide ((t155:Int)<t154)) then ((aV2 state2.known t155).bind fun y2=>(bif y2 then (bif (decide (((List.map (d8 .i64) named).length+1)*8≤i7)) then (bif (!decide ((t155:Int)<0)) then (bif (((k7 .u64 (n5 .u64 state2.sealed t155) 1):Int)==0) then ((Y7 c t155).bind fun y7=>(bif (decide (((List.map (d8 .i64) open_).length+1)*8≤i7)) then (some (.inl (.s2 change b t154 (IntKind.i64.wrap (t155+1)) state2 (named++ [t155]) (open_++ [y7])))) else none)) else (some (.inl (.s2 change b t154 (IntKind.i64.wrap (t155+1)) state2 (named++ [t155]) open_)))) else none) else none) else (some (.inl (.s2 change b t154 (IntKind.i64.wrap (t155+1)) state2 named open_))))) else (some (.inl (.s4 change b open_ state2 named))))
noncomputable def ar7 (now:Int) (state:e9) (c:d9) (index fuse:Int) (down:Bool) (b2 b3:List Int) (change:Bool) (b:Int) (open_:List Int) (state2:e9) (named:List Int):Option (C8⊕((List f3)×e9)):=(bif change then ((aP2 open_).bind fun y2=>((ax6 y2 (⟨12,0,0,state2.prop.Epoch,0,0,0,0,0,0,false,(⟨0,0,0,0,0,0,0,0,0,0,[],[]⟩:Plan),[],[],[]⟩:f3) state2 c index fuse down b2 b3).bind fun y3=>(some (.inl (.s7 b open_ state2 named y3))))) else (some (.inl (.s7 b open_ state2 named ([])))))
noncomputable def ar5 (now:Int) (state:e9) (c:d9) (index fuse:Int) (down:Bool) (b2 b3:List Int) (b:Int) (open_:List Int) (state2:e9) (named:List Int) (out:List f3):Option (C8⊕((List f3)×e9)):=(bif (decide (((((List.map (d8 .i64) named).length:Nat):Int):Int)>0)) then (some (.inl (.s6 (((((List.map (d8 .i64) open_).length:Nat):Int):Int)==0) state2 out (⟨4,0,0,state2.prop.Epoch,b,0,0,0,0,0,true,state2.known,[],[],[]⟩:f3)))) else (some (.inl (.s6 false state2 out (⟨4,0,0,state2.prop.Epoch,b,0,0,0,0,0,true,state2.known,[],[],[]⟩:f3)))))
noncomputable def aK6 (now:Int) (state:e9) (c:d9) (index fuse:Int) (down:Bool) (b2 b3:List Int) (t220:Bool) (state2:e9) (out:List f3) (ask:f3):Option (C8⊕((List f3)×e9)):=(bif t220 then (some (.inl (.s5 state2 out (⟨ask.Kind,ask.From,ask.To,ask.Epoch,ask.Ballot,ask.Accepted,ask.Nonce,ask.Time,ask.Up,1,ask.HasPlan,ask.Plan,ask.ID,ask.Session,ask.Payload⟩:f3)))) else (some (.inl (.s5 state2 out ask))))
noncomputable def ar3 (now:Int) (state:e9) (c:d9) (index fuse:Int) (down:Bool) (b2 b3:List Int) (state2:e9) (out:List f3) (ask:f3):Option (C8⊕((List f3)×e9)):=((L5 state2 c index fuse down b2 b3).bind fun y1=>((J7 ask state2 c index fuse down b2 b3).bind fun y2=>(bif (decide (((List.map f3.enc out).length+(List.take ((List.map f3.enc y2).length) (List.drop 0 (List.map f3.enc y2))).length)*288≤i7)) then (some (.inr ((out++y2),state2))) else none)))
noncomputable def n7 (now:Int) (state:e9) (c:d9) (index fuse:Int) (down:Bool) (b2 b3:List Int):C8→Option (C8⊕((List f3)×e9))
 | .s0=>ae7 now state c index fuse down b2 b3
 | .s1 t42=>af2 now state c index fuse down b2 b3 t42
 | .s3 change t105 next=>ae9 now state c index fuse down b2 b3 change t105 next
 | .s2 change b t154 t155 state2 named open_=>O6 now state c index fuse down b2 b3 change b t154 t155 state2 named open_
 | .s4 change b open_ state2 named=>ar7 now state c index fuse down b2 b3 change b open_ state2 named
 | .s7 b open_ state2 named out=>ar5 now state c index fuse down b2 b3 b open_ state2 named out
 | .s6 t220 state2 out ask=>aK6 now state c index fuse down b2 b3 t220 state2 out ask
 | .s5 state2 out ask=>ar3 now state c index fuse down b2 b3 state2 out ask
theorem bM1 {now state c index fuse down b2 b3}:L3 now state c index fuse down b2 b3 .s0 (ae7 now state c index fuse down b2 b3):=by
 intro r x h ha;unfold ae7 at h
 refine zdR 7 [] h (fun _=>bv3) fun y1 h=> ?_
 refine zs 0 h (fun h=> ?_) fun h=> ?_
 ·
  exact zk 9 h ha
 refine zs 8 h (fun h=> ?_) fun h=> ?_
 ·
  exact zk 17 h ha
 exact zk 15 h ha
theorem bM8 {now state c index fuse down b2 b3 t42}:L3 now state c index fuse down b2 b3 (.s1 t42) (af2 now state c index fuse down b2 b3 t42):=by
 intro r x h ha;unfold af2 at h
 refine zs 1 h (fun h=> ?_) fun h=> ?_
 ·
  exact zt 5 h ha [.slot 0 [some 26]]
 refine zd 8 [] h (fun _=>cH9) fun y2 h=> ?_
 refine zd 0 [] h (fun _=>cD7) fun y3 h=> ?_
 refine zs 9 h (fun h=> ?_) fun h=> ?_
 ·
  refine zf 15 [.blk 0 [some 1,some 1,some 1,some 1]] ?_
  exact zt 1 h ha [.slot 0 [some 26]]
 refine zs 8 h (fun h=> ?_) fun h=> ?_
 ·
  exact zk 15 h ha
 exact zk 13 h ha
theorem bO2 {now state c index fuse down b2 b3 change t105 next}:L3 now state c index fuse down b2 b3 (.s3 change t105 next) (ae9 now state c index fuse down b2 b3 change t105 next):=by
 intro r x h ha;unfold ae9 at h
 refine zs 1 h (fun h=> ?_) fun h=> ?_
 ·
  exact zt 5 h ha [.slot 0 [some 26]]
 refine zd 6 [] h (fun _=>cG6) fun y2 h=> ?_
 refine zs 7 h (fun h=> ?_) fun h=> ?_
 ·
  exact zt 5 h ha [.slot 0 [some 26]]
 refine zd 5 [] h (fun _=>cf1) fun y4 h=> ?_
 refine l6 hm 25 _ ?_
 obtain rfl:=Option.some.inj h
 refine ar4 68507889249886074290797726533575766546371841409 [.mat 10 1,.mat 11 1] (m' :=⟨[.lpc (r9 [1,1,1,1,1,1,1,1,1,1,0,1,0,0]) 68507889249886074290797726533575766546371841409,.blk 0,.code (r9 [1,1,1,1,1,1,1,1,1,1,1])],[(0,.ptr 0 0 0),(7,.bool change),(8,.int .i64 y2.1),(10,.msl 4 0 0 0 false),(11,.msl 5 0 0 0 false),(154,.int .i64 c.Targets),(155,.int .i64 0)],[some ⟨88,true,[(.int .i64 state.boot::Plan.l state.known (.int .i64 state.heard:: .sl false 3 (List.map i9.enc state.votes)::n9.l state.hold (.bool state.asked.ever:: .int .i64 state.asked.at_::i8.l y4 (.int .i64 now:: .int .i64 y2.1:: .int .u64 state.sealed:: .bool state.told.ever:: .int .i64 state.told.at_::d9.l c [.int .i64 index,.ptr 1 0 0]))))]⟩,some ⟨4,true,[[(f6 2 (List.map (d8 .u8) b2)),(f6 3 (List.map (d8 .u8) b3)),.int .i64 fuse,.bool down]]⟩,some ⟨1,false,(List.map (d8 .u8) b2)⟩,some ⟨1,false,(List.map (d8 .u8) b3)⟩,some ⟨1,false,[]⟩,some ⟨1,false,[]⟩]⟩) (by kernel_rfl) ?_
 refine ac8 (n1:=0) (n2:=(List.map (d8 .i64) ([])).length) (fun n_len=> .go ⟨[.lpc (r9 [1,1,1,1,1,1,1,1,1,1,0,1,0,0]) 68507889249886074290797726533575766546371841409,.blk 0,.code (r9 [1,1,1,1,1,1,1,1,1,1,1])],[(0,.ptr 0 0 0),(7,.bool change),(8,.int .i64 y2.1),(10,.msl 4 0 n_len n_len false),(11,.msl 5 0 0 0 false),(154,.int .i64 c.Targets),(155,.int .i64 0)],[some ⟨88,true,[(.int .i64 state.boot::Plan.l state.known (.int .i64 state.heard:: .sl false 3 (List.map i9.enc state.votes)::n9.l state.hold (.bool state.asked.ever:: .int .i64 state.asked.at_::i8.l y4 (.int .i64 now:: .int .i64 y2.1:: .int .u64 state.sealed:: .bool state.told.ever:: .int .i64 state.told.at_::d9.l c [.int .i64 index,.ptr 1 0 0]))))]⟩,some ⟨4,true,[[(f6 2 (List.map (d8 .u8) b2)),(f6 3 (List.map (d8 .u8) b3)),.int .i64 fuse,.bool down]]⟩,some ⟨1,false,(List.map (d8 .u8) b2)⟩,some ⟨1,false,(List.map (d8 .u8) b3)⟩,some ⟨1,false,[]⟩,some ⟨1,false,[]⟩]⟩) (by simp) ?_
 refine ac8 (n1:=0) (n2:=(List.map (d8 .i64) ([])).length) (fun n_len=> .go ⟨[.lpc (r9 [1,1,1,1,1,1,1,1,1,1,0,1,0,0]) 68507889249886074290797726533575766546371841409,.blk 0,.code (r9 [1,1,1,1,1,1,1,1,1,1,1])],[(0,.ptr 0 0 0),(7,.bool change),(8,.int .i64 y2.1),(10,.msl 4 0 ((List.map (d8 .i64) ([])).length) ((List.map (d8 .i64) ([])).length) false),(11,.msl 5 0 n_len n_len false),(154,.int .i64 c.Targets),(155,.int .i64 0)],[some ⟨88,true,[(.int .i64 state.boot::Plan.l state.known (.int .i64 state.heard:: .sl false 3 (List.map i9.enc state.votes)::n9.l state.hold (.bool state.asked.ever:: .int .i64 state.asked.at_::i8.l y4 (.int .i64 now:: .int .i64 y2.1:: .int .u64 state.sealed:: .bool state.told.ever:: .int .i64 state.told.at_::d9.l c [.int .i64 index,.ptr 1 0 0]))))]⟩,some ⟨4,true,[[(f6 2 (List.map (d8 .u8) b2)),(f6 3 (List.map (d8 .u8) b3)),.int .i64 fuse,.bool down]]⟩,some ⟨1,false,(List.map (d8 .u8) b2)⟩,some ⟨1,false,(List.map (d8 .u8) b3)⟩,some ⟨1,false,[]⟩,some ⟨1,false,[]⟩]⟩) (by simp) ?_
 exact ha
theorem bJ4 {now state c index fuse down b2 b3 change b t154 t155 state2 named open_}:L3 now state c index fuse down b2 b3 (.s2 change b t154 t155 state2 named open_) (O6 now state c index fuse down b2 b3 change b t154 t155 state2 named open_):=by
 intro r x h ha;unfold O6 at h
 refine zs 7 h (fun h=> ?_) fun h=> ?_
 ·
  refine zc 18 [] h (fun _=>cS6) fun y2 h=> ?_
  refine zs 2 h (fun h=> ?_) fun h=> ?_
  ·
   refine zn 7 h fun h=> ?_
   refine za 0 (d8 .i64) named ([t155]) ?_
   refine zn 12 h fun h=> ?_
   refine zs 4 h (fun h=> ?_) fun h=> ?_
   ·
    refine zc 9 [] h (fun _=>aK8) fun y7 h=> ?_
    refine zn 3 h fun h=> ?_
    refine za 0 (d8 .i64) open_ ([y7]) ?_
    exact zj 8 h ha
   exact zj 7 h ha
  exact zj 7 h ha
 refine l6 hm 1 _ ?_
 refine cc1 11 (n1:=(0+(List.map (d8 .i64) open_).length)) (n2:=((List.map (d8 .i64) open_).length)) (raw:=(List.take ((List.map (d8 .i64) open_).length) (List.drop 0 (List.map (d8 .i64) open_)))) (rs:=(List.map (d8 .i64) open_)) (by kernel_rfl) (v6 _) (by simp only [A1,E8,List.map_take,List.map_drop]) ?_
 exact zk 0 h ha
theorem bO0 {now state c index fuse down b2 b3 change b open_ state2 named}:L3 now state c index fuse down b2 b3 (.s4 change b open_ state2 named) (ar7 now state c index fuse down b2 b3 change b open_ state2 named):=by
 intro r x h ha;unfold ar7 at h
 refine zs 10 h (fun h=> ?_) fun h=> ?_
 ·
  refine zd 1 [] h (fun _=>cm9) fun y2 h=> ?_
  refine zc 1 [some 1,some 1,some 1,some 1,some 1] h (fun _=>bw4) fun y3 h=> ?_
  exact zk 0 h ha
 refine l6 hm 1 _ ?_
 obtain rfl:=Option.some.inj h
 refine ar4 11521 [.mat 13 26] (m' :=⟨[.code (r9 [1,1,1,1,1,1,1,1,1,1,1,1,1])],[(0,.ptr 0 0 0),(8,.int .i64 b),(10,(f6 4 (List.map (d8 .i64) named))),(11,.sl false 1 (List.map (d8 .i64) open_)),(13,.msl 5 0 0 0 false)],[some ⟨88,true,[(e9.l state2 (d9.l c [.int .i64 index,.ptr 1 0 0]))]⟩,some ⟨4,true,[[(f6 2 (List.map (d8 .u8) b2)),(f6 3 (List.map (d8 .u8) b3)),.int .i64 fuse,.bool down]]⟩,some ⟨1,false,(List.map (d8 .u8) b2)⟩,some ⟨1,false,(List.map (d8 .u8) b3)⟩,some ⟨1,false,(List.map (d8 .i64) named)⟩,some ⟨26,false,[]⟩]⟩) (by kernel_rfl) ?_
 refine ac8 (n1:=0) (n2:=(List.map f3.enc ([])).length) (fun n_len=> .go ⟨[.code (r9 [1,1,1,1,1,1,1,1,1,1,1,1,1])],[(0,.ptr 0 0 0),(8,.int .i64 b),(10,(f6 4 (List.map (d8 .i64) named))),(11,.sl false 1 (List.map (d8 .i64) open_)),(13,.msl 5 0 n_len n_len false)],[some ⟨88,true,[(e9.l state2 (d9.l c [.int .i64 index,.ptr 1 0 0]))]⟩,some ⟨4,true,[[(f6 2 (List.map (d8 .u8) b2)),(f6 3 (List.map (d8 .u8) b3)),.int .i64 fuse,.bool down]]⟩,some ⟨1,false,(List.map (d8 .u8) b2)⟩,some ⟨1,false,(List.map (d8 .u8) b3)⟩,some ⟨1,false,(List.map (d8 .i64) named)⟩,some ⟨26,false,[]⟩]⟩) (by simp) ?_
 exact ha
theorem bL8 {now state c index fuse down b2 b3 b open_ state2 named out}:L3 now state c index fuse down b2 b3 (.s7 b open_ state2 named out) (ar5 now state c index fuse down b2 b3 b open_ state2 named out):=by
 intro r x h ha;unfold ar5 at h
 refine zs 14 h (fun h=> ?_) fun h=> ?_
 ·
  exact zk 7 h ha [.blk 6 [some 1,some 1,some 1]]
 exact zk 7 h ha [.blk 6 [some 1,some 1,some 1]]
theorem bO1 {now state c index fuse down b2 b3 t220 state2 out ask}:L3 now state c index fuse down b2 b3 (.s6 t220 state2 out ask) (aK6 now state c index fuse down b2 b3 t220 state2 out ask):=by
 intro r x h ha;unfold aK6 at h
 refine zs 1 h (fun h=> ?_) fun h=> ?_
 ·
  exact zk 6 h ha
 exact zk 1 h ha
theorem bM2 {now state c index fuse down b2 b3 state2 out ask}:L3 now state c index fuse down b2 b3 (.s5 state2 out ask) (ar3 now state c index fuse down b2 b3 state2 out ask):=by
 intro r x h ha;unfold ar3 at h
 refine zdR 2 [] h (fun _=>aw3) fun y1 h=> ?_
 refine zc 1 [] h (fun _=>ae1) fun y2 h=> ?_
 refine zm 0 (b:=(Nat.beq ((List.take ((List.map f3.enc y2).length) (List.drop 0 (List.map f3.enc y2))).length) ((List.map f3.enc y2).length))) (by simp) ?_
 refine zn 0 h fun h=> ?_
 refine zm 0 (v6 ((List.map f3.enc out).length)) ?_
 refine zw 0 (a:=(List.take ((List.map f3.enc out).length) (List.drop 0 (List.map f3.enc out))++(List.take ((List.map f3.enc y2).length) (List.drop 0 (List.map f3.enc y2))))) (b:=(List.map f3.enc (out++y2))) (by simp only [A1,E8,List.map_append,List.map_take,List.map_drop]) ?_
 refine cc1 4 (n1:=(0+(List.map f3.enc (out++y2)).length)) (n2:=((List.map f3.enc (out++y2)).length)) (raw:=(List.take ((List.map f3.enc (out++y2)).length) (List.drop 0 (List.map f3.enc (out++y2))))) (rs:=(List.map f3.enc (out++y2))) (by kernel_rfl) (v6 _) (by simp only [A1,E8,List.map_take,List.map_drop]) ?_
 exact zt 1 h ha
noncomputable def an3 (now:Int) (state:e9) (c:d9) (index fuse:Int) (down:Bool) (b2 b3:List Int):Option ((List f3)×e9):=T8 (n7 now state c index fuse down b2 b3) (.s0)
theorem ca8 {now:Int}{state:e9}{c:d9}{index fuse:Int}{down:Bool}{b2 b3:List Int}{r:(List f3)×e9} (h:an3 now state c index fuse down b2 b3=some r):i4 E 52 [.ptr 0 0 0,.int .i64 now] [some ⟨88,true,[(e9.l state (d9.l c [.int .i64 index,.ptr 1 0 0]))]⟩,some ⟨4,true,[[(f6 2 (List.map (d8 .u8) b2)),(f6 3 (List.map (d8 .u8) b3)),.int .i64 fuse,.bool down]]⟩,some ⟨1,false,(List.map (d8 .u8) b2)⟩,some ⟨1,false,(List.map (d8 .u8) b3)⟩] (Rs (bj6 c index fuse down b2 b3) r):=sc (fn:=Tryz.f52) (k:=true) (m:=4) (stM:=(bk8 now state c index fuse down b2 b3)) h fun s=>by
 cases s with
 | s0=>exact bM1
 | s1=>exact bM8
 | s3=>exact bO2
 | s2=>exact bJ4
 | s4=>exact bO0
 | s7=>exact bL8
 | s6=>exact bO1
 | s5=>exact bM2
end Go.RX.L

namespace Go.RX.L
open Go Go.RX Go.Proofs
attribute [local irreducible] i0
noncomputable def dj1 (y:Int):D×f4:=(.int .i64 y,[])
noncomputable def av8 (c:d9):Option Int:=((M6 c c.Observers).bind fun y1=>(some y1))
theorem bV6 {c:d9}{r:Int} (h:av8 c=some r):i4 E 14 [.agg (d9.enc c)] [] (Rs dj1 r):=so (fn:=Tryz.f14) (k:=false) (m:=0) h<| by
 intro r h;unfold av8 at h
 refine zc 13 [] h (fun _=>ak7) fun y1 h=> ?_
 exact zu 3 h
end Go.RX.L

namespace Go.RX.L
open Go Go.RX
def l9 (c:d9) (i:Int):Int:=2*c.F_+1+i
section
variable {c : d9} (cb : CB c)
include cb
theorem dj9:al7 c=some (2*c.F_+1):=by
 have:=cb.f
 simp only [al7]
 rw [u7 (n:=2*c.F_) (by omega) (by omega),u7 (by omega) (by omega)]
theorem aG0 {i:Int} (hi:0≤i∧i≤100):D9 c i=some (l9 c i):=by
 have:=cb.f
 simp only [D9,dj9 cb,Option.bind_some,l9]
 rw [u7 (by omega) (by omega)]
theorem cl0 {i:Int} (hi:0≤i∧i≤100):Y7 c i=some (l9 c (c.Deciders+i)):=by
 have:=cb.f;have:=cb.dec
 simp only [Y7,aG0 cb (i:=c.Deciders) (by omega),Option.bind_some,l9]
 rw [u7 (by omega) (by omega)];congr 1;omega
theorem bN4 {i:Int} (hi:0≤i∧i≤100):M6 c i=some (l9 c (c.Deciders+c.Targets+c.Routers+i)):=by
 have:=cb.f;have:=cb.dec;have:=cb.t;have:=cb.rou
 simp only [M6,aI3,cl0 cb (i:=c.Targets) (by omega),Option.bind_some,l9]
 rw [u7 (n:=2*c.F_+1+(c.Deciders+c.Targets)+c.Routers) (by omega) (by omega),u7 (by omega) (by omega)];congr 1;omega
theorem df1:av8 c=some (l9 c (c.Deciders+c.Targets+c.Routers+c.Observers)):=by
 have:=cb.obs
 simp only [av8,bN4 cb (i:=c.Observers) (by omega),Option.bind_some]
end
def aB4 (c:d9):Nat:=(c.Deciders+c.Targets+c.Routers).toNat
def at1 (c:d9):List Int:=(List.range (2*c.F_+1).toNat).map fun (k:Nat)=>(k:Int)
def aB0 (c:d9) (ix:Int) (l:List Nat):List Int:=(l.map fun (k:Nat)=>l9 c k).filter fun n=>n !=l9 c ix
def aX5 (c:d9) (ix:Int):List Int:=aB0 c ix (List.range (aB4 c))
def ftM (m:f3) (f t:Int):f3:=⟨m.Kind,f,t,m.Epoch,m.Ballot,m.Accepted,m.Nonce,m.Time,m.Up,m.Code,m.HasPlan,m.Plan,m.ID,m.Session,m.Payload⟩
def U4 (c:d9) (ix:Int) (m:f3) (l:List Int):List f3:=l.map fun t=>ftM m (l9 c ix) t
theorem wD {k:Nat} (h:k≤3000000):IntKind.i64.wrap ((k:Int)+1)=((k+1:Nat):Int):=by rw [u7 (by omega) (by omega)];norm_cast
theorem br5 {c:d9} (cb:CB c):(at1 c).length≤7:=by have:=cb.f;simp [at1];omega
theorem ck9 {c:d9} (cb:CB c) (ix:Int):(aX5 c ix).length≤24:=by
 have:=cb.dec;have:=cb.t;have:=cb.rou
 have h:=List.length_filter_le (fun n=>n !=l9 c ix) ((List.range (aB4 c)).map fun (k:Nat)=>l9 c k)
 rw [List.length_map,List.length_range] at h
 unfold aX5 aB0
 unfold aB4 at h
 unfold aB4
 omega
section
variable {c : d9} {ix : Int} {st : e9} {fuse : Int} {down : Bool} {s t : List Int}
theorem dA4 (n:Nat) (hn:n≤1000):∀(j k:Nat),k+j=n→EvL I5 (.s1 (n:Int) (k:Int) st c ix fuse down s t) (((List.range n).drop k).map fun (k:Nat)=>(k:Int)):=by
 intro j
 induction j with
 | zero=>
  intro k hk
  rw [List.drop_eq_nil_of_le (by simp;omega)]
  refine .done ?_
  simp only [I5,S8,geB (show n≤k by omega),cond_false,List.map_nil]
 | succ j ih=>
  intro k hk
  have hlt:k<n:=by omega
  rw [List.drop_eq_getElem_cons (by simpa using hlt),List.map_cons,List.getElem_range]
  refine EvL.next (l:= [(k:Int)]) (s' := .s1 (n:Int) ((k+1:Nat):Int) st c ix fuse down s t) ?_ (ih (k+1) (by omega))
  simp only [I5,S8,F2 hlt,cond_true,Option.map_some,wD (show k≤3000000 by omega)]
theorem dT2 (cb:CB c):ak9 st c ix fuse down s t=some (at1 c):=by
 have:=cb.f
 refine bC7 (EvL.next (l:= []) (s' := .s1 (((2*c.F_+1).toNat:Nat):Int) ((0:Nat):Int) st c ix fuse down s t) ?_ (dA4 _ (by omega) (2*c.F_+1).toNat 0 (by omega)))
 simp only [I5,ab5,dj9 cb,Option.bind_some]
 rw [show (((2*c.F_+1).toNat:Nat):Int)=2*c.F_+1 by omega];rfl
theorem dx8 (cb:CB c) (hix:0≤ix∧ix≤100):∀(j k:Nat),k+j=aB4 c→EvL I8 (.s1 (l9 c (k:Int)) st c ix fuse down s t) (aB0 c ix ((List.range (aB4 c)).drop k)):=by
 have:=cb.f;have:=cb.dec;have:=cb.t;have:=cb.rou
 have ho:=bN4 cb (i:=0) (by omega)
 have hd:=aG0 cb hix
 have hN:((aB4 c:Nat):Int)=c.Deciders+c.Targets+c.Routers:=by unfold aB4;omega
 intro j
 induction j with
 | zero=>
  intro k hk
  rw [List.drop_eq_nil_of_le (by simp;omega)]
  refine .done ?_
  have:decide (l9 c (k:Int)<l9 c (c.Deciders+c.Targets+c.Routers+0))=false:=decide_eq_false (by unfold l9;omega)
  simp only [I8,S6,ho,Option.bind_some,this,cond_false,aB0,List.map_nil,List.filter_nil]
 | succ j ih=>
  intro k hk
  have hlt:k<aB4 c:=by omega
  have lt:decide (l9 c (k:Int)<l9 c (c.Deciders+c.Targets+c.Routers+0))=true:=decide_eq_true (by unfold l9;omega)
  have w:IntKind.i64.wrap (l9 c (k:Int)+1)=l9 c ((k+1:Nat):Int):=by
   rw [u7 (by unfold l9;omega) (by unfold l9;omega)];unfold l9;omega
  have ih:=ih (k+1) (by omega)
  rw [List.drop_eq_getElem_cons (by simpa using hlt),List.getElem_range]
  by_cases he:l9 c (k:Int)=l9 c ix
  ·have e:(l9 c (k:Int) !=l9 c ix)=false:=by rw [he];simp
   have e2:aB0 c ix (k::(List.range (aB4 c)).drop (k+1))=aB0 c ix ((List.range (aB4 c)).drop (k+1)):=by simp only [aB0,List.map_cons,List.filter_cons,e];simp
   rw [e2]
   refine EvL.next (l:= []) (s' := .s1 (l9 c ((k+1:Nat):Int)) st c ix fuse down s t) ?_ ih
   simp only [I8,S6,ho,hd,Option.bind_some,lt,e,cond_true,cond_false,w]
  ·have e:(l9 c (k:Int) !=l9 c ix)=true:=bne_iff_ne.2 he
   have e2:aB0 c ix (k::(List.range (aB4 c)).drop (k+1))= [l9 c (k:Int)]++aB0 c ix ((List.range (aB4 c)).drop (k+1)):=by simp only [aB0,List.map_cons,List.filter_cons,e];simp
   rw [e2]
   refine EvL.next (l:= [l9 c (k:Int)]) (s' := .s1 (l9 c ((k+1:Nat):Int)) st c ix fuse down s t) ?_ ih
   simp only [I8,S6,ho,hd,Option.bind_some,lt,e,cond_true,Option.map_some,w]
theorem dU7 (cb:CB c) (hix:0≤ix∧ix≤100):aw9 st c ix fuse down s t=some (aX5 c ix):=by
 refine bC7 (EvL.next (l:= []) (s' := .s1 (l9 c ((0:Nat):Int)) st c ix fuse down s t) ?_ (dx8 cb hix (aB4 c) 0 (by omega)))
 have:=aG0 cb (i:=0) (by omega)
 simp only [I8,ap2,this,Option.bind_some];rfl
theorem dz0 (l:List Int) (hn:l.length≤1000):∀(j k:Nat),k+j=l.length→EvL O2 (.s1 l (l.length:Nat) (k:Int)) (l.drop k):=by
 intro j
 induction j with
 | zero=>
  intro k hk
  rw [List.drop_eq_nil_of_le (by omega)]
  refine .done ?_
  simp only [O2,af3,geB (show l.length≤k by omega),cond_false]
 | succ j ih=>
  intro k hk
  have hlt:k<l.length:=by omega
  rw [List.drop_eq_getElem_cons hlt]
  refine EvL.next (l:= [l[k]]) (s' := .s1 l (l.length:Nat) ((k+1:Nat):Int)) ?_ (ih (k+1) (by omega))
  simp only [O2,af3,F2 hlt,List.length_map,M7,Bool.and_self,cond_true,Int.toNat_natCast,List.getE hlt,Option.bind_some,Option.map_some,wD (show k≤3000000 by omega)]
theorem dV9 (l:List Int) (hn:l.length≤1000):aC1 l=some l:=by
 refine bC7 (EvL.next (l:= []) (s' := .s1 l (l.length:Nat) ((0:Nat):Int)) ?_ (by simpa using dz0 l hn l.length 0 (by omega)))
 simp only [O2,ar9,List.length_map];rfl
theorem bk4 (cb:CB c) (hix:0≤ix∧ix≤100) (m:f3):∀(Y:List Int) (m2:f3) (out:List f3),out.length+Y.length≤1000→Ev (D4 m st c ix fuse down s t) (.s2 m2 out Y) (out++U4 c ix m2 Y)
 | [],m2,out,h=> .done (by simp [D4,T1,R9,U4])
 | y::Y,m2,out,h=>by
  simp only [List.length_cons] at h
  have hd:=aG0 cb hix
  have l1:decide ((out.length+1)*288≤i7)=true:=D1 (by omega)
  refine .next (s' := .s2 (ftM m2 (l9 c ix) y) (out++ [ftM m2 (l9 c ix) y]) Y) ?_ ?_
  ·simp only [D4,T1,R5,hd,Option.bind_some,List.length_map,l1,cond_true];rfl
  ·have:=bk4 cb hix m Y (ftM m2 (l9 c ix) y) (out++ [ftM m2 (l9 c ix) y]) (by simp;omega)
   rw [List.append_assoc] at this
   exact this
theorem br8 (cb:CB c) (hix:0≤ix∧ix≤100) (m:f3):J7 m st c ix fuse down s t=some (U4 c ix m (at1 c)):=by
 have hl2:(at1 c).length≤100:=Nat.le_trans (br5 cb) (by decide)
 refine u6 (.next (s' := .s1 []) rfl (.next (s' := .s2 m [] (at1 c)) ?_ (by simpa using bk4 cb hix m (at1 c) m [] (by simp;omega))))
 simp only [D4,T4,dT2 cb,Option.bind_some]
theorem bC9 (cb:CB c) (hix:0≤ix∧ix≤100) (m:f3):∀(Y:List Int) (m2:f3) (out:List f3),out.length+Y.length≤1000→Ev (G5 m st c ix fuse down s t) (.s2 m2 out Y) (out++U4 c ix m2 Y)
 | [],m2,out,h=> .done (by simp [G5,Z4,W9,U4])
 | y::Y,m2,out,h=>by
  simp only [List.length_cons] at h
  have hd:=aG0 cb hix
  have l1:decide ((out.length+1)*288≤i7)=true:=D1 (by omega)
  refine .next (s' := .s2 (ftM m2 (l9 c ix) y) (out++ [ftM m2 (l9 c ix) y]) Y) ?_ ?_
  ·simp only [G5,Z4,X0,hd,Option.bind_some,List.length_map,l1,cond_true];rfl
  ·have:=bC9 cb hix m Y (ftM m2 (l9 c ix) y) (out++ [ftM m2 (l9 c ix) y]) (by simp;omega)
   rw [List.append_assoc] at this
   exact this
theorem dD1 (cb:CB c) (hix:0≤ix∧ix≤100) (m:f3):aw4 m st c ix fuse down s t=some (U4 c ix m (aX5 c ix)):=by
 have hl2:(aX5 c ix).length≤100:=Nat.le_trans (ck9 cb ix) (by decide)
 refine u6 (.next (s' := .s1 []) rfl (.next (s' := .s2 m [] (aX5 c ix)) ?_ (by simpa using bC9 cb hix m (aX5 c ix) m [] (by simp;omega))))
 simp only [G5,aa2,dU7 cb hix,Option.bind_some]
theorem bF9 (l:List Int) (cb:CB c) (hix:0≤ix∧ix≤100) (m:f3):∀(Y:List Int) (m2:f3) (out:List f3),out.length+Y.length≤1000→Ev (G7 l m st c ix fuse down s t) (.s2 m2 out Y) (out++U4 c ix m2 Y)
 | [],m2,out,h=> .done (by simp [G7,aa0,W7,U4])
 | y::Y,m2,out,h=>by
  simp only [List.length_cons] at h
  have hd:=aG0 cb hix
  have l1:decide ((out.length+1)*288≤i7)=true:=D1 (by omega)
  refine .next (s' := .s2 (ftM m2 (l9 c ix) y) (out++ [ftM m2 (l9 c ix) y]) Y) ?_ ?_
  ·simp only [G7,aa0,W8,hd,Option.bind_some,List.length_map,l1,cond_true];rfl
  ·have:=bF9 l cb hix m Y (ftM m2 (l9 c ix) y) (out++ [ftM m2 (l9 c ix) y]) (by simp;omega)
   rw [List.append_assoc] at this
   exact this
theorem dt2 (l:List Int) (hl:l.length≤100) (cb:CB c) (hix:0≤ix∧ix≤100) (m:f3):ax6 l m st c ix fuse down s t=some (U4 c ix m (l)):=by
 have hl2:(l).length≤100:=hl
 refine u6 (.next (s' := .s1 []) rfl (.next (s' := .s2 m [] (l)) ?_ (by simpa using bF9 l cb hix m (l) m [] (by simp;omega))))
 simp only [G7,Z9,dV9 l (by omega),Option.bind_some]
def bi7 (p:Plan):f3:=⟨9,0,0,p.Epoch,0,0,0,0,0,0,true,p,[],[],[]⟩
def cV2 (st:e9) (now:Int):e9:={ st with told:=⟨true,now⟩ }
theorem dk3 (cb:CB c) (hix:0≤ix∧ix≤100) (now:Int):as6 now st c ix fuse down s t=some (U4 c ix (bi7 st.known) (aX5 c ix),cV2 st now):=by
 have h0:∀st:e9,aI1 st c ix fuse down s t=some ():=fun _=>rfl
 simp only [as6,h0,Option.bind_some,dD1 cb hix];rfl
def cH5 (o:T5) (now wait:Int):Bool:= !o.ever || decide (IntKind.i64.wrap (now-o.at_)≥wait)
theorem dC1 (o:T5) (now wait:Int):Y4 o now wait=some (cH5 o now wait):=by
 unfold Y4 cH5;cases o.ever<;>simp
def bU4 (now:Int):f3:=⟨10,0,0,0,0,0,now,0,0,2,false,v7,[],[],[]⟩
def bw8 (st:e9) (now:Int):e9:={ st with hold:=df3 st.hold 0 now,asked:=⟨true,st.hold.Nonce⟩ }
def R7 (c:d9) (ix now:Int) (st:e9):List f3×e9:=
 if cH5 ⟨st.asked.ever,st.hold.Nonce⟩ now (u9 (IntKind.i64.wrap (Int.tdiv c.L_ 2)) 1) then (U4 c ix (bU4 now) (at1 c),bw8 st now) else ([],{ st with asked:=⟨st.asked.ever,st.hold.Nonce⟩ })
theorem dl9 (cb:CB c) (hix:0≤ix∧ix≤100) (now:Int):aF9 now st c ix fuse down s t=some (R7 c ix now st):=by
 have h0:∀st:e9,L5 st c ix fuse down s t=some ():=fun _=>rfl
 simp only [aF9,dC1,Option.bind_some,R7,eb5,h0,br8 cb hix]
 cases cH5 ⟨st.asked.ever,st.hold.Nonce⟩ now (u9 (IntKind.i64.wrap (Int.tdiv c.L_ 2)) 1)<;>rfl
def aX4 (c:d9) (ix now:Int) (st:e9):List f3×e9:=
 if st.known.Epoch=0∨cH5 st.told now c.Retry=false then ([],st) else (U4 c ix (bi7 st.known) (aX5 c ix),cV2 st now)
theorem dw1 (cb:CB c) (hix:0≤ix∧ix≤100) (now:Int):aN5 now st c ix fuse down s t=some (aX4 c ix now st):=by
 simp only [aN5,dC1,Option.bind_some,aX4,az5,dk3 cb hix]
 by_cases h:st.known.Epoch=0
 ·rw [beq_iff_eq.2 h,if_pos (.inl h)];rfl
 ·rw [beq_eq_false_iff_ne.2 h]
  cases h2:cH5 st.told now c.Retry
  ·rw [if_pos (.inr rfl)];rfl
  ·rw [if_neg (by simp [h])];rfl
end
end Go.RX.L

namespace Go.RX.L
open Go Go.RX
theorem ed6 {c:d9} (cb:CB c) {p:Plan} (hs:ba2 p) (hu:0≤p.Up) (hv:0≤p.Sup):∃b,ap5 c p=some b∧(b=true→bb4 c p):=by
 simp only [ap5,bc5 hs hu hv,Option.bind_some]
 cases hr:U5 p with
 | false=>exact ⟨false,rfl,fun h=>by cases h⟩
 | true=>
  have r:=Z5.1 hr
  have no:∃b:Bool,(some false:Option Bool)=some b∧(b=true→bb4 c p):=⟨false,rfl,fun h=>by cases h⟩
  simp only [cond_true,List.length_map]
  cases h1:(((p.Pen.length:Nat):Int)==c.Targets) with
  | false=>exact no
  | true=>
   cases h2:decide (u9 (u9 p.Target p.Prev) p.Spill<c.Targets) with
   | false=>exact no
   | true=>
    obtain ⟨a,ha⟩:=Int.eq_ofNat_of_zero_le hu
    obtain ⟨b,hb⟩:=Int.eq_ofNat_of_zero_le hv
    have h3:=r.up
    have h4:=r.sup
    have hor:a ||| b<65536:=Nat.or_lt_two_pow (n:=16) (by omega) (by omega)
    have eor:orI .u64 p.Up p.Sup=((a ||| b:Nat):Int):=by rw [ha,hb];exact cc8 (by omega) (by omega)
    obtain ⟨n,hn,hlt⟩:=dH5 hor
    have cT:=cb.t
    simp only [cond_true,eor,hn,Option.bind_some]
    cases h5:decide ((n:Int)≤c.Targets) with
    | false=>exact no
    | true=>
     cases h6:decide (((p.Changes.length:Nat):Int)≤c.B_) with
     | false=>exact no
     | true=>
      refine ⟨_,rfl,fun h7=> ?_⟩
      have h1:=beq_iff_eq.1 h1
      have h2:=of_decide_eq_true h2
      have h5:=of_decide_eq_true h5
      have h6:=of_decide_eq_true h6
      have h7:=of_decide_eq_true h7
      have h8:=(hlt c.Targets.toNat (by omega)).1 (by omega)
      have o1:a≤a ||| b:=Nat.left_le_or
      have o2:b≤a ||| b:=Nat.right_le_or
      have mx:p.Target<c.Targets∧p.Prev<c.Targets∧p.Spill<c.Targets:=by
       unfold u9 at h2;split at h2<;>split at h2<;>omega
      exact ⟨r,hu,hv,h1,mx,by rw [ha,Int.toNat_natCast];omega,by rw [hb,Int.toNat_natCast];omega,h6,h7⟩
theorem eg2 {c:d9} (hc:ab4 c=true) (ht:c.Tiers.length<9223372036854775807) {p:Plan} (hs:ba2 p) (hu:0≤p.Up) (hv:0≤p.Sup) {up:Nat} (hup:up<18446744073709551616) {now:Int} (hn:0≤now):
  ∃r,ap3 c p (up:Int) now=some r∧(r.2=true→bb4 c p∧ap5 c p=some true∧r=ax1 c p up now):=by
 obtain ⟨b,hb,hf⟩:=ed6 (aG5 hc) hs hu hv
 cases b with
 | true=>exact ⟨_,dG0 hc ht (hf rfl) hb hup hn,fun _=>⟨hf rfl,hb,rfl⟩⟩
 | false=>
  refine ⟨(zPl,false),?_,fun h=>by cases h⟩
  simp only [ap3,bd3 ht,hc,Option.bind_some,Bool.not_true,cond_false,hb,Bool.not_false,am6,cond_true];rfl
section
variable {c : d9} {p : Plan}
theorem eb8 (cb:CB c) {m:Nat} (hm:m<2^c.Targets.toNat): -1≤aC2 c m∧aC2 c m≤15:=by
 have:=cb.t
 rcases dl7 (c:=c) hm (by omega) with h | ⟨i,h1,h2,h3⟩<;>omega
theorem dW9 {l:List Int}{t:Int} (h:srt l=true) (ht:∀x,l.getLast? =some x→x≤t):srt (l++ [t])=true:=by
 rw [cD6] at h ⊢
 intro i h0 hi
 simp only [List.length_append,List.length_cons,List.length_nil] at hi
 by_cases hl:i<l.length
 ·have:=h i h0 hl
  simp only [List.getD_eq_getElem?_getD] at this ⊢
  rw [List.getElem?_append_left (by omega),List.getElem?_append_left hl];exact this
 ·have e:i=l.length:=by omega
  subst e
  have hx:l.getLast? =some (l.getD (l.length-1) 0):=by
   rw [List.getLast?_eq_getElem?,List.getD_eq_getElem?_getD,List.getElem?_eq_getElem (by omega)];rfl
  have:=ht _ hx
  simp only [List.getD_eq_getElem?_getD] at this ⊢
  rw [List.getElem?_append_left (by omega)]
  simpa using this
theorem dE9 {l:List Int} (h:srt l=true) (k:Nat):srt (l.drop k)=true:=by
 rw [cD6] at h ⊢
 intro i h0 hi
 rw [List.length_drop] at hi
 have:=h (k+i) (by omega) (by omega)
 simp only [List.getD_eq_getElem?_getD,List.getElem?_drop] at this ⊢
 rw [show k+(i-1)=k+i-1 by omega];exact this
theorem ef7 (cb:CB c) (hf:bb4 c p) (up:Nat) {now:Int} (hn:0≤now):Rt (nxN c p up now)∧(nxN c p up now).Epoch=p.Epoch+1∧0≤(nxN c p up now).Up∧0≤(nxN c p up now).Sup:=by
 have hT:=cb.t
 have he:=hf.r.epoch
 have hst:=hf.r.times p.Stamp (by simp)
 have hsi:=hf.r.times p.Since (by simp)
 have hra:=hf.r.times p.Ramped (by simp)
 have htx:p.Stamp≤L4 p now∧L4 p now≤1099511627776:=by unfold L4 u9 A3;split<;>split<;>omega
 have htp:=hf.r.tps p.Target (by simp)
 have hpr:=hf.r.tps p.Prev (by simp)
 have hsp:=hf.r.tps p.Spill (by simp)
 have hto:=dB5 cb hf up now
 have hp2:(2:Nat)^c.Targets.toNat≤2^16:=Nat.pow_le_pow_right (by decide) (by omega)
 have hU:=bX7 c up
 have hS:nxS c p up now<2^p.Pen.length:=bp7 _ _
 have hpl:=hf.pen
 have hS2:(2:Nat)^p.Pen.length≤2^16:=Nat.pow_le_pow_right (by decide) (by omega)
 have u1:((nxU c up:Nat):Int)≤65535:=by omega
 have s1:((nxS c p up now:Nat):Int)≤65535:=by omega
 have pl:(aJ3 c p (nxU c up) (L4 p now)).length≤16:=by simp [aJ3];omega
 have pm:∀x∈aJ3 c p (nxU c up) (L4 p now),0≤x∧x≤1000000:=fun x hx=>by
  obtain ⟨j,_,rfl⟩:=List.mem_map.1 hx
  exact dB6 cb hf _ _ _
 have hpc:=hf.r.pc
 have hfi:=cb.first
 have hstp:=cb.step
 have hB:=cb.b
 have hch:=hf.ch
 unfold nxN
 split
 ·rename_i hc2
  have hc3:(aA8 c p up now≠p.Target)∧bO8 c p (L4 p now)=false:=by
   simp only [cp5,Bool.and_eq_true,decide_eq_true_eq,Bool.not_eq_true'] at hc2;exact ⟨hc2.1,hc2.2.1⟩
  have hcl:(cq1 c p (L4 p now)).length≤8:=by
   simp only [cq1,List.length_append,List.length_drop,List.length_cons,List.length_nil];omega
  have hcm:∀x∈cq1 c p (L4 p now),0≤x∧x≤1099511627776:=fun x hx=>by
   rcases List.mem_append.1 hx with hx | hx
   ·exact hf.r.ch x (List.mem_of_mem_drop hx)
   ·rw [List.mem_singleton.1 hx];omega
  have hcs:srt (cq1 c p (L4 p now))=true:=by
   refine dW9 (dE9 hf.r.srt _) fun x hx=> ?_
   have h2:=hc3.2
   simp only [bO8,Bool.or_eq_false_iff,Bool.and_eq_false_iff,decide_eq_false_iff_not] at h2
   have hd:=cb.d
   have hne:p.Changes.drop (p.Changes.length+1-c.B_.toNat)≠ []:=fun e=>by rw [e] at hx;simp at hx
   have hpos:0<p.Changes.length:=by
    rcases Nat.eq_zero_or_pos p.Changes.length with h | h
    ·exact absurd (by rw [List.length_eq_zero_iff.1 h];simp) hne
    ·exact h
   rw [List.getLast?_eq_getElem?,List.getElem?_drop,List.length_drop] at hx
   have hlen:0<p.Changes.length-(p.Changes.length+1-c.B_.toNat):=by
    rw [←List.length_drop];exact List.length_pos_iff.2 hne
   rw [show p.Changes.length+1-c.B_.toNat+(p.Changes.length-(p.Changes.length+1-c.B_.toNat)-1)=p.Changes.length-1 by omega] at hx
   rcases h2.1 with h3 | h3
   ·omega
   ·rw [hx] at h3;simp only [Option.getD_some] at h3;omega
  refine ⟨⟨by simp only;omega,?_,?_,?_,u1,s1,pl,hcl,pm,hcm,hcs⟩,rfl,by simp only;omega,by simp only;omega⟩
  ·simp only [List.mem_cons,List.not_mem_nil,or_false,forall_eq_or_imp,forall_eq];omega
  ·simp only;split<;>omega
  ·simp only [List.mem_cons,List.not_mem_nil,or_false,forall_eq_or_imp,forall_eq];omega
 ·split
  ·refine ⟨⟨by simp only;omega,?_,?_,?_,u1,s1,pl,hf.r.chl,pm,hf.r.ch,hf.r.srt⟩,rfl,by simp only;omega,by simp only;omega⟩
   ·exact hf.r.tps
   ·simp only [A3];split<;>omega
   ·simp only [List.mem_cons,List.not_mem_nil,or_false,forall_eq_or_imp,forall_eq];omega
  ·refine ⟨⟨by simp only;omega,hf.r.tps,hpc,?_,u1,s1,pl,hf.r.chl,pm,hf.r.ch,hf.r.srt⟩,rfl,by simp only;omega,by simp only;omega⟩
   simp only [List.mem_cons,List.not_mem_nil,or_false,forall_eq_or_imp,forall_eq];omega
theorem dU5 (cb:CB c) (hf:bb4 c p) (up:Nat) {now:Int} (hn:0≤now) (h:(ax1 c p up now).2=true):Rt (ax1 c p up now).1∧(ax1 c p up now).1.Epoch=p.Epoch+1∧0≤(ax1 c p up now).1.Up∧0≤(ax1 c p up now).1.Sup:=by
 obtain ⟨r,h1,h2,h3⟩:=ef7 cb hf up hn
 have hb:=eb8 cb (m:=bZ6 (nxG c p up now) (nxN c p up now).Target) (Nat.lt_of_le_of_lt (dm3 _ _) (cX6 c p up now))
 unfold ax1 cF0 at h ⊢
 split at h
 ·cases h
 ·rename_i hs
  rw [if_neg hs]
  refine ⟨⟨r.epoch,?_,r.pc,r.times,r.up,r.sup,r.penl,r.chl,r.pen,r.ch,r.srt⟩,h1,h2,h3⟩
  have t1:=r.tps _ (by simp:(nxN c p up now).Target∈_)
  have t2:=r.tps _ (by simp:(nxN c p up now).Prev∈_)
  simp only [List.mem_cons,List.not_mem_nil,or_false,forall_eq_or_imp,forall_eq]
  omega
end
end Go.RX.L

namespace Go.RX.L
open Go Go.RX Go.Proofs
attribute [local irreducible] i0
noncomputable def cT2 (p_:i8) (c:d9) (y:Unit):D×f4:=(.fn 137 [] [.iptr 30 [(i8.enc p_)] 0 0,.iptr 30 [(d9.enc c)] 0 0],[])
noncomputable def az6 (p_:i8) (c:d9):Option Unit:=(some ())
theorem bC8 {p_:i8}{c:d9}{r:Unit} (h:az6 p_ c=some r):i4 E 104 [.agg (i8.enc p_),.agg (d9.enc c)] [] (Rs (cT2 p_ c) r):=so (fn:=Tryz.f104) (k:=false) (m:=0) h<| by
 intro r h;unfold az6 at h
 exact zu 12 h
end Go.RX.L

namespace Go.RX.L
open Go Go.RX Go.Proofs
attribute [local irreducible] i0
noncomputable def cv2 (y:Bool):D×f4:=(.bool y,[])
noncomputable def am9 (m:f3) (kind phase:Int) (t:i8) (t2:d9):Option Bool:=(bif ((t.Phase:Int)==phase) then (bif ((m.Kind:Int)==kind) then (bif ((m.Epoch:Int)==t.Epoch) then (bif ((m.Ballot:Int)==t.Ballot) then (bif (decide ((m.From:Int)≥0)) then ((ad6 t2).bind fun y6=>(some (decide ((m.From:Int)≤(IntKind.i64.wrap ((2:Int)*y6)))))) else (some false)) else (some false)) else (some false)) else (some false)) else (some false))
theorem bs0 {m:f3}{kind phase:Int}{t:i8}{t2:d9}{r:Bool} (h:am9 m kind phase t t2=some r):i4 E 137 [.agg (f3.enc m),.int .i64 kind,.int .i64 phase,.iptr 30 [(i8.enc t)] 0 0,.iptr 30 [(d9.enc t2)] 0 0] [] (Rs cv2 r):=so (fn:=Tryz.f137) (k:=false) (m:=0) h<| by
 intro r h;unfold am9 at h
 refine zs 8 h (fun h=> ?_) fun h=> ?_
 ·
  refine zs 5 h (fun h=> ?_) fun h=> ?_
  ·
   refine zs 7 h (fun h=> ?_) fun h=> ?_
   ·
    refine zs 7 h (fun h=> ?_) fun h=> ?_
    ·
     refine zs 4 h (fun h=> ?_) fun h=> ?_
     ·
      refine zd 5 [] h (fun _=>aR4) fun y6 h=> ?_
      exact zu 4 h
     exact zu 7 h
    exact zu 11 h
   exact zu 17 h
  exact zu 23 h
 exact zu 28 h
end Go.RX.L

namespace Go.RX.L
open Go Go.RX Go.Proofs
attribute [local irreducible] i0
noncomputable def ab2:=p7 (q0 Tryz.f62)
noncomputable def bg9 (y:i8):D×f4:=(.agg (i8.enc y),[])
abbrev aF7 (p_:i8) (c:d9) (m:f3):=AOk E (Cx.of Tryz.f62 false 0) bg9
noncomputable def bS0 (p_:i8) (c:d9) (m:f3) (p_2 b2:i8):M:=⟨[.code (ab2 [1,1,1])],[(3,.ptr 0 0 0),(4,.ptr 1 0 0),(6,.ptr 2 0 0)],[some ⟨30,false,[(i8.enc p_2)]⟩,some ⟨30,false,[(d9.enc c)]⟩,some ⟨30,false,[(i8.enc b2)]⟩]⟩
noncomputable def S9 (p_:i8) (c:d9) (m:f3) (p_2 b2:i8):Option i8:=((ad4 c p_2.Promises).bind fun y1=>(bif y1 then (bif ((p_2.Best:Int)==0) then (some (⟨p_2.Epoch,p_2.Ballot,2,p_2.Own,p_2.Best,p_2.Own,p_2.Promises,p_2.Accepts⟩:i8)) else (some (⟨p_2.Epoch,p_2.Ballot,2,p_2.Own,p_2.Best,p_2.Value,p_2.Promises,p_2.Accepts⟩:i8))) else (some p_2)))
theorem aR8 {p_ c m p_2 b2}:aF7 p_ c m (bS0 p_ c m p_2 b2) (S9 p_ c m p_2 b2):=by
 intro r h;unfold S9 at h
 refine zc 9 [] h (fun _=>aP9) fun y1 h=> ?_
 refine zs 2 h (fun h=> ?_) fun h=> ?_
 ·
  refine zs 15 h (fun h=> ?_) fun h=> ?_
  ·
   exact zu 19 h
  exact zu 11 h
 exact zu 11 h
noncomputable def bR9 (p_:i8) (c:d9) (m:f3) (t41:Bool) (p_2 b3:i8):M:=⟨[.code (ab2 [1,1,0,1,1]),.code (ab2 [1,1,1])],[(3,.ptr 0 0 0),(4,.ptr 1 0 0),(5,.ptr 2 0 0),(6,.ptr 3 0 0),(41,.bool t41)],[some ⟨30,false,[(i8.enc p_2)]⟩,some ⟨30,false,[(d9.enc c)]⟩,some ⟨26,false,[(f3.enc m)]⟩,some ⟨30,false,[(i8.enc b3)]⟩]⟩
noncomputable def ab3 (p_:i8) (c:d9) (m:f3) (t41:Bool) (p_2 b3:i8):Option i8:=(bif t41 then (S9 p_ c m (⟨p_2.Epoch,p_2.Ballot,p_2.Phase,p_2.Own,m.Accepted,m.Plan,p_2.Promises,p_2.Accepts⟩:i8) b3) else (S9 p_ c m p_2 b3))
theorem aS3 {p_ c m t41 p_2 b3}:aF7 p_ c m (bR9 p_ c m t41 p_2 b3) (ab3 p_ c m t41 p_2 b3):=by
 intro r h;unfold ab3 at h
 refine zs 1 h (fun h=> ?_) fun h=> ?_
 ·
  exact zg 7 (aR8 h)
 exact zg 1 (aR8 h)
noncomputable def bS1 (p_:i8) (c:d9) (m:f3) (t24:Bool) (b3:i8):M:=⟨[.code (ab2 [1,0,1]),.code (ab2 [1,1])],[(3,.ptr 0 0 0),(4,.ptr 1 0 0),(5,.ptr 2 0 0),(6,.ptr 3 0 0),(24,.bool t24)],[some ⟨30,false,[(i8.enc p_)]⟩,some ⟨30,false,[(d9.enc c)]⟩,some ⟨26,false,[(f3.enc m)]⟩,some ⟨30,false,[(i8.enc b3)]⟩]⟩
noncomputable def J4 (p_:i8) (c:d9) (m:f3) (t24:Bool) (b3:i8):Option i8:=(bif t24 then (some p_) else (bif (!decide ((m.From:Int)<0)) then (bif m.HasPlan then (ab3 p_ c m (decide ((m.Accepted:Int)>p_.Best)) (⟨p_.Epoch,p_.Ballot,p_.Phase,p_.Own,p_.Best,p_.Value,(orI .u64 p_.Promises (F3 .u64 1 m.From)),p_.Accepts⟩:i8) b3) else (ab3 p_ c m false (⟨p_.Epoch,p_.Ballot,p_.Phase,p_.Own,p_.Best,p_.Value,(orI .u64 p_.Promises (F3 .u64 1 m.From)),p_.Accepts⟩:i8) b3)) else none))
theorem au3 {p_ c m t24 b3}:aF7 p_ c m (bS1 p_ c m t24 b3) (J4 p_ c m t24 b3):=by
 intro r h;unfold J4 at h
 refine zs 1 h (fun h=> ?_) fun h=> ?_
 ·
  exact zu 10 h
 refine zn 6 h fun h=> ?_
 refine zs 9 h (fun h=> ?_) fun h=> ?_
 ·
  exact zg 13 (aS3 h)
 exact zg 11 (aS3 h)
noncomputable def ai6 (p_:i8) (c:d9) (m:f3):Option i8:=((az6 p_ c).bind fun y1=>((am9 m 5 1 p_ c).bind fun y2=>(bif (!y2) then (J4 p_ c m true (⟨0,0,0,(⟨0,0,0,0,0,0,0,0,0,0,[],[]⟩:Plan),0,(⟨0,0,0,0,0,0,0,0,0,0,[],[]⟩:Plan),0,0⟩:i8)) else (bif m.HasPlan then (J4 p_ c m ((m.Plan.Epoch:Int) !=p_.Epoch) (⟨0,0,0,(⟨0,0,0,0,0,0,0,0,0,0,[],[]⟩:Plan),0,(⟨0,0,0,0,0,0,0,0,0,0,[],[]⟩:Plan),0,0⟩:i8)) else (J4 p_ c m false (⟨0,0,0,(⟨0,0,0,0,0,0,0,0,0,0,[],[]⟩:Plan),0,(⟨0,0,0,0,0,0,0,0,0,0,[],[]⟩:Plan),0,0⟩:i8))))))
theorem bS3 {p_:i8}{c:d9}{m:f3}{r:i8} (h:ai6 p_ c m=some r):i4 E 62 [.agg (i8.enc p_),.agg (d9.enc c),.agg (f3.enc m)] [] (Rs bg9 r):=so (fn:=Tryz.f62) (k:=false) (m:=0) h<| by
 intro r h;unfold ai6 at h
 refine zd 12 [] h (fun _=>bC8) fun y1 h=> ?_
 refine zd 1 [] h (fun _=>bs0) fun y2 h=> ?_
 refine zs 0 h (fun h=> ?_) fun h=> ?_
 ·
  exact zg 4 (au3 h) [.blk 3 [some 1,some 1,some 1,some 1]]
 refine zs 3 h (fun h=> ?_) fun h=> ?_
 ·
  exact zg 10 (au3 h) [.blk 3 [some 1,some 1,some 1,some 1]]
 exact zg 8 (au3 h) [.blk 3 [some 1,some 1,some 1,some 1]]
end Go.RX.L

namespace Go.RX.L
open Go Go.RX Go.Proofs
attribute [local irreducible] i0
noncomputable def bR8 (y:i8):D×f4:=(.agg (i8.enc y),[])
noncomputable def ag1 (p_:i8) (c:d9) (m:f3):Option i8:=((az6 p_ c).bind fun y1=>((am9 m 8 2 p_ c).bind fun y2=>(bif (!y2) then (some p_) else (bif (!decide ((m.From:Int)<0)) then ((ad4 c (orI .u64 p_.Accepts (F3 .u64 1 m.From))).bind fun y5=>(bif y5 then (some (⟨p_.Epoch,p_.Ballot,3,p_.Own,p_.Best,p_.Value,p_.Promises,(orI .u64 p_.Accepts (F3 .u64 1 m.From))⟩:i8)) else (some (⟨p_.Epoch,p_.Ballot,p_.Phase,p_.Own,p_.Best,p_.Value,p_.Promises,(orI .u64 p_.Accepts (F3 .u64 1 m.From))⟩:i8)))) else none))))
theorem bN7 {p_:i8}{c:d9}{m:f3}{r:i8} (h:ag1 p_ c m=some r):i4 E 65 [.agg (i8.enc p_),.agg (d9.enc c),.agg (f3.enc m)] [] (Rs bR8 r):=so (fn:=Tryz.f65) (k:=false) (m:=0) h<| by
 intro r h;unfold ag1 at h
 refine zd 12 [] h (fun _=>bC8) fun y1 h=> ?_
 refine zc 2 [] h (fun _=>bs0) fun y2 h=> ?_
 refine zs 3 h (fun h=> ?_) fun h=> ?_
 ·
  exact zu 10 h
 refine zn 6 h fun h=> ?_
 refine zc 10 [] h (fun _=>aP9) fun y5 h=> ?_
 refine zs 2 h (fun h=> ?_) fun h=> ?_
 ·
  exact zu 16 h
 exact zu 11 h
end Go.RX.L

namespace Go.RX.L
open Go Go.RX
/-! ### promises -/
def toP (p:i8) (c:d9) (m:f3) (k f:Int):Bool:=decide (p.Phase=f)&&(decide (m.Kind=k)&&(decide (m.Epoch=p.Epoch)&&(decide (m.Ballot=p.Ballot)&&(decide (m.From≥0)&&decide (m.From≤2*(fN c:Int))))))
def cy5 (p:i8) (m:f3):Bool:= !(m.HasPlan&&decide (m.Plan.Epoch≠p.Epoch))
def orP (g:Int) (k:Nat):Int:=((g.toNat ||| 2^k:Nat):Int)
def st1 (p:i8) (m:f3):i8:=⟨p.Epoch,p.Ballot,p.Phase,p.Own,p.Best,p.Value,orP p.Promises m.From.toNat,p.Accepts⟩
def st2 (p:i8) (m:f3):i8:=bif m.HasPlan&&decide (m.Accepted>p.Best) then ⟨p.Epoch,p.Ballot,p.Phase,p.Own,m.Accepted,m.Plan,p.Promises,p.Accepts⟩ else p
def st3 (p:i8) (c:d9):i8:=bif aW7 c p.Promises.toNat then ⟨p.Epoch,p.Ballot,2,p.Own,p.Best,bif decide (p.Best=0) then p.Own else p.Value,p.Promises,p.Accepts⟩ else p
def I4 (p:i8) (c:d9) (m:f3):i8:=bif toP p c m 5 1&&cy5 p m then st3 (st2 (st1 p m) m) c else p
def W0 (p:i8) (c:d9) (m:f3):i8:=bif toP p c m 8 2 then ⟨p.Epoch,p.Ballot,bif aW7 c (orP p.Accepts m.From.toNat).toNat then 3 else p.Phase,p.Own,p.Best,p.Value,p.Promises,orP p.Accepts m.From.toNat⟩ else p
theorem dN7 (p:i8) (c:d9) (m:f3) (k f:Int):am9 m k f p c=some (toP p c m k f):=by
 have hf:=cd7 c
 have e2:IntKind.i64.wrap ((2:Int)*(fN c:Int))=2*(fN c:Int):=u7 (by omega) (by omega)
 unfold am9 ad6 toP
 simp only [Option.bind_some,dq7,e2]
 by_cases h1:p.Phase=f
 ·by_cases h2:m.Kind=k
  ·by_cases h3:m.Epoch=p.Epoch
   ·by_cases h4:m.Ballot=p.Ballot
    ·by_cases h5:m.From≥0
     ·simp [h1,h2,h3,h4,h5]
     ·simp [h1,h2,h3,h4,h5]
    ·simp [h1,h2,h3,h4,beq_eq_false_iff_ne.2 h4]
   ·simp [h1,h2,h3,beq_eq_false_iff_ne.2 h3]
  ·simp [h1,h2,beq_eq_false_iff_ne.2 h2]
 ·simp [h1,beq_eq_false_iff_ne.2 h1]
theorem cd2 {p:i8}{c:d9}{m:f3}{k f:Int} (h:toP p c m k f=true):0≤m.From∧m.From≤2*(fN c:Int):=by
 simp only [toP,Bool.and_eq_true,decide_eq_true_eq] at h
 omega
theorem ct3 {g:Int}{m:f3}{c:d9} (hg:n8 .u64 g) (h:0≤m.From∧m.From≤2*(fN c:Int)):orI .u64 g (F3 .u64 1 m.From)=orP g m.From.toNat∧n8 .u64 (orP g m.From.toNat)∧(orP g m.From.toNat).toNat<18446744073709551616:=by
 have hf:=cd7 c
 have hg' :=G0.1 hg
 obtain ⟨k,hk⟩:=Int.eq_ofNat_of_zero_le h.1
 obtain ⟨n,rfl⟩:=Int.eq_ofNat_of_zero_le hg'.1
 have hn:n<18446744073709551616:=by omega
 have hp:(2:Nat)^k≤2^6:=Nat.pow_le_pow_right (by decide) (by omega)
 have hlt:=dp4 hn (show k≤6 by omega)
 unfold orP
 rw [hk,bf1 (by omega),cc8 hn (by omega)]
 simp only [Int.toNat_natCast]
 exact ⟨trivial,G0.2 (by omega),hlt⟩
theorem da2 {p q:i8}{c:d9}{m:f3}{b:i8} (hg:n8 .u64 p.Promises):S9 q c m p b=some (st3 p c):=by
 have hg' :=G0.1 hg
 unfold S9 st3
 obtain ⟨n,hn⟩:=Int.eq_ofNat_of_zero_le hg'.1
 rw [hn,cE0 c (by omega)]
 simp only [Int.toNat_natCast,Option.bind_some]
 cases aW7 c n with
 | false=>rfl
 | true=>
  by_cases h:p.Best=0
  ·simp [h]
  ·simp [h,beq_eq_false_iff_ne.2 h]
theorem dp8 (p:i8) (c:d9) (m:f3) (hp:n8 .u64 p.Promises):ai6 p c m=some (I4 p c m):=by
 have yes:∀b,toP p c m 5 1=true→J4 p c m false b=some (st3 (st2 (st1 p m) m) c):=fun b h=>by
  have hf:=cd2 h
  obtain ⟨o1,o2,o3⟩:=ct3 hp hf
  unfold J4 ab3
  rw [o1]
  have nn:(!decide (m.From<0))=true:=by simp;omega
  simp only [cond_false,nn,cond_true]
  cases hh:m.HasPlan with
  | false=>
   simp only [cond_false]
   refine (da2 (p:=st1 p m) o2).trans ?_
   unfold st2
   rw [hh]
   rfl
  | true=>
   simp only [cond_true]
   have e:decide (m.Accepted>(st1 p m).Best)=decide (m.Accepted>p.Best):=rfl
   unfold st2
   rw [hh,e]
   cases decide (m.Accepted>p.Best) with
   | false=>
    simp only [cond_false,Bool.and_false]
    exact da2 (p:=st1 p m) o2
   | true=>
    simp only [cond_true,Bool.and_true]
    exact da2 (p:=⟨p.Epoch,p.Ballot,p.Phase,p.Own,m.Accepted,m.Plan,orP p.Promises m.From.toNat,p.Accepts⟩) o2
 have no:∀b,J4 p c m true b=some p:=fun b=>rfl
 have e0:az6 p c=some ():=rfl
 unfold ai6 I4
 rw [e0]
 simp only [Option.bind_some,dN7]
 cases ht:toP p c m 5 1 with
 | false=>simp [no]
 | true=>
  simp only [Bool.not_true,cond_false,Bool.true_and]
  unfold cy5
  cases hh:m.HasPlan with
  | false=>simp [yes _ ht]
  | true=>
   by_cases h:m.Plan.Epoch=p.Epoch
   ·simp [h,yes _ ht]
   ·have hb:(m.Plan.Epoch !=p.Epoch)=true:=by simpa using h
    simp [h,hb,no]
theorem dg6 (p:i8) (c:d9) (m:f3) (hp:n8 .u64 p.Accepts):ag1 p c m=some (W0 p c m):=by
 have e0:az6 p c=some ():=rfl
 unfold ag1 W0
 rw [e0]
 simp only [Option.bind_some,dN7]
 cases ht:toP p c m 8 2 with
 | false=>rfl
 | true=>
  have hf:=cd2 ht
  obtain ⟨o1,o2,o3⟩:=ct3 hp hf
  have nn:(!decide (m.From<0))=true:=by simp;omega
  rw [o1]
  simp only [Bool.not_true,cond_false,nn,cond_true]
  obtain ⟨n,hn⟩:=Int.eq_ofNat_of_zero_le (G0.1 o2).1
  rw [hn]
  rw [hn,Int.toNat_natCast] at o3
  rw [cE0 c o3]
  simp only [Option.bind_some,Int.toNat_natCast]
  cases aW7 c n<;>rfl
def dq1 (a:Plan) (e:Int):Plan:=⟨e,a.Target,a.Prev,a.Spill,a.Percent,a.Stamp,a.Since,a.Ramped,a.Up,a.Sup,a.Pen,a.Changes⟩
def ee9:Plan:=⟨0,0,0,0,0,0,0,0,0,0,[],[]⟩
theorem dI1 (e b:Int) (own:Plan):aI2 e b own=some ⟨e,b,1,dq1 own e,0,ee9,0,0⟩:=rfl
theorem dL5 {p:i8}{c:d9}:(st3 p c).Promises=p.Promises:=by
 unfold st3;cases aW7 c p.Promises.toNat<;>rfl
theorem dH2 {p:i8}{m:f3}:(st2 p m).Promises=p.Promises:=by
 unfold st2;cases (m.HasPlan&&decide (m.Accepted>p.Best))<;>rfl
theorem di5 {p:i8} (c:d9) (m:f3) (h:n8 .u64 p.Promises):n8 .u64 (I4 p c m).Promises:=by
 unfold I4
 cases hc:toP p c m 5 1&&cy5 p m with
 | false=>exact h
 | true=>
  simp only [Bool.and_eq_true] at hc
  simp only [cond_true]
  rw [dL5,dH2]
  exact (ct3 h (cd2 hc.1)).2.1
theorem cW6 {p:i8} (c:d9) (m:f3) (h:n8 .u64 p.Accepts):n8 .u64 (W0 p c m).Accepts:=by
 unfold W0
 cases hc:toP p c m 8 2 with
 | false=>exact h
 | true=>exact (ct3 h (cd2 hc)).2.1
end Go.RX.L
