/-
  Words and walks for DeciderProposes. No condition.
-/
import Derived.Test.YtajehicfjidaiaaGreatDoorDeciderProposesY5
set_option linter.unusedSectionVars false
set_option linter.unnecessarySimpa false
set_option linter.unusedSimpArgs false
set_option linter.unusedVariables false
set_option maxRecDepth 100000
set_option maxHeartbeats 4000000
namespace Go.RX.L
open Go Go.RX Go.Proofs
attribute [local irreducible] i4
noncomputable def cm9:=u5 (u6 Tryz.f138)
def L5 (y:Int):List D:= [D.int .i64 y]
inductive N3 where
 | s0 (aa4:f3) (c:d9) (ac9:Int) (ae5:Int) (ad1:Bool) (b3:List Int) (b4:List Int)
 | s1 (n:Int) (e9:f3) (c2:d9) (E4:Int) (q0:Int) (p8:Bool) (T6:List Int) (T7:List Int)
noncomputable def N6 (l:Nat):N3→M
 | .s0 aa4 c ac9 ae5 ad1 b3 b4=>⟨[.code (u6 Tryz.f138)],[(0,D.yld l),(1,D.ptr 0 0 0)],[some ⟨1,true,[[D.ptr 1 0 0]]⟩,some ⟨88,true,[[D.int .i64 aa4.boot,D.int .i64 aa4.known.Epoch,D.int .i64 aa4.known.Target,D.int .i64 aa4.known.Prev,D.int .i64 aa4.known.Spill,D.int .i64 aa4.known.Percent,D.int .i64 aa4.known.Stamp,D.int .i64 aa4.known.Since,D.int .i64 aa4.known.Ramped,D.int .u64 aa4.known.Up,D.int .u64 aa4.known.Sup,D.sl false 1 (List.map (d8 .i64) aa4.known.Pen),D.sl false 1 (List.map (d8 .i64) aa4.known.Changes),D.int .i64 aa4.heard,D.sl false 3 (List.map i8.enc aa4.votes),D.int .i64 aa4.hold.Epoch,D.int .i64 aa4.hold.Nonce,D.int .u64 aa4.hold.Grants,D.int .i64 aa4.hold.Until,D.bool aa4.asked.ever,D.int .i64 aa4.asked.at_,D.int .i64 aa4.prop.Epoch,D.int .i64 aa4.prop.Ballot,D.int .i64 aa4.prop.Phase,D.int .i64 aa4.prop.Own.Epoch,D.int .i64 aa4.prop.Own.Target,D.int .i64 aa4.prop.Own.Prev,D.int .i64 aa4.prop.Own.Spill,D.int .i64 aa4.prop.Own.Percent,D.int .i64 aa4.prop.Own.Stamp,D.int .i64 aa4.prop.Own.Since,D.int .i64 aa4.prop.Own.Ramped,D.int .u64 aa4.prop.Own.Up,D.int .u64 aa4.prop.Own.Sup,D.sl false 1 (List.map (d8 .i64) aa4.prop.Own.Pen),D.sl false 1 (List.map (d8 .i64) aa4.prop.Own.Changes),D.int .i64 aa4.prop.Best,D.int .i64 aa4.prop.Value.Epoch,D.int .i64 aa4.prop.Value.Target,D.int .i64 aa4.prop.Value.Prev,D.int .i64 aa4.prop.Value.Spill,D.int .i64 aa4.prop.Value.Percent,D.int .i64 aa4.prop.Value.Stamp,D.int .i64 aa4.prop.Value.Since,D.int .i64 aa4.prop.Value.Ramped,D.int .u64 aa4.prop.Value.Up,D.int .u64 aa4.prop.Value.Sup,D.sl false 1 (List.map (d8 .i64) aa4.prop.Value.Pen),D.sl false 1 (List.map (d8 .i64) aa4.prop.Value.Changes),D.int .u64 aa4.prop.Promises,D.int .u64 aa4.prop.Accepts,D.int .i64 aa4.made,D.int .i64 aa4.top,D.int .u64 aa4.sealed,D.bool aa4.told.ever,D.int .i64 aa4.told.at_,D.int .i64 c.F_,D.int .i64 c.Deciders,D.int .i64 c.Targets,D.int .i64 c.Routers,D.int .i64 c.Observers,D.sl false 1 (List.map (d8 .i64) c.Tiers),D.int .i64 c.Every,D.int .i64 c.Wait,D.int .i64 c.Rise,D.int .i64 c.Fall,D.int .i64 c.Fresh,D.int .i64 c.L_,D.int .i64 c.M_,D.int .i64 c.Dwell,D.int .i64 c.D_,D.int .i64 c.W_,D.int .i64 c.B_,D.int .i64 c.Hit,D.int .i64 c.Suppress,D.int .i64 c.Reuse,D.int .i64 c.Half,D.int .i64 c.First,D.int .i64 c.Step,D.int .i64 c.StepTime,D.int .i64 c.S_,D.int .i64 c.Cap,D.int .i64 c.Span,D.int .i64 c.Room,D.int .i64 c.Tries,D.int .i64 c.Retry,D.int .i64 ac9,D.ptr 2 0 0]]⟩,some ⟨4,true,[[(i5 3 (List.map (d8 .u8) b3)),(i5 4 (List.map (d8 .u8) b4)),D.int .i64 ae5,D.bool ad1]]⟩,some ⟨1,false,(List.map (d8 .u8) b3)⟩,some ⟨1,false,(List.map (d8 .u8) b4)⟩]⟩
 | .s1 n e9 c2 E4 q0 p8 T6 T7=>⟨[.lpc (cm9 [1,0,0]) 11,.blk 0],[(0,D.yld l),(1,D.ptr 0 0 0),(3,D.int .i64 n)],[some ⟨1,true,[[D.ptr 1 0 0]]⟩,some ⟨88,true,[[D.int .i64 e9.boot,D.int .i64 e9.known.Epoch,D.int .i64 e9.known.Target,D.int .i64 e9.known.Prev,D.int .i64 e9.known.Spill,D.int .i64 e9.known.Percent,D.int .i64 e9.known.Stamp,D.int .i64 e9.known.Since,D.int .i64 e9.known.Ramped,D.int .u64 e9.known.Up,D.int .u64 e9.known.Sup,D.sl false 1 (List.map (d8 .i64) e9.known.Pen),D.sl false 1 (List.map (d8 .i64) e9.known.Changes),D.int .i64 e9.heard,D.sl false 3 (List.map i8.enc e9.votes),D.int .i64 e9.hold.Epoch,D.int .i64 e9.hold.Nonce,D.int .u64 e9.hold.Grants,D.int .i64 e9.hold.Until,D.bool e9.asked.ever,D.int .i64 e9.asked.at_,D.int .i64 e9.prop.Epoch,D.int .i64 e9.prop.Ballot,D.int .i64 e9.prop.Phase,D.int .i64 e9.prop.Own.Epoch,D.int .i64 e9.prop.Own.Target,D.int .i64 e9.prop.Own.Prev,D.int .i64 e9.prop.Own.Spill,D.int .i64 e9.prop.Own.Percent,D.int .i64 e9.prop.Own.Stamp,D.int .i64 e9.prop.Own.Since,D.int .i64 e9.prop.Own.Ramped,D.int .u64 e9.prop.Own.Up,D.int .u64 e9.prop.Own.Sup,D.sl false 1 (List.map (d8 .i64) e9.prop.Own.Pen),D.sl false 1 (List.map (d8 .i64) e9.prop.Own.Changes),D.int .i64 e9.prop.Best,D.int .i64 e9.prop.Value.Epoch,D.int .i64 e9.prop.Value.Target,D.int .i64 e9.prop.Value.Prev,D.int .i64 e9.prop.Value.Spill,D.int .i64 e9.prop.Value.Percent,D.int .i64 e9.prop.Value.Stamp,D.int .i64 e9.prop.Value.Since,D.int .i64 e9.prop.Value.Ramped,D.int .u64 e9.prop.Value.Up,D.int .u64 e9.prop.Value.Sup,D.sl false 1 (List.map (d8 .i64) e9.prop.Value.Pen),D.sl false 1 (List.map (d8 .i64) e9.prop.Value.Changes),D.int .u64 e9.prop.Promises,D.int .u64 e9.prop.Accepts,D.int .i64 e9.made,D.int .i64 e9.top,D.int .u64 e9.sealed,D.bool e9.told.ever,D.int .i64 e9.told.at_,D.int .i64 c2.F_,D.int .i64 c2.Deciders,D.int .i64 c2.Targets,D.int .i64 c2.Routers,D.int .i64 c2.Observers,D.sl false 1 (List.map (d8 .i64) c2.Tiers),D.int .i64 c2.Every,D.int .i64 c2.Wait,D.int .i64 c2.Rise,D.int .i64 c2.Fall,D.int .i64 c2.Fresh,D.int .i64 c2.L_,D.int .i64 c2.M_,D.int .i64 c2.Dwell,D.int .i64 c2.D_,D.int .i64 c2.W_,D.int .i64 c2.B_,D.int .i64 c2.Hit,D.int .i64 c2.Suppress,D.int .i64 c2.Reuse,D.int .i64 c2.Half,D.int .i64 c2.First,D.int .i64 c2.Step,D.int .i64 c2.StepTime,D.int .i64 c2.S_,D.int .i64 c2.Cap,D.int .i64 c2.Span,D.int .i64 c2.Room,D.int .i64 c2.Tries,D.int .i64 c2.Retry,D.int .i64 E4,D.ptr 2 0 0]]⟩,some ⟨4,true,[[(i5 3 (List.map (d8 .u8) T6)),(i5 4 (List.map (d8 .u8) T7)),D.int .i64 q0,D.bool p8]]⟩,some ⟨1,false,(List.map (d8 .u8) T6)⟩,some ⟨1,false,(List.map (d8 .u8) T7)⟩]⟩
noncomputable def ax0 (aa4:f3) (c:d9) (ac9 ae5:Int) (ad1:Bool) (b3 b4:List Int):Option (List Int×Option N3):=((N1 c 0).bind fun y1=>(some ([],some (.s1 y1 aa4 c ac9 ae5 ad1 b3 b4))))
noncomputable def Z0 (n:Int) (e9:f3) (c2:d9) (E4 q0:Int) (p8:Bool) (T6 T7:List Int):Option (List Int×Option N3):=((af0 c2 0).bind fun y1=>(bif (decide (n<y1)) then ((N1 c2 E4).bind fun y3=>(bif (n !=y3) then (Option.map (fun p=>(n::p.1,p.2)) (some ([],some (.s1 (IntKind.i64.wrap (n+1)) e9 c2 E4 q0 p8 T6 T7)))) else (some ([],some (.s1 (IntKind.i64.wrap (n+1)) e9 c2 E4 q0 p8 T6 T7))))) else (some ([],none))))
noncomputable def ae3:N3→i0
 | .s0 aa4 c ac9 ae5 ad1 b3 b4=> [some ⟨1,true,[[D.ptr 1 0 0]]⟩,some ⟨88,true,[[D.int .i64 aa4.boot,D.int .i64 aa4.known.Epoch,D.int .i64 aa4.known.Target,D.int .i64 aa4.known.Prev,D.int .i64 aa4.known.Spill,D.int .i64 aa4.known.Percent,D.int .i64 aa4.known.Stamp,D.int .i64 aa4.known.Since,D.int .i64 aa4.known.Ramped,D.int .u64 aa4.known.Up,D.int .u64 aa4.known.Sup,D.sl false 1 (List.map (d8 .i64) aa4.known.Pen),D.sl false 1 (List.map (d8 .i64) aa4.known.Changes),D.int .i64 aa4.heard,D.sl false 3 (List.map i8.enc aa4.votes),D.int .i64 aa4.hold.Epoch,D.int .i64 aa4.hold.Nonce,D.int .u64 aa4.hold.Grants,D.int .i64 aa4.hold.Until,D.bool aa4.asked.ever,D.int .i64 aa4.asked.at_,D.int .i64 aa4.prop.Epoch,D.int .i64 aa4.prop.Ballot,D.int .i64 aa4.prop.Phase,D.int .i64 aa4.prop.Own.Epoch,D.int .i64 aa4.prop.Own.Target,D.int .i64 aa4.prop.Own.Prev,D.int .i64 aa4.prop.Own.Spill,D.int .i64 aa4.prop.Own.Percent,D.int .i64 aa4.prop.Own.Stamp,D.int .i64 aa4.prop.Own.Since,D.int .i64 aa4.prop.Own.Ramped,D.int .u64 aa4.prop.Own.Up,D.int .u64 aa4.prop.Own.Sup,D.sl false 1 (List.map (d8 .i64) aa4.prop.Own.Pen),D.sl false 1 (List.map (d8 .i64) aa4.prop.Own.Changes),D.int .i64 aa4.prop.Best,D.int .i64 aa4.prop.Value.Epoch,D.int .i64 aa4.prop.Value.Target,D.int .i64 aa4.prop.Value.Prev,D.int .i64 aa4.prop.Value.Spill,D.int .i64 aa4.prop.Value.Percent,D.int .i64 aa4.prop.Value.Stamp,D.int .i64 aa4.prop.Value.Since,D.int .i64 aa4.prop.Value.Ramped,D.int .u64 aa4.prop.Value.Up,D.int .u64 aa4.prop.Value.Sup,D.sl false 1 (List.map (d8 .i64) aa4.prop.Value.Pen),D.sl false 1 (List.map (d8 .i64) aa4.prop.Value.Changes),D.int .u64 aa4.prop.Promises,D.int .u64 aa4.prop.Accepts,D.int .i64 aa4.made,D.int .i64 aa4.top,D.int .u64 aa4.sealed,D.bool aa4.told.ever,D.int .i64 aa4.told.at_,D.int .i64 c.F_,D.int .i64 c.Deciders,D.int .i64 c.Targets,D.int .i64 c.Routers,D.int .i64 c.Observers,D.sl false 1 (List.map (d8 .i64) c.Tiers),D.int .i64 c.Every,D.int .i64 c.Wait,D.int .i64 c.Rise,D.int .i64 c.Fall,D.int .i64 c.Fresh,D.int .i64 c.L_,D.int .i64 c.M_,D.int .i64 c.Dwell,D.int .i64 c.D_,D.int .i64 c.W_,D.int .i64 c.B_,D.int .i64 c.Hit,D.int .i64 c.Suppress,D.int .i64 c.Reuse,D.int .i64 c.Half,D.int .i64 c.First,D.int .i64 c.Step,D.int .i64 c.StepTime,D.int .i64 c.S_,D.int .i64 c.Cap,D.int .i64 c.Span,D.int .i64 c.Room,D.int .i64 c.Tries,D.int .i64 c.Retry,D.int .i64 ac9,D.ptr 2 0 0]]⟩,some ⟨4,true,[[(i5 3 (List.map (d8 .u8) b3)),(i5 4 (List.map (d8 .u8) b4)),D.int .i64 ae5,D.bool ad1]]⟩,some ⟨1,false,(List.map (d8 .u8) b3)⟩,some ⟨1,false,(List.map (d8 .u8) b4)⟩]
 | .s1 n e9 c2 E4 q0 p8 T6 T7=> [some ⟨1,true,[[D.ptr 1 0 0]]⟩,some ⟨88,true,[[D.int .i64 e9.boot,D.int .i64 e9.known.Epoch,D.int .i64 e9.known.Target,D.int .i64 e9.known.Prev,D.int .i64 e9.known.Spill,D.int .i64 e9.known.Percent,D.int .i64 e9.known.Stamp,D.int .i64 e9.known.Since,D.int .i64 e9.known.Ramped,D.int .u64 e9.known.Up,D.int .u64 e9.known.Sup,D.sl false 1 (List.map (d8 .i64) e9.known.Pen),D.sl false 1 (List.map (d8 .i64) e9.known.Changes),D.int .i64 e9.heard,D.sl false 3 (List.map i8.enc e9.votes),D.int .i64 e9.hold.Epoch,D.int .i64 e9.hold.Nonce,D.int .u64 e9.hold.Grants,D.int .i64 e9.hold.Until,D.bool e9.asked.ever,D.int .i64 e9.asked.at_,D.int .i64 e9.prop.Epoch,D.int .i64 e9.prop.Ballot,D.int .i64 e9.prop.Phase,D.int .i64 e9.prop.Own.Epoch,D.int .i64 e9.prop.Own.Target,D.int .i64 e9.prop.Own.Prev,D.int .i64 e9.prop.Own.Spill,D.int .i64 e9.prop.Own.Percent,D.int .i64 e9.prop.Own.Stamp,D.int .i64 e9.prop.Own.Since,D.int .i64 e9.prop.Own.Ramped,D.int .u64 e9.prop.Own.Up,D.int .u64 e9.prop.Own.Sup,D.sl false 1 (List.map (d8 .i64) e9.prop.Own.Pen),D.sl false 1 (List.map (d8 .i64) e9.prop.Own.Changes),D.int .i64 e9.prop.Best,D.int .i64 e9.prop.Value.Epoch,D.int .i64 e9.prop.Value.Target,D.int .i64 e9.prop.Value.Prev,D.int .i64 e9.prop.Value.Spill,D.int .i64 e9.prop.Value.Percent,D.int .i64 e9.prop.Value.Stamp,D.int .i64 e9.prop.Value.Since,D.int .i64 e9.prop.Value.Ramped,D.int .u64 e9.prop.Value.Up,D.int .u64 e9.prop.Value.Sup,D.sl false 1 (List.map (d8 .i64) e9.prop.Value.Pen),D.sl false 1 (List.map (d8 .i64) e9.prop.Value.Changes),D.int .u64 e9.prop.Promises,D.int .u64 e9.prop.Accepts,D.int .i64 e9.made,D.int .i64 e9.top,D.int .u64 e9.sealed,D.bool e9.told.ever,D.int .i64 e9.told.at_,D.int .i64 c2.F_,D.int .i64 c2.Deciders,D.int .i64 c2.Targets,D.int .i64 c2.Routers,D.int .i64 c2.Observers,D.sl false 1 (List.map (d8 .i64) c2.Tiers),D.int .i64 c2.Every,D.int .i64 c2.Wait,D.int .i64 c2.Rise,D.int .i64 c2.Fall,D.int .i64 c2.Fresh,D.int .i64 c2.L_,D.int .i64 c2.M_,D.int .i64 c2.Dwell,D.int .i64 c2.D_,D.int .i64 c2.W_,D.int .i64 c2.B_,D.int .i64 c2.Hit,D.int .i64 c2.Suppress,D.int .i64 c2.Reuse,D.int .i64 c2.Half,D.int .i64 c2.First,D.int .i64 c2.Step,D.int .i64 c2.StepTime,D.int .i64 c2.S_,D.int .i64 c2.Cap,D.int .i64 c2.Span,D.int .i64 c2.Room,D.int .i64 c2.Tries,D.int .i64 c2.Retry,D.int .i64 E4,D.ptr 2 0 0]]⟩,some ⟨4,true,[[(i5 3 (List.map (d8 .u8) T6)),(i5 4 (List.map (d8 .u8) T7)),D.int .i64 q0,D.bool p8]]⟩,some ⟨1,false,(List.map (d8 .u8) T6)⟩,some ⟨1,false,(List.map (d8 .u8) T7)⟩]
noncomputable def M0:N3→Option (List Int×Option N3)
 | .s0 aa4 c ac9 ae5 ad1 b3 b4=>ax0 aa4 c ac9 ae5 ad1 b3 b4
 | .s1 n e9 c2 E4 q0 p8 T6 T7=>Z0 n e9 c2 E4 q0 p8 T6 T7
theorem bW3 {l:Nat}{ln:i0}{φ0:y0}{J:Option (List (List D))→World→(Nat→Prop)→(Nat→Prop)→Prop}{aa4:f3}{c:d9}{ac9 ae5:Int}{ad1:Bool}{b3 b4:List Int}{x:List Int×Option N3}{Y:List (List D)} (hl:ae3 (.s0 aa4 c ac9 ae5 ad1 b3 b4)=ln) (h:ax0 aa4 c ac9 ae5 ad1 b3 b4=some x) (ha:ai2 E ln (Cx.seq Tryz.f138 5 ln l φ0 J) L5 (N6 l) ae3 x Y):i4 E (Cx.seq Tryz.f138 5 ln l φ0 J (some Y)) (fun _ s=>U7 ln s) (.go (N6 l (.s0 aa4 c ac9 ae5 ad1 b3 b4))):=by
 subst hl
 unfold ax0 at h
 refine zc 9 [] h (fun _=>Z7) fun y1 h=> ?_
 refine n8 hm 5 _ ?_
 obtain rfl:=Option.some.inj h
 exact bc4 (q' :=.go (N6 l (.s1 y1 aa4 c ac9 ae5 ad1 b3 b4))) (by kernel_rfl) (P8 (by kernel_rfl) ha)
theorem bW1 {l:Nat}{ln:i0}{φ0:y0}{J:Option (List (List D))→World→(Nat→Prop)→(Nat→Prop)→Prop}{n:Int}{e9:f3}{c2:d9}{E4 q0:Int}{p8:Bool}{T6 T7:List Int}{x:List Int×Option N3}{Y:List (List D)} (hl:ae3 (.s1 n e9 c2 E4 q0 p8 T6 T7)=ln) (h:Z0 n e9 c2 E4 q0 p8 T6 T7=some x) (ha:ai2 E ln (Cx.seq Tryz.f138 5 ln l φ0 J) L5 (N6 l) ae3 x Y):i4 E (Cx.seq Tryz.f138 5 ln l φ0 J (some Y)) (fun _ s=>U7 ln s) (.go (N6 l (.s1 n e9 c2 E4 q0 p8 T6 T7))):=by
 subst hl
 unfold Z0 at h
 refine zc 12 [] h (fun _=>bn1) fun y1 h=> ?_
 refine zs 3 h (fun h=> ?_) fun h=> ?_
 ·
  refine zd 9 [] h (fun _=>Z7) fun y3 h=> ?_
  refine zs 0 h (fun h=> ?_) fun h=> ?_
  ·
   refine n8 hm 3 _ ?_
   refine ca3 (x:=n) (s:= [some ⟨1,true,[[D.ptr 1 0 0]]⟩,some ⟨88,true,[[D.int .i64 e9.boot,D.int .i64 e9.known.Epoch,D.int .i64 e9.known.Target,D.int .i64 e9.known.Prev,D.int .i64 e9.known.Spill,D.int .i64 e9.known.Percent,D.int .i64 e9.known.Stamp,D.int .i64 e9.known.Since,D.int .i64 e9.known.Ramped,D.int .u64 e9.known.Up,D.int .u64 e9.known.Sup,D.sl false 1 (List.map (d8 .i64) e9.known.Pen),D.sl false 1 (List.map (d8 .i64) e9.known.Changes),D.int .i64 e9.heard,D.sl false 3 (List.map i8.enc e9.votes),D.int .i64 e9.hold.Epoch,D.int .i64 e9.hold.Nonce,D.int .u64 e9.hold.Grants,D.int .i64 e9.hold.Until,D.bool e9.asked.ever,D.int .i64 e9.asked.at_,D.int .i64 e9.prop.Epoch,D.int .i64 e9.prop.Ballot,D.int .i64 e9.prop.Phase,D.int .i64 e9.prop.Own.Epoch,D.int .i64 e9.prop.Own.Target,D.int .i64 e9.prop.Own.Prev,D.int .i64 e9.prop.Own.Spill,D.int .i64 e9.prop.Own.Percent,D.int .i64 e9.prop.Own.Stamp,D.int .i64 e9.prop.Own.Since,D.int .i64 e9.prop.Own.Ramped,D.int .u64 e9.prop.Own.Up,D.int .u64 e9.prop.Own.Sup,D.sl false 1 (List.map (d8 .i64) e9.prop.Own.Pen),D.sl false 1 (List.map (d8 .i64) e9.prop.Own.Changes),D.int .i64 e9.prop.Best,D.int .i64 e9.prop.Value.Epoch,D.int .i64 e9.prop.Value.Target,D.int .i64 e9.prop.Value.Prev,D.int .i64 e9.prop.Value.Spill,D.int .i64 e9.prop.Value.Percent,D.int .i64 e9.prop.Value.Stamp,D.int .i64 e9.prop.Value.Since,D.int .i64 e9.prop.Value.Ramped,D.int .u64 e9.prop.Value.Up,D.int .u64 e9.prop.Value.Sup,D.sl false 1 (List.map (d8 .i64) e9.prop.Value.Pen),D.sl false 1 (List.map (d8 .i64) e9.prop.Value.Changes),D.int .u64 e9.prop.Promises,D.int .u64 e9.prop.Accepts,D.int .i64 e9.made,D.int .i64 e9.top,D.int .u64 e9.sealed,D.bool e9.told.ever,D.int .i64 e9.told.at_,D.int .i64 c2.F_,D.int .i64 c2.Deciders,D.int .i64 c2.Targets,D.int .i64 c2.Routers,D.int .i64 c2.Observers,D.sl false 1 (List.map (d8 .i64) c2.Tiers),D.int .i64 c2.Every,D.int .i64 c2.Wait,D.int .i64 c2.Rise,D.int .i64 c2.Fall,D.int .i64 c2.Fresh,D.int .i64 c2.L_,D.int .i64 c2.M_,D.int .i64 c2.Dwell,D.int .i64 c2.D_,D.int .i64 c2.W_,D.int .i64 c2.B_,D.int .i64 c2.Hit,D.int .i64 c2.Suppress,D.int .i64 c2.Reuse,D.int .i64 c2.Half,D.int .i64 c2.First,D.int .i64 c2.Step,D.int .i64 c2.StepTime,D.int .i64 c2.S_,D.int .i64 c2.Cap,D.int .i64 c2.Span,D.int .i64 c2.Room,D.int .i64 c2.Tries,D.int .i64 c2.Retry,D.int .i64 E4,D.ptr 2 0 0]]⟩,some ⟨4,true,[[(i5 3 (List.map (d8 .u8) T6)),(i5 4 (List.map (d8 .u8) T7)),D.int .i64 q0,D.bool p8]]⟩,some ⟨1,false,(List.map (d8 .u8) T6)⟩,some ⟨1,false,(List.map (d8 .u8) T7)⟩]) h ha (by kernel_rfl) (by kernel_rfl) ?_ (fun p Y h ha=> ?_)
   ·--it is stopped
    refine n8 hm 8 _ ?_
    exact bK9 (d:=D.tup []) (s:= [some ⟨1,true,[[D.ptr 1 0 0]]⟩,some ⟨88,true,[[D.int .i64 e9.boot,D.int .i64 e9.known.Epoch,D.int .i64 e9.known.Target,D.int .i64 e9.known.Prev,D.int .i64 e9.known.Spill,D.int .i64 e9.known.Percent,D.int .i64 e9.known.Stamp,D.int .i64 e9.known.Since,D.int .i64 e9.known.Ramped,D.int .u64 e9.known.Up,D.int .u64 e9.known.Sup,D.sl false 1 (List.map (d8 .i64) e9.known.Pen),D.sl false 1 (List.map (d8 .i64) e9.known.Changes),D.int .i64 e9.heard,D.sl false 3 (List.map i8.enc e9.votes),D.int .i64 e9.hold.Epoch,D.int .i64 e9.hold.Nonce,D.int .u64 e9.hold.Grants,D.int .i64 e9.hold.Until,D.bool e9.asked.ever,D.int .i64 e9.asked.at_,D.int .i64 e9.prop.Epoch,D.int .i64 e9.prop.Ballot,D.int .i64 e9.prop.Phase,D.int .i64 e9.prop.Own.Epoch,D.int .i64 e9.prop.Own.Target,D.int .i64 e9.prop.Own.Prev,D.int .i64 e9.prop.Own.Spill,D.int .i64 e9.prop.Own.Percent,D.int .i64 e9.prop.Own.Stamp,D.int .i64 e9.prop.Own.Since,D.int .i64 e9.prop.Own.Ramped,D.int .u64 e9.prop.Own.Up,D.int .u64 e9.prop.Own.Sup,D.sl false 1 (List.map (d8 .i64) e9.prop.Own.Pen),D.sl false 1 (List.map (d8 .i64) e9.prop.Own.Changes),D.int .i64 e9.prop.Best,D.int .i64 e9.prop.Value.Epoch,D.int .i64 e9.prop.Value.Target,D.int .i64 e9.prop.Value.Prev,D.int .i64 e9.prop.Value.Spill,D.int .i64 e9.prop.Value.Percent,D.int .i64 e9.prop.Value.Stamp,D.int .i64 e9.prop.Value.Since,D.int .i64 e9.prop.Value.Ramped,D.int .u64 e9.prop.Value.Up,D.int .u64 e9.prop.Value.Sup,D.sl false 1 (List.map (d8 .i64) e9.prop.Value.Pen),D.sl false 1 (List.map (d8 .i64) e9.prop.Value.Changes),D.int .u64 e9.prop.Promises,D.int .u64 e9.prop.Accepts,D.int .i64 e9.made,D.int .i64 e9.top,D.int .u64 e9.sealed,D.bool e9.told.ever,D.int .i64 e9.told.at_,D.int .i64 c2.F_,D.int .i64 c2.Deciders,D.int .i64 c2.Targets,D.int .i64 c2.Routers,D.int .i64 c2.Observers,D.sl false 1 (List.map (d8 .i64) c2.Tiers),D.int .i64 c2.Every,D.int .i64 c2.Wait,D.int .i64 c2.Rise,D.int .i64 c2.Fall,D.int .i64 c2.Fresh,D.int .i64 c2.L_,D.int .i64 c2.M_,D.int .i64 c2.Dwell,D.int .i64 c2.D_,D.int .i64 c2.W_,D.int .i64 c2.B_,D.int .i64 c2.Hit,D.int .i64 c2.Suppress,D.int .i64 c2.Reuse,D.int .i64 c2.Half,D.int .i64 c2.First,D.int .i64 c2.Step,D.int .i64 c2.StepTime,D.int .i64 c2.S_,D.int .i64 c2.Cap,D.int .i64 c2.Span,D.int .i64 c2.Room,D.int .i64 c2.Tries,D.int .i64 c2.Retry,D.int .i64 E4,D.ptr 2 0 0]]⟩,some ⟨4,true,[[(i5 3 (List.map (d8 .u8) T6)),(i5 4 (List.map (d8 .u8) T7)),D.int .i64 q0,D.bool p8]]⟩,some ⟨1,false,(List.map (d8 .u8) T6)⟩,some ⟨1,false,(List.map (d8 .u8) T7)⟩]) (by kernel_rfl) (by kernel_rfl)
   ·--it goes on
    refine n8 hm 15 _ ?_
    obtain rfl:=Option.some.inj h
    exact bc4 (q' :=.go (N6 l (.s1 (IntKind.i64.wrap (n+1)) e9 c2 E4 q0 p8 T6 T7))) (by kernel_rfl) (P8 (by kernel_rfl) ha)
  refine n8 hm 18 _ ?_
  obtain rfl:=Option.some.inj h
  exact bc4 (q' :=.go (N6 l (.s1 (IntKind.i64.wrap (n+1)) e9 c2 E4 q0 p8 T6 T7))) (by kernel_rfl) (P8 (by kernel_rfl) ha)
 refine n8 hm 2 _ ?_
 obtain rfl:=Option.some.inj h
 exact bZ5 (d:=D.tup []) (s:= [some ⟨1,true,[[D.ptr 1 0 0]]⟩,some ⟨88,true,[[D.int .i64 e9.boot,D.int .i64 e9.known.Epoch,D.int .i64 e9.known.Target,D.int .i64 e9.known.Prev,D.int .i64 e9.known.Spill,D.int .i64 e9.known.Percent,D.int .i64 e9.known.Stamp,D.int .i64 e9.known.Since,D.int .i64 e9.known.Ramped,D.int .u64 e9.known.Up,D.int .u64 e9.known.Sup,D.sl false 1 (List.map (d8 .i64) e9.known.Pen),D.sl false 1 (List.map (d8 .i64) e9.known.Changes),D.int .i64 e9.heard,D.sl false 3 (List.map i8.enc e9.votes),D.int .i64 e9.hold.Epoch,D.int .i64 e9.hold.Nonce,D.int .u64 e9.hold.Grants,D.int .i64 e9.hold.Until,D.bool e9.asked.ever,D.int .i64 e9.asked.at_,D.int .i64 e9.prop.Epoch,D.int .i64 e9.prop.Ballot,D.int .i64 e9.prop.Phase,D.int .i64 e9.prop.Own.Epoch,D.int .i64 e9.prop.Own.Target,D.int .i64 e9.prop.Own.Prev,D.int .i64 e9.prop.Own.Spill,D.int .i64 e9.prop.Own.Percent,D.int .i64 e9.prop.Own.Stamp,D.int .i64 e9.prop.Own.Since,D.int .i64 e9.prop.Own.Ramped,D.int .u64 e9.prop.Own.Up,D.int .u64 e9.prop.Own.Sup,D.sl false 1 (List.map (d8 .i64) e9.prop.Own.Pen),D.sl false 1 (List.map (d8 .i64) e9.prop.Own.Changes),D.int .i64 e9.prop.Best,D.int .i64 e9.prop.Value.Epoch,D.int .i64 e9.prop.Value.Target,D.int .i64 e9.prop.Value.Prev,D.int .i64 e9.prop.Value.Spill,D.int .i64 e9.prop.Value.Percent,D.int .i64 e9.prop.Value.Stamp,D.int .i64 e9.prop.Value.Since,D.int .i64 e9.prop.Value.Ramped,D.int .u64 e9.prop.Value.Up,D.int .u64 e9.prop.Value.Sup,D.sl false 1 (List.map (d8 .i64) e9.prop.Value.Pen),D.sl false 1 (List.map (d8 .i64) e9.prop.Value.Changes),D.int .u64 e9.prop.Promises,D.int .u64 e9.prop.Accepts,D.int .i64 e9.made,D.int .i64 e9.top,D.int .u64 e9.sealed,D.bool e9.told.ever,D.int .i64 e9.told.at_,D.int .i64 c2.F_,D.int .i64 c2.Deciders,D.int .i64 c2.Targets,D.int .i64 c2.Routers,D.int .i64 c2.Observers,D.sl false 1 (List.map (d8 .i64) c2.Tiers),D.int .i64 c2.Every,D.int .i64 c2.Wait,D.int .i64 c2.Rise,D.int .i64 c2.Fall,D.int .i64 c2.Fresh,D.int .i64 c2.L_,D.int .i64 c2.M_,D.int .i64 c2.Dwell,D.int .i64 c2.D_,D.int .i64 c2.W_,D.int .i64 c2.B_,D.int .i64 c2.Hit,D.int .i64 c2.Suppress,D.int .i64 c2.Reuse,D.int .i64 c2.Half,D.int .i64 c2.First,D.int .i64 c2.Step,D.int .i64 c2.StepTime,D.int .i64 c2.S_,D.int .i64 c2.Cap,D.int .i64 c2.Span,D.int .i64 c2.Room,D.int .i64 c2.Tries,D.int .i64 c2.Retry,D.int .i64 E4,D.ptr 2 0 0]]⟩,some ⟨4,true,[[(i5 3 (List.map (d8 .u8) T6)),(i5 4 (List.map (d8 .u8) T7)),D.int .i64 q0,D.bool p8]]⟩,some ⟨1,false,(List.map (d8 .u8) T6)⟩,some ⟨1,false,(List.map (d8 .u8) T7)⟩]) (by kernel_rfl) (by kernel_rfl) ha
noncomputable def aI5 (aa4:f3) (c:d9) (ac9 ae5:Int) (ad1:Bool) (b3 b4:List Int):Option (List Int):=evl M0 (.s0 aa4 c ac9 ae5 ad1 b3 b4)
theorem cm0 {aa4:f3}{c:d9}{ac9 ae5:Int}{ad1:Bool}{b3 b4 r:List Int} (h:aI5 aa4 c ac9 ae5 ad1 b3 b4=some r):as3 E 138 [D.ptr 0 0 0] [some ⟨1,true,[[D.ptr 1 0 0]]⟩,some ⟨88,true,[[D.int .i64 aa4.boot,D.int .i64 aa4.known.Epoch,D.int .i64 aa4.known.Target,D.int .i64 aa4.known.Prev,D.int .i64 aa4.known.Spill,D.int .i64 aa4.known.Percent,D.int .i64 aa4.known.Stamp,D.int .i64 aa4.known.Since,D.int .i64 aa4.known.Ramped,D.int .u64 aa4.known.Up,D.int .u64 aa4.known.Sup,D.sl false 1 (List.map (d8 .i64) aa4.known.Pen),D.sl false 1 (List.map (d8 .i64) aa4.known.Changes),D.int .i64 aa4.heard,D.sl false 3 (List.map i8.enc aa4.votes),D.int .i64 aa4.hold.Epoch,D.int .i64 aa4.hold.Nonce,D.int .u64 aa4.hold.Grants,D.int .i64 aa4.hold.Until,D.bool aa4.asked.ever,D.int .i64 aa4.asked.at_,D.int .i64 aa4.prop.Epoch,D.int .i64 aa4.prop.Ballot,D.int .i64 aa4.prop.Phase,D.int .i64 aa4.prop.Own.Epoch,D.int .i64 aa4.prop.Own.Target,D.int .i64 aa4.prop.Own.Prev,D.int .i64 aa4.prop.Own.Spill,D.int .i64 aa4.prop.Own.Percent,D.int .i64 aa4.prop.Own.Stamp,D.int .i64 aa4.prop.Own.Since,D.int .i64 aa4.prop.Own.Ramped,D.int .u64 aa4.prop.Own.Up,D.int .u64 aa4.prop.Own.Sup,D.sl false 1 (List.map (d8 .i64) aa4.prop.Own.Pen),D.sl false 1 (List.map (d8 .i64) aa4.prop.Own.Changes),D.int .i64 aa4.prop.Best,D.int .i64 aa4.prop.Value.Epoch,D.int .i64 aa4.prop.Value.Target,D.int .i64 aa4.prop.Value.Prev,D.int .i64 aa4.prop.Value.Spill,D.int .i64 aa4.prop.Value.Percent,D.int .i64 aa4.prop.Value.Stamp,D.int .i64 aa4.prop.Value.Since,D.int .i64 aa4.prop.Value.Ramped,D.int .u64 aa4.prop.Value.Up,D.int .u64 aa4.prop.Value.Sup,D.sl false 1 (List.map (d8 .i64) aa4.prop.Value.Pen),D.sl false 1 (List.map (d8 .i64) aa4.prop.Value.Changes),D.int .u64 aa4.prop.Promises,D.int .u64 aa4.prop.Accepts,D.int .i64 aa4.made,D.int .i64 aa4.top,D.int .u64 aa4.sealed,D.bool aa4.told.ever,D.int .i64 aa4.told.at_,D.int .i64 c.F_,D.int .i64 c.Deciders,D.int .i64 c.Targets,D.int .i64 c.Routers,D.int .i64 c.Observers,D.sl false 1 (List.map (d8 .i64) c.Tiers),D.int .i64 c.Every,D.int .i64 c.Wait,D.int .i64 c.Rise,D.int .i64 c.Fall,D.int .i64 c.Fresh,D.int .i64 c.L_,D.int .i64 c.M_,D.int .i64 c.Dwell,D.int .i64 c.D_,D.int .i64 c.W_,D.int .i64 c.B_,D.int .i64 c.Hit,D.int .i64 c.Suppress,D.int .i64 c.Reuse,D.int .i64 c.Half,D.int .i64 c.First,D.int .i64 c.Step,D.int .i64 c.StepTime,D.int .i64 c.S_,D.int .i64 c.Cap,D.int .i64 c.Span,D.int .i64 c.Room,D.int .i64 c.Tries,D.int .i64 c.Retry,D.int .i64 ac9,D.ptr 2 0 0]]⟩,some ⟨4,true,[[(i5 3 (List.map (d8 .u8) b3)),(i5 4 (List.map (d8 .u8) b4)),D.int .i64 ae5,D.bool ad1]]⟩,some ⟨1,false,(List.map (d8 .u8) b3)⟩,some ⟨1,false,(List.map (d8 .u8) b4)⟩] [some ⟨1,true,[[D.ptr 1 0 0]]⟩,some ⟨88,true,[[D.int .i64 aa4.boot,D.int .i64 aa4.known.Epoch,D.int .i64 aa4.known.Target,D.int .i64 aa4.known.Prev,D.int .i64 aa4.known.Spill,D.int .i64 aa4.known.Percent,D.int .i64 aa4.known.Stamp,D.int .i64 aa4.known.Since,D.int .i64 aa4.known.Ramped,D.int .u64 aa4.known.Up,D.int .u64 aa4.known.Sup,D.sl false 1 (List.map (d8 .i64) aa4.known.Pen),D.sl false 1 (List.map (d8 .i64) aa4.known.Changes),D.int .i64 aa4.heard,D.sl false 3 (List.map i8.enc aa4.votes),D.int .i64 aa4.hold.Epoch,D.int .i64 aa4.hold.Nonce,D.int .u64 aa4.hold.Grants,D.int .i64 aa4.hold.Until,D.bool aa4.asked.ever,D.int .i64 aa4.asked.at_,D.int .i64 aa4.prop.Epoch,D.int .i64 aa4.prop.Ballot,D.int .i64 aa4.prop.Phase,D.int .i64 aa4.prop.Own.Epoch,D.int .i64 aa4.prop.Own.Target,D.int .i64 aa4.prop.Own.Prev,D.int .i64 aa4.prop.Own.Spill,D.int .i64 aa4.prop.Own.Percent,D.int .i64 aa4.prop.Own.Stamp,D.int .i64 aa4.prop.Own.Since,D.int .i64 aa4.prop.Own.Ramped,D.int .u64 aa4.prop.Own.Up,D.int .u64 aa4.prop.Own.Sup,D.sl false 1 (List.map (d8 .i64) aa4.prop.Own.Pen),D.sl false 1 (List.map (d8 .i64) aa4.prop.Own.Changes),D.int .i64 aa4.prop.Best,D.int .i64 aa4.prop.Value.Epoch,D.int .i64 aa4.prop.Value.Target,D.int .i64 aa4.prop.Value.Prev,D.int .i64 aa4.prop.Value.Spill,D.int .i64 aa4.prop.Value.Percent,D.int .i64 aa4.prop.Value.Stamp,D.int .i64 aa4.prop.Value.Since,D.int .i64 aa4.prop.Value.Ramped,D.int .u64 aa4.prop.Value.Up,D.int .u64 aa4.prop.Value.Sup,D.sl false 1 (List.map (d8 .i64) aa4.prop.Value.Pen),D.sl false 1 (List.map (d8 .i64) aa4.prop.Value.Changes),D.int .u64 aa4.prop.Promises,D.int .u64 aa4.prop.Accepts,D.int .i64 aa4.made,D.int .i64 aa4.top,D.int .u64 aa4.sealed,D.bool aa4.told.ever,D.int .i64 aa4.told.at_,D.int .i64 c.F_,D.int .i64 c.Deciders,D.int .i64 c.Targets,D.int .i64 c.Routers,D.int .i64 c.Observers,D.sl false 1 (List.map (d8 .i64) c.Tiers),D.int .i64 c.Every,D.int .i64 c.Wait,D.int .i64 c.Rise,D.int .i64 c.Fall,D.int .i64 c.Fresh,D.int .i64 c.L_,D.int .i64 c.M_,D.int .i64 c.Dwell,D.int .i64 c.D_,D.int .i64 c.W_,D.int .i64 c.B_,D.int .i64 c.Hit,D.int .i64 c.Suppress,D.int .i64 c.Reuse,D.int .i64 c.Half,D.int .i64 c.First,D.int .i64 c.Step,D.int .i64 c.StepTime,D.int .i64 c.S_,D.int .i64 c.Cap,D.int .i64 c.Span,D.int .i64 c.Room,D.int .i64 c.Tries,D.int .i64 c.Retry,D.int .i64 ac9,D.ptr 2 0 0]]⟩,some ⟨4,true,[[(i5 3 (List.map (d8 .u8) b3)),(i5 4 (List.map (d8 .u8) b4)),D.int .i64 ae5,D.bool ad1]]⟩,some ⟨1,false,(List.map (d8 .u8) b3)⟩,some ⟨1,false,(List.map (d8 .u8) b4)⟩] (List.map L5 r):=
 bX7 (m:=fun l=>N6 l (.s0 aa4 c ac9 ae5 ad1 b3 b4)) (fn:=Tryz.f138) (by kernel_rfl) (fun l=>by kernel_rfl) (show List.take _ _=_ by kernel_rfl) (show F5 _ _=_ by kernel_rfl) (fun l φ0 J=>bH3 (step:=M0) (lnS:=ae3) (fun s x Y hl hs ha=>by
  cases s with
  | s0=>exact bW3 hl hs ha
  | s1=>exact bW1 hl hs ha) (by kernel_rfl) (bT9 h))
noncomputable def z3:=u5 (u6 Tryz.f63)
noncomputable def D0 (aa4:f3) (c:d9) (ac9 ae5:Int) (ad1:Bool) (b3 b4:List Int) (y:List f5):D×i0:=((i5 5 (List.map f5.enc y)),[some ⟨88,true,[(f3.l aa4 (d9.l c [.int .i64 ac9,.ptr 2 0 0]))]⟩,some ⟨1,true,[[.ptr 0 0 0]]⟩,some ⟨4,true,[[(i5 3 (List.map (d8 .u8) b3)),(i5 4 (List.map (d8 .u8) b4)),.int .i64 ae5,.bool ad1]]⟩,some ⟨1,false,(List.map (d8 .u8) b3)⟩,some ⟨1,false,(List.map (d8 .u8) b4)⟩,some ⟨26,false,(List.map f5.enc y)⟩])
inductive A5 where
 | s0
 | s1 (b8:List f5)
 | s2 (m2:f5) (b8:List f5) (Y:List Int)
noncomputable def X1 (m:f5) (aa4:f3) (c:d9) (ac9 ae5:Int) (ad1:Bool) (b3 b4:List Int):A5→M
 | .s0=>C3 Tryz.f63 [.ptr 0 0 0,.fn 138 [] [.ptr 1 0 0],.agg (f5.enc m)] [some ⟨88,true,[(f3.l aa4 (d9.l c [.int .i64 ac9,.ptr 2 0 0]))]⟩,some ⟨1,true,[[.ptr 0 0 0]]⟩,some ⟨4,true,[[(i5 3 (List.map (d8 .u8) b3)),(i5 4 (List.map (d8 .u8) b4)),.int .i64 ae5,.bool ad1]]⟩,some ⟨1,false,(List.map (d8 .u8) b3)⟩,some ⟨1,false,(List.map (d8 .u8) b4)⟩]
 | .s1 b8=>⟨[.code (z3 [1,1,0,1,0]),.blk 0,.code (z3 [1,1,1])],[(3,.ptr 5 0 0),(5,.ptr 6 0 0),(7,.ptr 7 0 0),(9,.fn 138 [] [.ptr 1 0 0])],[some ⟨88,true,[(f3.l aa4 (d9.l c [.int .i64 ac9,.ptr 2 0 0]))]⟩,some ⟨1,true,[[.ptr 0 0 0]]⟩,some ⟨4,true,[[(i5 3 (List.map (d8 .u8) b3)),(i5 4 (List.map (d8 .u8) b4)),.int .i64 ae5,.bool ad1]]⟩,some ⟨1,false,(List.map (d8 .u8) b3)⟩,some ⟨1,false,(List.map (d8 .u8) b4)⟩,some ⟨1,true,[[.ptr 0 0 0]]⟩,some ⟨26,false,[(f5.enc m)]⟩,some ⟨1,true,[[(i5 8 (List.map f5.enc b8))]]⟩,some ⟨26,false,(List.map f5.enc b8)⟩]⟩
 | .s2 m2 b8 Y=>⟨[.blk 0,.code (z3 [1,1,1])],[(3,.ptr 5 0 0),(5,.ptr 6 0 0),(7,.ptr 7 0 0),(9,.fn 138 [] [.ptr 1 0 0])],[some ⟨88,true,[(f3.l aa4 (d9.l c [.int .i64 ac9,.ptr 2 0 0]))]⟩,some ⟨1,true,[[.ptr 0 0 0]]⟩,some ⟨4,true,[[(i5 3 (List.map (d8 .u8) b3)),(i5 4 (List.map (d8 .u8) b4)),.int .i64 ae5,.bool ad1]]⟩,some ⟨1,false,(List.map (d8 .u8) b3)⟩,some ⟨1,false,(List.map (d8 .u8) b4)⟩,some ⟨1,true,[[.ptr 0 0 0]]⟩,some ⟨26,false,[(f5.enc m2)]⟩,some ⟨1,true,[[(i5 8 (List.map f5.enc b8))]]⟩,some ⟨26,false,(List.map f5.enc b8)⟩]⟩
noncomputable def N9 (m:f5) (aa4:f3) (c:d9) (ac9 ae5:Int) (ad1:Bool) (b3 b4:List Int):A5→(List f5)→Prop
 | .s0,r_=>i4 E (Cx.of Tryz.f63 true 5) (QW (Rs (D0 aa4 c ac9 ae5 ad1 b3 b4) r_)) (.go ((X1 m aa4 c ac9 ae5 ad1 b3 b4) (.s0)))
 | .s1 b8,r_=>i4 E (Cx.of Tryz.f63 true 5) (QW (Rs (D0 aa4 c ac9 ae5 ad1 b3 b4) r_)) (.go ((X1 m aa4 c ac9 ae5 ad1 b3 b4) (.s1 b8)))
 | .s2 m2 b8 Y,r_=>Q8 E (Cx.of Tryz.f63 true 5) (QW (Rs (D0 aa4 c ac9 ae5 ad1 b3 b4) r_)) 8 (z3 [1,1,0,1,0]) [.blk 0,.code (z3 [1,1,1])] [(3,.ptr 5 0 0),(5,.ptr 6 0 0),(7,.ptr 7 0 0),(9,.fn 138 [] [.ptr 1 0 0])] [1,0,2,3,4] [some ⟨1,true,[[.ptr 0 0 0]]⟩,some ⟨88,true,[(f3.l aa4 (d9.l c [.int .i64 ac9,.ptr 2 0 0]))]⟩,some ⟨4,true,[[(i5 3 (List.map (d8 .u8) b3)),(i5 4 (List.map (d8 .u8) b4)),.int .i64 ae5,.bool ad1]]⟩,some ⟨1,false,(List.map (d8 .u8) b3)⟩,some ⟨1,false,(List.map (d8 .u8) b4)⟩] (List.map L5 Y) [some ⟨88,true,[(f3.l aa4 (d9.l c [.int .i64 ac9,.ptr 2 0 0]))]⟩,some ⟨1,true,[[.ptr 0 0 0]]⟩,some ⟨4,true,[[(i5 3 (List.map (d8 .u8) b3)),(i5 4 (List.map (d8 .u8) b4)),.int .i64 ae5,.bool ad1]]⟩,some ⟨1,false,(List.map (d8 .u8) b3)⟩,some ⟨1,false,(List.map (d8 .u8) b4)⟩,some ⟨1,true,[[.ptr 0 0 0]]⟩,some ⟨26,false,[(f5.enc m2)]⟩,some ⟨1,true,[[(i5 8 (List.map f5.enc b8))]]⟩,some ⟨26,false,(List.map f5.enc b8)⟩]
noncomputable def az3 (m:f5) (aa4:f3) (c:d9) (ac9 ae5:Int) (ad1:Bool) (b3 b4:List Int):Option (A5⊕(List f5)):=(some (.inl (.s1 ([]))))
noncomputable def ah2 (m:f5) (aa4:f3) (c:d9) (ac9 ae5:Int) (ad1:Bool) (b3 b4:List Int) (b8:List f5):Option (A5⊕(List f5)):=((aI5 aa4 c ac9 ae5 ad1 b3 b4).bind fun y1=>(some (.inl (.s2 m b8 y1))))
noncomputable def ae2 (m:f5) (aa4:f3) (c:d9) (ac9 ae5:Int) (ad1:Bool) (b3 b4:List Int) (m2:f5) (b8:List f5):Option (A5⊕(List f5)):=(some (.inr b8))
noncomputable def ae1 (m:f5) (aa4:f3) (c:d9) (ac9 ae5:Int) (ad1:Bool) (b3 b4:List Int) (m2:f5) (b8:List f5) (y:Int) (Y:List Int):Option (A5⊕(List f5)):=((N1 c ac9).bind fun y1=>(bif (decide (((List.map f5.enc b8).length+1)*288≤l6)) then (some (.inl (.s2 (⟨m2.Kind,y1,y,m2.Epoch,m2.Ballot,m2.Accepted,m2.Nonce,m2.Time,m2.Up,m2.Code,m2.HasPlan,m2.Plan,m2.ID,m2.Session,m2.Payload⟩:f5) (b8++ [(⟨m2.Kind,y1,y,m2.Epoch,m2.Ballot,m2.Accepted,m2.Nonce,m2.Time,m2.Up,m2.Code,m2.HasPlan,m2.Plan,m2.ID,m2.Session,m2.Payload⟩:f5)]) Y))) else none))
noncomputable def ah3 (m:f5) (aa4:f3) (c:d9) (ac9 ae5:Int) (ad1:Bool) (b3 b4:List Int) (m2:f5) (b8:List f5):List Int→Option (A5⊕(List f5))
 | []=>ae2 m aa4 c ac9 ae5 ad1 b3 b4 m2 b8
 | y::Y=>ae1 m aa4 c ac9 ae5 ad1 b3 b4 m2 b8 y Y
noncomputable def K8 (m:f5) (aa4:f3) (c:d9) (ac9 ae5:Int) (ad1:Bool) (b3 b4:List Int):A5→Option (A5⊕(List f5))
 | .s0=>az3 m aa4 c ac9 ae5 ad1 b3 b4
 | .s1 b8=>ah2 m aa4 c ac9 ae5 ad1 b3 b4 b8
 | .s2 m2 b8 Y=>ah3 m aa4 c ac9 ae5 ad1 b3 b4 m2 b8 Y
theorem bD0 {m:f5}{aa4:f3}{c:d9}{ac9 ae5:Int}{ad1:Bool}{b3 b4:List Int}{r:List f5}{x:A5⊕(List f5)} (h:az3 m aa4 c ac9 ae5 ad1 b3 b4=some x) (ha:D2 (N9 m aa4 c ac9 ae5 ad1 b3 b4) r x):i4 E (Cx.of Tryz.f63 true 5) (QW (Rs (D0 aa4 c ac9 ae5 ad1 b3 b4) r)) (.go ((X1 m aa4 c ac9 ae5 ad1 b3 b4) (.s0))):=by
 unfold az3 at h
 refine n8 hm 16 _ ?_
 obtain rfl:=Option.some.inj h
 refine ay5 1704 [.matc 7 0 0 26] (m' :=⟨[.code (z3 [1,1,0,1,0]),.blk 0,.code (z3 [1,1,1])],[(3,.ptr 5 0 0),(5,.ptr 6 0 0),(7,.ptr 7 0 0),(9,.fn 138 [] [.ptr 1 0 0])],[some ⟨88,true,[(f3.l aa4 (d9.l c [.int .i64 ac9,.ptr 2 0 0]))]⟩,some ⟨1,true,[[.ptr 0 0 0]]⟩,some ⟨4,true,[[(i5 3 (List.map (d8 .u8) b3)),(i5 4 (List.map (d8 .u8) b4)),.int .i64 ae5,.bool ad1]]⟩,some ⟨1,false,(List.map (d8 .u8) b3)⟩,some ⟨1,false,(List.map (d8 .u8) b4)⟩,some ⟨1,true,[[.ptr 0 0 0]]⟩,some ⟨26,false,[(f5.enc m)]⟩,some ⟨1,true,[[.msl 8 0 0 0 false]]⟩,some ⟨26,false,[]⟩]⟩) (by kernel_rfl) ?_
 refine ah4 (n1:=0) (n2:=(List.map f5.enc ([])).length) (fun n_len=> .go ⟨[.code (z3 [1,1,0,1,0]),.blk 0,.code (z3 [1,1,1])],[(3,.ptr 5 0 0),(5,.ptr 6 0 0),(7,.ptr 7 0 0),(9,.fn 138 [] [.ptr 1 0 0])],[some ⟨88,true,[(f3.l aa4 (d9.l c [.int .i64 ac9,.ptr 2 0 0]))]⟩,some ⟨1,true,[[.ptr 0 0 0]]⟩,some ⟨4,true,[[(i5 3 (List.map (d8 .u8) b3)),(i5 4 (List.map (d8 .u8) b4)),.int .i64 ae5,.bool ad1]]⟩,some ⟨1,false,(List.map (d8 .u8) b3)⟩,some ⟨1,false,(List.map (d8 .u8) b4)⟩,some ⟨1,true,[[.ptr 0 0 0]]⟩,some ⟨26,false,[(f5.enc m)]⟩,some ⟨1,true,[[.msl 8 0 n_len n_len false]]⟩,some ⟨26,false,[]⟩]⟩) (by simp) ?_
 exact ha
theorem bE9 {m:f5}{aa4:f3}{c:d9}{ac9 ae5:Int}{ad1:Bool}{b3 b4:List Int}{b8 r:List f5}{x:A5⊕(List f5)} (h:ah2 m aa4 c ac9 ae5 ad1 b3 b4 b8=some x) (ha:D2 (N9 m aa4 c ac9 ae5 ad1 b3 b4) r x):i4 E (Cx.of Tryz.f63 true 5) (QW (Rs (D0 aa4 c ac9 ae5 ad1 b3 b4) r)) (.go ((X1 m aa4 c ac9 ae5 ad1 b3 b4) (.s1 b8))):=by
 unfold ah2 at h
 refine n8 hm 1 _ ?_
 have ok1:=fun(y:List Int) (hy:aI5 aa4 c ac9 ae5 ad1 b3 b4=some y)=>cm0 hy
 refine dE6 (m:=8) (c:=z3 [1,1,0,1,0]) (t:= [.blk 0,.code (z3 [1,1,1])]) (fr:= [(3,.ptr 5 0 0),(5,.ptr 6 0 0),(7,.ptr 7 0 0),(9,.fn 138 [] [.ptr 1 0 0])]) (σ:= [some ⟨88,true,[(f3.l aa4 (d9.l c [.int .i64 ac9,.ptr 2 0 0]))]⟩,some ⟨1,true,[[.ptr 0 0 0]]⟩,some ⟨4,true,[[(i5 3 (List.map (d8 .u8) b3)),(i5 4 (List.map (d8 .u8) b4)),.int .i64 ae5,.bool ad1]]⟩,some ⟨1,false,(List.map (d8 .u8) b3)⟩,some ⟨1,false,(List.map (d8 .u8) b4)⟩,some ⟨1,true,[[.ptr 0 0 0]]⟩,some ⟨26,false,[(f5.enc m)]⟩,some ⟨1,true,[[(i5 8 (List.map f5.enc b8))]]⟩,some ⟨26,false,(List.map f5.enc b8)⟩]) (ids:= [1,0,2,3,4]) (bs:= [some ⟨1,true,[[.ptr 0 0 0]]⟩,some ⟨88,true,[(f3.l aa4 (d9.l c [.int .i64 ac9,.ptr 2 0 0]))]⟩,some ⟨4,true,[[(i5 3 (List.map (d8 .u8) b3)),(i5 4 (List.map (d8 .u8) b4)),.int .i64 ae5,.bool ad1]]⟩,some ⟨1,false,(List.map (d8 .u8) b3)⟩,some ⟨1,false,(List.map (d8 .u8) b4)⟩]) (caps1:= [.ptr 0 0 0]) (caps:= [.ptr 0 0 0]) (sub1:= [some ⟨1,true,[[.ptr 1 0 0]]⟩,some ⟨88,true,[(f3.l aa4 (d9.l c [.int .i64 ac9,.ptr 2 0 0]))]⟩,some ⟨4,true,[[(i5 3 (List.map (d8 .u8) b3)),(i5 4 (List.map (d8 .u8) b4)),.int .i64 ae5,.bool ad1]]⟩,some ⟨1,false,(List.map (d8 .u8) b3)⟩,some ⟨1,false,(List.map (d8 .u8) b4)⟩]) (sub:= [some ⟨1,true,[[.ptr 1 0 0]]⟩,some ⟨88,true,[(f3.l aa4 (d9.l c [.int .i64 ac9,.ptr 2 0 0]))]⟩,some ⟨4,true,[[(i5 3 (List.map (d8 .u8) b3)),(i5 4 (List.map (d8 .u8) b4)),.int .i64 ae5,.bool ad1]]⟩,some ⟨1,false,(List.map (d8 .u8) b3)⟩,some ⟨1,false,(List.map (d8 .u8) b4)⟩]) L5 h (by kernel_rfl) ⟨rfl,rfl⟩ (by kernel_rfl) (by kernel_rfl) (by kernel_rfl) (by kernel_rfl) (by kernel_rfl) ok1 (fun y1 h1 h=> ?_)
 obtain rfl:=Option.some.inj h
 exact ha
theorem bz0 {m:f5}{aa4:f3}{c:d9}{ac9 ae5:Int}{ad1:Bool}{b3 b4:List Int}{m2:f5}{b8 r:List f5}{x:A5⊕(List f5)} (h:ae2 m aa4 c ac9 ae5 ad1 b3 b4 m2 b8=some x) (ha:D2 (N9 m aa4 c ac9 ae5 ad1 b3 b4) r x):Q8 E (Cx.of Tryz.f63 true 5) (QW (Rs (D0 aa4 c ac9 ae5 ad1 b3 b4) r)) 8 (z3 [1,1,0,1,0]) [.blk 0,.code (z3 [1,1,1])] [(3,.ptr 5 0 0),(5,.ptr 6 0 0),(7,.ptr 7 0 0),(9,.fn 138 [] [.ptr 1 0 0])] [1,0,2,3,4] [some ⟨1,true,[[.ptr 0 0 0]]⟩,some ⟨88,true,[(f3.l aa4 (d9.l c [.int .i64 ac9,.ptr 2 0 0]))]⟩,some ⟨4,true,[[(i5 3 (List.map (d8 .u8) b3)),(i5 4 (List.map (d8 .u8) b4)),.int .i64 ae5,.bool ad1]]⟩,some ⟨1,false,(List.map (d8 .u8) b3)⟩,some ⟨1,false,(List.map (d8 .u8) b4)⟩] ([]) [some ⟨88,true,[(f3.l aa4 (d9.l c [.int .i64 ac9,.ptr 2 0 0]))]⟩,some ⟨1,true,[[.ptr 0 0 0]]⟩,some ⟨4,true,[[(i5 3 (List.map (d8 .u8) b3)),(i5 4 (List.map (d8 .u8) b4)),.int .i64 ae5,.bool ad1]]⟩,some ⟨1,false,(List.map (d8 .u8) b3)⟩,some ⟨1,false,(List.map (d8 .u8) b4)⟩,some ⟨1,true,[[.ptr 0 0 0]]⟩,some ⟨26,false,[(f5.enc m2)]⟩,some ⟨1,true,[[(i5 8 (List.map f5.enc b8))]]⟩,some ⟨26,false,(List.map f5.enc b8)⟩]:=by
 unfold ae2 at h
 refine bo0 ?_
 exact ztP 8 h ha
theorem bA6 {m:f5}{aa4:f3}{c:d9}{ac9 ae5:Int}{ad1:Bool}{b3 b4:List Int}{m2:f5}{b8:List f5}{y:Int}{Y:List Int}{r:List f5}{x:A5⊕(List f5)} (h:ae1 m aa4 c ac9 ae5 ad1 b3 b4 m2 b8 y Y=some x) (ha:D2 (N9 m aa4 c ac9 ae5 ad1 b3 b4) r x):Q8 E (Cx.of Tryz.f63 true 5) (QW (Rs (D0 aa4 c ac9 ae5 ad1 b3 b4) r)) 8 (z3 [1,1,0,1,0]) [.blk 0,.code (z3 [1,1,1])] [(3,.ptr 5 0 0),(5,.ptr 6 0 0),(7,.ptr 7 0 0),(9,.fn 138 [] [.ptr 1 0 0])] [1,0,2,3,4] [some ⟨1,true,[[.ptr 0 0 0]]⟩,some ⟨88,true,[(f3.l aa4 (d9.l c [.int .i64 ac9,.ptr 2 0 0]))]⟩,some ⟨4,true,[[(i5 3 (List.map (d8 .u8) b3)),(i5 4 (List.map (d8 .u8) b4)),.int .i64 ae5,.bool ad1]]⟩,some ⟨1,false,(List.map (d8 .u8) b3)⟩,some ⟨1,false,(List.map (d8 .u8) b4)⟩] (L5 y::List.map L5 Y) [some ⟨88,true,[(f3.l aa4 (d9.l c [.int .i64 ac9,.ptr 2 0 0]))]⟩,some ⟨1,true,[[.ptr 0 0 0]]⟩,some ⟨4,true,[[(i5 3 (List.map (d8 .u8) b3)),(i5 4 (List.map (d8 .u8) b4)),.int .i64 ae5,.bool ad1]]⟩,some ⟨1,false,(List.map (d8 .u8) b3)⟩,some ⟨1,false,(List.map (d8 .u8) b4)⟩,some ⟨1,true,[[.ptr 0 0 0]]⟩,some ⟨26,false,[(f5.enc m2)]⟩,some ⟨1,true,[[(i5 8 (List.map f5.enc b8))]]⟩,some ⟨26,false,(List.map f5.enc b8)⟩]:=by
 unfold ae1 at h
 refine bc3 ?_
 refine zd 7 [] h (fun _=>Z7) fun y1 h=> ?_
 refine zn 12 h fun h=> ?_
 refine za 0 f5.enc b8 ([(⟨m2.Kind,y1,y,m2.Epoch,m2.Ballot,m2.Accepted,m2.Nonce,m2.Time,m2.Up,m2.Code,m2.HasPlan,m2.Plan,m2.ID,m2.Session,m2.Payload⟩:f5)]) ?_
 refine n8 hm 6 _ ?_
 obtain rfl:=Option.some.inj h
 exact aT6 [] (s1:= [some ⟨88,true,[(f3.l aa4 (d9.l c [.int .i64 ac9,.ptr 2 0 0]))]⟩,some ⟨1,true,[[.ptr 0 0 0]]⟩,some ⟨4,true,[[(i5 3 (List.map (d8 .u8) b3)),(i5 4 (List.map (d8 .u8) b4)),.int .i64 ae5,.bool ad1]]⟩,some ⟨1,false,(List.map (d8 .u8) b3)⟩,some ⟨1,false,(List.map (d8 .u8) b4)⟩,some ⟨1,true,[[.ptr 0 0 0]]⟩,some ⟨26,false,[(.int .i64 m2.Kind::.int .i64 y1::.int .i64 y::.int .i64 m2.Epoch::.int .i64 m2.Ballot::.int .i64 m2.Accepted::.int .i64 m2.Nonce::.int .i64 m2.Time::.int .u64 m2.Up::.int .i64 m2.Code::.bool m2.HasPlan::Plan.l m2.Plan [.sl false 1 (List.map (d8 .i64) m2.ID),.sl false 1 (List.map (d8 .u8) m2.Session),.sl false 1 (List.map (d8 .u8) m2.Payload)])]⟩,some ⟨1,true,[[.msl 8 0 ((List.map f5.enc (b8++ [(⟨m2.Kind,y1,y,m2.Epoch,m2.Ballot,m2.Accepted,m2.Nonce,m2.Time,m2.Up,m2.Code,m2.HasPlan,m2.Plan,m2.ID,m2.Session,m2.Payload⟩:f5)])).length) ((List.map f5.enc (b8++ [(⟨m2.Kind,y1,y,m2.Epoch,m2.Ballot,m2.Accepted,m2.Nonce,m2.Time,m2.Up,m2.Code,m2.HasPlan,m2.Plan,m2.ID,m2.Session,m2.Payload⟩:f5)])).length) false]]⟩,some ⟨26,false,(List.map f5.enc (b8++ [(⟨m2.Kind,y1,y,m2.Epoch,m2.Ballot,m2.Accepted,m2.Nonce,m2.Time,m2.Up,m2.Code,m2.HasPlan,m2.Plan,m2.ID,m2.Session,m2.Payload⟩:f5)]))⟩]) (s:= [some ⟨88,true,[(f3.l aa4 (d9.l c [.int .i64 ac9,.ptr 2 0 0]))]⟩,some ⟨1,true,[[.ptr 0 0 0]]⟩,some ⟨4,true,[[(i5 3 (List.map (d8 .u8) b3)),(i5 4 (List.map (d8 .u8) b4)),.int .i64 ae5,.bool ad1]]⟩,some ⟨1,false,(List.map (d8 .u8) b3)⟩,some ⟨1,false,(List.map (d8 .u8) b4)⟩,some ⟨1,true,[[.ptr 0 0 0]]⟩,some ⟨26,false,[(.int .i64 m2.Kind::.int .i64 y1::.int .i64 y::.int .i64 m2.Epoch::.int .i64 m2.Ballot::.int .i64 m2.Accepted::.int .i64 m2.Nonce::.int .i64 m2.Time::.int .u64 m2.Up::.int .i64 m2.Code::.bool m2.HasPlan::Plan.l m2.Plan [.sl false 1 (List.map (d8 .i64) m2.ID),.sl false 1 (List.map (d8 .u8) m2.Session),.sl false 1 (List.map (d8 .u8) m2.Payload)])]⟩,some ⟨1,true,[[.msl 8 0 ((List.map f5.enc (b8++ [(⟨m2.Kind,y1,y,m2.Epoch,m2.Ballot,m2.Accepted,m2.Nonce,m2.Time,m2.Up,m2.Code,m2.HasPlan,m2.Plan,m2.ID,m2.Session,m2.Payload⟩:f5)])).length) ((List.map f5.enc (b8++ [(⟨m2.Kind,y1,y,m2.Epoch,m2.Ballot,m2.Accepted,m2.Nonce,m2.Time,m2.Up,m2.Code,m2.HasPlan,m2.Plan,m2.ID,m2.Session,m2.Payload⟩:f5)])).length) false]]⟩,some ⟨26,false,(List.map f5.enc (b8++ [(⟨m2.Kind,y1,y,m2.Epoch,m2.Ballot,m2.Accepted,m2.Nonce,m2.Time,m2.Up,m2.Code,m2.HasPlan,m2.Plan,m2.ID,m2.Session,m2.Payload⟩:f5)]))⟩]) (by kernel_rfl) (rfl) (by kernel_rfl) ha
theorem bF5 {m:f5}{aa4:f3}{c:d9}{ac9 ae5:Int}{ad1:Bool}{b3 b4:List Int}{m2:f5}{b8:List f5}{Y:List Int}{r:List f5}{x:A5⊕(List f5)} (h:ah3 m aa4 c ac9 ae5 ad1 b3 b4 m2 b8 Y=some x) (ha:D2 (N9 m aa4 c ac9 ae5 ad1 b3 b4) r x):Q8 E (Cx.of Tryz.f63 true 5) (QW (Rs (D0 aa4 c ac9 ae5 ad1 b3 b4) r)) 8 (z3 [1,1,0,1,0]) [.blk 0,.code (z3 [1,1,1])] [(3,.ptr 5 0 0),(5,.ptr 6 0 0),(7,.ptr 7 0 0),(9,.fn 138 [] [.ptr 1 0 0])] [1,0,2,3,4] [some ⟨1,true,[[.ptr 0 0 0]]⟩,some ⟨88,true,[(f3.l aa4 (d9.l c [.int .i64 ac9,.ptr 2 0 0]))]⟩,some ⟨4,true,[[(i5 3 (List.map (d8 .u8) b3)),(i5 4 (List.map (d8 .u8) b4)),.int .i64 ae5,.bool ad1]]⟩,some ⟨1,false,(List.map (d8 .u8) b3)⟩,some ⟨1,false,(List.map (d8 .u8) b4)⟩] (List.map L5 Y) [some ⟨88,true,[(f3.l aa4 (d9.l c [.int .i64 ac9,.ptr 2 0 0]))]⟩,some ⟨1,true,[[.ptr 0 0 0]]⟩,some ⟨4,true,[[(i5 3 (List.map (d8 .u8) b3)),(i5 4 (List.map (d8 .u8) b4)),.int .i64 ae5,.bool ad1]]⟩,some ⟨1,false,(List.map (d8 .u8) b3)⟩,some ⟨1,false,(List.map (d8 .u8) b4)⟩,some ⟨1,true,[[.ptr 0 0 0]]⟩,some ⟨26,false,[(f5.enc m2)]⟩,some ⟨1,true,[[(i5 8 (List.map f5.enc b8))]]⟩,some ⟨26,false,(List.map f5.enc b8)⟩]:=by
 cases Y with
 | nil=>exact bz0 h ha
 | cons y Y=>exact bA6 h ha
noncomputable def aI2 (m:f5) (aa4:f3) (c:d9) (ac9 ae5:Int) (ad1:Bool) (b3 b4:List Int):Option (List f5):=T3 (K8 m aa4 c ac9 ae5 ad1 b3 b4) (.s0)
theorem bN6 {m:f5}{aa4:f3}{c:d9}{ac9 ae5:Int}{ad1:Bool}{b3 b4:List Int}{r:List f5} (h:Ev (K8 m aa4 c ac9 ae5 ad1 b3 b4) (.s0) r):i7 E 63 [.ptr 0 0 0,.fn 138 [] [.ptr 1 0 0],.agg (f5.enc m)] [some ⟨88,true,[(f3.l aa4 (d9.l c [.int .i64 ac9,.ptr 2 0 0]))]⟩,some ⟨1,true,[[.ptr 0 0 0]]⟩,some ⟨4,true,[[(i5 3 (List.map (d8 .u8) b3)),(i5 4 (List.map (d8 .u8) b4)),.int .i64 ae5,.bool ad1]]⟩,some ⟨1,false,(List.map (d8 .u8) b3)⟩,some ⟨1,false,(List.map (d8 .u8) b4)⟩] (Rs (D0 aa4 c ac9 ae5 ad1 b3 b4) r):=
 ay0 (m:=(X1 m aa4 c ac9 ae5 ad1 b3 b4) (.s0)) (fn:=Tryz.f63) (by kernel_rfl) (by kernel_rfl) (bo5 (Pd:=(N9 m aa4 c ac9 ae5 ad1 b3 b4)) (fun s x r hs ha=>by
  cases s with
  | s0=>exact bD0 hs ha
  | s1=>exact bE9 hs ha
  | s2=>exact bF5 hs ha) h)
theorem bN4 {m:f5}{aa4:f3}{c:d9}{ac9 ae5:Int}{ad1:Bool}{b3 b4:List Int}{r:List f5} (h:aI2 m aa4 c ac9 ae5 ad1 b3 b4=some r):i7 E 63 [.ptr 0 0 0,.fn 138 [] [.ptr 1 0 0],.agg (f5.enc m)] [some ⟨88,true,[(f3.l aa4 (d9.l c [.int .i64 ac9,.ptr 2 0 0]))]⟩,some ⟨1,true,[[.ptr 0 0 0]]⟩,some ⟨4,true,[[(i5 3 (List.map (d8 .u8) b3)),(i5 4 (List.map (d8 .u8) b4)),.int .i64 ae5,.bool ad1]]⟩,some ⟨1,false,(List.map (d8 .u8) b3)⟩,some ⟨1,false,(List.map (d8 .u8) b4)⟩] (Rs (D0 aa4 c ac9 ae5 ad1 b3 b4) r):=bN6 (bu5 h)
noncomputable def db5 (c:d9) (ac9 ae5:Int) (ad1:Bool) (b2 b3:List Int) (y:(List f5)×f3):D×i0:=(.sl false 26 (List.map f5.enc y.1),[some ⟨88,true,[(f3.l y.2 (d9.l c [.int .i64 ac9,.ptr 1 0 0]))]⟩,some ⟨4,true,[[(i5 2 (List.map (d8 .u8) b2)),(i5 3 (List.map (d8 .u8) b3)),.int .i64 ae5,.bool ad1]]⟩,some ⟨1,false,(List.map (d8 .u8) b2)⟩,some ⟨1,false,(List.map (d8 .u8) b3)⟩])
noncomputable def aD7 (f4:Int) (aa4:f3) (c:d9) (ac9 ae5:Int) (ad1:Bool) (b2 b3:List Int):Option ((List f5)×f3):=((aU5 (⟨aa4.boot,aa4.known,aa4.heard,aa4.votes,aa4.hold,aa4.asked,aa4.prop,aa4.made,aa4.top,aa4.sealed,(⟨true,f4⟩:aa3)⟩:f3) c ac9 ae5 ad1 b2 b3).bind fun y1=>((aI2 (⟨9,0,0,aa4.known.Epoch,0,0,0,0,0,0,true,aa4.known,[],[],[]⟩:f5) (⟨aa4.boot,aa4.known,aa4.heard,aa4.votes,aa4.hold,aa4.asked,aa4.prop,aa4.made,aa4.top,aa4.sealed,(⟨true,f4⟩:aa3)⟩:f3) c ac9 ae5 ad1 b2 b3).bind fun y2=>(some (y2,(⟨aa4.boot,aa4.known,aa4.heard,aa4.votes,aa4.hold,aa4.asked,aa4.prop,aa4.made,aa4.top,aa4.sealed,(⟨true,f4⟩:aa3)⟩:f3)))))
theorem bO1 {f4:Int}{aa4:f3}{c:d9}{ac9 ae5:Int}{ad1:Bool}{b2 b3:List Int}{r:(List f5)×f3} (h:aD7 f4 aa4 c ac9 ae5 ad1 b2 b3=some r):i7 E 67 [.ptr 0 0 0,.int .i64 f4] [some ⟨88,true,[(f3.l aa4 (d9.l c [.int .i64 ac9,.ptr 1 0 0]))]⟩,some ⟨4,true,[[(i5 2 (List.map (d8 .u8) b2)),(i5 3 (List.map (d8 .u8) b3)),.int .i64 ae5,.bool ad1]]⟩,some ⟨1,false,(List.map (d8 .u8) b2)⟩,some ⟨1,false,(List.map (d8 .u8) b3)⟩] (Rs (db5 c ac9 ae5 ad1 b2 b3) r):=so (fn:=Tryz.f67) (k:=true) (m:=4) h<| by
 intro r h;unfold aD7 at h
 refine zdR 18 [] h (fun _=>cy5) fun y1 h=> ?_
 refine zc 2 [some 1,some 1,some 1] h (fun _=>bN4) fun y2 h=> ?_
 refine bR7 4 (n1:=(0+(List.map f5.enc y2).length)) (n2:=((List.map f5.enc y2).length)) (raw:=(List.take ((List.map f5.enc y2).length) (List.drop 0 (List.map f5.enc y2)))) (rs:=(List.map f5.enc y2)) (by kernel_rfl) (A7 _) (by simp only[C0,E8,List.map_take,List.map_drop]) ?_
 exact zu 1 h
noncomputable def cl7 (aa4:f3) (c:d9) (ac9 ae5:Int) (ad1:Bool) (b2 b3:List Int) (y:Unit):D×i0:=(.fn 105 [] [.ptr 4 0 0],[some ⟨88,true,[(f3.l aa4 (d9.l c [.int .i64 ac9,.ptr 1 0 0]))]⟩,some ⟨4,true,[[(i5 2 (List.map (d8 .u8) b2)),(i5 3 (List.map (d8 .u8) b3)),.int .i64 ae5,.bool ad1]]⟩,some ⟨1,false,(List.map (d8 .u8) b2)⟩,some ⟨1,false,(List.map (d8 .u8) b3)⟩,some ⟨1,true,[[.ptr 0 0 0]]⟩])
noncomputable def P9 (aa4:f3) (c:d9) (ac9 ae5:Int) (ad1:Bool) (b2 b3:List Int):Option Unit:=(some ())
theorem aH5 {aa4:f3}{c:d9}{ac9 ae5:Int}{ad1:Bool}{b2 b3:List Int}{r:Unit} (h:P9 aa4 c ac9 ae5 ad1 b2 b3=some r):i7 E 64 [.ptr 0 0 0] [some ⟨88,true,[(f3.l aa4 (d9.l c [.int .i64 ac9,.ptr 1 0 0]))]⟩,some ⟨4,true,[[(i5 2 (List.map (d8 .u8) b2)),(i5 3 (List.map (d8 .u8) b3)),.int .i64 ae5,.bool ad1]]⟩,some ⟨1,false,(List.map (d8 .u8) b2)⟩,some ⟨1,false,(List.map (d8 .u8) b3)⟩] (Rs (cl7 aa4 c ac9 ae5 ad1 b2 b3) r):=so (fn:=Tryz.f64) (k:=true) (m:=4) h<| by
 intro r h;unfold P9 at h
 exact zu 11 h
noncomputable def cu5 (y:Bool):D×i0:=(.bool y,[])
noncomputable def af3 (o:aa3) (f4 cf3:Int):Option Bool:=(bif (!o.ever) then (some true) else (some (decide (((IntKind.i64.wrap (f4-o.at_)):Int)≥cf3))))
theorem bm6 {o:aa3}{f4 cf3:Int}{r:Bool} (h:af3 o f4 cf3=some r):i7 E 77 [.agg [.bool o.ever,.int .i64 o.at_],.int .i64 f4,.int .i64 cf3] [] (Rs cu5 r):=so (fn:=Tryz.f77) (k:=false) (m:=0) h<| by
 intro r h;unfold af3 at h
 refine zs 13 h (fun h=> ?_) fun h=> ?_
 ·
  exact zu 15 h
 exact zu 16 h
noncomputable def bZ9:=u5 (u6 Tryz.f105)
def H1 (y:Int):List D:= [D.int .i64 y]
inductive J0 where
 | s0 (aa4:f3) (c:d9) (ac9:Int) (ae5:Int) (ad1:Bool) (b3:List Int) (b4:List Int)
 | s1 (t8:Int) (t9:Int) (e9:f3) (c2:d9) (E4:Int) (q0:Int) (p8:Bool) (T6:List Int) (T7:List Int)
noncomputable def M5 (l:Nat):J0→M
 | .s0 aa4 c ac9 ae5 ad1 b3 b4=>⟨[.code (u6 Tryz.f105)],[(0,D.yld l),(1,D.ptr 0 0 0)],[some ⟨1,true,[[D.ptr 1 0 0]]⟩,some ⟨88,true,[[D.int .i64 aa4.boot,D.int .i64 aa4.known.Epoch,D.int .i64 aa4.known.Target,D.int .i64 aa4.known.Prev,D.int .i64 aa4.known.Spill,D.int .i64 aa4.known.Percent,D.int .i64 aa4.known.Stamp,D.int .i64 aa4.known.Since,D.int .i64 aa4.known.Ramped,D.int .u64 aa4.known.Up,D.int .u64 aa4.known.Sup,D.sl false 1 (List.map (d8 .i64) aa4.known.Pen),D.sl false 1 (List.map (d8 .i64) aa4.known.Changes),D.int .i64 aa4.heard,D.sl false 3 (List.map i8.enc aa4.votes),D.int .i64 aa4.hold.Epoch,D.int .i64 aa4.hold.Nonce,D.int .u64 aa4.hold.Grants,D.int .i64 aa4.hold.Until,D.bool aa4.asked.ever,D.int .i64 aa4.asked.at_,D.int .i64 aa4.prop.Epoch,D.int .i64 aa4.prop.Ballot,D.int .i64 aa4.prop.Phase,D.int .i64 aa4.prop.Own.Epoch,D.int .i64 aa4.prop.Own.Target,D.int .i64 aa4.prop.Own.Prev,D.int .i64 aa4.prop.Own.Spill,D.int .i64 aa4.prop.Own.Percent,D.int .i64 aa4.prop.Own.Stamp,D.int .i64 aa4.prop.Own.Since,D.int .i64 aa4.prop.Own.Ramped,D.int .u64 aa4.prop.Own.Up,D.int .u64 aa4.prop.Own.Sup,D.sl false 1 (List.map (d8 .i64) aa4.prop.Own.Pen),D.sl false 1 (List.map (d8 .i64) aa4.prop.Own.Changes),D.int .i64 aa4.prop.Best,D.int .i64 aa4.prop.Value.Epoch,D.int .i64 aa4.prop.Value.Target,D.int .i64 aa4.prop.Value.Prev,D.int .i64 aa4.prop.Value.Spill,D.int .i64 aa4.prop.Value.Percent,D.int .i64 aa4.prop.Value.Stamp,D.int .i64 aa4.prop.Value.Since,D.int .i64 aa4.prop.Value.Ramped,D.int .u64 aa4.prop.Value.Up,D.int .u64 aa4.prop.Value.Sup,D.sl false 1 (List.map (d8 .i64) aa4.prop.Value.Pen),D.sl false 1 (List.map (d8 .i64) aa4.prop.Value.Changes),D.int .u64 aa4.prop.Promises,D.int .u64 aa4.prop.Accepts,D.int .i64 aa4.made,D.int .i64 aa4.top,D.int .u64 aa4.sealed,D.bool aa4.told.ever,D.int .i64 aa4.told.at_,D.int .i64 c.F_,D.int .i64 c.Deciders,D.int .i64 c.Targets,D.int .i64 c.Routers,D.int .i64 c.Observers,D.sl false 1 (List.map (d8 .i64) c.Tiers),D.int .i64 c.Every,D.int .i64 c.Wait,D.int .i64 c.Rise,D.int .i64 c.Fall,D.int .i64 c.Fresh,D.int .i64 c.L_,D.int .i64 c.M_,D.int .i64 c.Dwell,D.int .i64 c.D_,D.int .i64 c.W_,D.int .i64 c.B_,D.int .i64 c.Hit,D.int .i64 c.Suppress,D.int .i64 c.Reuse,D.int .i64 c.Half,D.int .i64 c.First,D.int .i64 c.Step,D.int .i64 c.StepTime,D.int .i64 c.S_,D.int .i64 c.Cap,D.int .i64 c.Span,D.int .i64 c.Room,D.int .i64 c.Tries,D.int .i64 c.Retry,D.int .i64 ac9,D.ptr 2 0 0]]⟩,some ⟨4,true,[[(i5 3 (List.map (d8 .u8) b3)),(i5 4 (List.map (d8 .u8) b4)),D.int .i64 ae5,D.bool ad1]]⟩,some ⟨1,false,(List.map (d8 .u8) b3)⟩,some ⟨1,false,(List.map (d8 .u8) b4)⟩]⟩
 | .s1 t8 t9 e9 c2 E4 q0 p8 T6 T7=>⟨[.lpc (bZ9 [1,0,0]) 769,.blk 0],[(0,D.yld l),(8,D.int .i64 t8),(9,D.int .i64 t9)],[some ⟨1,true,[[D.ptr 1 0 0]]⟩,some ⟨88,true,[[D.int .i64 e9.boot,D.int .i64 e9.known.Epoch,D.int .i64 e9.known.Target,D.int .i64 e9.known.Prev,D.int .i64 e9.known.Spill,D.int .i64 e9.known.Percent,D.int .i64 e9.known.Stamp,D.int .i64 e9.known.Since,D.int .i64 e9.known.Ramped,D.int .u64 e9.known.Up,D.int .u64 e9.known.Sup,D.sl false 1 (List.map (d8 .i64) e9.known.Pen),D.sl false 1 (List.map (d8 .i64) e9.known.Changes),D.int .i64 e9.heard,D.sl false 3 (List.map i8.enc e9.votes),D.int .i64 e9.hold.Epoch,D.int .i64 e9.hold.Nonce,D.int .u64 e9.hold.Grants,D.int .i64 e9.hold.Until,D.bool e9.asked.ever,D.int .i64 e9.asked.at_,D.int .i64 e9.prop.Epoch,D.int .i64 e9.prop.Ballot,D.int .i64 e9.prop.Phase,D.int .i64 e9.prop.Own.Epoch,D.int .i64 e9.prop.Own.Target,D.int .i64 e9.prop.Own.Prev,D.int .i64 e9.prop.Own.Spill,D.int .i64 e9.prop.Own.Percent,D.int .i64 e9.prop.Own.Stamp,D.int .i64 e9.prop.Own.Since,D.int .i64 e9.prop.Own.Ramped,D.int .u64 e9.prop.Own.Up,D.int .u64 e9.prop.Own.Sup,D.sl false 1 (List.map (d8 .i64) e9.prop.Own.Pen),D.sl false 1 (List.map (d8 .i64) e9.prop.Own.Changes),D.int .i64 e9.prop.Best,D.int .i64 e9.prop.Value.Epoch,D.int .i64 e9.prop.Value.Target,D.int .i64 e9.prop.Value.Prev,D.int .i64 e9.prop.Value.Spill,D.int .i64 e9.prop.Value.Percent,D.int .i64 e9.prop.Value.Stamp,D.int .i64 e9.prop.Value.Since,D.int .i64 e9.prop.Value.Ramped,D.int .u64 e9.prop.Value.Up,D.int .u64 e9.prop.Value.Sup,D.sl false 1 (List.map (d8 .i64) e9.prop.Value.Pen),D.sl false 1 (List.map (d8 .i64) e9.prop.Value.Changes),D.int .u64 e9.prop.Promises,D.int .u64 e9.prop.Accepts,D.int .i64 e9.made,D.int .i64 e9.top,D.int .u64 e9.sealed,D.bool e9.told.ever,D.int .i64 e9.told.at_,D.int .i64 c2.F_,D.int .i64 c2.Deciders,D.int .i64 c2.Targets,D.int .i64 c2.Routers,D.int .i64 c2.Observers,D.sl false 1 (List.map (d8 .i64) c2.Tiers),D.int .i64 c2.Every,D.int .i64 c2.Wait,D.int .i64 c2.Rise,D.int .i64 c2.Fall,D.int .i64 c2.Fresh,D.int .i64 c2.L_,D.int .i64 c2.M_,D.int .i64 c2.Dwell,D.int .i64 c2.D_,D.int .i64 c2.W_,D.int .i64 c2.B_,D.int .i64 c2.Hit,D.int .i64 c2.Suppress,D.int .i64 c2.Reuse,D.int .i64 c2.Half,D.int .i64 c2.First,D.int .i64 c2.Step,D.int .i64 c2.StepTime,D.int .i64 c2.S_,D.int .i64 c2.Cap,D.int .i64 c2.Span,D.int .i64 c2.Room,D.int .i64 c2.Tries,D.int .i64 c2.Retry,D.int .i64 E4,D.ptr 2 0 0]]⟩,some ⟨4,true,[[(i5 3 (List.map (d8 .u8) T6)),(i5 4 (List.map (d8 .u8) T7)),D.int .i64 q0,D.bool p8]]⟩,some ⟨1,false,(List.map (d8 .u8) T6)⟩,some ⟨1,false,(List.map (d8 .u8) T7)⟩]⟩
noncomputable def aj0 (aa4:f3) (c:d9) (ac9 ae5:Int) (ad1:Bool) (b3 b4:List Int):Option (List Int×Option J0):=((av0 c).bind fun y1=>(some ([],some (.s1 y1 0 aa4 c ac9 ae5 ad1 b3 b4))))
noncomputable def Z1 (t8 t9:Int) (e9:f3) (c2:d9) (E4 q0:Int) (p8:Bool) (T6 T7:List Int):Option (List Int×Option J0):=(bif (decide (t9<t8)) then (Option.map (fun p=>(t9::p.1,p.2)) (some ([],some (.s1 t8 (IntKind.i64.wrap (t9+1)) e9 c2 E4 q0 p8 T6 T7)))) else (some ([],none)))
noncomputable def X2:J0→i0
 | .s0 aa4 c ac9 ae5 ad1 b3 b4=> [some ⟨1,true,[[D.ptr 1 0 0]]⟩,some ⟨88,true,[[D.int .i64 aa4.boot,D.int .i64 aa4.known.Epoch,D.int .i64 aa4.known.Target,D.int .i64 aa4.known.Prev,D.int .i64 aa4.known.Spill,D.int .i64 aa4.known.Percent,D.int .i64 aa4.known.Stamp,D.int .i64 aa4.known.Since,D.int .i64 aa4.known.Ramped,D.int .u64 aa4.known.Up,D.int .u64 aa4.known.Sup,D.sl false 1 (List.map (d8 .i64) aa4.known.Pen),D.sl false 1 (List.map (d8 .i64) aa4.known.Changes),D.int .i64 aa4.heard,D.sl false 3 (List.map i8.enc aa4.votes),D.int .i64 aa4.hold.Epoch,D.int .i64 aa4.hold.Nonce,D.int .u64 aa4.hold.Grants,D.int .i64 aa4.hold.Until,D.bool aa4.asked.ever,D.int .i64 aa4.asked.at_,D.int .i64 aa4.prop.Epoch,D.int .i64 aa4.prop.Ballot,D.int .i64 aa4.prop.Phase,D.int .i64 aa4.prop.Own.Epoch,D.int .i64 aa4.prop.Own.Target,D.int .i64 aa4.prop.Own.Prev,D.int .i64 aa4.prop.Own.Spill,D.int .i64 aa4.prop.Own.Percent,D.int .i64 aa4.prop.Own.Stamp,D.int .i64 aa4.prop.Own.Since,D.int .i64 aa4.prop.Own.Ramped,D.int .u64 aa4.prop.Own.Up,D.int .u64 aa4.prop.Own.Sup,D.sl false 1 (List.map (d8 .i64) aa4.prop.Own.Pen),D.sl false 1 (List.map (d8 .i64) aa4.prop.Own.Changes),D.int .i64 aa4.prop.Best,D.int .i64 aa4.prop.Value.Epoch,D.int .i64 aa4.prop.Value.Target,D.int .i64 aa4.prop.Value.Prev,D.int .i64 aa4.prop.Value.Spill,D.int .i64 aa4.prop.Value.Percent,D.int .i64 aa4.prop.Value.Stamp,D.int .i64 aa4.prop.Value.Since,D.int .i64 aa4.prop.Value.Ramped,D.int .u64 aa4.prop.Value.Up,D.int .u64 aa4.prop.Value.Sup,D.sl false 1 (List.map (d8 .i64) aa4.prop.Value.Pen),D.sl false 1 (List.map (d8 .i64) aa4.prop.Value.Changes),D.int .u64 aa4.prop.Promises,D.int .u64 aa4.prop.Accepts,D.int .i64 aa4.made,D.int .i64 aa4.top,D.int .u64 aa4.sealed,D.bool aa4.told.ever,D.int .i64 aa4.told.at_,D.int .i64 c.F_,D.int .i64 c.Deciders,D.int .i64 c.Targets,D.int .i64 c.Routers,D.int .i64 c.Observers,D.sl false 1 (List.map (d8 .i64) c.Tiers),D.int .i64 c.Every,D.int .i64 c.Wait,D.int .i64 c.Rise,D.int .i64 c.Fall,D.int .i64 c.Fresh,D.int .i64 c.L_,D.int .i64 c.M_,D.int .i64 c.Dwell,D.int .i64 c.D_,D.int .i64 c.W_,D.int .i64 c.B_,D.int .i64 c.Hit,D.int .i64 c.Suppress,D.int .i64 c.Reuse,D.int .i64 c.Half,D.int .i64 c.First,D.int .i64 c.Step,D.int .i64 c.StepTime,D.int .i64 c.S_,D.int .i64 c.Cap,D.int .i64 c.Span,D.int .i64 c.Room,D.int .i64 c.Tries,D.int .i64 c.Retry,D.int .i64 ac9,D.ptr 2 0 0]]⟩,some ⟨4,true,[[(i5 3 (List.map (d8 .u8) b3)),(i5 4 (List.map (d8 .u8) b4)),D.int .i64 ae5,D.bool ad1]]⟩,some ⟨1,false,(List.map (d8 .u8) b3)⟩,some ⟨1,false,(List.map (d8 .u8) b4)⟩]
 | .s1 t8 t9 e9 c2 E4 q0 p8 T6 T7=> [some ⟨1,true,[[D.ptr 1 0 0]]⟩,some ⟨88,true,[[D.int .i64 e9.boot,D.int .i64 e9.known.Epoch,D.int .i64 e9.known.Target,D.int .i64 e9.known.Prev,D.int .i64 e9.known.Spill,D.int .i64 e9.known.Percent,D.int .i64 e9.known.Stamp,D.int .i64 e9.known.Since,D.int .i64 e9.known.Ramped,D.int .u64 e9.known.Up,D.int .u64 e9.known.Sup,D.sl false 1 (List.map (d8 .i64) e9.known.Pen),D.sl false 1 (List.map (d8 .i64) e9.known.Changes),D.int .i64 e9.heard,D.sl false 3 (List.map i8.enc e9.votes),D.int .i64 e9.hold.Epoch,D.int .i64 e9.hold.Nonce,D.int .u64 e9.hold.Grants,D.int .i64 e9.hold.Until,D.bool e9.asked.ever,D.int .i64 e9.asked.at_,D.int .i64 e9.prop.Epoch,D.int .i64 e9.prop.Ballot,D.int .i64 e9.prop.Phase,D.int .i64 e9.prop.Own.Epoch,D.int .i64 e9.prop.Own.Target,D.int .i64 e9.prop.Own.Prev,D.int .i64 e9.prop.Own.Spill,D.int .i64 e9.prop.Own.Percent,D.int .i64 e9.prop.Own.Stamp,D.int .i64 e9.prop.Own.Since,D.int .i64 e9.prop.Own.Ramped,D.int .u64 e9.prop.Own.Up,D.int .u64 e9.prop.Own.Sup,D.sl false 1 (List.map (d8 .i64) e9.prop.Own.Pen),D.sl false 1 (List.map (d8 .i64) e9.prop.Own.Changes),D.int .i64 e9.prop.Best,D.int .i64 e9.prop.Value.Epoch,D.int .i64 e9.prop.Value.Target,D.int .i64 e9.prop.Value.Prev,D.int .i64 e9.prop.Value.Spill,D.int .i64 e9.prop.Value.Percent,D.int .i64 e9.prop.Value.Stamp,D.int .i64 e9.prop.Value.Since,D.int .i64 e9.prop.Value.Ramped,D.int .u64 e9.prop.Value.Up,D.int .u64 e9.prop.Value.Sup,D.sl false 1 (List.map (d8 .i64) e9.prop.Value.Pen),D.sl false 1 (List.map (d8 .i64) e9.prop.Value.Changes),D.int .u64 e9.prop.Promises,D.int .u64 e9.prop.Accepts,D.int .i64 e9.made,D.int .i64 e9.top,D.int .u64 e9.sealed,D.bool e9.told.ever,D.int .i64 e9.told.at_,D.int .i64 c2.F_,D.int .i64 c2.Deciders,D.int .i64 c2.Targets,D.int .i64 c2.Routers,D.int .i64 c2.Observers,D.sl false 1 (List.map (d8 .i64) c2.Tiers),D.int .i64 c2.Every,D.int .i64 c2.Wait,D.int .i64 c2.Rise,D.int .i64 c2.Fall,D.int .i64 c2.Fresh,D.int .i64 c2.L_,D.int .i64 c2.M_,D.int .i64 c2.Dwell,D.int .i64 c2.D_,D.int .i64 c2.W_,D.int .i64 c2.B_,D.int .i64 c2.Hit,D.int .i64 c2.Suppress,D.int .i64 c2.Reuse,D.int .i64 c2.Half,D.int .i64 c2.First,D.int .i64 c2.Step,D.int .i64 c2.StepTime,D.int .i64 c2.S_,D.int .i64 c2.Cap,D.int .i64 c2.Span,D.int .i64 c2.Room,D.int .i64 c2.Tries,D.int .i64 c2.Retry,D.int .i64 E4,D.ptr 2 0 0]]⟩,some ⟨4,true,[[(i5 3 (List.map (d8 .u8) T6)),(i5 4 (List.map (d8 .u8) T7)),D.int .i64 q0,D.bool p8]]⟩,some ⟨1,false,(List.map (d8 .u8) T6)⟩,some ⟨1,false,(List.map (d8 .u8) T7)⟩]
noncomputable def M3:J0→Option (List Int×Option J0)
 | .s0 aa4 c ac9 ae5 ad1 b3 b4=>aj0 aa4 c ac9 ae5 ad1 b3 b4
 | .s1 t8 t9 e9 c2 E4 q0 p8 T6 T7=>Z1 t8 t9 e9 c2 E4 q0 p8 T6 T7
theorem bM4 {l:Nat}{ln:i0}{φ0:y0}{J:Option (List (List D))→World→(Nat→Prop)→(Nat→Prop)→Prop}{aa4:f3}{c:d9}{ac9 ae5:Int}{ad1:Bool}{b3 b4:List Int}{x:List Int×Option J0}{Y:List (List D)} (hl:X2 (.s0 aa4 c ac9 ae5 ad1 b3 b4)=ln) (h:aj0 aa4 c ac9 ae5 ad1 b3 b4=some x) (ha:ai2 E ln (Cx.seq Tryz.f105 5 ln l φ0 J) H1 (M5 l) X2 x Y):i4 E (Cx.seq Tryz.f105 5 ln l φ0 J (some Y)) (fun _ s=>U7 ln s) (.go (M5 l (.s0 aa4 c ac9 ae5 ad1 b3 b4))):=by
 subst hl
 unfold aj0 at h
 refine zc 9 [] h (fun _=>bM9) fun y1 h=> ?_
 refine n8 hm 5 _ ?_
 obtain rfl:=Option.some.inj h
 exact bc4 (q' :=.go (M5 l (.s1 y1 0 aa4 c ac9 ae5 ad1 b3 b4))) (by kernel_rfl) (P8 (by kernel_rfl) ha)
theorem bJ9 {l:Nat}{ln:i0}{φ0:y0}{J:Option (List (List D))→World→(Nat→Prop)→(Nat→Prop)→Prop}{t8 t9:Int}{e9:f3}{c2:d9}{E4 q0:Int}{p8:Bool}{T6 T7:List Int}{x:List Int×Option J0}{Y:List (List D)} (hl:X2 (.s1 t8 t9 e9 c2 E4 q0 p8 T6 T7)=ln) (h:Z1 t8 t9 e9 c2 E4 q0 p8 T6 T7=some x) (ha:ai2 E ln (Cx.seq Tryz.f105 5 ln l φ0 J) H1 (M5 l) X2 x Y):i4 E (Cx.seq Tryz.f105 5 ln l φ0 J (some Y)) (fun _ s=>U7 ln s) (.go (M5 l (.s1 t8 t9 e9 c2 E4 q0 p8 T6 T7))):=by
 subst hl
 unfold Z1 at h
 refine zs 7 h (fun h=> ?_) fun h=> ?_
 ·
  refine n8 hm 13 _ ?_
  refine ca3 (x:=t9) (s:= [some ⟨1,true,[[D.ptr 1 0 0]]⟩,some ⟨88,true,[[D.int .i64 e9.boot,D.int .i64 e9.known.Epoch,D.int .i64 e9.known.Target,D.int .i64 e9.known.Prev,D.int .i64 e9.known.Spill,D.int .i64 e9.known.Percent,D.int .i64 e9.known.Stamp,D.int .i64 e9.known.Since,D.int .i64 e9.known.Ramped,D.int .u64 e9.known.Up,D.int .u64 e9.known.Sup,D.sl false 1 (List.map (d8 .i64) e9.known.Pen),D.sl false 1 (List.map (d8 .i64) e9.known.Changes),D.int .i64 e9.heard,D.sl false 3 (List.map i8.enc e9.votes),D.int .i64 e9.hold.Epoch,D.int .i64 e9.hold.Nonce,D.int .u64 e9.hold.Grants,D.int .i64 e9.hold.Until,D.bool e9.asked.ever,D.int .i64 e9.asked.at_,D.int .i64 e9.prop.Epoch,D.int .i64 e9.prop.Ballot,D.int .i64 e9.prop.Phase,D.int .i64 e9.prop.Own.Epoch,D.int .i64 e9.prop.Own.Target,D.int .i64 e9.prop.Own.Prev,D.int .i64 e9.prop.Own.Spill,D.int .i64 e9.prop.Own.Percent,D.int .i64 e9.prop.Own.Stamp,D.int .i64 e9.prop.Own.Since,D.int .i64 e9.prop.Own.Ramped,D.int .u64 e9.prop.Own.Up,D.int .u64 e9.prop.Own.Sup,D.sl false 1 (List.map (d8 .i64) e9.prop.Own.Pen),D.sl false 1 (List.map (d8 .i64) e9.prop.Own.Changes),D.int .i64 e9.prop.Best,D.int .i64 e9.prop.Value.Epoch,D.int .i64 e9.prop.Value.Target,D.int .i64 e9.prop.Value.Prev,D.int .i64 e9.prop.Value.Spill,D.int .i64 e9.prop.Value.Percent,D.int .i64 e9.prop.Value.Stamp,D.int .i64 e9.prop.Value.Since,D.int .i64 e9.prop.Value.Ramped,D.int .u64 e9.prop.Value.Up,D.int .u64 e9.prop.Value.Sup,D.sl false 1 (List.map (d8 .i64) e9.prop.Value.Pen),D.sl false 1 (List.map (d8 .i64) e9.prop.Value.Changes),D.int .u64 e9.prop.Promises,D.int .u64 e9.prop.Accepts,D.int .i64 e9.made,D.int .i64 e9.top,D.int .u64 e9.sealed,D.bool e9.told.ever,D.int .i64 e9.told.at_,D.int .i64 c2.F_,D.int .i64 c2.Deciders,D.int .i64 c2.Targets,D.int .i64 c2.Routers,D.int .i64 c2.Observers,D.sl false 1 (List.map (d8 .i64) c2.Tiers),D.int .i64 c2.Every,D.int .i64 c2.Wait,D.int .i64 c2.Rise,D.int .i64 c2.Fall,D.int .i64 c2.Fresh,D.int .i64 c2.L_,D.int .i64 c2.M_,D.int .i64 c2.Dwell,D.int .i64 c2.D_,D.int .i64 c2.W_,D.int .i64 c2.B_,D.int .i64 c2.Hit,D.int .i64 c2.Suppress,D.int .i64 c2.Reuse,D.int .i64 c2.Half,D.int .i64 c2.First,D.int .i64 c2.Step,D.int .i64 c2.StepTime,D.int .i64 c2.S_,D.int .i64 c2.Cap,D.int .i64 c2.Span,D.int .i64 c2.Room,D.int .i64 c2.Tries,D.int .i64 c2.Retry,D.int .i64 E4,D.ptr 2 0 0]]⟩,some ⟨4,true,[[(i5 3 (List.map (d8 .u8) T6)),(i5 4 (List.map (d8 .u8) T7)),D.int .i64 q0,D.bool p8]]⟩,some ⟨1,false,(List.map (d8 .u8) T6)⟩,some ⟨1,false,(List.map (d8 .u8) T7)⟩]) h ha (by kernel_rfl) (by kernel_rfl) ?_ (fun p Y h ha=> ?_)
  ·--it is stopped
   refine n8 hm 5 _ ?_
   exact bK9 (d:=D.tup []) (s:= [some ⟨1,true,[[D.ptr 1 0 0]]⟩,some ⟨88,true,[[D.int .i64 e9.boot,D.int .i64 e9.known.Epoch,D.int .i64 e9.known.Target,D.int .i64 e9.known.Prev,D.int .i64 e9.known.Spill,D.int .i64 e9.known.Percent,D.int .i64 e9.known.Stamp,D.int .i64 e9.known.Since,D.int .i64 e9.known.Ramped,D.int .u64 e9.known.Up,D.int .u64 e9.known.Sup,D.sl false 1 (List.map (d8 .i64) e9.known.Pen),D.sl false 1 (List.map (d8 .i64) e9.known.Changes),D.int .i64 e9.heard,D.sl false 3 (List.map i8.enc e9.votes),D.int .i64 e9.hold.Epoch,D.int .i64 e9.hold.Nonce,D.int .u64 e9.hold.Grants,D.int .i64 e9.hold.Until,D.bool e9.asked.ever,D.int .i64 e9.asked.at_,D.int .i64 e9.prop.Epoch,D.int .i64 e9.prop.Ballot,D.int .i64 e9.prop.Phase,D.int .i64 e9.prop.Own.Epoch,D.int .i64 e9.prop.Own.Target,D.int .i64 e9.prop.Own.Prev,D.int .i64 e9.prop.Own.Spill,D.int .i64 e9.prop.Own.Percent,D.int .i64 e9.prop.Own.Stamp,D.int .i64 e9.prop.Own.Since,D.int .i64 e9.prop.Own.Ramped,D.int .u64 e9.prop.Own.Up,D.int .u64 e9.prop.Own.Sup,D.sl false 1 (List.map (d8 .i64) e9.prop.Own.Pen),D.sl false 1 (List.map (d8 .i64) e9.prop.Own.Changes),D.int .i64 e9.prop.Best,D.int .i64 e9.prop.Value.Epoch,D.int .i64 e9.prop.Value.Target,D.int .i64 e9.prop.Value.Prev,D.int .i64 e9.prop.Value.Spill,D.int .i64 e9.prop.Value.Percent,D.int .i64 e9.prop.Value.Stamp,D.int .i64 e9.prop.Value.Since,D.int .i64 e9.prop.Value.Ramped,D.int .u64 e9.prop.Value.Up,D.int .u64 e9.prop.Value.Sup,D.sl false 1 (List.map (d8 .i64) e9.prop.Value.Pen),D.sl false 1 (List.map (d8 .i64) e9.prop.Value.Changes),D.int .u64 e9.prop.Promises,D.int .u64 e9.prop.Accepts,D.int .i64 e9.made,D.int .i64 e9.top,D.int .u64 e9.sealed,D.bool e9.told.ever,D.int .i64 e9.told.at_,D.int .i64 c2.F_,D.int .i64 c2.Deciders,D.int .i64 c2.Targets,D.int .i64 c2.Routers,D.int .i64 c2.Observers,D.sl false 1 (List.map (d8 .i64) c2.Tiers),D.int .i64 c2.Every,D.int .i64 c2.Wait,D.int .i64 c2.Rise,D.int .i64 c2.Fall,D.int .i64 c2.Fresh,D.int .i64 c2.L_,D.int .i64 c2.M_,D.int .i64 c2.Dwell,D.int .i64 c2.D_,D.int .i64 c2.W_,D.int .i64 c2.B_,D.int .i64 c2.Hit,D.int .i64 c2.Suppress,D.int .i64 c2.Reuse,D.int .i64 c2.Half,D.int .i64 c2.First,D.int .i64 c2.Step,D.int .i64 c2.StepTime,D.int .i64 c2.S_,D.int .i64 c2.Cap,D.int .i64 c2.Span,D.int .i64 c2.Room,D.int .i64 c2.Tries,D.int .i64 c2.Retry,D.int .i64 E4,D.ptr 2 0 0]]⟩,some ⟨4,true,[[(i5 3 (List.map (d8 .u8) T6)),(i5 4 (List.map (d8 .u8) T7)),D.int .i64 q0,D.bool p8]]⟩,some ⟨1,false,(List.map (d8 .u8) T6)⟩,some ⟨1,false,(List.map (d8 .u8) T7)⟩]) (by kernel_rfl) (by kernel_rfl)
  ·--it goes on
   refine n8 hm 11 _ ?_
   obtain rfl:=Option.some.inj h
   exact bc4 (q' :=.go (M5 l (.s1 t8 (IntKind.i64.wrap (t9+1)) e9 c2 E4 q0 p8 T6 T7))) (by kernel_rfl) (P8 (by kernel_rfl) ha)
 refine n8 hm 2 _ ?_
 obtain rfl:=Option.some.inj h
 exact bZ5 (d:=D.tup []) (s:= [some ⟨1,true,[[D.ptr 1 0 0]]⟩,some ⟨88,true,[[D.int .i64 e9.boot,D.int .i64 e9.known.Epoch,D.int .i64 e9.known.Target,D.int .i64 e9.known.Prev,D.int .i64 e9.known.Spill,D.int .i64 e9.known.Percent,D.int .i64 e9.known.Stamp,D.int .i64 e9.known.Since,D.int .i64 e9.known.Ramped,D.int .u64 e9.known.Up,D.int .u64 e9.known.Sup,D.sl false 1 (List.map (d8 .i64) e9.known.Pen),D.sl false 1 (List.map (d8 .i64) e9.known.Changes),D.int .i64 e9.heard,D.sl false 3 (List.map i8.enc e9.votes),D.int .i64 e9.hold.Epoch,D.int .i64 e9.hold.Nonce,D.int .u64 e9.hold.Grants,D.int .i64 e9.hold.Until,D.bool e9.asked.ever,D.int .i64 e9.asked.at_,D.int .i64 e9.prop.Epoch,D.int .i64 e9.prop.Ballot,D.int .i64 e9.prop.Phase,D.int .i64 e9.prop.Own.Epoch,D.int .i64 e9.prop.Own.Target,D.int .i64 e9.prop.Own.Prev,D.int .i64 e9.prop.Own.Spill,D.int .i64 e9.prop.Own.Percent,D.int .i64 e9.prop.Own.Stamp,D.int .i64 e9.prop.Own.Since,D.int .i64 e9.prop.Own.Ramped,D.int .u64 e9.prop.Own.Up,D.int .u64 e9.prop.Own.Sup,D.sl false 1 (List.map (d8 .i64) e9.prop.Own.Pen),D.sl false 1 (List.map (d8 .i64) e9.prop.Own.Changes),D.int .i64 e9.prop.Best,D.int .i64 e9.prop.Value.Epoch,D.int .i64 e9.prop.Value.Target,D.int .i64 e9.prop.Value.Prev,D.int .i64 e9.prop.Value.Spill,D.int .i64 e9.prop.Value.Percent,D.int .i64 e9.prop.Value.Stamp,D.int .i64 e9.prop.Value.Since,D.int .i64 e9.prop.Value.Ramped,D.int .u64 e9.prop.Value.Up,D.int .u64 e9.prop.Value.Sup,D.sl false 1 (List.map (d8 .i64) e9.prop.Value.Pen),D.sl false 1 (List.map (d8 .i64) e9.prop.Value.Changes),D.int .u64 e9.prop.Promises,D.int .u64 e9.prop.Accepts,D.int .i64 e9.made,D.int .i64 e9.top,D.int .u64 e9.sealed,D.bool e9.told.ever,D.int .i64 e9.told.at_,D.int .i64 c2.F_,D.int .i64 c2.Deciders,D.int .i64 c2.Targets,D.int .i64 c2.Routers,D.int .i64 c2.Observers,D.sl false 1 (List.map (d8 .i64) c2.Tiers),D.int .i64 c2.Every,D.int .i64 c2.Wait,D.int .i64 c2.Rise,D.int .i64 c2.Fall,D.int .i64 c2.Fresh,D.int .i64 c2.L_,D.int .i64 c2.M_,D.int .i64 c2.Dwell,D.int .i64 c2.D_,D.int .i64 c2.W_,D.int .i64 c2.B_,D.int .i64 c2.Hit,D.int .i64 c2.Suppress,D.int .i64 c2.Reuse,D.int .i64 c2.Half,D.int .i64 c2.First,D.int .i64 c2.Step,D.int .i64 c2.StepTime,D.int .i64 c2.S_,D.int .i64 c2.Cap,D.int .i64 c2.Span,D.int .i64 c2.Room,D.int .i64 c2.Tries,D.int .i64 c2.Retry,D.int .i64 E4,D.ptr 2 0 0]]⟩,some ⟨4,true,[[(i5 3 (List.map (d8 .u8) T6)),(i5 4 (List.map (d8 .u8) T7)),D.int .i64 q0,D.bool p8]]⟩,some ⟨1,false,(List.map (d8 .u8) T6)⟩,some ⟨1,false,(List.map (d8 .u8) T7)⟩]) (by kernel_rfl) (by kernel_rfl) ha
noncomputable def at6 (aa4:f3) (c:d9) (ac9 ae5:Int) (ad1:Bool) (b3 b4:List Int):Option (List Int):=evl M3 (.s0 aa4 c ac9 ae5 ad1 b3 b4)
theorem bS7 {aa4:f3}{c:d9}{ac9 ae5:Int}{ad1:Bool}{b3 b4 r:List Int} (h:at6 aa4 c ac9 ae5 ad1 b3 b4=some r):as3 E 105 [D.ptr 0 0 0] [some ⟨1,true,[[D.ptr 1 0 0]]⟩,some ⟨88,true,[[D.int .i64 aa4.boot,D.int .i64 aa4.known.Epoch,D.int .i64 aa4.known.Target,D.int .i64 aa4.known.Prev,D.int .i64 aa4.known.Spill,D.int .i64 aa4.known.Percent,D.int .i64 aa4.known.Stamp,D.int .i64 aa4.known.Since,D.int .i64 aa4.known.Ramped,D.int .u64 aa4.known.Up,D.int .u64 aa4.known.Sup,D.sl false 1 (List.map (d8 .i64) aa4.known.Pen),D.sl false 1 (List.map (d8 .i64) aa4.known.Changes),D.int .i64 aa4.heard,D.sl false 3 (List.map i8.enc aa4.votes),D.int .i64 aa4.hold.Epoch,D.int .i64 aa4.hold.Nonce,D.int .u64 aa4.hold.Grants,D.int .i64 aa4.hold.Until,D.bool aa4.asked.ever,D.int .i64 aa4.asked.at_,D.int .i64 aa4.prop.Epoch,D.int .i64 aa4.prop.Ballot,D.int .i64 aa4.prop.Phase,D.int .i64 aa4.prop.Own.Epoch,D.int .i64 aa4.prop.Own.Target,D.int .i64 aa4.prop.Own.Prev,D.int .i64 aa4.prop.Own.Spill,D.int .i64 aa4.prop.Own.Percent,D.int .i64 aa4.prop.Own.Stamp,D.int .i64 aa4.prop.Own.Since,D.int .i64 aa4.prop.Own.Ramped,D.int .u64 aa4.prop.Own.Up,D.int .u64 aa4.prop.Own.Sup,D.sl false 1 (List.map (d8 .i64) aa4.prop.Own.Pen),D.sl false 1 (List.map (d8 .i64) aa4.prop.Own.Changes),D.int .i64 aa4.prop.Best,D.int .i64 aa4.prop.Value.Epoch,D.int .i64 aa4.prop.Value.Target,D.int .i64 aa4.prop.Value.Prev,D.int .i64 aa4.prop.Value.Spill,D.int .i64 aa4.prop.Value.Percent,D.int .i64 aa4.prop.Value.Stamp,D.int .i64 aa4.prop.Value.Since,D.int .i64 aa4.prop.Value.Ramped,D.int .u64 aa4.prop.Value.Up,D.int .u64 aa4.prop.Value.Sup,D.sl false 1 (List.map (d8 .i64) aa4.prop.Value.Pen),D.sl false 1 (List.map (d8 .i64) aa4.prop.Value.Changes),D.int .u64 aa4.prop.Promises,D.int .u64 aa4.prop.Accepts,D.int .i64 aa4.made,D.int .i64 aa4.top,D.int .u64 aa4.sealed,D.bool aa4.told.ever,D.int .i64 aa4.told.at_,D.int .i64 c.F_,D.int .i64 c.Deciders,D.int .i64 c.Targets,D.int .i64 c.Routers,D.int .i64 c.Observers,D.sl false 1 (List.map (d8 .i64) c.Tiers),D.int .i64 c.Every,D.int .i64 c.Wait,D.int .i64 c.Rise,D.int .i64 c.Fall,D.int .i64 c.Fresh,D.int .i64 c.L_,D.int .i64 c.M_,D.int .i64 c.Dwell,D.int .i64 c.D_,D.int .i64 c.W_,D.int .i64 c.B_,D.int .i64 c.Hit,D.int .i64 c.Suppress,D.int .i64 c.Reuse,D.int .i64 c.Half,D.int .i64 c.First,D.int .i64 c.Step,D.int .i64 c.StepTime,D.int .i64 c.S_,D.int .i64 c.Cap,D.int .i64 c.Span,D.int .i64 c.Room,D.int .i64 c.Tries,D.int .i64 c.Retry,D.int .i64 ac9,D.ptr 2 0 0]]⟩,some ⟨4,true,[[(i5 3 (List.map (d8 .u8) b3)),(i5 4 (List.map (d8 .u8) b4)),D.int .i64 ae5,D.bool ad1]]⟩,some ⟨1,false,(List.map (d8 .u8) b3)⟩,some ⟨1,false,(List.map (d8 .u8) b4)⟩] [some ⟨1,true,[[D.ptr 1 0 0]]⟩,some ⟨88,true,[[D.int .i64 aa4.boot,D.int .i64 aa4.known.Epoch,D.int .i64 aa4.known.Target,D.int .i64 aa4.known.Prev,D.int .i64 aa4.known.Spill,D.int .i64 aa4.known.Percent,D.int .i64 aa4.known.Stamp,D.int .i64 aa4.known.Since,D.int .i64 aa4.known.Ramped,D.int .u64 aa4.known.Up,D.int .u64 aa4.known.Sup,D.sl false 1 (List.map (d8 .i64) aa4.known.Pen),D.sl false 1 (List.map (d8 .i64) aa4.known.Changes),D.int .i64 aa4.heard,D.sl false 3 (List.map i8.enc aa4.votes),D.int .i64 aa4.hold.Epoch,D.int .i64 aa4.hold.Nonce,D.int .u64 aa4.hold.Grants,D.int .i64 aa4.hold.Until,D.bool aa4.asked.ever,D.int .i64 aa4.asked.at_,D.int .i64 aa4.prop.Epoch,D.int .i64 aa4.prop.Ballot,D.int .i64 aa4.prop.Phase,D.int .i64 aa4.prop.Own.Epoch,D.int .i64 aa4.prop.Own.Target,D.int .i64 aa4.prop.Own.Prev,D.int .i64 aa4.prop.Own.Spill,D.int .i64 aa4.prop.Own.Percent,D.int .i64 aa4.prop.Own.Stamp,D.int .i64 aa4.prop.Own.Since,D.int .i64 aa4.prop.Own.Ramped,D.int .u64 aa4.prop.Own.Up,D.int .u64 aa4.prop.Own.Sup,D.sl false 1 (List.map (d8 .i64) aa4.prop.Own.Pen),D.sl false 1 (List.map (d8 .i64) aa4.prop.Own.Changes),D.int .i64 aa4.prop.Best,D.int .i64 aa4.prop.Value.Epoch,D.int .i64 aa4.prop.Value.Target,D.int .i64 aa4.prop.Value.Prev,D.int .i64 aa4.prop.Value.Spill,D.int .i64 aa4.prop.Value.Percent,D.int .i64 aa4.prop.Value.Stamp,D.int .i64 aa4.prop.Value.Since,D.int .i64 aa4.prop.Value.Ramped,D.int .u64 aa4.prop.Value.Up,D.int .u64 aa4.prop.Value.Sup,D.sl false 1 (List.map (d8 .i64) aa4.prop.Value.Pen),D.sl false 1 (List.map (d8 .i64) aa4.prop.Value.Changes),D.int .u64 aa4.prop.Promises,D.int .u64 aa4.prop.Accepts,D.int .i64 aa4.made,D.int .i64 aa4.top,D.int .u64 aa4.sealed,D.bool aa4.told.ever,D.int .i64 aa4.told.at_,D.int .i64 c.F_,D.int .i64 c.Deciders,D.int .i64 c.Targets,D.int .i64 c.Routers,D.int .i64 c.Observers,D.sl false 1 (List.map (d8 .i64) c.Tiers),D.int .i64 c.Every,D.int .i64 c.Wait,D.int .i64 c.Rise,D.int .i64 c.Fall,D.int .i64 c.Fresh,D.int .i64 c.L_,D.int .i64 c.M_,D.int .i64 c.Dwell,D.int .i64 c.D_,D.int .i64 c.W_,D.int .i64 c.B_,D.int .i64 c.Hit,D.int .i64 c.Suppress,D.int .i64 c.Reuse,D.int .i64 c.Half,D.int .i64 c.First,D.int .i64 c.Step,D.int .i64 c.StepTime,D.int .i64 c.S_,D.int .i64 c.Cap,D.int .i64 c.Span,D.int .i64 c.Room,D.int .i64 c.Tries,D.int .i64 c.Retry,D.int .i64 ac9,D.ptr 2 0 0]]⟩,some ⟨4,true,[[(i5 3 (List.map (d8 .u8) b3)),(i5 4 (List.map (d8 .u8) b4)),D.int .i64 ae5,D.bool ad1]]⟩,some ⟨1,false,(List.map (d8 .u8) b3)⟩,some ⟨1,false,(List.map (d8 .u8) b4)⟩] (List.map H1 r):=
 bX7 (m:=fun l=>M5 l (.s0 aa4 c ac9 ae5 ad1 b3 b4)) (fn:=Tryz.f105) (by kernel_rfl) (fun l=>by kernel_rfl) (show List.take _ _=_ by kernel_rfl) (show F5 _ _=_ by kernel_rfl) (fun l φ0 J=>bH3 (step:=M3) (lnS:=X2) (fun s x Y hl hs ha=>by
  cases s with
  | s0=>exact bM4 hl hs ha
  | s1=>exact bJ9 hl hs ha) (by kernel_rfl) (bT9 h))
noncomputable def u7:=u5 (u6 Tryz.f63)
noncomputable def B6 (aa4:f3) (c:d9) (ac9 ae5:Int) (ad1:Bool) (b3 b4:List Int) (y:List f5):D×i0:=((i5 5 (List.map f5.enc y)),[some ⟨88,true,[(f3.l aa4 (d9.l c [.int .i64 ac9,.ptr 2 0 0]))]⟩,some ⟨1,true,[[.ptr 0 0 0]]⟩,some ⟨4,true,[[(i5 3 (List.map (d8 .u8) b3)),(i5 4 (List.map (d8 .u8) b4)),.int .i64 ae5,.bool ad1]]⟩,some ⟨1,false,(List.map (d8 .u8) b3)⟩,some ⟨1,false,(List.map (d8 .u8) b4)⟩,some ⟨26,false,(List.map f5.enc y)⟩])
inductive z5 where
 | s0
 | s1 (b8:List f5)
 | s2 (m2:f5) (b8:List f5) (Y:List Int)
noncomputable def Q2 (m:f5) (aa4:f3) (c:d9) (ac9 ae5:Int) (ad1:Bool) (b3 b4:List Int):z5→M
 | .s0=>C3 Tryz.f63 [.ptr 0 0 0,.fn 105 [] [.ptr 1 0 0],.agg (f5.enc m)] [some ⟨88,true,[(f3.l aa4 (d9.l c [.int .i64 ac9,.ptr 2 0 0]))]⟩,some ⟨1,true,[[.ptr 0 0 0]]⟩,some ⟨4,true,[[(i5 3 (List.map (d8 .u8) b3)),(i5 4 (List.map (d8 .u8) b4)),.int .i64 ae5,.bool ad1]]⟩,some ⟨1,false,(List.map (d8 .u8) b3)⟩,some ⟨1,false,(List.map (d8 .u8) b4)⟩]
 | .s1 b8=>⟨[.code (u7 [1,1,0,1,0]),.blk 0,.code (u7 [1,1,1])],[(3,.ptr 5 0 0),(5,.ptr 6 0 0),(7,.ptr 7 0 0),(9,.fn 105 [] [.ptr 1 0 0])],[some ⟨88,true,[(f3.l aa4 (d9.l c [.int .i64 ac9,.ptr 2 0 0]))]⟩,some ⟨1,true,[[.ptr 0 0 0]]⟩,some ⟨4,true,[[(i5 3 (List.map (d8 .u8) b3)),(i5 4 (List.map (d8 .u8) b4)),.int .i64 ae5,.bool ad1]]⟩,some ⟨1,false,(List.map (d8 .u8) b3)⟩,some ⟨1,false,(List.map (d8 .u8) b4)⟩,some ⟨1,true,[[.ptr 0 0 0]]⟩,some ⟨26,false,[(f5.enc m)]⟩,some ⟨1,true,[[(i5 8 (List.map f5.enc b8))]]⟩,some ⟨26,false,(List.map f5.enc b8)⟩]⟩
 | .s2 m2 b8 Y=>⟨[.blk 0,.code (u7 [1,1,1])],[(3,.ptr 5 0 0),(5,.ptr 6 0 0),(7,.ptr 7 0 0),(9,.fn 105 [] [.ptr 1 0 0])],[some ⟨88,true,[(f3.l aa4 (d9.l c [.int .i64 ac9,.ptr 2 0 0]))]⟩,some ⟨1,true,[[.ptr 0 0 0]]⟩,some ⟨4,true,[[(i5 3 (List.map (d8 .u8) b3)),(i5 4 (List.map (d8 .u8) b4)),.int .i64 ae5,.bool ad1]]⟩,some ⟨1,false,(List.map (d8 .u8) b3)⟩,some ⟨1,false,(List.map (d8 .u8) b4)⟩,some ⟨1,true,[[.ptr 0 0 0]]⟩,some ⟨26,false,[(f5.enc m2)]⟩,some ⟨1,true,[[(i5 8 (List.map f5.enc b8))]]⟩,some ⟨26,false,(List.map f5.enc b8)⟩]⟩
noncomputable def J5 (m:f5) (aa4:f3) (c:d9) (ac9 ae5:Int) (ad1:Bool) (b3 b4:List Int):z5→(List f5)→Prop
 | .s0,r_=>i4 E (Cx.of Tryz.f63 true 5) (QW (Rs (B6 aa4 c ac9 ae5 ad1 b3 b4) r_)) (.go ((Q2 m aa4 c ac9 ae5 ad1 b3 b4) (.s0)))
 | .s1 b8,r_=>i4 E (Cx.of Tryz.f63 true 5) (QW (Rs (B6 aa4 c ac9 ae5 ad1 b3 b4) r_)) (.go ((Q2 m aa4 c ac9 ae5 ad1 b3 b4) (.s1 b8)))
 | .s2 m2 b8 Y,r_=>Q8 E (Cx.of Tryz.f63 true 5) (QW (Rs (B6 aa4 c ac9 ae5 ad1 b3 b4) r_)) 8 (u7 [1,1,0,1,0]) [.blk 0,.code (u7 [1,1,1])] [(3,.ptr 5 0 0),(5,.ptr 6 0 0),(7,.ptr 7 0 0),(9,.fn 105 [] [.ptr 1 0 0])] [1,0,2,3,4] [some ⟨1,true,[[.ptr 0 0 0]]⟩,some ⟨88,true,[(f3.l aa4 (d9.l c [.int .i64 ac9,.ptr 2 0 0]))]⟩,some ⟨4,true,[[(i5 3 (List.map (d8 .u8) b3)),(i5 4 (List.map (d8 .u8) b4)),.int .i64 ae5,.bool ad1]]⟩,some ⟨1,false,(List.map (d8 .u8) b3)⟩,some ⟨1,false,(List.map (d8 .u8) b4)⟩] (List.map H1 Y) [some ⟨88,true,[(f3.l aa4 (d9.l c [.int .i64 ac9,.ptr 2 0 0]))]⟩,some ⟨1,true,[[.ptr 0 0 0]]⟩,some ⟨4,true,[[(i5 3 (List.map (d8 .u8) b3)),(i5 4 (List.map (d8 .u8) b4)),.int .i64 ae5,.bool ad1]]⟩,some ⟨1,false,(List.map (d8 .u8) b3)⟩,some ⟨1,false,(List.map (d8 .u8) b4)⟩,some ⟨1,true,[[.ptr 0 0 0]]⟩,some ⟨26,false,[(f5.enc m2)]⟩,some ⟨1,true,[[(i5 8 (List.map f5.enc b8))]]⟩,some ⟨26,false,(List.map f5.enc b8)⟩]
noncomputable def ap0 (m:f5) (aa4:f3) (c:d9) (ac9 ae5:Int) (ad1:Bool) (b3 b4:List Int):Option (z5⊕(List f5)):=(some (.inl (.s1 ([]))))
noncomputable def Z9 (m:f5) (aa4:f3) (c:d9) (ac9 ae5:Int) (ad1:Bool) (b3 b4:List Int) (b8:List f5):Option (z5⊕(List f5)):=((at6 aa4 c ac9 ae5 ad1 b3 b4).bind fun y1=>(some (.inl (.s2 m b8 y1))))
noncomputable def X4 (m:f5) (aa4:f3) (c:d9) (ac9 ae5:Int) (ad1:Bool) (b3 b4:List Int) (m2:f5) (b8:List f5):Option (z5⊕(List f5)):=(some (.inr b8))
noncomputable def X7 (m:f5) (aa4:f3) (c:d9) (ac9 ae5:Int) (ad1:Bool) (b3 b4:List Int) (m2:f5) (b8:List f5) (y:Int) (Y:List Int):Option (z5⊕(List f5)):=((N1 c ac9).bind fun y1=>(bif (decide (((List.map f5.enc b8).length+1)*288≤l6)) then (some (.inl (.s2 (⟨m2.Kind,y1,y,m2.Epoch,m2.Ballot,m2.Accepted,m2.Nonce,m2.Time,m2.Up,m2.Code,m2.HasPlan,m2.Plan,m2.ID,m2.Session,m2.Payload⟩:f5) (b8++ [(⟨m2.Kind,y1,y,m2.Epoch,m2.Ballot,m2.Accepted,m2.Nonce,m2.Time,m2.Up,m2.Code,m2.HasPlan,m2.Plan,m2.ID,m2.Session,m2.Payload⟩:f5)]) Y))) else none))
noncomputable def aa2 (m:f5) (aa4:f3) (c:d9) (ac9 ae5:Int) (ad1:Bool) (b3 b4:List Int) (m2:f5) (b8:List f5):List Int→Option (z5⊕(List f5))
 | []=>X4 m aa4 c ac9 ae5 ad1 b3 b4 m2 b8
 | y::Y=>X7 m aa4 c ac9 ae5 ad1 b3 b4 m2 b8 y Y
noncomputable def H4 (m:f5) (aa4:f3) (c:d9) (ac9 ae5:Int) (ad1:Bool) (b3 b4:List Int):z5→Option (z5⊕(List f5))
 | .s0=>ap0 m aa4 c ac9 ae5 ad1 b3 b4
 | .s1 b8=>Z9 m aa4 c ac9 ae5 ad1 b3 b4 b8
 | .s2 m2 b8 Y=>aa2 m aa4 c ac9 ae5 ad1 b3 b4 m2 b8 Y
theorem bq4 {m:f5}{aa4:f3}{c:d9}{ac9 ae5:Int}{ad1:Bool}{b3 b4:List Int}{r:List f5}{x:z5⊕(List f5)} (h:ap0 m aa4 c ac9 ae5 ad1 b3 b4=some x) (ha:D2 (J5 m aa4 c ac9 ae5 ad1 b3 b4) r x):i4 E (Cx.of Tryz.f63 true 5) (QW (Rs (B6 aa4 c ac9 ae5 ad1 b3 b4) r)) (.go ((Q2 m aa4 c ac9 ae5 ad1 b3 b4) (.s0))):=by
 unfold ap0 at h
 refine n8 hm 16 _ ?_
 obtain rfl:=Option.some.inj h
 refine ay5 1704 [.matc 7 0 0 26] (m' :=⟨[.code (u7 [1,1,0,1,0]),.blk 0,.code (u7 [1,1,1])],[(3,.ptr 5 0 0),(5,.ptr 6 0 0),(7,.ptr 7 0 0),(9,.fn 105 [] [.ptr 1 0 0])],[some ⟨88,true,[(f3.l aa4 (d9.l c [.int .i64 ac9,.ptr 2 0 0]))]⟩,some ⟨1,true,[[.ptr 0 0 0]]⟩,some ⟨4,true,[[(i5 3 (List.map (d8 .u8) b3)),(i5 4 (List.map (d8 .u8) b4)),.int .i64 ae5,.bool ad1]]⟩,some ⟨1,false,(List.map (d8 .u8) b3)⟩,some ⟨1,false,(List.map (d8 .u8) b4)⟩,some ⟨1,true,[[.ptr 0 0 0]]⟩,some ⟨26,false,[(f5.enc m)]⟩,some ⟨1,true,[[.msl 8 0 0 0 false]]⟩,some ⟨26,false,[]⟩]⟩) (by kernel_rfl) ?_
 refine ah4 (n1:=0) (n2:=(List.map f5.enc ([])).length) (fun n_len=> .go ⟨[.code (u7 [1,1,0,1,0]),.blk 0,.code (u7 [1,1,1])],[(3,.ptr 5 0 0),(5,.ptr 6 0 0),(7,.ptr 7 0 0),(9,.fn 105 [] [.ptr 1 0 0])],[some ⟨88,true,[(f3.l aa4 (d9.l c [.int .i64 ac9,.ptr 2 0 0]))]⟩,some ⟨1,true,[[.ptr 0 0 0]]⟩,some ⟨4,true,[[(i5 3 (List.map (d8 .u8) b3)),(i5 4 (List.map (d8 .u8) b4)),.int .i64 ae5,.bool ad1]]⟩,some ⟨1,false,(List.map (d8 .u8) b3)⟩,some ⟨1,false,(List.map (d8 .u8) b4)⟩,some ⟨1,true,[[.ptr 0 0 0]]⟩,some ⟨26,false,[(f5.enc m)]⟩,some ⟨1,true,[[.msl 8 0 n_len n_len false]]⟩,some ⟨26,false,[]⟩]⟩) (by simp) ?_
 exact ha
theorem bo9 {m:f5}{aa4:f3}{c:d9}{ac9 ae5:Int}{ad1:Bool}{b3 b4:List Int}{b8 r:List f5}{x:z5⊕(List f5)} (h:Z9 m aa4 c ac9 ae5 ad1 b3 b4 b8=some x) (ha:D2 (J5 m aa4 c ac9 ae5 ad1 b3 b4) r x):i4 E (Cx.of Tryz.f63 true 5) (QW (Rs (B6 aa4 c ac9 ae5 ad1 b3 b4) r)) (.go ((Q2 m aa4 c ac9 ae5 ad1 b3 b4) (.s1 b8))):=by
 unfold Z9 at h
 refine n8 hm 1 _ ?_
 have ok1:=fun(y:List Int) (hy:at6 aa4 c ac9 ae5 ad1 b3 b4=some y)=>bS7 hy
 refine dE6 (m:=8) (c:=u7 [1,1,0,1,0]) (t:= [.blk 0,.code (u7 [1,1,1])]) (fr:= [(3,.ptr 5 0 0),(5,.ptr 6 0 0),(7,.ptr 7 0 0),(9,.fn 105 [] [.ptr 1 0 0])]) (σ:= [some ⟨88,true,[(f3.l aa4 (d9.l c [.int .i64 ac9,.ptr 2 0 0]))]⟩,some ⟨1,true,[[.ptr 0 0 0]]⟩,some ⟨4,true,[[(i5 3 (List.map (d8 .u8) b3)),(i5 4 (List.map (d8 .u8) b4)),.int .i64 ae5,.bool ad1]]⟩,some ⟨1,false,(List.map (d8 .u8) b3)⟩,some ⟨1,false,(List.map (d8 .u8) b4)⟩,some ⟨1,true,[[.ptr 0 0 0]]⟩,some ⟨26,false,[(f5.enc m)]⟩,some ⟨1,true,[[(i5 8 (List.map f5.enc b8))]]⟩,some ⟨26,false,(List.map f5.enc b8)⟩]) (ids:= [1,0,2,3,4]) (bs:= [some ⟨1,true,[[.ptr 0 0 0]]⟩,some ⟨88,true,[(f3.l aa4 (d9.l c [.int .i64 ac9,.ptr 2 0 0]))]⟩,some ⟨4,true,[[(i5 3 (List.map (d8 .u8) b3)),(i5 4 (List.map (d8 .u8) b4)),.int .i64 ae5,.bool ad1]]⟩,some ⟨1,false,(List.map (d8 .u8) b3)⟩,some ⟨1,false,(List.map (d8 .u8) b4)⟩]) (caps1:= [.ptr 0 0 0]) (caps:= [.ptr 0 0 0]) (sub1:= [some ⟨1,true,[[.ptr 1 0 0]]⟩,some ⟨88,true,[(f3.l aa4 (d9.l c [.int .i64 ac9,.ptr 2 0 0]))]⟩,some ⟨4,true,[[(i5 3 (List.map (d8 .u8) b3)),(i5 4 (List.map (d8 .u8) b4)),.int .i64 ae5,.bool ad1]]⟩,some ⟨1,false,(List.map (d8 .u8) b3)⟩,some ⟨1,false,(List.map (d8 .u8) b4)⟩]) (sub:= [some ⟨1,true,[[.ptr 1 0 0]]⟩,some ⟨88,true,[(f3.l aa4 (d9.l c [.int .i64 ac9,.ptr 2 0 0]))]⟩,some ⟨4,true,[[(i5 3 (List.map (d8 .u8) b3)),(i5 4 (List.map (d8 .u8) b4)),.int .i64 ae5,.bool ad1]]⟩,some ⟨1,false,(List.map (d8 .u8) b3)⟩,some ⟨1,false,(List.map (d8 .u8) b4)⟩]) H1 h (by kernel_rfl) ⟨rfl,rfl⟩ (by kernel_rfl) (by kernel_rfl) (by kernel_rfl) (by kernel_rfl) (by kernel_rfl) ok1 (fun y1 h1 h=> ?_)
 obtain rfl:=Option.some.inj h
 exact ha
theorem bl9 {m:f5}{aa4:f3}{c:d9}{ac9 ae5:Int}{ad1:Bool}{b3 b4:List Int}{m2:f5}{b8 r:List f5}{x:z5⊕(List f5)} (h:X4 m aa4 c ac9 ae5 ad1 b3 b4 m2 b8=some x) (ha:D2 (J5 m aa4 c ac9 ae5 ad1 b3 b4) r x):Q8 E (Cx.of Tryz.f63 true 5) (QW (Rs (B6 aa4 c ac9 ae5 ad1 b3 b4) r)) 8 (u7 [1,1,0,1,0]) [.blk 0,.code (u7 [1,1,1])] [(3,.ptr 5 0 0),(5,.ptr 6 0 0),(7,.ptr 7 0 0),(9,.fn 105 [] [.ptr 1 0 0])] [1,0,2,3,4] [some ⟨1,true,[[.ptr 0 0 0]]⟩,some ⟨88,true,[(f3.l aa4 (d9.l c [.int .i64 ac9,.ptr 2 0 0]))]⟩,some ⟨4,true,[[(i5 3 (List.map (d8 .u8) b3)),(i5 4 (List.map (d8 .u8) b4)),.int .i64 ae5,.bool ad1]]⟩,some ⟨1,false,(List.map (d8 .u8) b3)⟩,some ⟨1,false,(List.map (d8 .u8) b4)⟩] ([]) [some ⟨88,true,[(f3.l aa4 (d9.l c [.int .i64 ac9,.ptr 2 0 0]))]⟩,some ⟨1,true,[[.ptr 0 0 0]]⟩,some ⟨4,true,[[(i5 3 (List.map (d8 .u8) b3)),(i5 4 (List.map (d8 .u8) b4)),.int .i64 ae5,.bool ad1]]⟩,some ⟨1,false,(List.map (d8 .u8) b3)⟩,some ⟨1,false,(List.map (d8 .u8) b4)⟩,some ⟨1,true,[[.ptr 0 0 0]]⟩,some ⟨26,false,[(f5.enc m2)]⟩,some ⟨1,true,[[(i5 8 (List.map f5.enc b8))]]⟩,some ⟨26,false,(List.map f5.enc b8)⟩]:=by
 unfold X4 at h
 refine bo0 ?_
 exact ztP 8 h ha
theorem bm0 {m:f5}{aa4:f3}{c:d9}{ac9 ae5:Int}{ad1:Bool}{b3 b4:List Int}{m2:f5}{b8:List f5}{y:Int}{Y:List Int}{r:List f5}{x:z5⊕(List f5)} (h:X7 m aa4 c ac9 ae5 ad1 b3 b4 m2 b8 y Y=some x) (ha:D2 (J5 m aa4 c ac9 ae5 ad1 b3 b4) r x):Q8 E (Cx.of Tryz.f63 true 5) (QW (Rs (B6 aa4 c ac9 ae5 ad1 b3 b4) r)) 8 (u7 [1,1,0,1,0]) [.blk 0,.code (u7 [1,1,1])] [(3,.ptr 5 0 0),(5,.ptr 6 0 0),(7,.ptr 7 0 0),(9,.fn 105 [] [.ptr 1 0 0])] [1,0,2,3,4] [some ⟨1,true,[[.ptr 0 0 0]]⟩,some ⟨88,true,[(f3.l aa4 (d9.l c [.int .i64 ac9,.ptr 2 0 0]))]⟩,some ⟨4,true,[[(i5 3 (List.map (d8 .u8) b3)),(i5 4 (List.map (d8 .u8) b4)),.int .i64 ae5,.bool ad1]]⟩,some ⟨1,false,(List.map (d8 .u8) b3)⟩,some ⟨1,false,(List.map (d8 .u8) b4)⟩] (H1 y::List.map H1 Y) [some ⟨88,true,[(f3.l aa4 (d9.l c [.int .i64 ac9,.ptr 2 0 0]))]⟩,some ⟨1,true,[[.ptr 0 0 0]]⟩,some ⟨4,true,[[(i5 3 (List.map (d8 .u8) b3)),(i5 4 (List.map (d8 .u8) b4)),.int .i64 ae5,.bool ad1]]⟩,some ⟨1,false,(List.map (d8 .u8) b3)⟩,some ⟨1,false,(List.map (d8 .u8) b4)⟩,some ⟨1,true,[[.ptr 0 0 0]]⟩,some ⟨26,false,[(f5.enc m2)]⟩,some ⟨1,true,[[(i5 8 (List.map f5.enc b8))]]⟩,some ⟨26,false,(List.map f5.enc b8)⟩]:=by
 unfold X7 at h
 refine bc3 ?_
 refine zd 7 [] h (fun _=>Z7) fun y1 h=> ?_
 refine zn 12 h fun h=> ?_
 refine za 0 f5.enc b8 ([(⟨m2.Kind,y1,y,m2.Epoch,m2.Ballot,m2.Accepted,m2.Nonce,m2.Time,m2.Up,m2.Code,m2.HasPlan,m2.Plan,m2.ID,m2.Session,m2.Payload⟩:f5)]) ?_
 refine n8 hm 6 _ ?_
 obtain rfl:=Option.some.inj h
 exact aT6 [] (s1:= [some ⟨88,true,[(f3.l aa4 (d9.l c [.int .i64 ac9,.ptr 2 0 0]))]⟩,some ⟨1,true,[[.ptr 0 0 0]]⟩,some ⟨4,true,[[(i5 3 (List.map (d8 .u8) b3)),(i5 4 (List.map (d8 .u8) b4)),.int .i64 ae5,.bool ad1]]⟩,some ⟨1,false,(List.map (d8 .u8) b3)⟩,some ⟨1,false,(List.map (d8 .u8) b4)⟩,some ⟨1,true,[[.ptr 0 0 0]]⟩,some ⟨26,false,[(.int .i64 m2.Kind::.int .i64 y1::.int .i64 y::.int .i64 m2.Epoch::.int .i64 m2.Ballot::.int .i64 m2.Accepted::.int .i64 m2.Nonce::.int .i64 m2.Time::.int .u64 m2.Up::.int .i64 m2.Code::.bool m2.HasPlan::Plan.l m2.Plan [.sl false 1 (List.map (d8 .i64) m2.ID),.sl false 1 (List.map (d8 .u8) m2.Session),.sl false 1 (List.map (d8 .u8) m2.Payload)])]⟩,some ⟨1,true,[[.msl 8 0 ((List.map f5.enc (b8++ [(⟨m2.Kind,y1,y,m2.Epoch,m2.Ballot,m2.Accepted,m2.Nonce,m2.Time,m2.Up,m2.Code,m2.HasPlan,m2.Plan,m2.ID,m2.Session,m2.Payload⟩:f5)])).length) ((List.map f5.enc (b8++ [(⟨m2.Kind,y1,y,m2.Epoch,m2.Ballot,m2.Accepted,m2.Nonce,m2.Time,m2.Up,m2.Code,m2.HasPlan,m2.Plan,m2.ID,m2.Session,m2.Payload⟩:f5)])).length) false]]⟩,some ⟨26,false,(List.map f5.enc (b8++ [(⟨m2.Kind,y1,y,m2.Epoch,m2.Ballot,m2.Accepted,m2.Nonce,m2.Time,m2.Up,m2.Code,m2.HasPlan,m2.Plan,m2.ID,m2.Session,m2.Payload⟩:f5)]))⟩]) (s:= [some ⟨88,true,[(f3.l aa4 (d9.l c [.int .i64 ac9,.ptr 2 0 0]))]⟩,some ⟨1,true,[[.ptr 0 0 0]]⟩,some ⟨4,true,[[(i5 3 (List.map (d8 .u8) b3)),(i5 4 (List.map (d8 .u8) b4)),.int .i64 ae5,.bool ad1]]⟩,some ⟨1,false,(List.map (d8 .u8) b3)⟩,some ⟨1,false,(List.map (d8 .u8) b4)⟩,some ⟨1,true,[[.ptr 0 0 0]]⟩,some ⟨26,false,[(.int .i64 m2.Kind::.int .i64 y1::.int .i64 y::.int .i64 m2.Epoch::.int .i64 m2.Ballot::.int .i64 m2.Accepted::.int .i64 m2.Nonce::.int .i64 m2.Time::.int .u64 m2.Up::.int .i64 m2.Code::.bool m2.HasPlan::Plan.l m2.Plan [.sl false 1 (List.map (d8 .i64) m2.ID),.sl false 1 (List.map (d8 .u8) m2.Session),.sl false 1 (List.map (d8 .u8) m2.Payload)])]⟩,some ⟨1,true,[[.msl 8 0 ((List.map f5.enc (b8++ [(⟨m2.Kind,y1,y,m2.Epoch,m2.Ballot,m2.Accepted,m2.Nonce,m2.Time,m2.Up,m2.Code,m2.HasPlan,m2.Plan,m2.ID,m2.Session,m2.Payload⟩:f5)])).length) ((List.map f5.enc (b8++ [(⟨m2.Kind,y1,y,m2.Epoch,m2.Ballot,m2.Accepted,m2.Nonce,m2.Time,m2.Up,m2.Code,m2.HasPlan,m2.Plan,m2.ID,m2.Session,m2.Payload⟩:f5)])).length) false]]⟩,some ⟨26,false,(List.map f5.enc (b8++ [(⟨m2.Kind,y1,y,m2.Epoch,m2.Ballot,m2.Accepted,m2.Nonce,m2.Time,m2.Up,m2.Code,m2.HasPlan,m2.Plan,m2.ID,m2.Session,m2.Payload⟩:f5)]))⟩]) (by kernel_rfl) (rfl) (by kernel_rfl) ha
theorem bn7 {m:f5}{aa4:f3}{c:d9}{ac9 ae5:Int}{ad1:Bool}{b3 b4:List Int}{m2:f5}{b8:List f5}{Y:List Int}{r:List f5}{x:z5⊕(List f5)} (h:aa2 m aa4 c ac9 ae5 ad1 b3 b4 m2 b8 Y=some x) (ha:D2 (J5 m aa4 c ac9 ae5 ad1 b3 b4) r x):Q8 E (Cx.of Tryz.f63 true 5) (QW (Rs (B6 aa4 c ac9 ae5 ad1 b3 b4) r)) 8 (u7 [1,1,0,1,0]) [.blk 0,.code (u7 [1,1,1])] [(3,.ptr 5 0 0),(5,.ptr 6 0 0),(7,.ptr 7 0 0),(9,.fn 105 [] [.ptr 1 0 0])] [1,0,2,3,4] [some ⟨1,true,[[.ptr 0 0 0]]⟩,some ⟨88,true,[(f3.l aa4 (d9.l c [.int .i64 ac9,.ptr 2 0 0]))]⟩,some ⟨4,true,[[(i5 3 (List.map (d8 .u8) b3)),(i5 4 (List.map (d8 .u8) b4)),.int .i64 ae5,.bool ad1]]⟩,some ⟨1,false,(List.map (d8 .u8) b3)⟩,some ⟨1,false,(List.map (d8 .u8) b4)⟩] (List.map H1 Y) [some ⟨88,true,[(f3.l aa4 (d9.l c [.int .i64 ac9,.ptr 2 0 0]))]⟩,some ⟨1,true,[[.ptr 0 0 0]]⟩,some ⟨4,true,[[(i5 3 (List.map (d8 .u8) b3)),(i5 4 (List.map (d8 .u8) b4)),.int .i64 ae5,.bool ad1]]⟩,some ⟨1,false,(List.map (d8 .u8) b3)⟩,some ⟨1,false,(List.map (d8 .u8) b4)⟩,some ⟨1,true,[[.ptr 0 0 0]]⟩,some ⟨26,false,[(f5.enc m2)]⟩,some ⟨1,true,[[(i5 8 (List.map f5.enc b8))]]⟩,some ⟨26,false,(List.map f5.enc b8)⟩]:=by
 cases Y with
 | nil=>exact bl9 h ha
 | cons y Y=>exact bm0 h ha
noncomputable def O0 (m:f5) (aa4:f3) (c:d9) (ac9 ae5:Int) (ad1:Bool) (b3 b4:List Int):Option (List f5):=T3 (H4 m aa4 c ac9 ae5 ad1 b3 b4) (.s0)
theorem bz5 {m:f5}{aa4:f3}{c:d9}{ac9 ae5:Int}{ad1:Bool}{b3 b4:List Int}{r:List f5} (h:Ev (H4 m aa4 c ac9 ae5 ad1 b3 b4) (.s0) r):i7 E 63 [.ptr 0 0 0,.fn 105 [] [.ptr 1 0 0],.agg (f5.enc m)] [some ⟨88,true,[(f3.l aa4 (d9.l c [.int .i64 ac9,.ptr 2 0 0]))]⟩,some ⟨1,true,[[.ptr 0 0 0]]⟩,some ⟨4,true,[[(i5 3 (List.map (d8 .u8) b3)),(i5 4 (List.map (d8 .u8) b4)),.int .i64 ae5,.bool ad1]]⟩,some ⟨1,false,(List.map (d8 .u8) b3)⟩,some ⟨1,false,(List.map (d8 .u8) b4)⟩] (Rs (B6 aa4 c ac9 ae5 ad1 b3 b4) r):=
 ay0 (m:=(Q2 m aa4 c ac9 ae5 ad1 b3 b4) (.s0)) (fn:=Tryz.f63) (by kernel_rfl) (by kernel_rfl) (bo5 (Pd:=(J5 m aa4 c ac9 ae5 ad1 b3 b4)) (fun s x r hs ha=>by
  cases s with
  | s0=>exact bq4 hs ha
  | s1=>exact bo9 hs ha
  | s2=>exact bn7 hs ha) h)
theorem am2 {m:f5}{aa4:f3}{c:d9}{ac9 ae5:Int}{ad1:Bool}{b3 b4:List Int}{r:List f5} (h:O0 m aa4 c ac9 ae5 ad1 b3 b4=some r):i7 E 63 [.ptr 0 0 0,.fn 105 [] [.ptr 1 0 0],.agg (f5.enc m)] [some ⟨88,true,[(f3.l aa4 (d9.l c [.int .i64 ac9,.ptr 2 0 0]))]⟩,some ⟨1,true,[[.ptr 0 0 0]]⟩,some ⟨4,true,[[(i5 3 (List.map (d8 .u8) b3)),(i5 4 (List.map (d8 .u8) b4)),.int .i64 ae5,.bool ad1]]⟩,some ⟨1,false,(List.map (d8 .u8) b3)⟩,some ⟨1,false,(List.map (d8 .u8) b4)⟩] (Rs (B6 aa4 c ac9 ae5 ad1 b3 b4) r):=bz5 (bu5 h)
noncomputable def db8 (c:d9) (ac9 ae5:Int) (ad1:Bool) (b2 b3:List Int) (y:(List f5)×f3):D×i0:=(.sl false 26 (List.map f5.enc y.1),[some ⟨88,true,[(f3.l y.2 (d9.l c [.int .i64 ac9,.ptr 1 0 0]))]⟩,some ⟨4,true,[[(i5 2 (List.map (d8 .u8) b2)),(i5 3 (List.map (d8 .u8) b3)),.int .i64 ae5,.bool ad1]]⟩,some ⟨1,false,(List.map (d8 .u8) b2)⟩,some ⟨1,false,(List.map (d8 .u8) b3)⟩])
noncomputable def aT3 (f4:Int) (aa4:f3) (c:d9) (ac9 ae5:Int) (ad1:Bool) (b2 b3:List Int):Option ((List f5)×f3):=((af3 (⟨aa4.asked.ever,aa4.hold.Nonce⟩:aa3) f4 (A0 (IntKind.i64.wrap (Int.tdiv c.L_ 2)) 1)).bind fun y1=>(bif (!y1) then (some ([],(⟨aa4.boot,aa4.known,aa4.heard,aa4.votes,aa4.hold,(⟨aa4.asked.ever,aa4.hold.Nonce⟩:aa3),aa4.prop,aa4.made,aa4.top,aa4.sealed,aa4.told⟩:f3))) else ((bx2 aa4.hold 0 f4).bind fun y3=>((P9 (⟨aa4.boot,aa4.known,aa4.heard,aa4.votes,y3,(⟨true,aa4.hold.Nonce⟩:aa3),aa4.prop,aa4.made,aa4.top,aa4.sealed,aa4.told⟩:f3) c ac9 ae5 ad1 b2 b3).bind fun y4=>((O0 (⟨10,0,0,0,0,0,f4,0,0,2,false,(⟨0,0,0,0,0,0,0,0,0,0,[],[]⟩:Plan),[],[],[]⟩:f5) (⟨aa4.boot,aa4.known,aa4.heard,aa4.votes,y3,(⟨true,aa4.hold.Nonce⟩:aa3),aa4.prop,aa4.made,aa4.top,aa4.sealed,aa4.told⟩:f3) c ac9 ae5 ad1 b2 b3).bind fun y5=>(some (y5,(⟨aa4.boot,aa4.known,aa4.heard,aa4.votes,y3,(⟨true,aa4.hold.Nonce⟩:aa3),aa4.prop,aa4.made,aa4.top,aa4.sealed,aa4.told⟩:f3))))))))
theorem cS5 {f4:Int}{aa4:f3}{c:d9}{ac9 ae5:Int}{ad1:Bool}{b2 b3:List Int}{r:(List f5)×f3} (h:aT3 f4 aa4 c ac9 ae5 ad1 b2 b3=some r):i7 E 50 [.ptr 0 0 0,.int .i64 f4] [some ⟨88,true,[(f3.l aa4 (d9.l c [.int .i64 ac9,.ptr 1 0 0]))]⟩,some ⟨4,true,[[(i5 2 (List.map (d8 .u8) b2)),(i5 3 (List.map (d8 .u8) b3)),.int .i64 ae5,.bool ad1]]⟩,some ⟨1,false,(List.map (d8 .u8) b2)⟩,some ⟨1,false,(List.map (d8 .u8) b3)⟩] (Rs (db8 c ac9 ae5 ad1 b2 b3) r):=so (fn:=Tryz.f50) (k:=true) (m:=4) h<| by
 intro r h;unfold aT3 at h
 refine zd 28 [] h (fun _=>bm6) fun y1 h=> ?_
 refine zs 1 h (fun h=> ?_) fun h=> ?_
 ·
  exact zu 5 h [.slot 0 [some 26]]
 refine zc 23 [] h (fun _=>dy0) fun y3 h=> ?_
 refine zc 12 [] h (fun _=>aH5) fun y4 h=> ?_
 refine zc 3 [some 1,some 1,some 1,some 1,some 1] h (fun _=>am2) fun y5 h=> ?_
 refine n8 hm 2 _ ?_
 refine bR7 4 (n1:=(0+(List.map f5.enc y5).length)) (n2:=((List.map f5.enc y5).length)) (raw:=(List.take ((List.map f5.enc y5).length) (List.drop 0 (List.map f5.enc y5)))) (rs:=(List.map f5.enc y5)) (by kernel_rfl) (A7 _) (by simp only[C0,E8,List.map_take,List.map_drop]) ?_
 exact zu 1 h
noncomputable def ci2:=u5 (u6 Tryz.f51)
noncomputable def ck5 (c:d9) (ac9 ae5:Int) (ad1:Bool) (b2 b3:List Int) (y:(List f5)×f3):D×i0:=(.sl false 26 (List.map f5.enc y.1),[some ⟨88,true,[(f3.l y.2 (d9.l c [.int .i64 ac9,.ptr 1 0 0]))]⟩,some ⟨4,true,[[(i5 2 (List.map (d8 .u8) b2)),(i5 3 (List.map (d8 .u8) b3)),.int .i64 ae5,.bool ad1]]⟩,some ⟨1,false,(List.map (d8 .u8) b2)⟩,some ⟨1,false,(List.map (d8 .u8) b3)⟩])
abbrev du4 (f4:Int) (aa4:f3) (c:d9) (ac9 ae5:Int) (ad1:Bool) (b2 b3:List Int):=AOk E (Cx.of Tryz.f51 true 4) (ck5 c ac9 ae5 ad1 b2 b3)
noncomputable def de4 (f4:Int) (aa4:f3) (c:d9) (ac9 ae5:Int) (ad1:Bool) (b2 b3:List Int) (t26:Bool):M:=⟨[.code (ci2 [1,0,1]),.code (ci2 [1,1])],[(0,.ptr 0 0 0),(1,.int .i64 f4),(26,.bool t26)],[some ⟨88,true,[(f3.l aa4 (d9.l c [.int .i64 ac9,.ptr 1 0 0]))]⟩,some ⟨4,true,[[(i5 2 (List.map (d8 .u8) b2)),(i5 3 (List.map (d8 .u8) b3)),.int .i64 ae5,.bool ad1]]⟩,some ⟨1,false,(List.map (d8 .u8) b2)⟩,some ⟨1,false,(List.map (d8 .u8) b3)⟩]⟩
noncomputable def aK6 (f4:Int) (aa4:f3) (c:d9) (ac9 ae5:Int) (ad1:Bool) (b2 b3:List Int) (t26:Bool):Option ((List f5)×f3):=(bif t26 then (some ([],aa4)) else ((aD7 f4 aa4 c ac9 ae5 ad1 b2 b3).bind fun y2=>(some (y2.1,y2.2))))
theorem bK4 {f4 aa4 c ac9 ae5 ad1 b2 b3 t26}:du4 f4 aa4 c ac9 ae5 ad1 b2 b3 (de4 f4 aa4 c ac9 ae5 ad1 b2 b3 t26) (aK6 f4 aa4 c ac9 ae5 ad1 b2 b3 t26):=by
 intro r h;unfold aK6 at h
 refine zs 1 h (fun h=> ?_) fun h=> ?_
 ·
  exact zu 5 h [.slot 0 [some 26]]
 refine zc 6 [] h (fun _=>bO1) fun y2 h=> ?_
 exact zu 3 h
noncomputable def aZ4 (f4:Int) (aa4:f3) (c:d9) (ac9 ae5:Int) (ad1:Bool) (b2 b3:List Int):Option ((List f5)×f3):=(bif (aa4.known.Epoch==0) then (aK6 f4 aa4 c ac9 ae5 ad1 b2 b3 true) else ((af3 aa4.told f4 c.Retry).bind fun y2=>(aK6 f4 aa4 c ac9 ae5 ad1 b2 b3 (!y2))))
theorem cZ2 {f4:Int}{aa4:f3}{c:d9}{ac9 ae5:Int}{ad1:Bool}{b2 b3:List Int}{r:(List f5)×f3} (h:aZ4 f4 aa4 c ac9 ae5 ad1 b2 b3=some r):i7 E 51 [.ptr 0 0 0,.int .i64 f4] [some ⟨88,true,[(f3.l aa4 (d9.l c [.int .i64 ac9,.ptr 1 0 0]))]⟩,some ⟨4,true,[[(i5 2 (List.map (d8 .u8) b2)),(i5 3 (List.map (d8 .u8) b3)),.int .i64 ae5,.bool ad1]]⟩,some ⟨1,false,(List.map (d8 .u8) b2)⟩,some ⟨1,false,(List.map (d8 .u8) b3)⟩] (Rs (ck5 c ac9 ae5 ad1 b2 b3) r):=so (fn:=Tryz.f51) (k:=true) (m:=4) h<| by
 intro r h;unfold aZ4 at h
 refine zs 8 h (fun h=> ?_) fun h=> ?_
 ·
  exact zg 13 (bK4 h)
 refine zd 13 [] h (fun _=>bm6) fun y2 h=> ?_
 exact zg 2 (bK4 h)
noncomputable def df1 (y:Bool):D×i0:=(.bool y,[])
noncomputable def aB4 (j:v6):Option Bool:=(some j.down)
theorem bR1 {j:v6}{r:Bool} (h:aB4 j=some r):i7 E 47 [.iptr 4 [(v6.enc j)] 0 0] [] (Rs df1 r):=so (fn:=Tryz.f47) (k:=false) (m:=0) h<| by
 intro r h;unfold aB4 at h
 exact zu 14 h
noncomputable def cP2 (aa4:f3) (c:d9) (ac9 ae5:Int) (ad1:Bool) (b2 b3:List Int) (y:Bool):D×i0:=(.bool y,[some ⟨88,true,[(f3.l aa4 (d9.l c [.int .i64 ac9,.ptr 1 0 0]))]⟩,some ⟨4,true,[[(i5 2 (List.map (d8 .u8) b2)),(i5 3 (List.map (d8 .u8) b3)),.int .i64 ae5,.bool ad1]]⟩,some ⟨1,false,(List.map (d8 .u8) b2)⟩,some ⟨1,false,(List.map (d8 .u8) b3)⟩])
noncomputable def al9 (f4:Int) (aa4:f3) (c:d9) (ac9 ae5:Int) (ad1:Bool) (b2 b3:List Int):Option Bool:=(bif (aa4.boot !=0) then ((aB4 (⟨b2,b3,ae5,ad1⟩:v6)).bind fun y2=>(bif (!y2) then ((bf5 aa4.hold 0 f4).bind fun y4=>(some y4)) else (some false))) else (some false))
theorem bc0 {f4:Int}{aa4:f3}{c:d9}{ac9 ae5:Int}{ad1:Bool}{b2 b3:List Int}{r:Bool} (h:al9 f4 aa4 c ac9 ae5 ad1 b2 b3=some r):i7 E 21 [.ptr 0 0 0,.int .i64 f4] [some ⟨88,true,[(f3.l aa4 (d9.l c [.int .i64 ac9,.ptr 1 0 0]))]⟩,some ⟨4,true,[[(i5 2 (List.map (d8 .u8) b2)),(i5 3 (List.map (d8 .u8) b3)),.int .i64 ae5,.bool ad1]]⟩,some ⟨1,false,(List.map (d8 .u8) b2)⟩,some ⟨1,false,(List.map (d8 .u8) b3)⟩] (Rs (cP2 aa4 c ac9 ae5 ad1 b2 b3) r):=so (fn:=Tryz.f21) (k:=true) (m:=4) h<| by
 intro r h;unfold al9 at h
 refine zs 15 h (fun h=> ?_) fun h=> ?_
 ·
  refine zm 9 (b:=(Nat.ble (0+(List.map (d8 .u8) b2).length) ((List.map (d8 .u8) b2).length))) (A7 _) ?_
  refine zm 0 (b:=(Nat.ble (0+(List.map (d8 .u8) b3).length) ((List.map (d8 .u8) b3).length))) (A7 _) ?_
  refine zcE 0 [] (args1:= [.iptr 4 [[.sl false 1 (List.take ((List.map (d8 .u8) b2).length) (List.drop 0 (List.map (d8 .u8) b2))),.sl false 1 (List.take ((List.map (d8 .u8) b3).length) (List.drop 0 (List.map (d8 .u8) b3))),.int .i64 ae5,.bool ad1]] 0 0]) h (fun _=>bR1) ⟨by simp[d9.enc,d9.l,l7.enc,l7.l,u4.enc,u4.l,v6.enc,v6.l,f5.enc,f5.l,Op.enc,Op.l,Plan.enc,Plan.l,E6.enc,E6.l,i8.enc,i8.l,u9.enc,u9.l,p6.enc,p6.l,f3.enc,f3.l,List.take_of_length_le,List.map_take,List.map_drop],rfl⟩ fun y2 h=> ?_
  refine zs 6 h (fun h=> ?_) fun h=> ?_
  ·
   refine zc 13 [] h (fun _=>dp2) fun y4 h=> ?_
   exact zu 5 h
  exact zu 17 h
 exact zu 32 h
noncomputable def cz0:=u5 (u6 Tryz.f116)
def N2 (y:Int):List D:= [D.int .i64 y]
inductive Q1 where
 | s0 (t:List Int)
 | s1 (t5:List Int) (t6:Int) (t7:Int)
noncomputable def T9 (l:Nat):Q1→M
 | .s0 t=>⟨[.code (u6 Tryz.f116)],[(0,D.yld l),(1,D.iptr 1 [[D.sl false 1 (List.map (d8 .i64) t)]] 0 0)],[]⟩
 | .s1 t5 t6 t7=>⟨[.lpc (cz0 [1,0,0]) 225,.blk 0],[(0,D.yld l),(5,D.sl false 1 (List.map (d8 .i64) t5)),(6,D.int .i64 t6),(7,D.int .i64 t7)],[]⟩
noncomputable def aB1 (t:List Int):Option (List Int×Option Q1):=(some ([],some (.s1 t (((List.map (d8 .i64) t).length:Nat):Int) 0)))
noncomputable def ao3 (t5:List Int) (t6 t7:Int):Option (List Int×Option Q1):=(bif (decide (t7<t6)) then (bif ((decide ((0:Int)≤t7))&&(decide (t7<(((List.map (d8 .i64) t5).length:Nat):Int)))) then (((t5)[t7.toNat]?).bind fun y3=>(Option.map (fun p=>(y3::p.1,p.2)) (some ([],some (.s1 t5 t6 (IntKind.i64.wrap (t7+1))))))) else none) else (some ([],none)))
noncomputable def ai5:Q1→i0
 | .s0 t=> []
 | .s1 t5 t6 t7=> []
noncomputable def S7:Q1→Option (List Int×Option Q1)
 | .s0 t=>aB1 t
 | .s1 t5 t6 t7=>ao3 t5 t6 t7
theorem cf2 {l:Nat}{ln:i0}{φ0:y0}{J:Option (List (List D))→World→(Nat→Prop)→(Nat→Prop)→Prop}{t:List Int}{x:List Int×Option Q1}{Y:List (List D)} (hl:ai5 (.s0 t)=ln) (h:aB1 t=some x) (ha:ai2 E ln (Cx.seq Tryz.f116 0 ln l φ0 J) N2 (T9 l) ai5 x Y):i4 E (Cx.seq Tryz.f116 0 ln l φ0 J (some Y)) (fun _ s=>U7 ln s) (.go (T9 l (.s0 t))):=by
 subst hl
 unfold aB1 at h
 refine n8 hm 10 _ ?_
 obtain rfl:=Option.some.inj h
 exact bc4 (q' :=.go (T9 l (.s1 t (((List.map (d8 .i64) t).length:Nat):Int) 0))) (by kernel_rfl) (P8 (by kernel_rfl) ha)
theorem ce4 {l:Nat}{ln:i0}{φ0:y0}{J:Option (List (List D))→World→(Nat→Prop)→(Nat→Prop)→Prop}{t5:List Int}{t6 t7:Int}{x:List Int×Option Q1}{Y:List (List D)} (hl:ai5 (.s1 t5 t6 t7)=ln) (h:ao3 t5 t6 t7=some x) (ha:ai2 E ln (Cx.seq Tryz.f116 0 ln l φ0 J) N2 (T9 l) ai5 x Y):i4 E (Cx.seq Tryz.f116 0 ln l φ0 J (some Y)) (fun _ s=>U7 ln s) (.go (T9 l (.s1 t5 t6 t7))):=by
 subst hl
 unfold ao3 at h
 refine zs 7 h (fun h=> ?_) fun h=> ?_
 ·
  refine zn 6 h fun h=> ?_
  refine zr 1 (d8 .i64) h fun y3 h=> ?_
  refine n8 hm 7 _ ?_
  refine ca3 (x:=y3) (s:= []) h ha (by kernel_rfl) (by kernel_rfl) ?_ (fun p Y h ha=> ?_)
  ·--it is stopped
   refine n8 hm 5 _ ?_
   exact bK9 (d:=D.tup []) (s:= []) (by kernel_rfl) (by kernel_rfl)
  ·--it goes on
   refine n8 hm 11 _ ?_
   obtain rfl:=Option.some.inj h
   exact bc4 (q' :=.go (T9 l (.s1 t5 t6 (IntKind.i64.wrap (t7+1))))) (by kernel_rfl) (P8 (by kernel_rfl) ha)
 refine n8 hm 2 _ ?_
 obtain rfl:=Option.some.inj h
 exact bZ5 (d:=D.tup []) (s:= []) (by kernel_rfl) (by kernel_rfl) ha
noncomputable def aN5 (t:List Int):Option (List Int):=evl S7 (.s0 t)
theorem cr4 {t r:List Int} (h:aN5 t=some r):as3 E 116 [D.iptr 1 [[D.sl false 1 (List.map (d8 .i64) t)]] 0 0] [] [] (List.map N2 r):=
 bX7 (m:=fun l=>T9 l (.s0 t)) (fn:=Tryz.f116) (by kernel_rfl) (fun l=>by kernel_rfl) (show List.take _ _=_ by kernel_rfl) (show F5 _ _=_ by kernel_rfl) (fun l φ0 J=>bH3 (step:=S7) (lnS:=ai5) (fun s x Y hl hs ha=>by
  cases s with
  | s0=>exact cf2 hl hs ha
  | s1=>exact ce4 hl hs ha) (by kernel_rfl) (bT9 h))
noncomputable def z0:=u5 (u6 Tryz.f63)
noncomputable def D1 (aa4:f3) (c:d9) (ac9 ae5:Int) (ad1:Bool) (b2 b3:List Int) (y:List f5):D×i0:=((i5 4 (List.map f5.enc y)),[some ⟨88,true,[(f3.l aa4 (d9.l c [.int .i64 ac9,.ptr 1 0 0]))]⟩,some ⟨4,true,[[(i5 2 (List.map (d8 .u8) b2)),(i5 3 (List.map (d8 .u8) b3)),.int .i64 ae5,.bool ad1]]⟩,some ⟨1,false,(List.map (d8 .u8) b2)⟩,some ⟨1,false,(List.map (d8 .u8) b3)⟩,some ⟨26,false,(List.map f5.enc y)⟩])
inductive A4 where
 | s0
 | s1 (b7:List f5)
 | s2 (m2:f5) (b7:List f5) (Y:List Int)
noncomputable def W5 (B4:List Int) (m:f5) (aa4:f3) (c:d9) (ac9 ae5:Int) (ad1:Bool) (b2 b3:List Int):A4→M
 | .s0=>C3 Tryz.f63 [.ptr 0 0 0,.fn 116 [] [.iptr 1 [[.sl false 1 (List.map (d8 .i64) B4)]] 0 0],.agg (f5.enc m)] [some ⟨88,true,[(f3.l aa4 (d9.l c [.int .i64 ac9,.ptr 1 0 0]))]⟩,some ⟨4,true,[[(i5 2 (List.map (d8 .u8) b2)),(i5 3 (List.map (d8 .u8) b3)),.int .i64 ae5,.bool ad1]]⟩,some ⟨1,false,(List.map (d8 .u8) b2)⟩,some ⟨1,false,(List.map (d8 .u8) b3)⟩]
 | .s1 b7=>⟨[.code (z0 [1,1,0,1,0]),.blk 0,.code (z0 [1,1,1])],[(3,.ptr 4 0 0),(5,.ptr 5 0 0),(7,.ptr 6 0 0),(9,.fn 116 [] [.iptr 1 [[.sl false 1 (List.map (d8 .i64) B4)]] 0 0])],[some ⟨88,true,[(f3.l aa4 (d9.l c [.int .i64 ac9,.ptr 1 0 0]))]⟩,some ⟨4,true,[[(i5 2 (List.map (d8 .u8) b2)),(i5 3 (List.map (d8 .u8) b3)),.int .i64 ae5,.bool ad1]]⟩,some ⟨1,false,(List.map (d8 .u8) b2)⟩,some ⟨1,false,(List.map (d8 .u8) b3)⟩,some ⟨1,true,[[.ptr 0 0 0]]⟩,some ⟨26,false,[(f5.enc m)]⟩,some ⟨1,true,[[(i5 7 (List.map f5.enc b7))]]⟩,some ⟨26,false,(List.map f5.enc b7)⟩]⟩
 | .s2 m2 b7 Y=>⟨[.blk 0,.code (z0 [1,1,1])],[(3,.ptr 4 0 0),(5,.ptr 5 0 0),(7,.ptr 6 0 0),(9,.fn 116 [] [.iptr 1 [[.sl false 1 (List.map (d8 .i64) B4)]] 0 0])],[some ⟨88,true,[(f3.l aa4 (d9.l c [.int .i64 ac9,.ptr 1 0 0]))]⟩,some ⟨4,true,[[(i5 2 (List.map (d8 .u8) b2)),(i5 3 (List.map (d8 .u8) b3)),.int .i64 ae5,.bool ad1]]⟩,some ⟨1,false,(List.map (d8 .u8) b2)⟩,some ⟨1,false,(List.map (d8 .u8) b3)⟩,some ⟨1,true,[[.ptr 0 0 0]]⟩,some ⟨26,false,[(f5.enc m2)]⟩,some ⟨1,true,[[(i5 7 (List.map f5.enc b7))]]⟩,some ⟨26,false,(List.map f5.enc b7)⟩]⟩
noncomputable def N8 (B4:List Int) (m:f5) (aa4:f3) (c:d9) (ac9 ae5:Int) (ad1:Bool) (b2 b3:List Int):A4→(List f5)→Prop
 | .s0,r_=>i4 E (Cx.of Tryz.f63 true 4) (QW (Rs (D1 aa4 c ac9 ae5 ad1 b2 b3) r_)) (.go ((W5 B4 m aa4 c ac9 ae5 ad1 b2 b3) (.s0)))
 | .s1 b7,r_=>i4 E (Cx.of Tryz.f63 true 4) (QW (Rs (D1 aa4 c ac9 ae5 ad1 b2 b3) r_)) (.go ((W5 B4 m aa4 c ac9 ae5 ad1 b2 b3) (.s1 b7)))
 | .s2 m2 b7 Y,r_=>Q8 E (Cx.of Tryz.f63 true 4) (QW (Rs (D1 aa4 c ac9 ae5 ad1 b2 b3) r_)) 7 (z0 [1,1,0,1,0]) [.blk 0,.code (z0 [1,1,1])] [(3,.ptr 4 0 0),(5,.ptr 5 0 0),(7,.ptr 6 0 0),(9,.fn 116 [] [.iptr 1 [[.sl false 1 (List.map (d8 .i64) B4)]] 0 0])] [] [] (List.map N2 Y) [some ⟨88,true,[(f3.l aa4 (d9.l c [.int .i64 ac9,.ptr 1 0 0]))]⟩,some ⟨4,true,[[(i5 2 (List.map (d8 .u8) b2)),(i5 3 (List.map (d8 .u8) b3)),.int .i64 ae5,.bool ad1]]⟩,some ⟨1,false,(List.map (d8 .u8) b2)⟩,some ⟨1,false,(List.map (d8 .u8) b3)⟩,some ⟨1,true,[[.ptr 0 0 0]]⟩,some ⟨26,false,[(f5.enc m2)]⟩,some ⟨1,true,[[(i5 7 (List.map f5.enc b7))]]⟩,some ⟨26,false,(List.map f5.enc b7)⟩]
noncomputable def aA0 (B4:List Int) (m:f5) (aa4:f3) (c:d9) (ac9 ae5:Int) (ad1:Bool) (b2 b3:List Int):Option (A4⊕(List f5)):=(some (.inl (.s1 ([]))))
noncomputable def ag5 (B4:List Int) (m:f5) (aa4:f3) (c:d9) (ac9 ae5:Int) (ad1:Bool) (b2 b3:List Int) (b7:List f5):Option (A4⊕(List f5)):=((aN5 B4).bind fun y1=>(some (.inl (.s2 m b7 y1))))
noncomputable def ae0 (B4:List Int) (m:f5) (aa4:f3) (c:d9) (ac9 ae5:Int) (ad1:Bool) (b2 b3:List Int) (m2:f5) (b7:List f5):Option (A4⊕(List f5)):=(some (.inr b7))
noncomputable def ad9 (B4:List Int) (m:f5) (aa4:f3) (c:d9) (ac9 ae5:Int) (ad1:Bool) (b2 b3:List Int) (m2:f5) (b7:List f5) (y:Int) (Y:List Int):Option (A4⊕(List f5)):=((N1 c ac9).bind fun y1=>(bif (decide (((List.map f5.enc b7).length+1)*288≤l6)) then (some (.inl (.s2 (⟨m2.Kind,y1,y,m2.Epoch,m2.Ballot,m2.Accepted,m2.Nonce,m2.Time,m2.Up,m2.Code,m2.HasPlan,m2.Plan,m2.ID,m2.Session,m2.Payload⟩:f5) (b7++ [(⟨m2.Kind,y1,y,m2.Epoch,m2.Ballot,m2.Accepted,m2.Nonce,m2.Time,m2.Up,m2.Code,m2.HasPlan,m2.Plan,m2.ID,m2.Session,m2.Payload⟩:f5)]) Y))) else none))
noncomputable def ag3 (B4:List Int) (m:f5) (aa4:f3) (c:d9) (ac9 ae5:Int) (ad1:Bool) (b2 b3:List Int) (m2:f5) (b7:List f5):List Int→Option (A4⊕(List f5))
 | []=>ae0 B4 m aa4 c ac9 ae5 ad1 b2 b3 m2 b7
 | y::Y=>ad9 B4 m aa4 c ac9 ae5 ad1 b2 b3 m2 b7 y Y
noncomputable def K7 (B4:List Int) (m:f5) (aa4:f3) (c:d9) (ac9 ae5:Int) (ad1:Bool) (b2 b3:List Int):A4→Option (A4⊕(List f5))
 | .s0=>aA0 B4 m aa4 c ac9 ae5 ad1 b2 b3
 | .s1 b7=>ag5 B4 m aa4 c ac9 ae5 ad1 b2 b3 b7
 | .s2 m2 b7 Y=>ag3 B4 m aa4 c ac9 ae5 ad1 b2 b3 m2 b7 Y
theorem bE8 {B4:List Int}{m:f5}{aa4:f3}{c:d9}{ac9 ae5:Int}{ad1:Bool}{b2 b3:List Int}{r:List f5}{x:A4⊕(List f5)} (h:aA0 B4 m aa4 c ac9 ae5 ad1 b2 b3=some x) (ha:D2 (N8 B4 m aa4 c ac9 ae5 ad1 b2 b3) r x):i4 E (Cx.of Tryz.f63 true 4) (QW (Rs (D1 aa4 c ac9 ae5 ad1 b2 b3) r)) (.go ((W5 B4 m aa4 c ac9 ae5 ad1 b2 b3) (.s0))):=by
 unfold aA0 at h
 refine n8 hm 16 _ ?_
 obtain rfl:=Option.some.inj h
 refine ay5 1704 [.matc 6 0 0 26] (m' :=⟨[.code (z0 [1,1,0,1,0]),.blk 0,.code (z0 [1,1,1])],[(3,.ptr 4 0 0),(5,.ptr 5 0 0),(7,.ptr 6 0 0),(9,.fn 116 [] [.iptr 1 [[.sl false 1 (List.map (d8 .i64) B4)]] 0 0])],[some ⟨88,true,[(f3.l aa4 (d9.l c [.int .i64 ac9,.ptr 1 0 0]))]⟩,some ⟨4,true,[[(i5 2 (List.map (d8 .u8) b2)),(i5 3 (List.map (d8 .u8) b3)),.int .i64 ae5,.bool ad1]]⟩,some ⟨1,false,(List.map (d8 .u8) b2)⟩,some ⟨1,false,(List.map (d8 .u8) b3)⟩,some ⟨1,true,[[.ptr 0 0 0]]⟩,some ⟨26,false,[(f5.enc m)]⟩,some ⟨1,true,[[.msl 7 0 0 0 false]]⟩,some ⟨26,false,[]⟩]⟩) (by kernel_rfl) ?_
 refine ah4 (n1:=0) (n2:=(List.map f5.enc ([])).length) (fun n_len=> .go ⟨[.code (z0 [1,1,0,1,0]),.blk 0,.code (z0 [1,1,1])],[(3,.ptr 4 0 0),(5,.ptr 5 0 0),(7,.ptr 6 0 0),(9,.fn 116 [] [.iptr 1 [[.sl false 1 (List.map (d8 .i64) B4)]] 0 0])],[some ⟨88,true,[(f3.l aa4 (d9.l c [.int .i64 ac9,.ptr 1 0 0]))]⟩,some ⟨4,true,[[(i5 2 (List.map (d8 .u8) b2)),(i5 3 (List.map (d8 .u8) b3)),.int .i64 ae5,.bool ad1]]⟩,some ⟨1,false,(List.map (d8 .u8) b2)⟩,some ⟨1,false,(List.map (d8 .u8) b3)⟩,some ⟨1,true,[[.ptr 0 0 0]]⟩,some ⟨26,false,[(f5.enc m)]⟩,some ⟨1,true,[[.msl 7 0 n_len n_len false]]⟩,some ⟨26,false,[]⟩]⟩) (by simp) ?_
 exact ha
theorem bD6 {B4:List Int}{m:f5}{aa4:f3}{c:d9}{ac9 ae5:Int}{ad1:Bool}{b2 b3:List Int}{b7 r:List f5}{x:A4⊕(List f5)} (h:ag5 B4 m aa4 c ac9 ae5 ad1 b2 b3 b7=some x) (ha:D2 (N8 B4 m aa4 c ac9 ae5 ad1 b2 b3) r x):i4 E (Cx.of Tryz.f63 true 4) (QW (Rs (D1 aa4 c ac9 ae5 ad1 b2 b3) r)) (.go ((W5 B4 m aa4 c ac9 ae5 ad1 b2 b3) (.s1 b7))):=by
 unfold ag5 at h
 refine n8 hm 1 _ ?_
 have ok1:=fun(y:List Int) (hy:aN5 B4=some y)=>cr4 hy
 refine du8 (m:=7) (c:=z0 [1,1,0,1,0]) (t:= [.blk 0,.code (z0 [1,1,1])]) (fr:= [(3,.ptr 4 0 0),(5,.ptr 5 0 0),(7,.ptr 6 0 0),(9,.fn 116 [] [.iptr 1 [[.sl false 1 (List.map (d8 .i64) B4)]] 0 0])]) (σ:= [some ⟨88,true,[(f3.l aa4 (d9.l c [.int .i64 ac9,.ptr 1 0 0]))]⟩,some ⟨4,true,[[(i5 2 (List.map (d8 .u8) b2)),(i5 3 (List.map (d8 .u8) b3)),.int .i64 ae5,.bool ad1]]⟩,some ⟨1,false,(List.map (d8 .u8) b2)⟩,some ⟨1,false,(List.map (d8 .u8) b3)⟩,some ⟨1,true,[[.ptr 0 0 0]]⟩,some ⟨26,false,[(f5.enc m)]⟩,some ⟨1,true,[[(i5 7 (List.map f5.enc b7))]]⟩,some ⟨26,false,(List.map f5.enc b7)⟩]) (caps1:= [.iptr 1 [[.sl false 1 (List.map (d8 .i64) B4)]] 0 0]) (caps:= [.iptr 1 [[.sl false 1 (List.map (d8 .i64) B4)]] 0 0]) (sub1:= []) (sub:= []) N2 h (by kernel_rfl) ⟨rfl,rfl⟩ (by kernel_rfl) (by kernel_rfl) ok1 (fun y1 h1 h=> ?_)
 obtain rfl:=Option.some.inj h
 exact ha
theorem bz2 {B4:List Int}{m:f5}{aa4:f3}{c:d9}{ac9 ae5:Int}{ad1:Bool}{b2 b3:List Int}{m2:f5}{b7 r:List f5}{x:A4⊕(List f5)} (h:ae0 B4 m aa4 c ac9 ae5 ad1 b2 b3 m2 b7=some x) (ha:D2 (N8 B4 m aa4 c ac9 ae5 ad1 b2 b3) r x):Q8 E (Cx.of Tryz.f63 true 4) (QW (Rs (D1 aa4 c ac9 ae5 ad1 b2 b3) r)) 7 (z0 [1,1,0,1,0]) [.blk 0,.code (z0 [1,1,1])] [(3,.ptr 4 0 0),(5,.ptr 5 0 0),(7,.ptr 6 0 0),(9,.fn 116 [] [.iptr 1 [[.sl false 1 (List.map (d8 .i64) B4)]] 0 0])] [] [] ([]) [some ⟨88,true,[(f3.l aa4 (d9.l c [.int .i64 ac9,.ptr 1 0 0]))]⟩,some ⟨4,true,[[(i5 2 (List.map (d8 .u8) b2)),(i5 3 (List.map (d8 .u8) b3)),.int .i64 ae5,.bool ad1]]⟩,some ⟨1,false,(List.map (d8 .u8) b2)⟩,some ⟨1,false,(List.map (d8 .u8) b3)⟩,some ⟨1,true,[[.ptr 0 0 0]]⟩,some ⟨26,false,[(f5.enc m2)]⟩,some ⟨1,true,[[(i5 7 (List.map f5.enc b7))]]⟩,some ⟨26,false,(List.map f5.enc b7)⟩]:=by
 unfold ae0 at h
 refine bo0 ?_
 exact ztP 8 h ha
theorem bA0 {B4:List Int}{m:f5}{aa4:f3}{c:d9}{ac9 ae5:Int}{ad1:Bool}{b2 b3:List Int}{m2:f5}{b7:List f5}{y:Int}{Y:List Int}{r:List f5}{x:A4⊕(List f5)} (h:ad9 B4 m aa4 c ac9 ae5 ad1 b2 b3 m2 b7 y Y=some x) (ha:D2 (N8 B4 m aa4 c ac9 ae5 ad1 b2 b3) r x):Q8 E (Cx.of Tryz.f63 true 4) (QW (Rs (D1 aa4 c ac9 ae5 ad1 b2 b3) r)) 7 (z0 [1,1,0,1,0]) [.blk 0,.code (z0 [1,1,1])] [(3,.ptr 4 0 0),(5,.ptr 5 0 0),(7,.ptr 6 0 0),(9,.fn 116 [] [.iptr 1 [[.sl false 1 (List.map (d8 .i64) B4)]] 0 0])] [] [] (N2 y::List.map N2 Y) [some ⟨88,true,[(f3.l aa4 (d9.l c [.int .i64 ac9,.ptr 1 0 0]))]⟩,some ⟨4,true,[[(i5 2 (List.map (d8 .u8) b2)),(i5 3 (List.map (d8 .u8) b3)),.int .i64 ae5,.bool ad1]]⟩,some ⟨1,false,(List.map (d8 .u8) b2)⟩,some ⟨1,false,(List.map (d8 .u8) b3)⟩,some ⟨1,true,[[.ptr 0 0 0]]⟩,some ⟨26,false,[(f5.enc m2)]⟩,some ⟨1,true,[[(i5 7 (List.map f5.enc b7))]]⟩,some ⟨26,false,(List.map f5.enc b7)⟩]:=by
 unfold ad9 at h
 refine bc3 ?_
 refine zd 7 [] h (fun _=>Z7) fun y1 h=> ?_
 refine zn 12 h fun h=> ?_
 refine za 0 f5.enc b7 ([(⟨m2.Kind,y1,y,m2.Epoch,m2.Ballot,m2.Accepted,m2.Nonce,m2.Time,m2.Up,m2.Code,m2.HasPlan,m2.Plan,m2.ID,m2.Session,m2.Payload⟩:f5)]) ?_
 refine n8 hm 6 _ ?_
 obtain rfl:=Option.some.inj h
 exact aT6 [] (s1:= [some ⟨88,true,[(f3.l aa4 (d9.l c [.int .i64 ac9,.ptr 1 0 0]))]⟩,some ⟨4,true,[[(i5 2 (List.map (d8 .u8) b2)),(i5 3 (List.map (d8 .u8) b3)),.int .i64 ae5,.bool ad1]]⟩,some ⟨1,false,(List.map (d8 .u8) b2)⟩,some ⟨1,false,(List.map (d8 .u8) b3)⟩,some ⟨1,true,[[.ptr 0 0 0]]⟩,some ⟨26,false,[(.int .i64 m2.Kind::.int .i64 y1::.int .i64 y::.int .i64 m2.Epoch::.int .i64 m2.Ballot::.int .i64 m2.Accepted::.int .i64 m2.Nonce::.int .i64 m2.Time::.int .u64 m2.Up::.int .i64 m2.Code::.bool m2.HasPlan::Plan.l m2.Plan [.sl false 1 (List.map (d8 .i64) m2.ID),.sl false 1 (List.map (d8 .u8) m2.Session),.sl false 1 (List.map (d8 .u8) m2.Payload)])]⟩,some ⟨1,true,[[.msl 7 0 ((List.map f5.enc (b7++ [(⟨m2.Kind,y1,y,m2.Epoch,m2.Ballot,m2.Accepted,m2.Nonce,m2.Time,m2.Up,m2.Code,m2.HasPlan,m2.Plan,m2.ID,m2.Session,m2.Payload⟩:f5)])).length) ((List.map f5.enc (b7++ [(⟨m2.Kind,y1,y,m2.Epoch,m2.Ballot,m2.Accepted,m2.Nonce,m2.Time,m2.Up,m2.Code,m2.HasPlan,m2.Plan,m2.ID,m2.Session,m2.Payload⟩:f5)])).length) false]]⟩,some ⟨26,false,(List.map f5.enc (b7++ [(⟨m2.Kind,y1,y,m2.Epoch,m2.Ballot,m2.Accepted,m2.Nonce,m2.Time,m2.Up,m2.Code,m2.HasPlan,m2.Plan,m2.ID,m2.Session,m2.Payload⟩:f5)]))⟩]) (s:= [some ⟨88,true,[(f3.l aa4 (d9.l c [.int .i64 ac9,.ptr 1 0 0]))]⟩,some ⟨4,true,[[(i5 2 (List.map (d8 .u8) b2)),(i5 3 (List.map (d8 .u8) b3)),.int .i64 ae5,.bool ad1]]⟩,some ⟨1,false,(List.map (d8 .u8) b2)⟩,some ⟨1,false,(List.map (d8 .u8) b3)⟩,some ⟨1,true,[[.ptr 0 0 0]]⟩,some ⟨26,false,[(.int .i64 m2.Kind::.int .i64 y1::.int .i64 y::.int .i64 m2.Epoch::.int .i64 m2.Ballot::.int .i64 m2.Accepted::.int .i64 m2.Nonce::.int .i64 m2.Time::.int .u64 m2.Up::.int .i64 m2.Code::.bool m2.HasPlan::Plan.l m2.Plan [.sl false 1 (List.map (d8 .i64) m2.ID),.sl false 1 (List.map (d8 .u8) m2.Session),.sl false 1 (List.map (d8 .u8) m2.Payload)])]⟩,some ⟨1,true,[[.msl 7 0 ((List.map f5.enc (b7++ [(⟨m2.Kind,y1,y,m2.Epoch,m2.Ballot,m2.Accepted,m2.Nonce,m2.Time,m2.Up,m2.Code,m2.HasPlan,m2.Plan,m2.ID,m2.Session,m2.Payload⟩:f5)])).length) ((List.map f5.enc (b7++ [(⟨m2.Kind,y1,y,m2.Epoch,m2.Ballot,m2.Accepted,m2.Nonce,m2.Time,m2.Up,m2.Code,m2.HasPlan,m2.Plan,m2.ID,m2.Session,m2.Payload⟩:f5)])).length) false]]⟩,some ⟨26,false,(List.map f5.enc (b7++ [(⟨m2.Kind,y1,y,m2.Epoch,m2.Ballot,m2.Accepted,m2.Nonce,m2.Time,m2.Up,m2.Code,m2.HasPlan,m2.Plan,m2.ID,m2.Session,m2.Payload⟩:f5)]))⟩]) (by kernel_rfl) (rfl) (by kernel_rfl) ha
theorem bE7 {B4:List Int}{m:f5}{aa4:f3}{c:d9}{ac9 ae5:Int}{ad1:Bool}{b2 b3:List Int}{m2:f5}{b7:List f5}{Y:List Int}{r:List f5}{x:A4⊕(List f5)} (h:ag3 B4 m aa4 c ac9 ae5 ad1 b2 b3 m2 b7 Y=some x) (ha:D2 (N8 B4 m aa4 c ac9 ae5 ad1 b2 b3) r x):Q8 E (Cx.of Tryz.f63 true 4) (QW (Rs (D1 aa4 c ac9 ae5 ad1 b2 b3) r)) 7 (z0 [1,1,0,1,0]) [.blk 0,.code (z0 [1,1,1])] [(3,.ptr 4 0 0),(5,.ptr 5 0 0),(7,.ptr 6 0 0),(9,.fn 116 [] [.iptr 1 [[.sl false 1 (List.map (d8 .i64) B4)]] 0 0])] [] [] (List.map N2 Y) [some ⟨88,true,[(f3.l aa4 (d9.l c [.int .i64 ac9,.ptr 1 0 0]))]⟩,some ⟨4,true,[[(i5 2 (List.map (d8 .u8) b2)),(i5 3 (List.map (d8 .u8) b3)),.int .i64 ae5,.bool ad1]]⟩,some ⟨1,false,(List.map (d8 .u8) b2)⟩,some ⟨1,false,(List.map (d8 .u8) b3)⟩,some ⟨1,true,[[.ptr 0 0 0]]⟩,some ⟨26,false,[(f5.enc m2)]⟩,some ⟨1,true,[[(i5 7 (List.map f5.enc b7))]]⟩,some ⟨26,false,(List.map f5.enc b7)⟩]:=by
 cases Y with
 | nil=>exact bz2 h ha
 | cons y Y=>exact bA0 h ha
noncomputable def aH9 (B4:List Int) (m:f5) (aa4:f3) (c:d9) (ac9 ae5:Int) (ad1:Bool) (b2 b3:List Int):Option (List f5):=T3 (K7 B4 m aa4 c ac9 ae5 ad1 b2 b3) (.s0)
theorem bN5 {B4:List Int}{m:f5}{aa4:f3}{c:d9}{ac9 ae5:Int}{ad1:Bool}{b2 b3:List Int}{r:List f5} (h:Ev (K7 B4 m aa4 c ac9 ae5 ad1 b2 b3) (.s0) r):i7 E 63 [.ptr 0 0 0,.fn 116 [] [.iptr 1 [[.sl false 1 (List.map (d8 .i64) B4)]] 0 0],.agg (f5.enc m)] [some ⟨88,true,[(f3.l aa4 (d9.l c [.int .i64 ac9,.ptr 1 0 0]))]⟩,some ⟨4,true,[[(i5 2 (List.map (d8 .u8) b2)),(i5 3 (List.map (d8 .u8) b3)),.int .i64 ae5,.bool ad1]]⟩,some ⟨1,false,(List.map (d8 .u8) b2)⟩,some ⟨1,false,(List.map (d8 .u8) b3)⟩] (Rs (D1 aa4 c ac9 ae5 ad1 b2 b3) r):=
 ay0 (m:=(W5 B4 m aa4 c ac9 ae5 ad1 b2 b3) (.s0)) (fn:=Tryz.f63) (by kernel_rfl) (by kernel_rfl) (bo5 (Pd:=(N8 B4 m aa4 c ac9 ae5 ad1 b2 b3)) (fun s x r hs ha=>by
  cases s with
  | s0=>exact bE8 hs ha
  | s1=>exact bD6 hs ha
  | s2=>exact bE7 hs ha) h)
theorem bN3 {B4:List Int}{m:f5}{aa4:f3}{c:d9}{ac9 ae5:Int}{ad1:Bool}{b2 b3:List Int}{r:List f5} (h:aH9 B4 m aa4 c ac9 ae5 ad1 b2 b3=some r):i7 E 63 [.ptr 0 0 0,.fn 116 [] [.iptr 1 [[.sl false 1 (List.map (d8 .i64) B4)]] 0 0],.agg (f5.enc m)] [some ⟨88,true,[(f3.l aa4 (d9.l c [.int .i64 ac9,.ptr 1 0 0]))]⟩,some ⟨4,true,[[(i5 2 (List.map (d8 .u8) b2)),(i5 3 (List.map (d8 .u8) b3)),.int .i64 ae5,.bool ad1]]⟩,some ⟨1,false,(List.map (d8 .u8) b2)⟩,some ⟨1,false,(List.map (d8 .u8) b3)⟩] (Rs (D1 aa4 c ac9 ae5 ad1 b2 b3) r):=bN5 (bu5 h)
noncomputable def dF5 (y:Bool):D×i0:=(.bool y,[])
noncomputable def bj5 (p_:Plan) (bv0:Int):Option Bool:=(bif (decide (bv0≥0)) then (bif (bv0==p_.Target) then (some true) else (bif (bv0==p_.Prev) then (bif (decide (p_.Percent<100)) then (some true) else (some (bv0==p_.Spill))) else (some (bv0==p_.Spill)))) else (some false))
theorem dr6 {p_:Plan}{bv0:Int}{r:Bool} (h:bj5 p_ bv0=some r):i7 E 83 [.agg (Plan.enc p_),.int .i64 bv0] [] (Rs dF5 r):=so (fn:=Tryz.f83) (k:=false) (m:=0) h<| by
 intro r h;unfold bj5 at h
 refine zs 11 h (fun h=> ?_) fun h=> ?_
 ·
  refine zs 10 h (fun h=> ?_) fun h=> ?_
  ·
   exact zu 34 h
  refine zs 10 h (fun h=> ?_) fun h=> ?_
  ·
   refine zs 14 h (fun h=> ?_) fun h=> ?_
   ·
    exact zu 14 h
   exact zu 15 h
  exact zu 29 h
 exact zu 32 h
noncomputable def cF0 (y:l7):D×i0:=(.agg (l7.enc y),[])
noncomputable def aT8 (ar4 cS0:Int) (own:Plan):Option l7:=(some (⟨ar4,cS0,1,(⟨ar4,own.Target,own.Prev,own.Spill,own.Percent,own.Stamp,own.Since,own.Ramped,own.Up,own.Sup,own.Pen,own.Changes⟩:Plan),0,(⟨0,0,0,0,0,0,0,0,0,0,[],[]⟩:Plan),0,0⟩:l7))
theorem cA8 {ar4 cS0:Int}{own:Plan}{r:l7} (h:aT8 ar4 cS0 own=some r):i7 E 82 [.int .i64 ar4,.int .i64 cS0,.agg (Plan.enc own)] [] (Rs cF0 r):=so (fn:=Tryz.f82) (k:=false) (m:=0) h<| by
 intro r h;unfold aT8 at h
 exact zu 26 h [.slot 0 [some 1,some 1]]
noncomputable def cQ7 (y:List Int):D×i0:=(.fn 116 [] [.iptr 1 [[.sl false 1 (List.map (d8 .i64) y)]] 0 0],[])
noncomputable def bb6 (s_:List Int):Option (List Int):=(some s_)
theorem cI1 {s_ r:List Int} (h:bb6 s_=some r):i7 E 84 [.sl false 1 (List.map (d8 .i64) s_)] [] (Rs cQ7 r):=so (fn:=Tryz.f84) (k:=false) (m:=0) h<| by
 intro r h;unfold bb6 at h
 exact zu 11 h
noncomputable def A2:=u5 (u6 Tryz.f52)
noncomputable def bC4 (c:d9) (ac9 ae5:Int) (ad1:Bool) (b2 b3:List Int) (y:(List f5)×f3):D×i0:=(.sl false 26 (List.map f5.enc y.1),[some ⟨88,true,[(f3.l y.2 (d9.l c [.int .i64 ac9,.ptr 1 0 0]))]⟩,some ⟨4,true,[[(i5 2 (List.map (d8 .u8) b2)),(i5 3 (List.map (d8 .u8) b3)),.int .i64 ae5,.bool ad1]]⟩,some ⟨1,false,(List.map (d8 .u8) b2)⟩,some ⟨1,false,(List.map (d8 .u8) b3)⟩])
inductive G9 where
 | s0
 | s1 (t42:Bool)
 | s3 (change ay8:Bool) (next:Plan)
 | s2 (change:Bool) (b bz6 aH8:Int) (e9:f3) (A9 ao2:List Int)
 | s4 (change:Bool) (b:Int) (ao2:List Int) (e9:f3) (A9:List Int)
 | s7 (b:Int) (ao2:List Int) (e9:f3) (A9:List Int) (i6:List f5)
 | s6 (cg1:Bool) (e9:f3) (i6:List f5) (ask:f5)
 | s5 (e9:f3) (i6:List f5) (ask:f5)
noncomputable def bC7 (f4:Int) (aa4:f3) (c:d9) (ac9 ae5:Int) (ad1:Bool) (b2 b3:List Int):G9→M
 | .s0=>C3 Tryz.f52 [.ptr 0 0 0,.int .i64 f4] [some ⟨88,true,[(f3.l aa4 (d9.l c [.int .i64 ac9,.ptr 1 0 0]))]⟩,some ⟨4,true,[[(i5 2 (List.map (d8 .u8) b2)),(i5 3 (List.map (d8 .u8) b3)),.int .i64 ae5,.bool ad1]]⟩,some ⟨1,false,(List.map (d8 .u8) b2)⟩,some ⟨1,false,(List.map (d8 .u8) b3)⟩]
 | .s1 t42=>⟨[.code (A2 [1,0,1]),.code (A2 [1,1])],[(0,.ptr 0 0 0),(1,.int .i64 f4),(42,.bool t42)],[some ⟨88,true,[(f3.l aa4 (d9.l c [.int .i64 ac9,.ptr 1 0 0]))]⟩,some ⟨4,true,[[(i5 2 (List.map (d8 .u8) b2)),(i5 3 (List.map (d8 .u8) b3)),.int .i64 ae5,.bool ad1]]⟩,some ⟨1,false,(List.map (d8 .u8) b2)⟩,some ⟨1,false,(List.map (d8 .u8) b3)⟩]⟩
 | .s3 change ay8 next=>⟨[.code (A2 [1,1,1,1,1,0,1]),.code (A2 [1,1,1,1,1,1])],[(0,.ptr 0 0 0),(1,.int .i64 f4),(5,.ptr 4 0 0),(7,.bool change),(105,.bool ay8)],[some ⟨88,true,[(f3.l aa4 (d9.l c [.int .i64 ac9,.ptr 1 0 0]))]⟩,some ⟨4,true,[[(i5 2 (List.map (d8 .u8) b2)),(i5 3 (List.map (d8 .u8) b3)),.int .i64 ae5,.bool ad1]]⟩,some ⟨1,false,(List.map (d8 .u8) b2)⟩,some ⟨1,false,(List.map (d8 .u8) b3)⟩,some ⟨12,false,[(Plan.enc next)]⟩]⟩
 | .s2 change b bz6 aH8 e9 A9 ao2=>⟨[.lpc (A2 [1,1,1,1,1,1,1,1,1,1,0,1,0,0]) 68507889249886074290797726533575766546371841409,.blk 0,.code (A2 [1,1,1,1,1,1,1,1,1,1,1])],[(0,.ptr 0 0 0),(7,.bool change),(8,.int .i64 b),(10,(i5 4 (List.map (d8 .i64) A9))),(11,(i5 5 (List.map (d8 .i64) ao2))),(154,.int .i64 bz6),(155,.int .i64 aH8)],[some ⟨88,true,[(f3.l e9 (d9.l c [.int .i64 ac9,.ptr 1 0 0]))]⟩,some ⟨4,true,[[(i5 2 (List.map (d8 .u8) b2)),(i5 3 (List.map (d8 .u8) b3)),.int .i64 ae5,.bool ad1]]⟩,some ⟨1,false,(List.map (d8 .u8) b2)⟩,some ⟨1,false,(List.map (d8 .u8) b3)⟩,some ⟨1,false,(List.map (d8 .i64) A9)⟩,some ⟨1,false,(List.map (d8 .i64) ao2)⟩]⟩
 | .s4 change b ao2 e9 A9=>⟨[.code (A2 [1,1,1,1,1,1,1,1,1,1,1])],[(0,.ptr 0 0 0),(7,.bool change),(8,.int .i64 b),(10,(i5 4 (List.map (d8 .i64) A9))),(11,.sl false 1 (List.map (d8 .i64) ao2))],[some ⟨88,true,[(f3.l e9 (d9.l c [.int .i64 ac9,.ptr 1 0 0]))]⟩,some ⟨4,true,[[(i5 2 (List.map (d8 .u8) b2)),(i5 3 (List.map (d8 .u8) b3)),.int .i64 ae5,.bool ad1]]⟩,some ⟨1,false,(List.map (d8 .u8) b2)⟩,some ⟨1,false,(List.map (d8 .u8) b3)⟩,some ⟨1,false,(List.map (d8 .i64) A9)⟩]⟩
 | .s7 b ao2 e9 A9 i6=>⟨[.code (A2 [1,1,1,1,1,1,1,1,1,1,1,1,1])],[(0,.ptr 0 0 0),(8,.int .i64 b),(10,(i5 4 (List.map (d8 .i64) A9))),(11,.sl false 1 (List.map (d8 .i64) ao2)),(13,(i5 5 (List.map f5.enc i6)))],[some ⟨88,true,[(f3.l e9 (d9.l c [.int .i64 ac9,.ptr 1 0 0]))]⟩,some ⟨4,true,[[(i5 2 (List.map (d8 .u8) b2)),(i5 3 (List.map (d8 .u8) b3)),.int .i64 ae5,.bool ad1]]⟩,some ⟨1,false,(List.map (d8 .u8) b2)⟩,some ⟨1,false,(List.map (d8 .u8) b3)⟩,some ⟨1,false,(List.map (d8 .i64) A9)⟩,some ⟨26,false,(List.map f5.enc i6)⟩]⟩
 | .s6 cg1 e9 i6 ask=>⟨[.code (A2 [1,1,1,1,1,1,1,1,1,1,1,1,1,1,0,1]),.code (A2 [1,1,1,1,1,1,1,1,1,1,1,1,1,1,1])],[(0,.ptr 0 0 0),(13,(i5 4 (List.map f5.enc i6))),(14,.ptr 5 0 0),(220,.bool cg1)],[some ⟨88,true,[(f3.l e9 (d9.l c [.int .i64 ac9,.ptr 1 0 0]))]⟩,some ⟨4,true,[[(i5 2 (List.map (d8 .u8) b2)),(i5 3 (List.map (d8 .u8) b3)),.int .i64 ae5,.bool ad1]]⟩,some ⟨1,false,(List.map (d8 .u8) b2)⟩,some ⟨1,false,(List.map (d8 .u8) b3)⟩,some ⟨26,false,(List.map f5.enc i6)⟩,some ⟨26,false,[(f5.enc ask)]⟩]⟩
 | .s5 e9 i6 ask=>⟨[.code (A2 [1,1,1,1,1,1,1,1,1,1,1,1,1,1,1])],[(0,.ptr 0 0 0),(13,(i5 4 (List.map f5.enc i6))),(14,.ptr 5 0 0)],[some ⟨88,true,[(f3.l e9 (d9.l c [.int .i64 ac9,.ptr 1 0 0]))]⟩,some ⟨4,true,[[(i5 2 (List.map (d8 .u8) b2)),(i5 3 (List.map (d8 .u8) b3)),.int .i64 ae5,.bool ad1]]⟩,some ⟨1,false,(List.map (d8 .u8) b2)⟩,some ⟨1,false,(List.map (d8 .u8) b3)⟩,some ⟨26,false,(List.map f5.enc i6)⟩,some ⟨26,false,[(f5.enc ask)]⟩]⟩
abbrev Q0 (f4:Int) (aa4:f3) (c:d9) (ac9 ae5:Int) (ad1:Bool) (b2 b3:List Int):=SOk E (Cx.of Tryz.f52 true 4) (bC4 c ac9 ae5 ad1 b2 b3) (bC7 f4 aa4 c ac9 ae5 ad1 b2 b3)
noncomputable def am7 (f4:Int) (aa4:f3) (c:d9) (ac9 ae5:Int) (ad1:Bool) (b2 b3:List Int):Option (G9⊕((List f5)×f3)):=((al9 f4 aa4 c ac9 ae5 ad1 b2 b3).bind fun y1=>(bif (!y1) then (some (.inl (.s1 true))) else (bif (aa4.prop.Phase !=0) then (some (.inl (.s1 (decide (((IntKind.i64.wrap (f4-aa4.made)):Int)<c.Retry))))) else (some (.inl (.s1 false))))))
noncomputable def an2 (f4:Int) (aa4:f3) (c:d9) (ac9 ae5:Int) (ad1:Bool) (b2 b3:List Int) (t42:Bool):Option (G9⊕((List f5)×f3)):=(bif t42 then (some (.inr ([],aa4))) else ((bt6 aa4.votes c.Observers f4 c.Fresh).bind fun y2=>((az2 c aa4.known y2 f4).bind fun y3=>(bif (!y3.2) then (some (.inr ([],(⟨aa4.boot,aa4.known,aa4.heard,aa4.votes,aa4.hold,aa4.asked,(⟨0,0,0,(⟨0,0,0,0,0,0,0,0,0,0,[],[]⟩:Plan),0,(⟨0,0,0,0,0,0,0,0,0,0,[],[]⟩:Plan),0,0⟩:l7),aa4.made,aa4.top,aa4.sealed,aa4.told⟩:f3)))) else (bif ((y3.1.Target:Int) !=aa4.known.Target) then (some (.inl (.s3 ((y3.1.Target:Int) !=aa4.known.Target) (decide (((IntKind.i64.wrap (f4-aa4.heard)):Int)<c.D_)) y3.1))) else (some (.inl (.s3 ((y3.1.Target:Int) !=aa4.known.Target) false y3.1))))))))
noncomputable def ao5 (f4:Int) (aa4:f3) (c:d9) (ac9 ae5:Int) (ad1:Bool) (b2 b3:List Int) (change ay8:Bool) (next:Plan):Option (G9⊕((List f5)×f3)):=(bif ay8 then (some (.inr ([],aa4))) else ((aY4 aa4.top aa4.boot ac9).bind fun y2=>(bif ((y2.2:Int) !=0) then (some (.inr ([],aa4))) else ((aT8 (IntKind.i64.wrap (aa4.known.Epoch+1)) y2.1 next).bind fun y4=>(some (.inl (.s2 change y2.1 c.Targets 0 (⟨aa4.boot,aa4.known,aa4.heard,aa4.votes,aa4.hold,aa4.asked,y4,f4,y2.1,aa4.sealed,aa4.told⟩:f3) ([]) ([]))))))))
noncomputable def U4 (f4:Int) (aa4:f3) (c:d9) (ac9 ae5:Int) (ad1:Bool) (b2 b3:List Int) (change:Bool) (b bz6 aH8:Int) (e9:f3) (A9 ao2:List Int):Option (G9⊕((List f5)×f3)):=(bif (decide (aH8<bz6)) then ((bj5 e9.known aH8).bind fun y2=>(bif y2 then (bif (decide (((List.map (d8 .i64) A9).length+1)*8≤l6)) then (bif (!decide (aH8<0)) then (bif (((m9 .u64 (r5 .u64 e9.sealed aH8) 1):Int)==0) then ((af5 c aH8).bind fun y7=>(bif (decide (((List.map (d8 .i64) ao2).length+1)*8≤l6)) then (some (.inl (.s2 change b bz6 (IntKind.i64.wrap (aH8+1)) e9 (A9++ [aH8]) (ao2++ [y7])))) else none)) else (some (.inl (.s2 change b bz6 (IntKind.i64.wrap (aH8+1)) e9 (A9++ [aH8]) ao2)))) else none) else none) else (some (.inl (.s2 change b bz6 (IntKind.i64.wrap (aH8+1)) e9 A9 ao2))))) else (some (.inl (.s4 change b ao2 e9 A9))))
noncomputable def aA8 (f4:Int) (aa4:f3) (c:d9) (ac9 ae5:Int) (ad1:Bool) (b2 b3:List Int) (change:Bool) (b:Int) (ao2:List Int) (e9:f3) (A9:List Int):Option (G9⊕((List f5)×f3)):=(bif change then ((bb6 ao2).bind fun y2=>((aH9 y2 (⟨12,0,0,e9.prop.Epoch,0,0,0,0,0,0,false,(⟨0,0,0,0,0,0,0,0,0,0,[],[]⟩:Plan),[],[],[]⟩:f5) e9 c ac9 ae5 ad1 b2 b3).bind fun y3=>(some (.inl (.s7 b ao2 e9 A9 y3))))) else (some (.inl (.s7 b ao2 e9 A9 ([])))))
noncomputable def aB0 (f4:Int) (aa4:f3) (c:d9) (ac9 ae5:Int) (ad1:Bool) (b2 b3:List Int) (b:Int) (ao2:List Int) (e9:f3) (A9:List Int) (i6:List f5):Option (G9⊕((List f5)×f3)):=(bif (decide (((((List.map (d8 .i64) A9).length:Nat):Int):Int)>0)) then (some (.inl (.s6 (((((List.map (d8 .i64) ao2).length:Nat):Int):Int)==0) e9 i6 (⟨4,0,0,e9.prop.Epoch,b,0,0,0,0,0,true,e9.known,[],[],[]⟩:f5)))) else (some (.inl (.s6 false e9 i6 (⟨4,0,0,e9.prop.Epoch,b,0,0,0,0,0,true,e9.known,[],[],[]⟩:f5)))))
noncomputable def aW8 (f4:Int) (aa4:f3) (c:d9) (ac9 ae5:Int) (ad1:Bool) (b2 b3:List Int) (cg1:Bool) (e9:f3) (i6:List f5) (ask:f5):Option (G9⊕((List f5)×f3)):=(bif cg1 then (some (.inl (.s5 e9 i6 (⟨ask.Kind,ask.From,ask.To,ask.Epoch,ask.Ballot,ask.Accepted,ask.Nonce,ask.Time,ask.Up,1,ask.HasPlan,ask.Plan,ask.ID,ask.Session,ask.Payload⟩:f5)))) else (some (.inl (.s5 e9 i6 ask))))
noncomputable def aA7 (f4:Int) (aa4:f3) (c:d9) (ac9 ae5:Int) (ad1:Bool) (b2 b3:List Int) (e9:f3) (i6:List f5) (ask:f5):Option (G9⊕((List f5)×f3)):=((P9 e9 c ac9 ae5 ad1 b2 b3).bind fun y1=>((O0 ask e9 c ac9 ae5 ad1 b2 b3).bind fun y2=>(bif (decide (((List.map f5.enc i6).length+(List.take ((List.map f5.enc y2).length) (List.drop 0 (List.map f5.enc y2))).length)*288≤l6)) then (some (.inr ((i6++y2),e9))) else none)))
noncomputable def t0 (f4:Int) (aa4:f3) (c:d9) (ac9 ae5:Int) (ad1:Bool) (b2 b3:List Int):G9→Option (G9⊕((List f5)×f3))
 | .s0=>am7 f4 aa4 c ac9 ae5 ad1 b2 b3
 | .s1 t42=>an2 f4 aa4 c ac9 ae5 ad1 b2 b3 t42
 | .s3 change ay8 next=>ao5 f4 aa4 c ac9 ae5 ad1 b2 b3 change ay8 next
 | .s2 change b bz6 aH8 e9 A9 ao2=>U4 f4 aa4 c ac9 ae5 ad1 b2 b3 change b bz6 aH8 e9 A9 ao2
 | .s4 change b ao2 e9 A9=>aA8 f4 aa4 c ac9 ae5 ad1 b2 b3 change b ao2 e9 A9
 | .s7 b ao2 e9 A9 i6=>aB0 f4 aa4 c ac9 ae5 ad1 b2 b3 b ao2 e9 A9 i6
 | .s6 cg1 e9 i6 ask=>aW8 f4 aa4 c ac9 ae5 ad1 b2 b3 cg1 e9 i6 ask
 | .s5 e9 i6 ask=>aA7 f4 aa4 c ac9 ae5 ad1 b2 b3 e9 i6 ask
theorem ce9 {f4 aa4 c ac9 ae5 ad1 b2 b3}:Q0 f4 aa4 c ac9 ae5 ad1 b2 b3 .s0 (am7 f4 aa4 c ac9 ae5 ad1 b2 b3):=by
 intro r x h ha;unfold am7 at h
 refine zdR 7 [] h (fun _=>bc0) fun y1 h=> ?_
 refine zs 0 h (fun h=> ?_) fun h=> ?_
 ·
  exact zk 9 h ha
 refine zs 8 h (fun h=> ?_) fun h=> ?_
 ·
  exact zk 17 h ha
 exact zk 15 h ha
theorem ca4 {f4 aa4 c ac9 ae5 ad1 b2 b3 t42}:Q0 f4 aa4 c ac9 ae5 ad1 b2 b3 (.s1 t42) (an2 f4 aa4 c ac9 ae5 ad1 b2 b3 t42):=by
 intro r x h ha;unfold an2 at h
 refine zs 1 h (fun h=> ?_) fun h=> ?_
 ·
  exact zt 5 h ha [.slot 0 [some 26]]
 refine zd 8 [] h (fun _=>db1) fun y2 h=> ?_
 refine zd 0 [] h (fun _=>db7) fun y3 h=> ?_
 refine zs 9 h (fun h=> ?_) fun h=> ?_
 ·
  refine zf 15 [.blk 0 [some 1,some 1,some 1,some 1]] ?_
  exact zt 1 h ha [.slot 0 [some 26]]
 refine zs 8 h (fun h=> ?_) fun h=> ?_
 ·
  exact zk 15 h ha
 exact zk 13 h ha
theorem cf7 {f4 aa4 c ac9 ae5 ad1 b2 b3 change ay8 next}:Q0 f4 aa4 c ac9 ae5 ad1 b2 b3 (.s3 change ay8 next) (ao5 f4 aa4 c ac9 ae5 ad1 b2 b3 change ay8 next):=by
 intro r x h ha;unfold ao5 at h
 refine zs 1 h (fun h=> ?_) fun h=> ?_
 ·
  exact zt 5 h ha [.slot 0 [some 26]]
 refine zd 6 [] h (fun _=>dd8) fun y2 h=> ?_
 refine zs 7 h (fun h=> ?_) fun h=> ?_
 ·
  exact zt 5 h ha [.slot 0 [some 26]]
 refine zd 5 [] h (fun _=>cA8) fun y4 h=> ?_
 refine n8 hm 25 _ ?_
 obtain rfl:=Option.some.inj h
 refine ay5 68507889249886074290797726533575766546371841409 [.mat 10 1,.mat 11 1] (m' :=⟨[.lpc (A2 [1,1,1,1,1,1,1,1,1,1,0,1,0,0]) 68507889249886074290797726533575766546371841409,.blk 0,.code (A2 [1,1,1,1,1,1,1,1,1,1,1])],[(0,.ptr 0 0 0),(7,.bool change),(8,.int .i64 y2.1),(10,.msl 4 0 0 0 false),(11,.msl 5 0 0 0 false),(154,.int .i64 c.Targets),(155,.int .i64 0)],[some ⟨88,true,[(.int .i64 aa4.boot::Plan.l aa4.known (.int .i64 aa4.heard::.sl false 3 (List.map i8.enc aa4.votes)::u4.l aa4.hold (.bool aa4.asked.ever::.int .i64 aa4.asked.at_::l7.l y4 (.int .i64 f4::.int .i64 y2.1::.int .u64 aa4.sealed::.bool aa4.told.ever::.int .i64 aa4.told.at_::d9.l c [.int .i64 ac9,.ptr 1 0 0]))))]⟩,some ⟨4,true,[[(i5 2 (List.map (d8 .u8) b2)),(i5 3 (List.map (d8 .u8) b3)),.int .i64 ae5,.bool ad1]]⟩,some ⟨1,false,(List.map (d8 .u8) b2)⟩,some ⟨1,false,(List.map (d8 .u8) b3)⟩,some ⟨1,false,[]⟩,some ⟨1,false,[]⟩]⟩) (by kernel_rfl) ?_
 refine ah4 (n1:=0) (n2:=(List.map (d8 .i64) ([])).length) (fun n_len=> .go ⟨[.lpc (A2 [1,1,1,1,1,1,1,1,1,1,0,1,0,0]) 68507889249886074290797726533575766546371841409,.blk 0,.code (A2 [1,1,1,1,1,1,1,1,1,1,1])],[(0,.ptr 0 0 0),(7,.bool change),(8,.int .i64 y2.1),(10,.msl 4 0 n_len n_len false),(11,.msl 5 0 0 0 false),(154,.int .i64 c.Targets),(155,.int .i64 0)],[some ⟨88,true,[(.int .i64 aa4.boot::Plan.l aa4.known (.int .i64 aa4.heard::.sl false 3 (List.map i8.enc aa4.votes)::u4.l aa4.hold (.bool aa4.asked.ever::.int .i64 aa4.asked.at_::l7.l y4 (.int .i64 f4::.int .i64 y2.1::.int .u64 aa4.sealed::.bool aa4.told.ever::.int .i64 aa4.told.at_::d9.l c [.int .i64 ac9,.ptr 1 0 0]))))]⟩,some ⟨4,true,[[(i5 2 (List.map (d8 .u8) b2)),(i5 3 (List.map (d8 .u8) b3)),.int .i64 ae5,.bool ad1]]⟩,some ⟨1,false,(List.map (d8 .u8) b2)⟩,some ⟨1,false,(List.map (d8 .u8) b3)⟩,some ⟨1,false,[]⟩,some ⟨1,false,[]⟩]⟩) (by simp) ?_
 refine ah4 (n1:=0) (n2:=(List.map (d8 .i64) ([])).length) (fun n_len=> .go ⟨[.lpc (A2 [1,1,1,1,1,1,1,1,1,1,0,1,0,0]) 68507889249886074290797726533575766546371841409,.blk 0,.code (A2 [1,1,1,1,1,1,1,1,1,1,1])],[(0,.ptr 0 0 0),(7,.bool change),(8,.int .i64 y2.1),(10,.msl 4 0 ((List.map (d8 .i64) ([])).length) ((List.map (d8 .i64) ([])).length) false),(11,.msl 5 0 n_len n_len false),(154,.int .i64 c.Targets),(155,.int .i64 0)],[some ⟨88,true,[(.int .i64 aa4.boot::Plan.l aa4.known (.int .i64 aa4.heard::.sl false 3 (List.map i8.enc aa4.votes)::u4.l aa4.hold (.bool aa4.asked.ever::.int .i64 aa4.asked.at_::l7.l y4 (.int .i64 f4::.int .i64 y2.1::.int .u64 aa4.sealed::.bool aa4.told.ever::.int .i64 aa4.told.at_::d9.l c [.int .i64 ac9,.ptr 1 0 0]))))]⟩,some ⟨4,true,[[(i5 2 (List.map (d8 .u8) b2)),(i5 3 (List.map (d8 .u8) b3)),.int .i64 ae5,.bool ad1]]⟩,some ⟨1,false,(List.map (d8 .u8) b2)⟩,some ⟨1,false,(List.map (d8 .u8) b3)⟩,some ⟨1,false,[]⟩,some ⟨1,false,[]⟩]⟩) (by simp) ?_
 exact ha
theorem cf1 {f4 aa4 c ac9 ae5 ad1 b2 b3 change b bz6 aH8 e9 A9 ao2}:Q0 f4 aa4 c ac9 ae5 ad1 b2 b3 (.s2 change b bz6 aH8 e9 A9 ao2) (U4 f4 aa4 c ac9 ae5 ad1 b2 b3 change b bz6 aH8 e9 A9 ao2):=by
 intro r x h ha;unfold U4 at h
 refine zs 7 h (fun h=> ?_) fun h=> ?_
 ·
  refine zc 18 [] h (fun _=>dr6) fun y2 h=> ?_
  refine zs 2 h (fun h=> ?_) fun h=> ?_
  ·
   refine zn 7 h fun h=> ?_
   refine za 0 (d8 .i64) A9 ([aH8]) ?_
   refine zn 12 h fun h=> ?_
   refine zs 4 h (fun h=> ?_) fun h=> ?_
   ·
    refine zc 9 [] h (fun _=>aX0) fun y7 h=> ?_
    refine zn 3 h fun h=> ?_
    refine za 0 (d8 .i64) ao2 ([y7]) ?_
    exact zj 8 h ha
   exact zj 7 h ha
  exact zj 7 h ha
 refine n8 hm 1 _ ?_
 refine bR7 11 (n1:=(0+(List.map (d8 .i64) ao2).length)) (n2:=((List.map (d8 .i64) ao2).length)) (raw:=(List.take ((List.map (d8 .i64) ao2).length) (List.drop 0 (List.map (d8 .i64) ao2)))) (rs:=(List.map (d8 .i64) ao2)) (by kernel_rfl) (A7 _) (by simp only[C0,E8,List.map_take,List.map_drop]) ?_
 exact zk 0 h ha
theorem cd8 {f4 aa4 c ac9 ae5 ad1 b2 b3 change b ao2 e9 A9}:Q0 f4 aa4 c ac9 ae5 ad1 b2 b3 (.s4 change b ao2 e9 A9) (aA8 f4 aa4 c ac9 ae5 ad1 b2 b3 change b ao2 e9 A9):=by
 intro r x h ha;unfold aA8 at h
 refine zs 10 h (fun h=> ?_) fun h=> ?_
 ·
  refine zd 1 [] h (fun _=>cI1) fun y2 h=> ?_
  refine zc 1 [some 1,some 1,some 1,some 1,some 1] h (fun _=>bN3) fun y3 h=> ?_
  exact zk 0 h ha
 refine n8 hm 1 _ ?_
 obtain rfl:=Option.some.inj h
 refine ay5 11521 [.mat 13 26] (m' :=⟨[.code (A2 [1,1,1,1,1,1,1,1,1,1,1,1,1])],[(0,.ptr 0 0 0),(8,.int .i64 b),(10,(i5 4 (List.map (d8 .i64) A9))),(11,.sl false 1 (List.map (d8 .i64) ao2)),(13,.msl 5 0 0 0 false)],[some ⟨88,true,[(f3.l e9 (d9.l c [.int .i64 ac9,.ptr 1 0 0]))]⟩,some ⟨4,true,[[(i5 2 (List.map (d8 .u8) b2)),(i5 3 (List.map (d8 .u8) b3)),.int .i64 ae5,.bool ad1]]⟩,some ⟨1,false,(List.map (d8 .u8) b2)⟩,some ⟨1,false,(List.map (d8 .u8) b3)⟩,some ⟨1,false,(List.map (d8 .i64) A9)⟩,some ⟨26,false,[]⟩]⟩) (by kernel_rfl) ?_
 refine ah4 (n1:=0) (n2:=(List.map f5.enc ([])).length) (fun n_len=> .go ⟨[.code (A2 [1,1,1,1,1,1,1,1,1,1,1,1,1])],[(0,.ptr 0 0 0),(8,.int .i64 b),(10,(i5 4 (List.map (d8 .i64) A9))),(11,.sl false 1 (List.map (d8 .i64) ao2)),(13,.msl 5 0 n_len n_len false)],[some ⟨88,true,[(f3.l e9 (d9.l c [.int .i64 ac9,.ptr 1 0 0]))]⟩,some ⟨4,true,[[(i5 2 (List.map (d8 .u8) b2)),(i5 3 (List.map (d8 .u8) b3)),.int .i64 ae5,.bool ad1]]⟩,some ⟨1,false,(List.map (d8 .u8) b2)⟩,some ⟨1,false,(List.map (d8 .u8) b3)⟩,some ⟨1,false,(List.map (d8 .i64) A9)⟩,some ⟨26,false,[]⟩]⟩) (by simp) ?_
 exact ha
theorem ch4 {f4 aa4 c ac9 ae5 ad1 b2 b3 b ao2 e9 A9 i6}:Q0 f4 aa4 c ac9 ae5 ad1 b2 b3 (.s7 b ao2 e9 A9 i6) (aB0 f4 aa4 c ac9 ae5 ad1 b2 b3 b ao2 e9 A9 i6):=by
 intro r x h ha;unfold aB0 at h
 refine zs 14 h (fun h=> ?_) fun h=> ?_
 ·
  exact zk 7 h ha [.blk 6 [some 1,some 1,some 1]]
 exact zk 7 h ha [.blk 6 [some 1,some 1,some 1]]
theorem ce6 {f4 aa4 c ac9 ae5 ad1 b2 b3 cg1 e9 i6 ask}:Q0 f4 aa4 c ac9 ae5 ad1 b2 b3 (.s6 cg1 e9 i6 ask) (aW8 f4 aa4 c ac9 ae5 ad1 b2 b3 cg1 e9 i6 ask):=by
 intro r x h ha;unfold aW8 at h
 refine zs 1 h (fun h=> ?_) fun h=> ?_
 ·
  exact zk 6 h ha
 exact zk 1 h ha
theorem cf4 {f4 aa4 c ac9 ae5 ad1 b2 b3 e9 i6 ask}:Q0 f4 aa4 c ac9 ae5 ad1 b2 b3 (.s5 e9 i6 ask) (aA7 f4 aa4 c ac9 ae5 ad1 b2 b3 e9 i6 ask):=by
 intro r x h ha;unfold aA7 at h
 refine zdR 2 [] h (fun _=>aH5) fun y1 h=> ?_
 refine zc 1 [] h (fun _=>am2) fun y2 h=> ?_
 refine zm 0 (b:=(Nat.beq ((List.take ((List.map f5.enc y2).length) (List.drop 0 (List.map f5.enc y2))).length) ((List.map f5.enc y2).length))) (by simp) ?_
 refine zn 0 h fun h=> ?_
 refine zm 0 (A7 ((List.map f5.enc i6).length)) ?_
 refine zw 0 (a:=(List.take ((List.map f5.enc i6).length) (List.drop 0 (List.map f5.enc i6))++(List.take ((List.map f5.enc y2).length) (List.drop 0 (List.map f5.enc y2))))) (b:=(List.map f5.enc (i6++y2))) (by simp only[C0,E8,List.map_append,List.map_take,List.map_drop]) ?_
 refine bR7 4 (n1:=(0+(List.map f5.enc (i6++y2)).length)) (n2:=((List.map f5.enc (i6++y2)).length)) (raw:=(List.take ((List.map f5.enc (i6++y2)).length) (List.drop 0 (List.map f5.enc (i6++y2))))) (rs:=(List.map f5.enc (i6++y2))) (by kernel_rfl) (A7 _) (by simp only[C0,E8,List.map_take,List.map_drop]) ?_
 exact zt 1 h ha
noncomputable def aw6 (f4:Int) (aa4:f3) (c:d9) (ac9 ae5:Int) (ad1:Bool) (b2 b3:List Int):Option ((List f5)×f3):=T3 (t0 f4 aa4 c ac9 ae5 ad1 b2 b3) (.s0)
theorem cr6 {f4:Int}{aa4:f3}{c:d9}{ac9 ae5:Int}{ad1:Bool}{b2 b3:List Int}{r:(List f5)×f3} (h:aw6 f4 aa4 c ac9 ae5 ad1 b2 b3=some r):i7 E 52 [.ptr 0 0 0,.int .i64 f4] [some ⟨88,true,[(f3.l aa4 (d9.l c [.int .i64 ac9,.ptr 1 0 0]))]⟩,some ⟨4,true,[[(i5 2 (List.map (d8 .u8) b2)),(i5 3 (List.map (d8 .u8) b3)),.int .i64 ae5,.bool ad1]]⟩,some ⟨1,false,(List.map (d8 .u8) b2)⟩,some ⟨1,false,(List.map (d8 .u8) b3)⟩] (Rs (bC4 c ac9 ae5 ad1 b2 b3) r):=sc (fn:=Tryz.f52) (k:=true) (m:=4) (H9:=(bC7 f4 aa4 c ac9 ae5 ad1 b2 b3)) h fun s=>by
 cases s with
 | s0=>exact ce9
 | s1=>exact ca4
 | s3=>exact cf7
 | s2=>exact cf1
 | s4=>exact cd8
 | s7=>exact ch4
 | s6=>exact ce6
 | s5=>exact cf4
def A8 (c:d9) (i:Int):Int:=2*c.F_+1+i
section
variable {c : d9} (cb : CB c)
include cb
theorem dM7:av0 c=some (2*c.F_+1):=by
 have:=cb.f
 simp only[av0]
 rw[v9 (n:=2*c.F_) (by omega) (by omega),v9 (by omega) (by omega)]
theorem bp7 {i:Int} (hi:0≤i∧i≤100):N1 c i=some (A8 c i):=by
 have:=cb.f
 simp only[N1,dM7 cb,Option.bind_some,A8]
 rw[v9 (by omega) (by omega)]
theorem cG3 {i:Int} (hi:0≤i∧i≤100):af5 c i=some (A8 c (c.Deciders+i)):=by
 have:=cb.f;have:=cb.dec
 simp only[af5,bp7 cb (i:=c.Deciders) (by omega),Option.bind_some,A8]
 rw[v9 (by omega) (by omega)];congr 1;omega
theorem dD8 {i:Int} (hi:0≤i∧i≤100):af0 c i=some (A8 c (c.Deciders+c.Targets+c.Routers+i)):=by
 have:=cb.f;have:=cb.dec;have:=cb.t;have:=cb.rou
 simp only[af0,aU9,cG3 cb (i:=c.Targets) (by omega),Option.bind_some,A8]
 rw[v9 (n:=2*c.F_+1+(c.Deciders+c.Targets)+c.Routers) (by omega) (by omega),v9 (by omega) (by omega)];congr 1;omega
end
def bg2 (c:d9):Nat:=(c.Deciders+c.Targets+c.Routers).toNat
def aH6 (c:d9):List Int:=(List.range (2*c.F_+1).toNat).map fun(k:Nat)=>(k:Int)
def bT4 (c:d9) (ix:Int) (l:List Nat):List Int:=(l.map fun(k:Nat)=>A8 c k).filter fun n=>n !=A8 c ix
def bT1 (c:d9) (ix:Int):List Int:=bT4 c ix (List.range (bg2 c))
def ftM (m:f5) (f t:Int):f5:=⟨m.Kind,f,t,m.Epoch,m.Ballot,m.Accepted,m.Nonce,m.Time,m.Up,m.Code,m.HasPlan,m.Plan,m.ID,m.Session,m.Payload⟩
def toL (c:d9) (ix:Int) (m:f5) (l:List Int):List f5:=l.map fun t=>ftM m (A8 c ix) t
theorem wD {k:Nat} (h:k≤3000000):IntKind.i64.wrap ((k:Int)+1)=((k+1:Nat):Int):=by rw[v9 (by omega) (by omega)];norm_cast
theorem bJ3 {c:d9} (cb:CB c):(aH6 c).length≤7:=by have:=cb.f;simp[aH6];omega
theorem cJ6 {c:d9} (cb:CB c) (ix:Int):(bT1 c ix).length≤24:=by
 have:=cb.dec;have:=cb.t;have:=cb.rou
 have h:=List.length_filter_le (fun n=>n !=A8 c ix) ((List.range (bg2 c)).map fun(k:Nat)=>A8 c k)
 rw[List.length_map,List.length_range] at h
 unfold bT1 bT4
 unfold bg2 at h
 unfold bg2
 omega
section
variable {c : d9} {ix : Int} {st : f3} {fuse : Int} {down : Bool} {s t : List Int}
theorem ef9 (n:Nat) (hn:n≤1000):∀(j k:Nat),k+j=n→EvL M3 (.s1 (n:Int) (k:Int) st c ix fuse down s t) (((List.range n).drop k).map fun(k:Nat)=>(k:Int)):=by
 intro j
 induction j with
 | zero=>
  intro k hk
  rw[List.drop_eq_nil_of_le (by simp;omega)]
  refine .done ?_
  simp only[M3,Z1,geB (show n≤k by omega),cond_false,List.map_nil]
 | succ j ih=>
  intro k hk
  have hlt:k<n:=by omega
  rw[List.drop_eq_getElem_cons (by simpa using hlt),List.map_cons,List.getElem_range]
  refine EvL.next (l:= [(k:Int)]) (s' :=.s1 (n:Int) ((k+1:Nat):Int) st c ix fuse down s t) ?_ (ih (k+1) (by omega))
  simp only[M3,Z1,G4 hlt,cond_true,Option.map_some,wD (show k≤3000000 by omega)]
theorem ex4 (cb:CB c):at6 st c ix fuse down s t=some (aH6 c):=by
 have:=cb.f
 refine bX3 (EvL.next (l:= []) (s' :=.s1 (((2*c.F_+1).toNat:Nat):Int) ((0:Nat):Int) st c ix fuse down s t) ?_ (ef9 _ (by omega) (2*c.F_+1).toNat 0 (by omega)))
 simp only[M3,aj0,dM7 cb,Option.bind_some]
 rw[show(((2*c.F_+1).toNat:Nat):Int)=2*c.F_+1 by omega];rfl
theorem eg0 (cb:CB c) (hix:0≤ix∧ix≤100):∀(j k:Nat),k+j=bg2 c→EvL M0 (.s1 (A8 c (k:Int)) st c ix fuse down s t) (bT4 c ix ((List.range (bg2 c)).drop k)):=by
 have:=cb.f;have:=cb.dec;have:=cb.t;have:=cb.rou
 have ho:=dD8 cb (i:=0) (by omega)
 have hd:=bp7 cb hix
 have hN:((bg2 c:Nat):Int)=c.Deciders+c.Targets+c.Routers:=by unfold bg2;omega
 intro j
 induction j with
 | zero=>
  intro k hk
  rw[List.drop_eq_nil_of_le (by simp;omega)]
  refine .done ?_
  have:decide (A8 c (k:Int)<A8 c (c.Deciders+c.Targets+c.Routers+0))=false:=decide_eq_false (by unfold A8;omega)
  simp only[M0,Z0,ho,Option.bind_some,this,cond_false,bT4,List.map_nil,List.filter_nil]
 | succ j ih=>
  intro k hk
  have hlt:k<bg2 c:=by omega
  have lt:decide (A8 c (k:Int)<A8 c (c.Deciders+c.Targets+c.Routers+0))=true:=decide_eq_true (by unfold A8;omega)
  have w:IntKind.i64.wrap (A8 c (k:Int)+1)=A8 c ((k+1:Nat):Int):=by
   rw[v9 (by unfold A8;omega) (by unfold A8;omega)];unfold A8;omega
  have ih:=ih (k+1) (by omega)
  rw[List.drop_eq_getElem_cons (by simpa using hlt),List.getElem_range]
  by_cases he:A8 c (k:Int)=A8 c ix
  ·have e:(A8 c (k:Int) !=A8 c ix)=false:=by rw[he];simp
   have e2:bT4 c ix (k::(List.range (bg2 c)).drop (k+1))=bT4 c ix ((List.range (bg2 c)).drop (k+1)):=by simp only[bT4,List.map_cons,List.filter_cons,e];simp
   rw[e2]
   refine EvL.next (l:= []) (s' :=.s1 (A8 c ((k+1:Nat):Int)) st c ix fuse down s t) ?_ ih
   simp only[M0,Z0,ho,hd,Option.bind_some,lt,e,cond_true,cond_false,w]
  ·have e:(A8 c (k:Int) !=A8 c ix)=true:=bne_iff_ne.2 he
   have e2:bT4 c ix (k::(List.range (bg2 c)).drop (k+1))= [A8 c (k:Int)]++bT4 c ix ((List.range (bg2 c)).drop (k+1)):=by simp only[bT4,List.map_cons,List.filter_cons,e];simp
   rw[e2]
   refine EvL.next (l:= [A8 c (k:Int)]) (s' :=.s1 (A8 c ((k+1:Nat):Int)) st c ix fuse down s t) ?_ ih
   simp only[M0,Z0,ho,hd,Option.bind_some,lt,e,cond_true,Option.map_some,w]
theorem es0 (cb:CB c) (hix:0≤ix∧ix≤100):aI5 st c ix fuse down s t=some (bT1 c ix):=by
 refine bX3 (EvL.next (l:= []) (s' :=.s1 (A8 c ((0:Nat):Int)) st c ix fuse down s t) ?_ (eg0 cb hix (bg2 c) 0 (by omega)))
 have:=bp7 cb (i:=0) (by omega)
 simp only[M0,ax0,this,Option.bind_some];rfl
theorem ec9 (l:List Int) (hn:l.length≤1000):∀(j k:Nat),k+j=l.length→EvL S7 (.s1 l (l.length:Nat) (k:Int)) (l.drop k):=by
 intro j
 induction j with
 | zero=>
  intro k hk
  rw[List.drop_eq_nil_of_le (by omega)]
  refine .done ?_
  simp only[S7,ao3,geB (show l.length≤k by omega),cond_false]
 | succ j ih=>
  intro k hk
  have hlt:k<l.length:=by omega
  rw[List.drop_eq_getElem_cons hlt]
  refine EvL.next (l:= [l[k]]) (s' :=.s1 l (l.length:Nat) ((k+1:Nat):Int)) ?_ (ih (k+1) (by omega))
  simp only[S7,ao3,G4 hlt,List.length_map,O9,Bool.and_self,cond_true,Int.toNat_natCast,List.getE hlt,Option.bind_some,Option.map_some,wD (show k≤3000000 by omega)]
theorem et7 (l:List Int) (hn:l.length≤1000):aN5 l=some l:=by
 refine bX3 (EvL.next (l:= []) (s' :=.s1 l (l.length:Nat) ((0:Nat):Int)) ?_ (by simpa using ec9 l hn l.length 0 (by omega)))
 simp only[S7,aB1,List.length_map];rfl
theorem bB7 (cb:CB c) (hix:0≤ix∧ix≤100) (m:f5):∀(Y:List Int) (m2:f5) (i6:List f5),i6.length+Y.length≤1000→Ev (H4 m st c ix fuse down s t) (.s2 m2 i6 Y) (i6++toL c ix m2 Y)
 | [],m2,i6,h=> .done (by simp[H4,aa2,X4,toL])
 | y::Y,m2,i6,h=>by
  simp only[List.length_cons] at h
  have hd:=bp7 cb hix
  have l1:decide ((i6.length+1)*288≤l6)=true:=E0 (by omega)
  refine .next (s' :=.s2 (ftM m2 (A8 c ix) y) (i6++ [ftM m2 (A8 c ix) y]) Y) ?_ ?_
  ·simp only[H4,aa2,X7,hd,Option.bind_some,List.length_map,l1,cond_true];rfl
  ·have:=bB7 cb hix m Y (ftM m2 (A8 c ix) y) (i6++ [ftM m2 (A8 c ix) y]) (by simp;omega)
   rw[List.append_assoc] at this
   exact this
theorem bI9 (cb:CB c) (hix:0≤ix∧ix≤100) (m:f5):O0 m st c ix fuse down s t=some (toL c ix m (aH6 c)):=by
 have hl2:(aH6 c).length≤100:=Nat.le_trans (bJ3 cb) (by decide)
 refine z7 (.next (s' :=.s1 []) rfl (.next (s' :=.s2 m [] (aH6 c)) ?_ (by simpa using bB7 cb hix m (aH6 c) m [] (by simp;omega))))
 simp only[H4,Z9,ex4 cb,Option.bind_some]
theorem bY8 (cb:CB c) (hix:0≤ix∧ix≤100) (m:f5):∀(Y:List Int) (m2:f5) (i6:List f5),i6.length+Y.length≤1000→Ev (K8 m st c ix fuse down s t) (.s2 m2 i6 Y) (i6++toL c ix m2 Y)
 | [],m2,i6,h=> .done (by simp[K8,ah3,ae2,toL])
 | y::Y,m2,i6,h=>by
  simp only[List.length_cons] at h
  have hd:=bp7 cb hix
  have l1:decide ((i6.length+1)*288≤l6)=true:=E0 (by omega)
  refine .next (s' :=.s2 (ftM m2 (A8 c ix) y) (i6++ [ftM m2 (A8 c ix) y]) Y) ?_ ?_
  ·simp only[K8,ah3,ae1,hd,Option.bind_some,List.length_map,l1,cond_true];rfl
  ·have:=bY8 cb hix m Y (ftM m2 (A8 c ix) y) (i6++ [ftM m2 (A8 c ix) y]) (by simp;omega)
   rw[List.append_assoc] at this
   exact this
theorem ea9 (cb:CB c) (hix:0≤ix∧ix≤100) (m:f5):aI2 m st c ix fuse down s t=some (toL c ix m (bT1 c ix)):=by
 have hl2:(bT1 c ix).length≤100:=Nat.le_trans (cJ6 cb ix) (by decide)
 refine z7 (.next (s' :=.s1 []) rfl (.next (s' :=.s2 m [] (bT1 c ix)) ?_ (by simpa using bY8 cb hix m (bT1 c ix) m [] (by simp;omega))))
 simp only[K8,ah2,es0 cb hix,Option.bind_some]
theorem bY0 (l:List Int) (cb:CB c) (hix:0≤ix∧ix≤100) (m:f5):∀(Y:List Int) (m2:f5) (i6:List f5),i6.length+Y.length≤1000→Ev (K7 l m st c ix fuse down s t) (.s2 m2 i6 Y) (i6++toL c ix m2 Y)
 | [],m2,i6,h=> .done (by simp[K7,ag3,ae0,toL])
 | y::Y,m2,i6,h=>by
  simp only[List.length_cons] at h
  have hd:=bp7 cb hix
  have l1:decide ((i6.length+1)*288≤l6)=true:=E0 (by omega)
  refine .next (s' :=.s2 (ftM m2 (A8 c ix) y) (i6++ [ftM m2 (A8 c ix) y]) Y) ?_ ?_
  ·simp only[K7,ag3,ad9,hd,Option.bind_some,List.length_map,l1,cond_true];rfl
  ·have:=bY0 l cb hix m Y (ftM m2 (A8 c ix) y) (i6++ [ftM m2 (A8 c ix) y]) (by simp;omega)
   rw[List.append_assoc] at this
   exact this
theorem ed5 (l:List Int) (hl:l.length≤100) (cb:CB c) (hix:0≤ix∧ix≤100) (m:f5):aH9 l m st c ix fuse down s t=some (toL c ix m (l)):=by
 have hl2:(l).length≤100:=hl
 refine z7 (.next (s' :=.s1 []) rfl (.next (s' :=.s2 m [] (l)) ?_ (by simpa using bY0 l cb hix m (l) m [] (by simp;omega))))
 simp only[K7,ag5,et7 l (by omega),Option.bind_some]
def ei5 (p:Plan):f5:=⟨9,0,0,p.Epoch,0,0,0,0,0,0,true,p,[],[],[]⟩
def dv3 (st:f3) (f4:Int):f3:={ st with told:=⟨true,f4⟩ }
theorem dM0 (cb:CB c) (hix:0≤ix∧ix≤100) (f4:Int):aD7 f4 st c ix fuse down s t=some (toL c ix (ei5 st.known) (bT1 c ix),dv3 st f4):=by
 have h0:∀st:f3,aU5 st c ix fuse down s t=some ():=fun _=>rfl
 simp only[aD7,h0,Option.bind_some,ea9 cb hix];rfl
def cZ7 (o:aa3) (f4 cf3:Int):Bool:= !o.ever || decide (IntKind.i64.wrap (f4-o.at_)≥cf3)
theorem eb1 (o:aa3) (f4 cf3:Int):af3 o f4 cf3=some (cZ7 o f4 cf3):=by
 unfold af3 cZ7;cases o.ever<;>simp
def cn9 (f4:Int):f5:=⟨10,0,0,0,0,0,f4,0,0,2,false,B9,[],[],[]⟩
def bP8 (st:f3) (f4:Int):f3:={ st with hold:=dC4 st.hold 0 f4,asked:=⟨true,st.hold.Nonce⟩ }
def ab3 (c:d9) (ix f4:Int) (st:f3):List f5×f3:=
 if cZ7 ⟨st.asked.ever,st.hold.Nonce⟩ f4 (A0 (IntKind.i64.wrap (Int.tdiv c.L_ 2)) 1) then (toL c ix (cn9 f4) (aH6 c),bP8 st f4) else ([],{ st with asked:=⟨st.asked.ever,st.hold.Nonce⟩ })
theorem dM9 (cb:CB c) (hix:0≤ix∧ix≤100) (f4:Int):aT3 f4 st c ix fuse down s t=some (ab3 c ix f4 st):=by
 have h0:∀st:f3,P9 st c ix fuse down s t=some ():=fun _=>rfl
 simp only[aT3,eb1,Option.bind_some,ab3,eC9,h0,bI9 cb hix]
 cases cZ7 ⟨st.asked.ever,st.hold.Nonce⟩ f4 (A0 (IntKind.i64.wrap (Int.tdiv c.L_ 2)) 1)<;>rfl
def bl3 (c:d9) (ix f4:Int) (st:f3):List f5×f3:=
 if st.known.Epoch=0∨cZ7 st.told f4 c.Retry=false then ([],st) else (toL c ix (ei5 st.known) (bT1 c ix),dv3 st f4)
theorem dZ3 (cb:CB c) (hix:0≤ix∧ix≤100) (f4:Int):aZ4 f4 st c ix fuse down s t=some (bl3 c ix f4 st):=by
 simp only[aZ4,eb1,Option.bind_some,bl3,aK6,dM0 cb hix]
 by_cases h:st.known.Epoch=0
 ·rw[beq_iff_eq.2 h,if_pos (.inl h)];rfl
 ·rw[beq_eq_false_iff_ne.2 h]
  cases h2:cZ7 st.told f4 c.Retry
  ·rw[if_pos (.inr rfl)];rfl
  ·rw[if_neg (by simp[h])];rfl
end
theorem eF4 {c:d9} (cb:CB c) {p:Plan} (hs:aP8 p) (hu:0≤p.Up) (hv:0≤p.Sup):∃b,aA3 c p=some b∧(b=true→aM9 c p):=by
 simp only[aA3,bq3 hs hu hv,Option.bind_some]
 cases hr:aa7 p with
 | false=>exact⟨false,rfl,fun h=>by cases h⟩
 | true=>
  have r:=ag6.1 hr
  have no:∃b:Bool,(some false:Option Bool)=some b∧(b=true→aM9 c p):=⟨false,rfl,fun h=>by cases h⟩
  simp only[cond_true,List.length_map]
  cases h1:(((p.Pen.length:Nat):Int)==c.Targets) with
  | false=>exact no
  | true=>
   cases h2:decide (A0 (A0 p.Target p.Prev) p.Spill<c.Targets) with
   | false=>exact no
   | true=>
    obtain⟨a,ha⟩:=Int.eq_ofNat_of_zero_le hu
    obtain⟨b,hb⟩:=Int.eq_ofNat_of_zero_le hv
    have h3:=r.up
    have h4:=r.sup
    have hor:a ||| b<65536:=Nat.or_lt_two_pow (n:=16) (by omega) (by omega)
    have eor:orI .u64 p.Up p.Sup=((a ||| b:Nat):Int):=by rw[ha,hb];exact bQ6 (by omega) (by omega)
    obtain⟨n,hn,hlt⟩:=ej6 hor
    have cT:=cb.t
    simp only[cond_true,eor,hn,Option.bind_some]
    cases h5:decide ((n:Int)≤c.Targets) with
    | false=>exact no
    | true=>
     cases h6:decide (((p.Changes.length:Nat):Int)≤c.B_) with
     | false=>exact no
     | true=>
      refine⟨_,rfl,fun h7=> ?_⟩
      have h1:=beq_iff_eq.1 h1
      have h2:=of_decide_eq_true h2
      have h5:=of_decide_eq_true h5
      have h6:=of_decide_eq_true h6
      have h7:=of_decide_eq_true h7
      have h8:=(hlt c.Targets.toNat (by omega)).1 (by omega)
      have o1:a≤a ||| b:=Nat.left_le_or
      have o2:b≤a ||| b:=Nat.right_le_or
      have mx:p.Target<c.Targets∧p.Prev<c.Targets∧p.Spill<c.Targets:=by
       unfold A0 at h2;split at h2<;>split at h2<;>omega
      exact⟨r,hu,hv,h1,mx,by rw[ha,Int.toNat_natCast];omega,by rw[hb,Int.toNat_natCast];omega,h6,h7⟩
theorem eI1 {c:d9} (hc:W7 c=true) (ht:c.Tiers.length<9223372036854775807) {p:Plan} (hs:aP8 p) (hu:0≤p.Up) (hv:0≤p.Sup) {up:Nat} (hup:up<18446744073709551616) {f4:Int} (hn:0≤f4):
  ∃r,az2 c p (up:Int) f4=some r∧(r.2=true→aM9 c p∧aA3 c p=some true∧r=ak5 c p up f4):=by
 obtain⟨b,hb,hf⟩:=eF4 (ax7 hc) hs hu hv
 cases b with
 | true=>exact⟨_,el5 hc ht (hf rfl) hb hup hn,fun _=>⟨hf rfl,hb,rfl⟩⟩
 | false=>
  refine⟨(zPl,false),?_,fun h=>by cases h⟩
  simp only[az2,bs9 ht,hc,Option.bind_some,Bool.not_true,cond_false,hb,Bool.not_false,av7,cond_true];rfl
section
variable {c : d9} {p : Plan}
theorem eA9 (cb:CB c) {m:Nat} (hm:m<2^c.Targets.toNat): -1≤ah0 c m∧ah0 c m≤15:=by
 have:=cb.t
 rcases dP2 (c:=c) hm (by omega) with h | ⟨i,h1,h2,h3⟩<;>omega
theorem es1 {l:List Int}{t:Int} (h:srt l=true) (ht:∀x,l.getLast? =some x→x≤t):srt (l++ [t])=true:=by
 rw[dh9] at h ⊢
 intro i h0 hi
 simp only[List.length_append,List.length_cons,List.length_nil] at hi
 by_cases hl:i<l.length
 ·have:=h i h0 hl
  simp only[List.getD_eq_getElem?_getD] at this ⊢
  rw[List.getElem?_append_left (by omega),List.getElem?_append_left hl];exact this
 ·have e:i=l.length:=by omega
  subst e
  have hx:l.getLast? =some (l.getD (l.length-1) 0):=by
   rw[List.getLast?_eq_getElem?,List.getD_eq_getElem?_getD,List.getElem?_eq_getElem (by omega)];rfl
  have:=ht _ hx
  simp only[List.getD_eq_getElem?_getD] at this ⊢
  rw[List.getElem?_append_left (by omega)]
  simpa using this
theorem el3 {l:List Int} (h:srt l=true) (k:Nat):srt (l.drop k)=true:=by
 rw[dh9] at h ⊢
 intro i h0 hi
 rw[List.length_drop] at hi
 have:=h (k+i) (by omega) (by omega)
 simp only[List.getD_eq_getElem?_getD,List.getElem?_drop] at this ⊢
 rw[show k+(i-1)=k+i-1 by omega];exact this
theorem eH9 (cb:CB c) (hf:aM9 c p) (up:Nat) {f4:Int} (hn:0≤f4):Rt (nxN c p up f4)∧(nxN c p up f4).Epoch=p.Epoch+1∧0≤(nxN c p up f4).Up∧0≤(nxN c p up f4).Sup:=by
 have hT:=cb.t
 have he:=hf.r.epoch
 have hst:=hf.r.times p.Stamp (by simp)
 have hsi:=hf.r.times p.Since (by simp)
 have hra:=hf.r.times p.Ramped (by simp)
 have htx:p.Stamp≤E3 p f4∧E3 p f4≤1099511627776:=by unfold E3 A0 B7;split<;>split<;>omega
 have htp:=hf.r.tps p.Target (by simp)
 have hpr:=hf.r.tps p.Prev (by simp)
 have hsp:=hf.r.tps p.Spill (by simp)
 have hto:=dH4 cb hf up f4
 have hp2:(2:Nat)^c.Targets.toNat≤2^16:=Nat.pow_le_pow_right (by decide) (by omega)
 have hU:=bM0 c up
 have hS:nxS c p up f4<2^p.Pen.length:=aV1 _ _
 have hpl:=hf.pen
 have hS2:(2:Nat)^p.Pen.length≤2^16:=Nat.pow_le_pow_right (by decide) (by omega)
 have u1:((R1 c up:Nat):Int)≤65535:=by omega
 have s1:((nxS c p up f4:Nat):Int)≤65535:=by omega
 have pl:(ag7 c p (R1 c up) (E3 p f4)).length≤16:=by simp[ag7];omega
 have pm:∀x∈ag7 c p (R1 c up) (E3 p f4),0≤x∧x≤1000000:=fun x hx=>by
  obtain⟨j,_,rfl⟩:=List.mem_map.1 hx
  exact dX1 cb hf _ _ _
 have hpc:=hf.r.pc
 have hfi:=cb.first
 have hstp:=cb.step
 have hB:=cb.b
 have hch:=hf.ch
 unfold nxN
 split
 ·rename_i hc2
  have hc3:(ai3 c p up f4≠p.Target)∧bF8 c p (E3 p f4)=false:=by
   simp only[ce5,Bool.and_eq_true,decide_eq_true_eq,Bool.not_eq_true'] at hc2;exact⟨hc2.1,hc2.2.1⟩
  have hcl:(bj9 c p (E3 p f4)).length≤8:=by
   simp only[bj9,List.length_append,List.length_drop,List.length_cons,List.length_nil];omega
  have hcm:∀x∈bj9 c p (E3 p f4),0≤x∧x≤1099511627776:=fun x hx=>by
   rcases List.mem_append.1 hx with hx | hx
   ·exact hf.r.ch x (List.mem_of_mem_drop hx)
   ·rw[List.mem_singleton.1 hx];omega
  have hcs:srt (bj9 c p (E3 p f4))=true:=by
   refine es1 (el3 hf.r.srt _) fun x hx=> ?_
   have h2:=hc3.2
   simp only[bF8,Bool.or_eq_false_iff,Bool.and_eq_false_iff,decide_eq_false_iff_not] at h2
   have hd:=cb.d
   have hne:p.Changes.drop (p.Changes.length+1-c.B_.toNat)≠ []:=fun e=>by rw[e] at hx;simp at hx
   have hpos:0<p.Changes.length:=by
    rcases Nat.eq_zero_or_pos p.Changes.length with h | h
    ·exact absurd (by rw[List.length_eq_zero_iff.1 h];simp) hne
    ·exact h
   rw[List.getLast?_eq_getElem?,List.getElem?_drop,List.length_drop] at hx
   have hlen:0<p.Changes.length-(p.Changes.length+1-c.B_.toNat):=by
    rw[←List.length_drop];exact List.length_pos_iff.2 hne
   rw[show p.Changes.length+1-c.B_.toNat+(p.Changes.length-(p.Changes.length+1-c.B_.toNat)-1)=p.Changes.length-1 by omega] at hx
   rcases h2.1 with h3 | h3
   ·omega
   ·rw[hx] at h3;simp only[Option.getD_some] at h3;omega
  refine⟨⟨by simp only;omega,?_,?_,?_,u1,s1,pl,hcl,pm,hcm,hcs⟩,rfl,by simp only;omega,by simp only;omega⟩
  ·simp only[List.mem_cons,List.not_mem_nil,or_false,forall_eq_or_imp,forall_eq];omega
  ·simp only;split<;>omega
  ·simp only[List.mem_cons,List.not_mem_nil,or_false,forall_eq_or_imp,forall_eq];omega
 ·split
  ·refine⟨⟨by simp only;omega,?_,?_,?_,u1,s1,pl,hf.r.chl,pm,hf.r.ch,hf.r.srt⟩,rfl,by simp only;omega,by simp only;omega⟩
   ·exact hf.r.tps
   ·simp only[B7];split<;>omega
   ·simp only[List.mem_cons,List.not_mem_nil,or_false,forall_eq_or_imp,forall_eq];omega
  ·refine⟨⟨by simp only;omega,hf.r.tps,hpc,?_,u1,s1,pl,hf.r.chl,pm,hf.r.ch,hf.r.srt⟩,rfl,by simp only;omega,by simp only;omega⟩
   simp only[List.mem_cons,List.not_mem_nil,or_false,forall_eq_or_imp,forall_eq];omega
theorem es4 (cb:CB c) (hf:aM9 c p) (up:Nat) {f4:Int} (hn:0≤f4) (h:(ak5 c p up f4).2=true):Rt (ak5 c p up f4).1∧(ak5 c p up f4).1.Epoch=p.Epoch+1∧0≤(ak5 c p up f4).1.Up∧0≤(ak5 c p up f4).1.Sup:=by
 obtain⟨r,h1,h2,h3⟩:=eH9 cb hf up hn
 have hb:=eA9 cb (m:=bd7 (nxG c p up f4) (nxN c p up f4).Target) (Nat.lt_of_le_of_lt (db3 _ _) (cW1 c p up f4))
 unfold ak5 ch1 at h ⊢
 split at h
 ·cases h
 ·rename_i hs
  rw[if_neg hs]
  refine⟨⟨r.epoch,?_,r.pc,r.times,r.up,r.sup,r.penl,r.chl,r.pen,r.ch,r.srt⟩,h1,h2,h3⟩
  have t1:=r.tps _ (by simp:(nxN c p up f4).Target∈_)
  have t2:=r.tps _ (by simp:(nxN c p up f4).Prev∈_)
  simp only[List.mem_cons,List.not_mem_nil,or_false,forall_eq_or_imp,forall_eq]
  omega
end
noncomputable def dn1 (p_:l7) (c:d9) (y:Unit):D×i0:=(.fn 137 [] [.iptr 30 [(l7.enc p_)] 0 0,.iptr 30 [(d9.enc c)] 0 0],[])
noncomputable def aL4 (p_:l7) (c:d9):Option Unit:=(some ())
theorem bW0 {p_:l7}{c:d9}{r:Unit} (h:aL4 p_ c=some r):i7 E 104 [.agg (l7.enc p_),.agg (d9.enc c)] [] (Rs (dn1 p_ c) r):=so (fn:=Tryz.f104) (k:=false) (m:=0) h<| by
 intro r h;unfold aL4 at h
 exact zu 12 h
noncomputable def cO7 (y:Bool):D×i0:=(.bool y,[])
noncomputable def au6 (m:f5) (ao0 dv5:Int) (t:l7) (t2:d9):Option Bool:=(bif (t.Phase==dv5) then (bif (m.Kind==ao0) then (bif (m.Epoch==t.Epoch) then (bif (m.Ballot==t.Ballot) then (bif (decide (m.From≥0)) then ((ak7 t2).bind fun y6=>(some (decide (m.From≤(IntKind.i64.wrap ((2:Int)*y6)))))) else (some false)) else (some false)) else (some false)) else (some false)) else (some false))
theorem bH7 {m:f5}{ao0 dv5:Int}{t:l7}{t2:d9}{r:Bool} (h:au6 m ao0 dv5 t t2=some r):i7 E 137 [.agg (f5.enc m),.int .i64 ao0,.int .i64 dv5,.iptr 30 [(l7.enc t)] 0 0,.iptr 30 [(d9.enc t2)] 0 0] [] (Rs cO7 r):=so (fn:=Tryz.f137) (k:=false) (m:=0) h<| by
 intro r h;unfold au6 at h
 refine zs 8 h (fun h=> ?_) fun h=> ?_
 ·
  refine zs 5 h (fun h=> ?_) fun h=> ?_
  ·
   refine zs 7 h (fun h=> ?_) fun h=> ?_
   ·
    refine zs 7 h (fun h=> ?_) fun h=> ?_
    ·
     refine zs 4 h (fun h=> ?_) fun h=> ?_
     ·
      refine zd 5 [] h (fun _=>bd6) fun y6 h=> ?_
      exact zu 4 h
     exact zu 7 h
    exact zu 11 h
   exact zu 17 h
  exact zu 23 h
 exact zu 28 h
noncomputable def ai1:=u5 (u6 Tryz.f62)
noncomputable def bu9 (y:l7):D×i0:=(.agg (l7.enc y),[])
abbrev aO5 (p_:l7) (c:d9) (m:f5):=AOk E (Cx.of Tryz.f62 false 0) bu9
noncomputable def cl8 (p_:l7) (c:d9) (m:f5) (p_2 b2:l7):M:=⟨[.code (ai1 [1,1,1])],[(3,.ptr 0 0 0),(4,.ptr 1 0 0),(6,.ptr 2 0 0)],[some ⟨30,false,[(l7.enc p_2)]⟩,some ⟨30,false,[(d9.enc c)]⟩,some ⟨30,false,[(l7.enc b2)]⟩]⟩
noncomputable def Z4 (p_:l7) (c:d9) (m:f5) (p_2 b2:l7):Option l7:=((ak9 c p_2.Promises).bind fun y1=>(bif y1 then (bif (p_2.Best==0) then (some (⟨p_2.Epoch,p_2.Ballot,2,p_2.Own,p_2.Best,p_2.Own,p_2.Promises,p_2.Accepts⟩:l7)) else (some (⟨p_2.Epoch,p_2.Ballot,2,p_2.Own,p_2.Best,p_2.Value,p_2.Promises,p_2.Accepts⟩:l7))) else (some p_2)))
theorem bf0 {p_ c m p_2 b2}:aO5 p_ c m (cl8 p_ c m p_2 b2) (Z4 p_ c m p_2 b2):=by
 intro r h;unfold Z4 at h
 refine zc 9 [] h (fun _=>bd3) fun y1 h=> ?_
 refine zs 2 h (fun h=> ?_) fun h=> ?_
 ·
  refine zs 15 h (fun h=> ?_) fun h=> ?_
  ·
   exact zu 19 h
  exact zu 11 h
 exact zu 11 h
noncomputable def cm2 (p_:l7) (c:d9) (m:f5) (t41:Bool) (p_2 b3:l7):M:=⟨[.code (ai1 [1,1,0,1,1]),.code (ai1 [1,1,1])],[(3,.ptr 0 0 0),(4,.ptr 1 0 0),(5,.ptr 2 0 0),(6,.ptr 3 0 0),(41,.bool t41)],[some ⟨30,false,[(l7.enc p_2)]⟩,some ⟨30,false,[(d9.enc c)]⟩,some ⟨26,false,[(f5.enc m)]⟩,some ⟨30,false,[(l7.enc b3)]⟩]⟩
noncomputable def ai6 (p_:l7) (c:d9) (m:f5) (t41:Bool) (p_2 b3:l7):Option l7:=(bif t41 then (Z4 p_ c m (⟨p_2.Epoch,p_2.Ballot,p_2.Phase,p_2.Own,m.Accepted,m.Plan,p_2.Promises,p_2.Accepts⟩:l7) b3) else (Z4 p_ c m p_2 b3))
theorem bd8 {p_ c m t41 p_2 b3}:aO5 p_ c m (cm2 p_ c m t41 p_2 b3) (ai6 p_ c m t41 p_2 b3):=by
 intro r h;unfold ai6 at h
 refine zs 1 h (fun h=> ?_) fun h=> ?_
 ·
  exact zg 7 (bf0 h)
 exact zg 1 (bf0 h)
noncomputable def cl5 (p_:l7) (c:d9) (m:f5) (D6:Bool) (b3:l7):M:=⟨[.code (ai1 [1,0,1]),.code (ai1 [1,1])],[(3,.ptr 0 0 0),(4,.ptr 1 0 0),(5,.ptr 2 0 0),(6,.ptr 3 0 0),(24,.bool D6)],[some ⟨30,false,[(l7.enc p_)]⟩,some ⟨30,false,[(d9.enc c)]⟩,some ⟨26,false,[(f5.enc m)]⟩,some ⟨30,false,[(l7.enc b3)]⟩]⟩
noncomputable def N5 (p_:l7) (c:d9) (m:f5) (D6:Bool) (b3:l7):Option l7:=(bif D6 then (some p_) else (bif (!decide (m.From<0)) then (bif m.HasPlan then (ai6 p_ c m (decide (m.Accepted>p_.Best)) (⟨p_.Epoch,p_.Ballot,p_.Phase,p_.Own,p_.Best,p_.Value,(orI .u64 p_.Promises (D3 .u64 1 m.From)),p_.Accepts⟩:l7) b3) else (ai6 p_ c m false (⟨p_.Epoch,p_.Ballot,p_.Phase,p_.Own,p_.Best,p_.Value,(orI .u64 p_.Promises (D3 .u64 1 m.From)),p_.Accepts⟩:l7) b3)) else none))
theorem aE9 {p_ c m D6 b3}:aO5 p_ c m (cl5 p_ c m D6 b3) (N5 p_ c m D6 b3):=by
 intro r h;unfold N5 at h
 refine zs 1 h (fun h=> ?_) fun h=> ?_
 ·
  exact zu 10 h
 refine zn 6 h fun h=> ?_
 refine zs 9 h (fun h=> ?_) fun h=> ?_
 ·
  exact zg 13 (bd8 h)
 exact zg 11 (bd8 h)
noncomputable def as5 (p_:l7) (c:d9) (m:f5):Option l7:=((aL4 p_ c).bind fun y1=>((au6 m 5 1 p_ c).bind fun y2=>(bif (!y2) then (N5 p_ c m true (⟨0,0,0,(⟨0,0,0,0,0,0,0,0,0,0,[],[]⟩:Plan),0,(⟨0,0,0,0,0,0,0,0,0,0,[],[]⟩:Plan),0,0⟩:l7)) else (bif m.HasPlan then (N5 p_ c m (m.Plan.Epoch !=p_.Epoch) (⟨0,0,0,(⟨0,0,0,0,0,0,0,0,0,0,[],[]⟩:Plan),0,(⟨0,0,0,0,0,0,0,0,0,0,[],[]⟩:Plan),0,0⟩:l7)) else (N5 p_ c m false (⟨0,0,0,(⟨0,0,0,0,0,0,0,0,0,0,[],[]⟩:Plan),0,(⟨0,0,0,0,0,0,0,0,0,0,[],[]⟩:Plan),0,0⟩:l7))))))
theorem cl6 {p_:l7}{c:d9}{m:f5}{r:l7} (h:as5 p_ c m=some r):i7 E 62 [.agg (l7.enc p_),.agg (d9.enc c),.agg (f5.enc m)] [] (Rs bu9 r):=so (fn:=Tryz.f62) (k:=false) (m:=0) h<| by
 intro r h;unfold as5 at h
 refine zd 12 [] h (fun _=>bW0) fun y1 h=> ?_
 refine zd 1 [] h (fun _=>bH7) fun y2 h=> ?_
 refine zs 0 h (fun h=> ?_) fun h=> ?_
 ·
  exact zg 4 (aE9 h) [.blk 3 [some 1,some 1,some 1,some 1]]
 refine zs 3 h (fun h=> ?_) fun h=> ?_
 ·
  exact zg 10 (aE9 h) [.blk 3 [some 1,some 1,some 1,some 1]]
 exact zg 8 (aE9 h) [.blk 3 [some 1,some 1,some 1,some 1]]
noncomputable def cl9 (y:l7):D×i0:=(.agg (l7.enc y),[])
noncomputable def ao4 (p_:l7) (c:d9) (m:f5):Option l7:=((aL4 p_ c).bind fun y1=>((au6 m 8 2 p_ c).bind fun y2=>(bif (!y2) then (some p_) else (bif (!decide (m.From<0)) then ((ak9 c (orI .u64 p_.Accepts (D3 .u64 1 m.From))).bind fun y5=>(bif y5 then (some (⟨p_.Epoch,p_.Ballot,3,p_.Own,p_.Best,p_.Value,p_.Promises,(orI .u64 p_.Accepts (D3 .u64 1 m.From))⟩:l7)) else (some (⟨p_.Epoch,p_.Ballot,p_.Phase,p_.Own,p_.Best,p_.Value,p_.Promises,(orI .u64 p_.Accepts (D3 .u64 1 m.From))⟩:l7)))) else none))))
theorem ch6 {p_:l7}{c:d9}{m:f5}{r:l7} (h:ao4 p_ c m=some r):i7 E 65 [.agg (l7.enc p_),.agg (d9.enc c),.agg (f5.enc m)] [] (Rs cl9 r):=so (fn:=Tryz.f65) (k:=false) (m:=0) h<| by
 intro r h;unfold ao4 at h
 refine zd 12 [] h (fun _=>bW0) fun y1 h=> ?_
 refine zc 2 [] h (fun _=>bH7) fun y2 h=> ?_
 refine zs 3 h (fun h=> ?_) fun h=> ?_
 ·
  exact zu 10 h
 refine zn 6 h fun h=> ?_
 refine zc 10 [] h (fun _=>bd3) fun y5 h=> ?_
 refine zs 2 h (fun h=> ?_) fun h=> ?_
 ·
  exact zu 16 h
 exact zu 11 h
/-! ### promises -/
def toP (p:l7) (c:d9) (m:f5) (k f:Int):Bool:=decide (p.Phase=f)&&(decide (m.Kind=k)&&(decide (m.Epoch=p.Epoch)&&(decide (m.Ballot=p.Ballot)&&(decide (m.From≥0)&&decide (m.From≤2*(fN c:Int))))))
def cS7 (p:l7) (m:f5):Bool:= !(m.HasPlan&&decide (m.Plan.Epoch≠p.Epoch))
def orP (g:Int) (k:Nat):Int:=((g.toNat ||| 2^k:Nat):Int)
def st1 (p:l7) (m:f5):l7:=⟨p.Epoch,p.Ballot,p.Phase,p.Own,p.Best,p.Value,orP p.Promises m.From.toNat,p.Accepts⟩
def st2 (p:l7) (m:f5):l7:=bif m.HasPlan&&decide (m.Accepted>p.Best) then ⟨p.Epoch,p.Ballot,p.Phase,p.Own,m.Accepted,m.Plan,p.Promises,p.Accepts⟩ else p
def st3 (p:l7) (c:d9):l7:=bif bk3 c p.Promises.toNat then ⟨p.Epoch,p.Ballot,2,p.Own,p.Best,bif decide (p.Best=0) then p.Own else p.Value,p.Promises,p.Accepts⟩ else p
def L9 (p:l7) (c:d9) (m:f5):l7:=bif toP p c m 5 1&&cS7 p m then st3 (st2 (st1 p m) m) c else p
def ac4 (p:l7) (c:d9) (m:f5):l7:=bif toP p c m 8 2 then ⟨p.Epoch,p.Ballot,bif bk3 c (orP p.Accepts m.From.toNat).toNat then 3 else p.Phase,p.Own,p.Best,p.Value,p.Promises,orP p.Accepts m.From.toNat⟩ else p
theorem eq5 (p:l7) (c:d9) (m:f5) (k f:Int):au6 m k f p c=some (toP p c m k f):=by
 have hf:=cv8 c
 have e2:IntKind.i64.wrap ((2:Int)*(fN c:Int))=2*(fN c:Int):=v9 (by omega) (by omega)
 unfold au6 ak7 toP
 simp only[Option.bind_some,dT7,e2]
 by_cases h1:p.Phase=f
 ·by_cases h2:m.Kind=k
  ·by_cases h3:m.Epoch=p.Epoch
   ·by_cases h4:m.Ballot=p.Ballot
    ·by_cases h5:m.From≥0
     ·simp[h1,h2,h3,h4,h5]
     ·simp[h1,h2,h3,h4,h5]
    ·simp[h1,h2,h3,h4,beq_eq_false_iff_ne.2 h4]
   ·simp[h1,h2,h3,beq_eq_false_iff_ne.2 h3]
  ·simp[h1,h2,beq_eq_false_iff_ne.2 h2]
 ·simp[h1,beq_eq_false_iff_ne.2 h1]
theorem cx0 {p:l7}{c:d9}{m:f5}{k f:Int} (h:toP p c m k f=true):0≤m.From∧m.From≤2*(fN c:Int):=by
 simp only[toP,Bool.and_eq_true,decide_eq_true_eq] at h
 omega
theorem cR9 {g:Int}{m:f5}{c:d9} (hg:u0 .u64 g) (h:0≤m.From∧m.From≤2*(fN c:Int)):orI .u64 g (D3 .u64 1 m.From)=orP g m.From.toNat∧u0 .u64 (orP g m.From.toNat)∧(orP g m.From.toNat).toNat<18446744073709551616:=by
 have hf:=cv8 c
 have hg' :=O4.1 hg
 obtain⟨k,hk⟩:=Int.eq_ofNat_of_zero_le h.1
 obtain⟨n,rfl⟩:=Int.eq_ofNat_of_zero_le hg'.1
 have hn:n<18446744073709551616:=by omega
 have hp:(2:Nat)^k≤2^6:=Nat.pow_le_pow_right (by decide) (by omega)
 have hlt:=dT1 hn (show k≤6 by omega)
 unfold orP
 rw[hk,aJ6 (by omega),bQ6 hn (by omega)]
 simp only[Int.toNat_natCast]
 exact⟨trivial,O4.2 (by omega),hlt⟩
theorem dx2 {p q:l7}{c:d9}{m:f5}{b:l7} (hg:u0 .u64 p.Promises):Z4 q c m p b=some (st3 p c):=by
 have hg' :=O4.1 hg
 unfold Z4 st3
 obtain⟨n,hn⟩:=Int.eq_ofNat_of_zero_le hg'.1
 rw[hn,dh5 c (by omega)]
 simp only[Int.toNat_natCast,Option.bind_some]
 cases bk3 c n with
 | false=>rfl
 | true=>
  by_cases h:p.Best=0
  ·simp[h]
  ·simp[h,beq_eq_false_iff_ne.2 h]
theorem dR2 (p:l7) (c:d9) (m:f5) (hp:u0 .u64 p.Promises):as5 p c m=some (L9 p c m):=by
 have yes:∀b,toP p c m 5 1=true→N5 p c m false b=some (st3 (st2 (st1 p m) m) c):=fun b h=>by
  have hf:=cx0 h
  obtain⟨o1,o2,o3⟩:=cR9 hp hf
  unfold N5 ai6
  rw[o1]
  have nn:(!decide (m.From<0))=true:=by simp;omega
  simp only[cond_false,nn,cond_true]
  cases hh:m.HasPlan with
  | false=>
   simp only[cond_false]
   refine(dx2 (p:=st1 p m) o2).trans ?_
   unfold st2
   rw[hh]
   rfl
  | true=>
   simp only[cond_true]
   have e:decide (m.Accepted>(st1 p m).Best)=decide (m.Accepted>p.Best):=rfl
   unfold st2
   rw[hh,e]
   cases decide (m.Accepted>p.Best) with
   | false=>
    simp only[cond_false,Bool.and_false]
    exact dx2 (p:=st1 p m) o2
   | true=>
    simp only[cond_true,Bool.and_true]
    exact dx2 (p:=⟨p.Epoch,p.Ballot,p.Phase,p.Own,m.Accepted,m.Plan,orP p.Promises m.From.toNat,p.Accepts⟩) o2
 have no:∀b,N5 p c m true b=some p:=fun b=>rfl
 have e0:aL4 p c=some ():=rfl
 unfold as5 L9
 rw[e0]
 simp only[Option.bind_some,eq5]
 cases ht:toP p c m 5 1 with
 | false=>simp[no]
 | true=>
  simp only[Bool.not_true,cond_false,Bool.true_and]
  unfold cS7
  cases hh:m.HasPlan with
  | false=>simp[yes _ ht]
  | true=>
   by_cases h:m.Plan.Epoch=p.Epoch
   ·simp[h,yes _ ht]
   ·have hb:(m.Plan.Epoch !=p.Epoch)=true:=by simpa using h
    simp[h,hb,no]
theorem dI0 (p:l7) (c:d9) (m:f5) (hp:u0 .u64 p.Accepts):ao4 p c m=some (ac4 p c m):=by
 have e0:aL4 p c=some ():=rfl
 unfold ao4 ac4
 rw[e0]
 simp only[Option.bind_some,eq5]
 cases ht:toP p c m 8 2 with
 | false=>rfl
 | true=>
  have hf:=cx0 ht
  obtain⟨o1,o2,o3⟩:=cR9 hp hf
  have nn:(!decide (m.From<0))=true:=by simp;omega
  rw[o1]
  simp only[Bool.not_true,cond_false,nn,cond_true]
  obtain⟨n,hn⟩:=Int.eq_ofNat_of_zero_le (O4.1 o2).1
  rw[hn]
  rw[hn,Int.toNat_natCast] at o3
  rw[dh5 c o3]
  simp only[Option.bind_some,Int.toNat_natCast]
  cases bk3 c n<;>rfl
def dQ6 (a:Plan) (e:Int):Plan:=⟨e,a.Target,a.Prev,a.Spill,a.Percent,a.Stamp,a.Since,a.Ramped,a.Up,a.Sup,a.Pen,a.Changes⟩
def eH6:Plan:=⟨0,0,0,0,0,0,0,0,0,0,[],[]⟩
theorem em1 (e b:Int) (own:Plan):aT8 e b own=some ⟨e,b,1,dQ6 own e,0,eH6,0,0⟩:=rfl
theorem el8 {p:l7}{c:d9}:(st3 p c).Promises=p.Promises:=by
 unfold st3;cases bk3 c p.Promises.toNat<;>rfl
theorem eo1 {p:l7}{m:f5}:(st2 p m).Promises=p.Promises:=by
 unfold st2;cases(m.HasPlan&&decide (m.Accepted>p.Best))<;>rfl
theorem dI9 {p:l7} (c:d9) (m:f5) (h:u0 .u64 p.Promises):u0 .u64 (L9 p c m).Promises:=by
 unfold L9
 cases hc:toP p c m 5 1&&cS7 p m with
 | false=>exact h
 | true=>
  simp only[Bool.and_eq_true] at hc
  simp only[cond_true]
  rw[el8,eo1]
  exact(cR9 h (cx0 hc.1)).2.1
theorem dF1 {p:l7} (c:d9) (m:f5) (h:u0 .u64 p.Accepts):u0 .u64 (ac4 p c m).Accepts:=by
 unfold ac4
 cases hc:toP p c m 8 2 with
 | false=>exact h
 | true=>exact(cR9 h (cx0 hc)).2.1
noncomputable def dl7:=u5 (u6 Tryz.f161)
noncomputable def dj6 (y:Int):D×i0:=(.int .u32 y,[])
inductive bu1 where
 | s0 (sum:Int) (b:List Int)
 | s1 (r_:Int) (t10:List Int) (t11 P1:Int)
noncomputable def dl2:bu1→M
 | .s0 sum b=>C3 Tryz.f161 [.int .u32 sum,.sl false 1 (List.map (d8 .u8) b)] []
 | .s1 r_ t10 t11 P1=>⟨[.lpc (dl7 [1,1,0,1,0,0]) 7200,.blk 0,.code (dl7 [1,1,1])],[(5,.int .u32 r_),(10,.sl false 1 (List.map (d8 .u8) t10)),(11,.int .i64 t11),(12,.int .i64 P1)],[]⟩
abbrev dn0:=SOk E (Cx.of Tryz.f161 false 0) dj6 dl2
noncomputable def bR3 (sum:Int) (b:List Int):Option (bu1⊕Int):=(some (.inl (.s1 (U0 .u32 4294967295 sum) b (((List.map (d8 .u8) b).length:Nat):Int) 0)))
noncomputable def bv3 (r_:Int) (t10:List Int) (t11 P1:Int):Option (bu1⊕Int):=(bif (decide (P1<t11)) then (bif ((decide ((0:Int)≤P1))&&(decide (P1<(((List.map (d8 .u8) t10).length:Nat):Int)))) then (((t10)[P1.toNat]?).bind fun y3=>(bif ((decide ((0:Int)≤(m9 .u32 (U0 .u32 r_ (IntKind.u32.wrap (y3))) 15)))&&(decide (((m9 .u32 (U0 .u32 r_ (IntKind.u32.wrap (y3))) 15):Int)<((16:Nat):Int)))) then (((gl_four)[(0+(m9 .u32 (U0 .u32 r_ (IntKind.u32.wrap (y3))) 15).toNat)]?).bind fun y6=>(bif ((decide ((0:Int)≤(m9 .u32 (U0 .u32 (r5 .u32 (U0 .u32 r_ (IntKind.u32.wrap (y3))) 4) y6) 15)))&&(decide (((m9 .u32 (U0 .u32 (r5 .u32 (U0 .u32 r_ (IntKind.u32.wrap (y3))) 4) y6) 15):Int)<((16:Nat):Int)))) then (((gl_four)[(0+(m9 .u32 (U0 .u32 (r5 .u32 (U0 .u32 r_ (IntKind.u32.wrap (y3))) 4) y6) 15).toNat)]?).bind fun y9=>(some (.inl (.s1 (U0 .u32 (r5 .u32 (U0 .u32 (r5 .u32 (U0 .u32 r_ (IntKind.u32.wrap (y3))) 4) y6) 4) y9) t10 t11 (IntKind.i64.wrap (P1+1)))))) else none)) else none)) else none) else (some (.inr (U0 .u32 4294967295 r_))))
noncomputable def aP6:bu1→Option (bu1⊕Int)
 | .s0 sum b=>bR3 sum b
 | .s1 r_ t10 t11 P1=>bv3 r_ t10 t11 P1
theorem dz5 {sum b}:dn0 (.s0 sum b) (bR3 sum b):=by
 intro r x h ha;unfold bR3 at h
 exact zj 20 h ha
theorem dG8 {r_ t10 t11 P1}:dn0 (.s1 r_ t10 t11 P1) (bv3 r_ t10 t11 P1):=by
 intro r x h ha;unfold bv3 at h
 refine zs 7 h (fun h=> ?_) fun h=> ?_
 ·
  refine zn 6 h fun h=> ?_
  refine zr 1 (d8 .u8) h fun y3 h=> ?_
  refine zn 18 h fun h=> ?_
  refine zr 1 (d8 .u32) h fun y6 h=> ?_
  refine zn 10 h fun h=> ?_
  refine zr 1 (d8 .u32) h fun y9 h=> ?_
  exact zj 9 h ha
 exact zt 8 h ha
noncomputable def da0 (sum:Int) (b:List Int):Option Int:=T3 aP6 (.s0 sum b)
theorem dS5 {sum:Int}{b:List Int}{r:Int} (h:da0 sum b=some r):i7 E 161 [.int .u32 sum,.sl false 1 (List.map (d8 .u8) b)] [] (Rs dj6 r):=sc (fn:=Tryz.f161) (k:=false) (m:=0) (H9:=dl2) h fun s=>by
 cases s with
 | s0=>exact dz5
 | s1=>exact dG8
noncomputable def ef2 (y:Int):D×i0:=(.int .u32 y,[])
noncomputable def bH4 (b:List Int):Option Int:=((da0 0 b).bind fun y1=>(some y1))
theorem cW0 {b:List Int}{r:Int} (h:bH4 b=some r):i7 E 153 [.sl false 1 (List.map (d8 .u8) b)] [] (Rs ef2 r):=so (fn:=Tryz.f153) (k:=false) (m:=0) h<| by
 intro r h;unfold bH4 at h
 refine zc 8 [] h (fun _=>dS5) fun y1 h=> ?_
 exact zu 3 h
noncomputable def cB0:=u5 (u6 Tryz.f124)
noncomputable def cD0 (y:(List Int)×Int):D×i0:=(.tup [.sl false 1 (List.map (d8 .u8) y.1),.int .i64 y.2],[])
inductive aZ0 where
 | s0 (ao0:Int) (aj5:List Int)
 | s1 (sum an0:Int) (b:List Int)
noncomputable def cC5:aZ0→M
 | .s0 ao0 aj5=>C3 Tryz.f124 [.int .u8 ao0,.sl false 1 (List.map (d8 .u8) aj5)] []
 | .s1 sum an0 b=>⟨[.lpc (cB0 [1,1,1,1,1,0,1,0,0]) 896,.blk 0,.code (cB0 [1,1,1,1,1,1])],[(7,(i5 0 (List.map (d8 .u8) b))),(8,.int .u32 sum),(9,.int .i64 an0)],[some ⟨1,false,(List.map (d8 .u8) b)⟩]⟩
abbrev cB9:=SOk E (Cx.of Tryz.f124 false 0) cD0 cC5
noncomputable def aY2 (ao0:Int) (aj5:List Int):Option (aZ0⊕((List Int)×Int)):=(bif (decide (((((List.map (d8 .u8) aj5).length:Nat):Int):Int)>8192)) then (some (.inr ([],2))) else (bif (decide ((4+(List.map (d8 .u8) aj5).length)*1≤l6)) then (bif (decide ((1:Int)≤(((List.map (d8 .u8) ([247,ao0,(IntKind.u8.wrap ((r5 .i64 (((List.map (d8 .u8) aj5).length:Nat):Int) 8))),(IntKind.u8.wrap ((((List.map (d8 .u8) aj5).length:Nat):Int)))]++aj5)).length:Nat):Int))) then (bif (Nat.ble (1+((List.map (d8 .u8) ([247,ao0,(IntKind.u8.wrap ((r5 .i64 (((List.map (d8 .u8) aj5).length:Nat):Int) 8))),(IntKind.u8.wrap ((((List.map (d8 .u8) aj5).length:Nat):Int)))]++aj5)).length-1)) ((List.map (d8 .u8) ([247,ao0,(IntKind.u8.wrap ((r5 .i64 (((List.map (d8 .u8) aj5).length:Nat):Int) 8))),(IntKind.u8.wrap ((((List.map (d8 .u8) aj5).length:Nat):Int)))]++aj5)).length)) then ((bH4 (List.take ((List.map (d8 .u8) ([247,ao0,(IntKind.u8.wrap ((r5 .i64 (((List.map (d8 .u8) aj5).length:Nat):Int) 8))),(IntKind.u8.wrap ((((List.map (d8 .u8) aj5).length:Nat):Int)))]++aj5)).length-1) (List.drop 1 ([247,ao0,(IntKind.u8.wrap ((r5 .i64 (((List.map (d8 .u8) aj5).length:Nat):Int) 8))),(IntKind.u8.wrap ((((List.map (d8 .u8) aj5).length:Nat):Int)))]++aj5)))).bind fun y5=>(some (.inl (.s1 y5 24 ([247,ao0,(IntKind.u8.wrap ((r5 .i64 (((List.map (d8 .u8) aj5).length:Nat):Int) 8))),(IntKind.u8.wrap ((((List.map (d8 .u8) aj5).length:Nat):Int)))]++aj5))))) else none) else none) else none))
noncomputable def az5 (sum an0:Int) (b:List Int):Option (aZ0⊕((List Int)×Int)):=(bif (decide (an0≥0)) then (bif (!decide (an0<0)) then (bif (decide (((List.map (d8 .u8) b).length+1)*1≤l6)) then (some (.inl (.s1 sum (IntKind.i64.wrap (an0-8)) (b++ [(IntKind.u8.wrap ((r5 .u32 sum an0)))])))) else none) else none) else (some (.inr (b,0))))
noncomputable def Z5:aZ0→Option (aZ0⊕((List Int)×Int))
 | .s0 ao0 aj5=>aY2 ao0 aj5
 | .s1 sum an0 b=>az5 sum an0 b
theorem cY4 {ao0 aj5}:cB9 (.s0 ao0 aj5) (aY2 ao0 aj5):=by
 intro r x h ha;unfold aY2 at h
 refine zs 18 h (fun h=> ?_) fun h=> ?_
 ·
  exact zt 6 h ha [.slot 0 [some 1]]
 refine zn 13 h fun h=> ?_
 refine zw 1 (a:=((List.map (d8 .u8) ([247,ao0,(IntKind.u8.wrap ((r5 .i64 (((List.map (d8 .u8) aj5).length:Nat):Int) 8))),(IntKind.u8.wrap ((((List.map (d8 .u8) aj5).length:Nat):Int)))]))++(List.map (d8 .u8) aj5))) (b:=(List.map (d8 .u8) ([247,ao0,(IntKind.u8.wrap ((r5 .i64 (((List.map (d8 .u8) aj5).length:Nat):Int) 8))),(IntKind.u8.wrap ((((List.map (d8 .u8) aj5).length:Nat):Int)))]++aj5))) (by simp only[C0,E8,List.map_append,List.map_take,List.map_drop]) ?_
 refine zn 6 h fun h=> ?_
 refine zn 1 h fun h=> ?_
 refine zcE 0 [] (args1:= [.sl false 1 (List.take ((List.map (d8 .u8) ([247,ao0,(IntKind.u8.wrap ((r5 .i64 (((List.map (d8 .u8) aj5).length:Nat):Int) 8))),(IntKind.u8.wrap ((((List.map (d8 .u8) aj5).length:Nat):Int)))]++aj5)).length-1) (List.drop 1 (List.map (d8 .u8) ([247,ao0,(IntKind.u8.wrap ((r5 .i64 (((List.map (d8 .u8) aj5).length:Nat):Int) 8))),(IntKind.u8.wrap ((((List.map (d8 .u8) aj5).length:Nat):Int)))]++aj5))))]) h (fun _=>cW0) ⟨by simp[d9.enc,d9.l,l7.enc,l7.l,u4.enc,u4.l,v6.enc,v6.l,f5.enc,f5.l,Op.enc,Op.l,Plan.enc,Plan.l,E6.enc,E6.l,i8.enc,i8.l,u9.enc,u9.l,p6.enc,p6.l,f3.enc,f3.l,List.take_of_length_le,List.map_take,List.map_drop],rfl⟩ fun y5 h=> ?_
 exact zj 10 h ha
theorem cX7 {sum an0 b}:cB9 (.s1 sum an0 b) (az5 sum an0 b):=by
 intro r x h ha;unfold az5 at h
 refine zs 8 h (fun h=> ?_) fun h=> ?_
 ·
  refine zn 8 h fun h=> ?_
  refine zn 4 h fun h=> ?_
  refine za 0 (d8 .u8) b ([(IntKind.u8.wrap ((r5 .u32 sum an0)))]) ?_
  exact zj 9 h ha
 refine zm 8 (b:=(Nat.ble (0+(List.map (d8 .u8) b).length) ((List.map (d8 .u8) b).length))) (A7 _) ?_
 obtain rfl:=Option.some.inj h
 have hv:=ha
 simp only[aZ6] at hv
 subst hv
 exact as6 [] (d1:=.tup [.sl false 1 (List.take ((List.map (d8 .u8) b).length) (List.drop 0 (List.map (d8 .u8) b))),.int .i64 0]) (d:=.tup [.sl false 1 (List.map (d8 .u8) b),.int .i64 0]) (s1:= []) (s:= []) (by kernel_rfl) ⟨by simp[d9.enc,d9.l,l7.enc,l7.l,u4.enc,u4.l,v6.enc,v6.l,f5.enc,f5.l,Op.enc,Op.l,Plan.enc,Plan.l,E6.enc,E6.l,i8.enc,i8.l,u9.enc,u9.l,p6.enc,p6.l,f3.enc,f3.l,List.take_of_length_le,List.map_take,List.map_drop],rfl⟩ ⟨rfl,rfl⟩ Cx.fin_of
noncomputable def bQ1 (ao0:Int) (aj5:List Int):Option ((List Int)×Int):=T3 Z5 (.s0 ao0 aj5)
theorem dA6 {ao0:Int}{aj5:List Int}{r:(List Int)×Int} (h:bQ1 ao0 aj5=some r):i7 E 124 [.int .u8 ao0,.sl false 1 (List.map (d8 .u8) aj5)] [] (Rs cD0 r):=sc (fn:=Tryz.f124) (k:=false) (m:=0) (H9:=cC5) h fun s=>by
 cases s with
 | s0=>exact cY4
 | s1=>exact cX7
noncomputable def dd0 (b0 y:List Int):D×i0:=((i5 1 (List.map (d8 .u8) y)),[some ⟨1,false,(List.map (d8 .u8) b0)⟩,some ⟨1,false,(List.map (d8 .u8) y)⟩])
noncomputable def aP4 (cn2 ar6 cG7:Nat) (b0:List Int):Option (List Int):=(bif (Nat.beq ((List.take ar6 (List.drop cn2 (List.map (d8 .u8) b0))).length) ar6) then (bif (decide ((0+(List.take ar6 (List.drop cn2 (List.map (d8 .u8) b0))).length)*1≤l6)) then (some ([]++(List.take ar6 (List.drop cn2 b0)))) else none) else none)
theorem cN0 {cn2 ar6 cG7:Nat}{b0 r:List Int} (h:aP4 cn2 ar6 cG7 b0=some r):i7 E 88 [.msl 0 cn2 ar6 cG7 false] [some ⟨1,false,(List.map (d8 .u8) b0)⟩] (Rs (dd0 b0) r):=so (fn:=Tryz.f88) (k:=true) (m:=1) h<| by
 intro r h;unfold aP4 at h
 refine n8 hm 9 _ ?_
 refine cQ8 (Nat.beq ar6 0) (by kernel_rfl) ?_ (fun h1=> ?_)
 ·--it is not nil
  refine zn 9 h fun h=> ?_
  refine zn 0 h fun h=> ?_
  refine zw 1 (a:=((List.map (d8 .u8) ([]))++(List.take ar6 (List.drop cn2 (List.map (d8 .u8) b0))))) (b:=(List.map (d8 .u8) ([]++(List.take ar6 (List.drop cn2 b0))))) (by simp only[C0,E8,List.map_append,List.map_take,List.map_drop]) ?_
  exact zu 3 h
 ·--nil
  obtain rfl:ar6=0:=Nat.eq_of_beq_eq_true h1
  simp[l6] at h
  first | subst h | (obtain⟨_,h⟩:=h;subst h)
  refine n8 hm 8 _ ?_
  exact aY9 [.mat 0 1] (d:=.msl 1 0 0 0 false) (s:= [some ⟨1,false,(List.map (d8 .u8) b0)⟩,some ⟨1,false,[]⟩]) (by kernel_rfl) Cx.fin_of ⟨rfl,rfl⟩
end Go.RX.L
