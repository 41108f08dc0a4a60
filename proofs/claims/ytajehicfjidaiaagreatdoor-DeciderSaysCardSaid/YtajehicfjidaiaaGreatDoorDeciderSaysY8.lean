/-
  Words and walks for DeciderSays. No condition.
-/
import Derived.Test.YtajehicfjidaiaaGreatDoorDeciderSaysY7
set_option linter.unusedSectionVars false
set_option linter.unnecessarySimpa false
set_option linter.unusedSimpArgs false
set_option linter.unusedVariables false
set_option maxRecDepth 100000
set_option maxHeartbeats 4000000
namespace Go.RX.L
open Go Go.RX Go.Proofs
attribute [local irreducible] i0
noncomputable def am4:=p7 (q0 Tryz.f55)
noncomputable def bP9 (y:Int×Int×Int×Bool×(List Int)×(List Int)):D×f4:=(.tup [.int .i64 y.1,.int .i64 y.2.1],[some ⟨4,true,[[(f6 3 (List.map (d8 .u8) y.2.2.2.2.1)),(f6 4 (List.map (d8 .u8) y.2.2.2.2.2)),.int .i64 y.2.2.1,.bool y.2.2.2.1]]⟩,none,none,some ⟨1,false,(List.map (d8 .u8) y.2.2.2.2.1)⟩,some ⟨1,false,(List.map (d8 .u8) y.2.2.2.2.2)⟩])
inductive al5 where
 | s0 (fuse:Int) (down:Bool) (b1 b2:List Int)
 | s1 (bodies:List (List Int)) (last:Int) (t24:List Int) (t25 t26 fuse2:Int) (down2:Bool) (b3 b4:List Int)
 | s2 (bodies:List (List Int)) (last:Int) (t24:List Int) (t25 t26:Int) (t46:Bool) (fuse2:Int) (down2:Bool) (m:f3) (b4 b5:List Int)
noncomputable def bQ9:al5→M
 | .s0 fuse down b1 b2=>A6 Tryz.f55 [.ptr 0 0 0] [some ⟨4,true,[[(f6 1 (List.map (d8 .u8) b1)),(f6 2 (List.map (d8 .u8) b2)),.int .i64 fuse,.bool down]]⟩,some ⟨1,false,(List.map (d8 .u8) b1)⟩,some ⟨1,false,(List.map (d8 .u8) b2)⟩]
 | .s1 bodies last t24 t25 t26 fuse2 down2 b3 b4=>⟨[.lpc (am4 [1,1,1,1,0,1,0,0]) 117440673,.blk 0,.code (am4 [1,1,1,1,1])],[(0,.ptr 0 0 0),(5,.sl false 1 (List.map (E5 1 (d8 .u8)) bodies)),(7,.int .i64 last),(24,.sl false 1 (List.map (d8 .u8) t24)),(25,.int .i64 t25),(26,.int .i64 t26)],[some ⟨4,true,[[(f6 3 (List.map (d8 .u8) b3)),(f6 4 (List.map (d8 .u8) b4)),.int .i64 fuse2,.bool down2]]⟩,none,none,some ⟨1,false,(List.map (d8 .u8) b3)⟩,some ⟨1,false,(List.map (d8 .u8) b4)⟩]⟩
 | .s2 bodies last t24 t25 t26 t46 fuse2 down2 m b4 b5=>⟨[.code (am4 [1,1,1,1,0,1,0,0,1,1,0,0,1,1,1]),.blk 1,.code (am4 [1,1,1,1,0,1,0,0,1,1,1]),.lp (am4 [1,1,1,1,0,1,0,0]) 117440673,.blk 0,.code (am4 [1,1,1,1,1])],[(0,.ptr 0 0 0),(5,.sl false 1 (List.map (E5 1 (d8 .u8)) bodies)),(7,.int .i64 last),(10,.ptr 3 0 0),(24,.sl false 1 (List.map (d8 .u8) t24)),(25,.int .i64 t25),(26,.int .i64 t26),(46,.bool t46)],[some ⟨4,true,[[(f6 4 (List.map (d8 .u8) b4)),(f6 5 (List.map (d8 .u8) b5)),.int .i64 fuse2,.bool down2]]⟩,none,none,some ⟨26,false,[(f3.enc m)]⟩,some ⟨1,false,(List.map (d8 .u8) b4)⟩,some ⟨1,false,(List.map (d8 .u8) b5)⟩]⟩
abbrev bh6:=SOk E (Cx.of Tryz.f55 true 3) bP9 bQ9
noncomputable def az4 (fuse:Int) (down:Bool) (b1 b2:List Int):Option (al5⊕(Int×Int×Int×Bool×(List Int)×(List Int))):=((aa4 fuse down b1 b2).bind fun y1=>(bif ((y1.2.2.1:Int) !=0) then (some (.inr (0,y1.2.2.1,y1.2.2.2.1,y1.2.2.2.2.1,y1.2.2.2.2.2.1,y1.2.2.2.2.2.2))) else (some (.inl (.s1 y1.2.1 0 y1.1 (((List.map (d8 .u8) y1.1).length:Nat):Int) 0 y1.2.2.2.1 y1.2.2.2.2.1 y1.2.2.2.2.2.1 y1.2.2.2.2.2.2)))))
noncomputable def V3 (bodies:List (List Int)) (last:Int) (t24:List Int) (t25 t26 fuse2:Int) (down2:Bool) (b3 b4:List Int):Option (al5⊕(Int×Int×Int×Bool×(List Int)×(List Int))):=(bif (decide ((t26:Int)<t25)) then (bif ((decide ((0:Int)≤t26))&&(decide ((t26:Int)<(((List.map (d8 .u8) t24).length:Nat):Int)))) then (((t24)[t26.toNat]?).bind fun y3=>(bif ((decide ((0:Int)≤t26))&&(decide ((t26:Int)<(((List.map (E5 1 (d8 .u8)) bodies).length:Nat):Int)))) then (((bodies)[t26.toNat]?).bind fun y6=>((bg5 y3 y6).bind fun y8=>(bif ((y8.2:Int)==0) then (some (.inl (.s2 bodies last t24 t25 t26 ((y8.1.Kind:Int)==17) fuse2 down2 y8.1 b3 b4))) else (some (.inl (.s2 bodies last t24 t25 t26 false fuse2 down2 y8.1 b3 b4)))))) else none)) else none) else (bif (decide ((last:Int)≥1099511627776)) then (some (.inr (0,2,fuse2,down2,b3,b4))) else ((bO5 (⟨17,0,0,0,0,0,(IntKind.i64.wrap (last+1)),0,0,0,false,(⟨0,0,0,0,0,0,0,0,0,0,[],[]⟩:Plan),[],[],[]⟩:f3)).bind fun y11=>((av3 y11.1 y11.2.1 fuse2 down2 b3 b4).bind fun y12=>(bif ((y12.1:Int) !=0) then (some (.inr (0,y12.1,y12.2.1,y12.2.2.1,b3,y12.2.2.2))) else ((aD6 y12.2.1 y12.2.2.1 b3 y12.2.2.2).bind fun y14=>(bif ((y14.1:Int) !=0) then (some (.inr (0,y14.1,y14.2.1,y14.2.2.1,y14.2.2.2.1,y14.2.2.2.2))) else (some (.inr ((IntKind.i64.wrap (last+1)),0,y14.2.1,y14.2.2.1,y14.2.2.2.1,y14.2.2.2.2))))))))))
noncomputable def aO4 (bodies:List (List Int)) (last:Int) (t24:List Int) (t25 t26:Int) (t46:Bool) (fuse2:Int) (down2:Bool) (m:f3) (b4 b5:List Int):Option (al5⊕(Int×Int×Int×Bool×(List Int)×(List Int))):=(bif t46 then (some (.inl (.s1 bodies (u9 last m.Nonce) t24 t25 (IntKind.i64.wrap (t26+1)) fuse2 down2 b4 b5))) else (some (.inl (.s1 bodies last t24 t25 (IntKind.i64.wrap (t26+1)) fuse2 down2 b4 b5))))
noncomputable def N0:al5→Option (al5⊕(Int×Int×Int×Bool×(List Int)×(List Int)))
 | .s0 fuse down b1 b2=>az4 fuse down b1 b2
 | .s1 bodies last t24 t25 t26 fuse2 down2 b3 b4=>V3 bodies last t24 t25 t26 fuse2 down2 b3 b4
 | .s2 bodies last t24 t25 t26 t46 fuse2 down2 m b4 b5=>aO4 bodies last t24 t25 t26 t46 fuse2 down2 m b4 b5
theorem cn7 {fuse down b1 b2}:bh6 (.s0 fuse down b1 b2) (az4 fuse down b1 b2):=by
 intro r x h ha;unfold az4 at h
 refine zc 9 [] h (fun _=>by8) fun y1 h=> ?_
 refine zs 15 h (fun h=> ?_) fun h=> ?_
 ·
  exact zt 7 h ha
 exact zj 15 h ha
theorem cp4 {bodies last t24 t25 t26 fuse2 down2 b3 b4}:bh6 (.s1 bodies last t24 t25 t26 fuse2 down2 b3 b4) (V3 bodies last t24 t25 t26 fuse2 down2 b3 b4):=by
 intro r x h ha;unfold V3 at h
 refine zs 7 h (fun h=> ?_) fun h=> ?_
 ·
  refine zn 7 h fun h=> ?_
  refine zr 1 (d8 .u8) h fun y3 h=> ?_
  refine zn 9 h fun h=> ?_
  refine zr 1 (E5 1 (d8 .u8)) h fun y6 h=> ?_
  refine zc 1 [] h (fun _=>cJ9) fun y8 h=> ?_
  refine zs 15 h (fun h=> ?_) fun h=> ?_
  ·
   exact zk 8 h ha
  exact zk 7 h ha
 refine zs 8 h (fun h=> ?_) fun h=> ?_
 ·
  exact zt 6 h ha
 refine zc 7 [some 1,some 1,some 1,some 1,some 1] h (fun _=>di7) fun y11 h=> ?_
 refine zc 15 [] h (fun _=>cf2) fun y12 h=> ?_
 refine zs 8 h (fun h=> ?_) fun h=> ?_
 ·
  exact zt 7 h ha
 refine zc 6 [] h (fun _=>cu1) fun y14 h=> ?_
 refine zs 8 h (fun h=> ?_) fun h=> ?_
 ·
  exact zt 7 h ha
 exact zt 9 h ha
theorem cp7 {bodies last t24 t25 t26 t46 fuse2 down2 m b4 b5}:bh6 (.s2 bodies last t24 t25 t26 t46 fuse2 down2 m b4 b5) (aO4 bodies last t24 t25 t26 t46 fuse2 down2 m b4 b5):=by
 intro r x h ha;unfold aO4 at h
 refine zs 1 h (fun h=> ?_) fun h=> ?_
 ·
  exact zj 14 h ha
 exact zj 7 h ha
noncomputable def bd2 (fuse:Int) (down:Bool) (b1 b2:List Int):Option (Int×Int×Int×Bool×(List Int)×(List Int)):=T8 N0 (.s0 fuse down b1 b2)
theorem cC8 {fuse:Int}{down:Bool}{b1 b2:List Int}{r:Int×Int×Int×Bool×(List Int)×(List Int)} (h:bd2 fuse down b1 b2=some r):i4 E 55 [.ptr 0 0 0] [some ⟨4,true,[[(f6 1 (List.map (d8 .u8) b1)),(f6 2 (List.map (d8 .u8) b2)),.int .i64 fuse,.bool down]]⟩,some ⟨1,false,(List.map (d8 .u8) b1)⟩,some ⟨1,false,(List.map (d8 .u8) b2)⟩] (Rs bP9 r):=sc (fn:=Tryz.f55) (k:=true) (m:=3) (stM:=bQ9) h fun s=>by
 cases s with
 | s0=>exact cn7
 | s1=>exact cp4
 | s2=>exact cp7
end Go.RX.L

namespace Go.RX.L
open Go Go.RX Go.Proofs
attribute [local irreducible] i0
noncomputable def bk2:=p7 (q0 Tryz.f25)
noncomputable def bl5 (c:d9) (index:Int) (y:Int×e9×Int×Bool×(List Int)×(List Int)):D×f4:=(.int .i64 y.1,[some ⟨88,true,[(e9.l y.2.1 (d9.l c [.int .i64 index,.ptr 1 0 0]))]⟩,some ⟨4,true,[[(f6 4 (List.map (d8 .u8) y.2.2.2.2.1)),(f6 5 (List.map (d8 .u8) y.2.2.2.2.2)),.int .i64 y.2.2.1,.bool y.2.2.2.1]]⟩,none,none,some ⟨1,false,(List.map (d8 .u8) y.2.2.2.2.1)⟩,some ⟨1,false,(List.map (d8 .u8) y.2.2.2.2.2)⟩])
inductive af5 where
 | s0 (state:e9) (fuse:Int) (down:Bool) (b2 b3:List Int)
 | s1 (bodies:List (List Int)) (t34:List Int) (t35 t36:Int) (state2:e9) (fuse2:Int) (down2:Bool) (b4 b5:List Int)
noncomputable def bk5 (now:Int) (c:d9) (index:Int):af5→M
 | .s0 state fuse down b2 b3=>A6 Tryz.f25 [.ptr 0 0 0,.int .i64 now] [some ⟨88,true,[(e9.l state (d9.l c [.int .i64 index,.ptr 1 0 0]))]⟩,some ⟨4,true,[[(f6 2 (List.map (d8 .u8) b2)),(f6 3 (List.map (d8 .u8) b3)),.int .i64 fuse,.bool down]]⟩,some ⟨1,false,(List.map (d8 .u8) b2)⟩,some ⟨1,false,(List.map (d8 .u8) b3)⟩]
 | .s1 bodies t34 t35 t36 state2 fuse2 down2 b4 b5=>⟨[.lpc (bk2 [1,1,1,1,0,1,0,0]) 120259084355,.blk 0,.code (bk2 [1,1,1,1,1])],[(0,.ptr 0 0 0),(1,.int .i64 now),(6,.sl false 1 (List.map (E5 1 (d8 .u8)) bodies)),(34,.sl false 1 (List.map (d8 .u8) t34)),(35,.int .i64 t35),(36,.int .i64 t36)],[some ⟨88,true,[(e9.l state2 (d9.l c [.int .i64 index,.ptr 1 0 0]))]⟩,some ⟨4,true,[[(f6 4 (List.map (d8 .u8) b4)),(f6 5 (List.map (d8 .u8) b5)),.int .i64 fuse2,.bool down2]]⟩,none,none,some ⟨1,false,(List.map (d8 .u8) b4)⟩,some ⟨1,false,(List.map (d8 .u8) b5)⟩]⟩
abbrev bk6 (now:Int) (c:d9) (index:Int):=SOk E (Cx.of Tryz.f25 true 4) (bl5 c index) (bk5 now c index)
noncomputable def af4 (now:Int) (c:d9) (index:Int) (state:e9) (fuse:Int) (down:Bool) (b2 b3:List Int):Option (af5⊕(Int×e9×Int×Bool×(List Int)×(List Int))):=((aA2 c).bind fun y1=>((aa4 fuse down b2 b3).bind fun y2=>(bif ((y2.2.2.1:Int) !=0) then (some (.inr (y2.2.2.1,(⟨0,y1,0,[],(⟨0,0,0,0⟩:n9),(⟨false,0⟩:T5),(⟨0,0,0,(⟨0,0,0,0,0,0,0,0,0,0,[],[]⟩:Plan),0,(⟨0,0,0,0,0,0,0,0,0,0,[],[]⟩:Plan),0,0⟩:i8),0,0,0,(⟨false,0⟩:T5)⟩:e9),y2.2.2.2.1,y2.2.2.2.2.1,y2.2.2.2.2.2.1,y2.2.2.2.2.2.2))) else (some (.inl (.s1 y2.2.1 y2.1 (((List.map (d8 .u8) y2.1).length:Nat):Int) 0 (⟨0,y1,0,[],(⟨0,0,0,0⟩:n9),(⟨false,0⟩:T5),(⟨0,0,0,(⟨0,0,0,0,0,0,0,0,0,0,[],[]⟩:Plan),0,(⟨0,0,0,0,0,0,0,0,0,0,[],[]⟩:Plan),0,0⟩:i8),0,0,0,(⟨false,0⟩:T5)⟩:e9) y2.2.2.2.1 y2.2.2.2.2.1 y2.2.2.2.2.2.1 y2.2.2.2.2.2.2))))))
noncomputable def P2 (now:Int) (c:d9) (index:Int) (bodies:List (List Int)) (t34:List Int) (t35 t36:Int) (state2:e9) (fuse2:Int) (down2:Bool) (b4 b5:List Int):Option (af5⊕(Int×e9×Int×Bool×(List Int)×(List Int))):=(bif (decide ((t36:Int)<t35)) then (bif ((decide ((0:Int)≤t36))&&(decide ((t36:Int)<(((List.map (d8 .u8) t34).length:Nat):Int)))) then (((t34)[t36.toNat]?).bind fun y3=>(bif ((decide ((0:Int)≤t36))&&(decide ((t36:Int)<(((List.map (E5 1 (d8 .u8)) bodies).length:Nat):Int)))) then (((bodies)[t36.toNat]?).bind fun y6=>((bg5 y3 y6).bind fun y8=>(bif ((y8.2:Int)==0) then (bif ((y8.1.Kind:Int)==17) then (bif (decide ((y8.1.Nonce:Int)≥1048575)) then (some (.inr (2,state2,fuse2,down2,b4,b5))) else (some (.inl (.s1 bodies t34 t35 (IntKind.i64.wrap (t36+1)) state2 fuse2 down2 b4 b5)))) else (some (.inl (.s1 bodies t34 t35 (IntKind.i64.wrap (t36+1)) state2 fuse2 down2 b4 b5)))) else (some (.inl (.s1 bodies t34 t35 (IntKind.i64.wrap (t36+1)) state2 fuse2 down2 b4 b5)))))) else none)) else none) else ((bd2 fuse2 down2 b4 b5).bind fun y12=>(bif ((y12.2.1:Int) !=0) then (some (.inr (y12.2.1,state2,y12.2.2.1,y12.2.2.2.1,y12.2.2.2.2.1,y12.2.2.2.2.2))) else (some (.inr (0,(⟨y12.1,state2.known,now,state2.votes,state2.hold,state2.asked,state2.prop,state2.made,state2.top,state2.sealed,state2.told⟩:e9),y12.2.2.1,y12.2.2.2.1,y12.2.2.2.2.1,y12.2.2.2.2.2))))))
noncomputable def O3 (now:Int) (c:d9) (index:Int):af5→Option (af5⊕(Int×e9×Int×Bool×(List Int)×(List Int)))
 | .s0 state fuse down b2 b3=>af4 now c index state fuse down b2 b3
 | .s1 bodies t34 t35 t36 state2 fuse2 down2 b4 b5=>P2 now c index bodies t34 t35 t36 state2 fuse2 down2 b4 b5
theorem bL5 {now c index state fuse down b2 b3}:bk6 now c index (.s0 state fuse down b2 b3) (af4 now c index state fuse down b2 b3):=by
 intro r x h ha;unfold af4 at h
 refine zc 13 [] h (fun _=>bE4) fun y1 h=> ?_
 refine zc 15 [] h (fun _=>by8) fun y2 h=> ?_
 refine zs 15 h (fun h=> ?_) fun h=> ?_
 ·
  refine zf 5 [.blk 0 [some 3,some 1,some 1,some 1,some 1]] ?_
  exact zt 1 h ha
 exact zk 11 h ha [.blk 0 [some 3,some 1,some 1,some 1,some 1]]
theorem bI7 {now c index bodies t34 t35 t36 state2 fuse2 down2 b4 b5}:bk6 now c index (.s1 bodies t34 t35 t36 state2 fuse2 down2 b4 b5) (P2 now c index bodies t34 t35 t36 state2 fuse2 down2 b4 b5):=by
 intro r x h ha;unfold P2 at h
 refine zs 7 h (fun h=> ?_) fun h=> ?_
 ·
  refine zn 7 h fun h=> ?_
  refine zr 1 (d8 .u8) h fun y3 h=> ?_
  refine zn 9 h fun h=> ?_
  refine zr 1 (E5 1 (d8 .u8)) h fun y6 h=> ?_
  refine zc 1 [] h (fun _=>cJ9) fun y8 h=> ?_
  refine zs 15 h (fun h=> ?_) fun h=> ?_
  ·
   refine zs 9 h (fun h=> ?_) fun h=> ?_
   ·
    refine zs 9 h (fun h=> ?_) fun h=> ?_
    ·
     exact zt 5 h ha
    exact zj 7 h ha
   exact zj 16 h ha
  exact zj 25 h ha
 refine zc 9 [] h (fun _=>cC8) fun y12 h=> ?_
 refine zs 13 h (fun h=> ?_) fun h=> ?_
 ·
  exact zt 6 h ha
 exact zt 25 h ha
noncomputable def an9 (now:Int) (state:e9) (c:d9) (index fuse:Int) (down:Bool) (b2 b3:List Int):Option (Int×e9×Int×Bool×(List Int)×(List Int)):=T8 (O3 now c index) (.s0 state fuse down b2 b3)
theorem bh4 {now:Int}{state:e9}{c:d9}{index fuse:Int}{down:Bool}{b2 b3:List Int}{r:Int×e9×Int×Bool×(List Int)×(List Int)} (h:an9 now state c index fuse down b2 b3=some r):i4 E 25 [.ptr 0 0 0,.int .i64 now] [some ⟨88,true,[(e9.l state (d9.l c [.int .i64 index,.ptr 1 0 0]))]⟩,some ⟨4,true,[[(f6 2 (List.map (d8 .u8) b2)),(f6 3 (List.map (d8 .u8) b3)),.int .i64 fuse,.bool down]]⟩,some ⟨1,false,(List.map (d8 .u8) b2)⟩,some ⟨1,false,(List.map (d8 .u8) b3)⟩] (Rs (bl5 c index) r):=sc (fn:=Tryz.f25) (k:=true) (m:=4) (stM:=(bk5 now c index)) h fun s=>by
 cases s with
 | s0=>exact bL5
 | s1=>exact bI7
end Go.RX.L

namespace Go.RX.L
open Go Go.RX
theorem dc8:bi4 v7:=⟨ac6.2 (by decide),by decide,by decide,⟨by decide,by decide⟩⟩
theorem dV2 (k f t e b a n ti u co:Int):Shm ⟨k,f,t,e,b,a,n,ti,u,co,false,v7,[],[],[]⟩:=⟨⟨by simp [v7],by simp [v7]⟩,G0.2 (by simp [v7]),G0.2 (by simp [v7])⟩
theorem dD9 {k f t e b a n ti co:Int} (hk:1≤k∧k≤19) (hf:0≤f∧f≤255) (ht:0≤t∧t≤255) (hc:0≤co∧co≤1000):A0 ⟨k,f,t,e,b,a,n,ti,0,co,false,v7,[],[],[]⟩=true:=by
 simp only [A0,Bool.and_eq_true,decide_eq_true_eq,as0,cond_false]
 refine ⟨?_,by unfold txM;simp,by rw [bY5]⟩
 unfold hdM;simp only;omega
def z0 (n:Int):f3:=⟨17,0,0,0,0,0,n,0,0,0,false,v7,[],[],[]⟩
theorem cz9 {n:Int} (h:n8 .i64 n):bx1 (z0 n):=by
 refine ⟨⟨dV2 ..,dc8,?_,by simp [z0],fun x hx=>by simp [z0] at hx,fun x hx=>by simp [z0] at hx,fun x hx=>by simp [z0] at hx⟩,dD9 (by decide) (by decide) (by decide) (by decide)⟩
 intro x hx
 simp only [z0,List.mem_cons,List.not_mem_nil,or_false] at hx
 rcases hx with rfl | rfl | rfl | rfl | rfl<;>first | assumption | exact ac6.2 (by decide)
def H2 (l:List Int):Int:=l.foldl u9 0
theorem dX9 {a b n:Int} (h1:a≤n) (h2:b≤n):u9 a b≤n:=by unfold u9;split<;>omega
theorem dd2 (a b:Int):a≤u9 a b:=by unfold u9;split<;>omega
theorem dl4:∀(l:List Int) (a n:Int),a≤n→(∀x∈l,x≤n)→a≤l.foldl u9 a∧l.foldl u9 a≤n
 | [],a,n,h,_=>⟨Int.le_refl _,h⟩
 | x::l,a,n,h,hl=>by
  have:=dl4 l (u9 a x) n (dX9 h (hl x (by simp))) fun y hy=>hl y (by simp [hy])
  have h2:=dd2 a x
  rw [List.foldl_cons];omega
theorem dl2 (l:List Int) (n:Int):H2 (l++ [n])=u9 (H2 l) n:=by simp [H2]
def eg0:Option Int→List Int
 | none=> []
 | some n=>log [z0 n]
/-- What the disk has: boots, one that is not synced. -/
structure JR (ns : List Int) (pend : Option Int) (fuse : Int) (down : Bool) (s t : List Int) (i : Nat) : Prop where
  fu : Y1 fuse
  dk : ∃ J, bq4 (ns.map z0) J s ∧ (down = false → J = []) ∧ (pend ≠ none → J = [])
  tl : t = eg0 pend
  up : down = false → pend = none
  ns_ : ∀ n ∈ ns, 0 ≤ n ∧ n ≤ i
  pd : ∀ n, pend = some n → 0 ≤ n ∧ n ≤ i
  len : s.length + t.length ≤ 9000 * i
  cnt : ns.length + pend.toList.length ≤ i
theorem JR0:JR [] none (-1) false [] [] 0:=⟨by unfold Y1;omega,⟨[],bq4.nil,fun _=>rfl,fun _=>rfl⟩,rfl,fun _=>rfl,by simp,by simp,by simp,by simp⟩
section
variable {ns : List Int} {pend : Option Int} {fuse : Int} {down : Bool} {s t : List Int} {i : Nat}
theorem JR.more (h:JR ns pend fuse down s t i):JR ns pend fuse down s t (i+1):={ h with ns_:=fun n hn=>by have:=h.ns_ n hn;omega,pd:=fun n hn=>by have:=h.pd n hn;omega,len:=by have:=h.len;omega,cnt:=by have:=h.cnt;omega }
theorem JR.mx (h:JR ns pend fuse down s t i):0≤H2 ns∧H2 ns≤i:=dl4 ns 0 i (by omega) fun x hx=>(h.ns_ x hx).2
theorem dR5 {k:Int} (h:JR ns pend fuse down s t i) (hk:n8 .i64 k):aV4 k fuse down s t=some (u9 k (-1))∧JR ns pend (u9 k (-1)) down s t i:=by
 refine ⟨rfl,{ h with fu:= ?_ }⟩
 have:=ac6.1 hk
 unfold Y1 u9;split<;>omega
theorem de3 {n:Int}{i:Nat} (h:0≤n∧n≤i) (hi:i≤300):n8 .i64 n:=ac6.2 (by omega)
theorem dL8 {keep:Int} (h:JR ns pend fuse down s t i) (hi:i≤300):∃s' ns',am7 keep fuse down s t=some (-1,true,s',[])∧JR ns' none (-1) true s' [] i∧H2 ns≤H2 ns' :=by
 obtain ⟨fu,⟨J,dk,dj,dp⟩,tl,up,hn,pd,len,cnt⟩:=h
 have hc:=ea2 (keep:=keep) (fuse:=fuse) (down:=down) (s:=s) (t:=t) (by omega)
 have hkl:(be8 keep t).length≤t.length:=by unfold be8;rw [List.length_take];omega
 have f0:Y1 (-1):=by unfold Y1;omega
 have no:∀{P:Prop},true=false→P:=fun h=>by cases h
 cases hp:pend with
 | none=>
  rw [hp] at tl cnt
  subst tl
  exact ⟨_,ns,hc,⟨f0,⟨J,dk.crash0 keep,no,fun h=>absurd rfl h⟩,rfl,no,hn,fun n h=>(by cases h),by simp [be8] at len ⊢;omega,by simp at cnt ⊢;omega⟩,Int.le_refl _⟩
 | some m=>
  have hm:=pd m hp
  have hJ:=dp (by rw [hp];simp)
  subst hJ
  rw [hp] at tl cnt
  have tl:t=log [z0 m]:=tl
  simp only [Option.toList,List.length_cons,List.length_nil] at cnt
  rcases dk.crash (cz9 (de3 hm hi)) keep with h1 | ⟨J,h1⟩
  ·refine ⟨_,ns++ [m],hc,⟨f0,⟨[],by rw [tl,List.map_append];exact h1,no,fun h=>absurd rfl h⟩,rfl,no,fun n h=> ?_,fun n h=>(by cases h),by simp;omega,by simp;omega⟩,by rw [dl2];exact dd2 _ _⟩
   rcases List.mem_append.1 h with h | h
   ·exact hn n h
   ·rw [List.mem_singleton.1 h];exact hm
  ·exact ⟨_,ns,hc,⟨f0,⟨J,by rw [tl];exact h1,no,fun h=>absurd rfl h⟩,rfl,no,hn,fun n h=>(by cases h),by simp;omega,by simp;omega⟩,Int.le_refl _⟩
/-! ### a boot -/
def at3 (ns:List Int):List (List Int):=ns.map fun n=>ak5 (z0 n)
def al0 (ns:List Int):List Int:=ns.map fun _=>17
theorem wB {k:Nat} (h:k≤3000000):IntKind.i64.wrap ((k:Int)+1)=((k+1:Nat):Int):=by rw [u7 (by omega) (by omega)];norm_cast
theorem dl1 {n:Int} (h:n8 .i64 n):bg5 17 (ak5 (z0 n))=some (z0 n,0):=by
 have hm:=cz9 h
 have hb:=ck6 hm.1 hm.2
 have hby:s9 (ak5 (z0 n)):=hm.fr.2.1
 rw [ee5 (by decide) hby (by simp only [G3];omega)]
 exact congrArg some (dW6 hm.1 hm.2)
theorem dN5 {k:Nat} (h:k<ns.length):(al0 ns)[k]? =some 17∧(at3 ns)[k]? =some (ak5 (z0 ns[k])):=by simp [al0,at3,h]
theorem dw6 {f:Int}{d:Bool}{s' t' :List Int}{r:Int×Int×Int×Bool×List Int×List Int} (hn:∀n∈ns,n8 .i64 n) (hl:ns.length≤1000):∀(j k:Nat) (a:Int),k+j=ns.length→
  Ev N0 (.s1 (at3 ns) ((ns.drop k).foldl u9 a) (al0 ns) (ns.length:Nat) (ns.length:Nat) f d s' t') r→Ev N0 (.s1 (at3 ns) a (al0 ns) (ns.length:Nat) (k:Nat) f d s' t') r:=by
 intro j
 induction j with
 | zero=>
  intro k a hk h
  have:k=ns.length:=by omega
  subst this
  simpa using h
 | succ j ih=>
  intro k a hk h
  have hlt:k<ns.length:=by omega
  rw [List.drop_eq_getElem_cons hlt,List.foldl_cons] at h
  obtain ⟨g1,g2⟩:=dN5 hlt
  have hof:=dl1 (hn _ (List.getElem_mem hlt))
  have l1:(decide ((k:Int)<((al0 ns).length:Int)))=true:=by simp [al0];omega
  have l2:(decide ((k:Int)<((at3 ns).length:Int)))=true:=by simp [at3];omega
  refine .next (s' := .s2 (at3 ns) a (al0 ns) (ns.length:Nat) (k:Nat) true f d (z0 ns[k]) s' t') ?_ ?_
  ·simp only [N0,V3,F2 hlt,cond_true,List.length_map,M7,l1,l2,Bool.and_self,Int.toNat_natCast,g1,g2,Option.bind_some,hof,beq_self_eq_true,show (z0 ns[k]).Kind=17 from rfl]
  ·refine .next (s' := .s1 (at3 ns) (u9 a ns[k]) (al0 ns) (ns.length:Nat) ((k+1:Nat):Int) f d s' t') ?_ (ih (k+1) _ (by omega) h)
   simp only [N0,aO4,cond_true,wB (show k≤3000000 by omega),show (z0 ns[k]).Nonce=ns[k] from rfl]
theorem cZ5:eff (-1) false=some (-1):=by decide
theorem JR.open_ (h:JR ns pend fuse down s t i) (hi:i≤300):(∃f,aa4 fuse down s t=some (al0 ns,at3 ns,0,f,false,log (ns.map z0),[])∧JR ns none f false (log (ns.map z0)) [] i∧(fuse= -1→f= -1))∨
  (∃f,aa4 fuse down s t=some ([],[],61,f,true,s,[])∧JR ns none f true s [] i∧fuse≠ -1):=by
 obtain ⟨fu,⟨J,dk,dj,dp⟩,tl,up,hn,pd,len,cnt⟩:=h
 obtain ⟨e0,hcut⟩:=dk.cut
 have ho:=ee8 (fuse:=fuse) (down:=down) (t:=t) (dO9 dk.ok) hcut dk.jb (by have:=dk.eq;unfold log at this;rw [←this];omega) fu
 have hs:K9 ((ns.map z0).map bh8)++J=s:=dk.eq.symm
 rw [hs] at ho
 have m1:((ns.map z0).map bh8).map (·.1)=al0 ns:=by simp [bh8,al0,z0]
 have m2:((ns.map z0).map bh8).map (·.2)=at3 ns:=by simp [bh8,at3]
 rw [m1,m2] at ho
 have no:∀{P:Prop},true=false→P:=fun h=>by cases h
 have hls:(log (ns.map z0)).length≤s.length:=by rw [dk.eq];simp
 have good:∀f,Y1 f→JR ns none f false (log (ns.map z0)) [] i:=fun f hf=>⟨hf,⟨[],⟨dk.ok,by simp,⟨_,rfl⟩,fun c hc=>by simp at hc⟩,fun _=>rfl,fun _=>rfl⟩,rfl,fun _=>rfl,hn,fun n h=>(by cases h),by simp;omega,by simp;omega⟩
 by_cases hJ:J= []
 ·rw [if_pos hJ] at ho
  exact .inl ⟨fuse,ho,good _ fu,id⟩
 ·rw [if_neg hJ] at ho
  cases he:eff fuse false with
  | some f=>
   rw [he] at ho
   exact .inl ⟨f,ho,good _ (cl2 fu he),fun h=>by rw [h,cZ5] at he;exact (Option.some.inj he).symm⟩
  | none=>
   rw [he] at ho
   exact .inr ⟨fd fuse false,by rw [ho,←hs],⟨cB2 fu,⟨J,dk,no,fun h=>absurd rfl h⟩,rfl,no,hn,fun n h=>(by cases h),by simp;omega,by simp;omega⟩,fun h=>by rw [h,cZ5] at he;cases he⟩
theorem dU2 (h:JR ns pend fuse down s t i) (hi:i≤250):∃b e f d s' t' ns' pend',bd2 fuse down s t=some (b,e,f,d,s',t')∧JR ns' pend' f d s' t' (i+1)∧H2 ns≤H2 ns' ∧(e=0→d=false∧b=H2 ns+1∧H2 ns' =b)∧(fuse= -1→e=0):=by
 rcases h.open_ (by omega) with ⟨f,ho,hr,hf1⟩ | ⟨f,ho,hr,hf1⟩
 rotate_left
 ·refine ⟨0,61,f,true,s,[],ns,none,u6 (.done ?_),hr.more,Int.le_refl _,(fun h=>by cases h),fun h=>absurd h hf1⟩
  simp only [N0,az4,ho,Option.bind_some,show ((61:Int) !=0)=true from rfl,cond_true]
 have hin:∀n∈ns,n8 .i64 n:=fun n hn=>de3 (h.ns_ n hn) (by omega)
 have hm:=h.mx
 have hl:ns.length≤1000:=by have:=h.cnt;omega
 have hrec:bx1 (z0 (H2 ns+1)):=cz9 (ac6.2 (by omega))
 have hb:bO5 (z0 (H2 ns+1))=some (17,ak5 (z0 (H2 ns+1)),0):=by rw [dU0 hrec.1,dp7,if_pos hrec.2];rfl
 obtain ⟨h1,h2,h3⟩:=hrec.fr
 have h1:0≤(17:Int)∧(17:Int)≤255:=by decide
 have h2:s9 (ak5 (z0 (H2 ns+1))):=h2
 have h3:(ak5 (z0 (H2 ns+1))).length≤8192:=h3
 have hlen:=hr.len
 have hcnt:=hr.cnt
 have ha:=dT8 (k:=17) (body:=ak5 (z0 (H2 ns+1))) h1 h2 h3 hr.fu (down:=false) (s:=log (ns.map z0)) (t:= []) (by simp)
 have hlg:H0 17 (ak5 (z0 (H2 ns+1)))=log [z0 (H2 ns+1)]:=(cF2 (z0 (H2 ns+1))).symm
 have hl' :(log [z0 (H2 ns+1)]).length≤8500:=by rw [←hlg,aQ2];omega
 have w1:IntKind.i64.wrap (H2 ns+1)=H2 ns+1:=u7 (by omega) (by omega)
 have ge:decide (H2 ns≥1099511627776)=false:=decide_eq_false (by omega)
 have lt:decide (((ns.length:Nat):Int)<((ns.length:Nat):Int))=false:=decide_eq_false (by omega)
 have first:∀{r},V3 (at3 ns) (H2 ns) (al0 ns) (ns.length:Nat) (ns.length:Nat) f false (log (ns.map z0)) []=some (.inr r)→bd2 fuse down s t=some r:=fun {r} hh=>by
  refine u6 (.next (s' := .s1 (at3 ns) 0 (al0 ns) (ns.length:Nat) ((0:Nat):Int) f false (log (ns.map z0)) []) ?_ (dw6 hin hl ns.length 0 0 (by omega) (.done ?_)))
  ·simp only [N0,az4,ho,Option.bind_some,show ((0:Int) !=0)=false from rfl,cond_false,List.length_map]
   simp [al0]
  ·simpa only [N0,List.drop_zero,H2] using hh
 have bm:(⟨17,0,0,0,0,0,H2 ns+1,0,0,0,false,(⟨0,0,0,0,0,0,0,0,0,0,[],[]⟩:Plan),[],[],[]⟩:f3)=z0 (H2 ns+1):=rfl
 have no:∀{P:Prop},true=false→P:=fun h=>by cases h
 obtain ⟨J,dk,dj,dp⟩:=hr.dk
 have hJ:=dj rfl
 subst hJ
 have b1:0≤H2 ns+1∧H2 ns+1≤((i+1:Nat):Int):=by omega
 have ns1:∀n∈ns,0≤n∧n≤((i+1:Nat):Int):=fun n hn=>by have:=h.ns_ n hn;omega
 simp only [List.length_nil,Nat.add_zero,Option.toList] at hlen hcnt
 simp only [List.nil_append,hlg] at ha
 cases he:eff f false with
 | none=>
  rw [he] at ha
  refine ⟨0,61,fd f false,true,log (ns.map z0),[],ns,none,first ?_,⟨cB2 hr.fu,⟨[],dk,no,fun h=>absurd rfl h⟩,rfl,no,ns1,fun n h=>(by cases h),by simp;omega,by simp;omega⟩,Int.le_refl _,(fun h=>by cases h),fun h=>by rw [hf1 h,cZ5] at he;cases he⟩
  simp only [V3,lt,cond_false,ge,w1,bm,hb,Option.bind_some,ha,show ((61:Int) !=0)=true from rfl,cond_true]
 | some g=>
  rw [he] at ha
  have hg:=cl2 hr.fu he
  have hy:=eg4 (fuse:=g) hg (down:=false) (s:=log (ns.map z0)) (t:=log [z0 (H2 ns+1)]) (by omega)
  cases he2:eff g false with
  | none=>
   rw [he2] at hy
   refine ⟨0,61,fd g false,true,log (ns.map z0),log [z0 (H2 ns+1)],ns,some (H2 ns+1),first ?_,⟨cB2 hg,⟨[],dk,no,fun _=>rfl⟩,rfl,no,ns1,fun n h=>(by cases h;exact b1),by omega,by simp;omega⟩,Int.le_refl _,(fun h=>by cases h),fun h=>by rw [hf1 h,cZ5] at he;cases he;rw [cZ5] at he2;cases he2⟩
   simp only [V3,lt,cond_false,ge,w1,bm,hb,Option.bind_some,ha,show ((0:Int) !=0)=false from rfl,hy,show ((61:Int) !=0)=true from rfl,cond_true]
  | some g2=>
   rw [he2] at hy
   have mx:H2 (ns++ [H2 ns+1])=H2 ns+1:=by rw [dl2];unfold u9;split<;>omega
   refine ⟨H2 ns+1,0,g2,false,log (ns.map z0)++log [z0 (H2 ns+1)],[],ns++ [H2 ns+1],none,first ?_,⟨cl2 hg he2,⟨[],⟨fun x hx=> ?_,by simp [dm9],⟨_,rfl⟩,fun c hc=>by simp at hc⟩,fun _=>rfl,fun _=>rfl⟩,rfl,fun _=>rfl,fun n hn=> ?_,fun n h=>(by cases h),by simp;omega,by simp;omega⟩,by rw [mx];omega,(fun _=>⟨rfl,rfl,mx⟩),fun _=>rfl⟩
   ·simp only [V3,lt,cond_false,ge,w1,bm,hb,Option.bind_some,ha,show ((0:Int) !=0)=false from rfl,hy]
   ·rw [List.map_append] at hx
    rcases List.mem_append.1 hx with hx | hx
    ·exact dk.ok x hx
    ·simp only [List.map_cons,List.map_nil,List.mem_singleton] at hx
     rw [hx];exact hrec
   ·rcases List.mem_append.1 hn with hn | hn
    ·exact ns1 n hn
    ·rw [List.mem_singleton.1 hn];exact b1
end
end Go.RX.L

namespace Go.RX.L
open Go Go.RX Go.Proofs
attribute [local irreducible] i0
noncomputable def cy3 (y:Int×Bool):D×f4:=(.tup [.int .i64 y.1,.bool y.2],[])
noncomputable def al4 (node first many:Int):Option (Int×Bool):=(bif (decide ((node:Int)≥first)) then (some ((IntKind.i64.wrap (node-first)),(decide ((node:Int)<(IntKind.i64.wrap (first+many)))))) else (some ((IntKind.i64.wrap (node-first)),false)))
theorem br1 {node first many:Int}{r:Int×Bool} (h:al4 node first many=some r):i4 E 59 [.int .i64 node,.int .i64 first,.int .i64 many] [] (Rs cy3 r):=so (fn:=Tryz.f59) (k:=false) (m:=0) h<| by
 intro r h;unfold al4 at h
 refine zs 15 h (fun h=> ?_) fun h=> ?_
 ·
  exact zu 14 h
 exact zu 14 h
end Go.RX.L

namespace Go.RX.L
open Go Go.RX Go.Proofs
attribute [local irreducible] i0
noncomputable def cz6 (state:e9) (c:d9) (index fuse:Int) (down:Bool) (b2 b3:List Int) (y:Bool):D×f4:=(.bool y,[some ⟨88,true,[(e9.l state (d9.l c [.int .i64 index,.ptr 1 0 0]))]⟩,some ⟨4,true,[[(f6 2 (List.map (d8 .u8) b2)),(f6 3 (List.map (d8 .u8) b3)),.int .i64 fuse,.bool down]]⟩,some ⟨1,false,(List.map (d8 .u8) b2)⟩,some ⟨1,false,(List.map (d8 .u8) b3)⟩])
noncomputable def aG9 (p_:Plan) (state:e9) (c:d9) (index fuse:Int) (down:Bool) (b2 b3:List Int):Option Bool:=(bif (!decide ((c.Targets:Int)<0)) then ((ag9 p_).bind fun y2=>(bif y2 then (bif (((((List.map (d8 .i64) p_.Pen).length:Nat):Int):Int)==c.Targets) then (bif (decide (((u9 (u9 p_.Target p_.Prev) p_.Spill):Int)<c.Targets)) then (bif (((am5 .u64 (orI .u64 p_.Up p_.Sup) (IntKind.u64.wrap ((F3 .u64 1 c.Targets)-1))):Int)==0) then (some (decide (((((List.map (d8 .i64) p_.Changes).length:Nat):Int):Int)≤c.B_))) else (some false)) else (some false)) else (some false)) else (some false))) else none)
theorem cz4 {p_:Plan}{state:e9}{c:d9}{index fuse:Int}{down:Bool}{b2 b3:List Int}{r:Bool} (h:aG9 p_ state c index fuse down b2 b3=some r):i4 E 68 [.ptr 0 0 0,.agg (Plan.enc p_)] [some ⟨88,true,[(e9.l state (d9.l c [.int .i64 index,.ptr 1 0 0]))]⟩,some ⟨4,true,[[(f6 2 (List.map (d8 .u8) b2)),(f6 3 (List.map (d8 .u8) b3)),.int .i64 fuse,.bool down]]⟩,some ⟨1,false,(List.map (d8 .u8) b2)⟩,some ⟨1,false,(List.map (d8 .u8) b3)⟩] (Rs (cz6 state c index fuse down b2 b3) r):=so (fn:=Tryz.f68) (k:=true) (m:=4) h<| by
 intro r h;unfold aG9 at h
 refine zn 14 h fun h=> ?_
 refine zd 6 [] h (fun _=>ax8) fun y2 h=> ?_
 refine zs 0 h (fun h=> ?_) fun h=> ?_
 ·
  refine zs 11 h (fun h=> ?_) fun h=> ?_
  ·
   refine zs 17 h (fun h=> ?_) fun h=> ?_
   ·
    refine zs 10 h (fun h=> ?_) fun h=> ?_
    ·
     exact zu 12 h
    exact zu 10 h
   exact zu 19 h
  exact zu 33 h
 exact zu 43 h
end Go.RX.L

namespace Go.RX.L
open Go Go.RX Go.Proofs
attribute [local irreducible] i0
noncomputable def cu8 (c:d9) (index fuse:Int) (down:Bool) (b2 b3:List Int) (y:e9):D×f4:=(.tup [],[some ⟨88,true,[(e9.l y (d9.l c [.int .i64 index,.ptr 1 0 0]))]⟩,some ⟨4,true,[[(f6 2 (List.map (d8 .u8) b2)),(f6 3 (List.map (d8 .u8) b3)),.int .i64 fuse,.bool down]]⟩,some ⟨1,false,(List.map (d8 .u8) b2)⟩,some ⟨1,false,(List.map (d8 .u8) b3)⟩])
noncomputable def ay0 (p_:Plan) (now:Int) (state:e9) (c:d9) (index fuse:Int) (down:Bool) (b2 b3:List Int):Option e9:=(some (⟨state.boot,p_,now,state.votes,state.hold,state.asked,(⟨0,0,0,(⟨0,0,0,0,0,0,0,0,0,0,[],[]⟩:Plan),0,(⟨0,0,0,0,0,0,0,0,0,0,[],[]⟩:Plan),0,0⟩:i8),state.made,state.top,0,state.told⟩:e9))
theorem bt7 {p_:Plan}{now:Int}{state:e9}{c:d9}{index fuse:Int}{down:Bool}{b2 b3:List Int}{r:e9} (h:ay0 p_ now state c index fuse down b2 b3=some r):i4 E 66 [.ptr 0 0 0,.agg (Plan.enc p_),.int .i64 now] [some ⟨88,true,[(e9.l state (d9.l c [.int .i64 index,.ptr 1 0 0]))]⟩,some ⟨4,true,[[(f6 2 (List.map (d8 .u8) b2)),(f6 3 (List.map (d8 .u8) b3)),.int .i64 fuse,.bool down]]⟩,some ⟨1,false,(List.map (d8 .u8) b2)⟩,some ⟨1,false,(List.map (d8 .u8) b3)⟩] (Rs (cu8 c index fuse down b2 b3) r):=so (fn:=Tryz.f66) (k:=true) (m:=4) h<| by
 intro r h;unfold ay0 at h
 refine zf 38 [.blk 0 [some 1,some 1,some 1,some 1]] ?_
 exact zu 1 h
end Go.RX.L

namespace Go.RX.L
open Go Go.RX Go.Proofs
attribute [local irreducible] i0
noncomputable def cT8 (state:e9) (c:d9) (index fuse:Int) (down:Bool) (b2 b3:List Int) (y:Bool):D×f4:=(.bool y,[some ⟨88,true,[(e9.l state (d9.l c [.int .i64 index,.ptr 1 0 0]))]⟩,some ⟨4,true,[[(f6 2 (List.map (d8 .u8) b2)),(f6 3 (List.map (d8 .u8) b3)),.int .i64 fuse,.bool down]]⟩,some ⟨1,false,(List.map (d8 .u8) b2)⟩,some ⟨1,false,(List.map (d8 .u8) b3)⟩])
noncomputable def az8 (now:Int) (state:e9) (c:d9) (index fuse:Int) (down:Bool) (b2 b3:List Int):Option Bool:=(bif (decide ((now:Int)<0)) then (some true) else (bif (decide ((now:Int)>1099511627776)) then (some true) else (bif ((state.boot:Int)==0) then (some true) else ((as9 (⟨b2,b3,fuse,down⟩:r6)).bind fun y4=>(some y4)))))
theorem bD5 {now:Int}{state:e9}{c:d9}{index fuse:Int}{down:Bool}{b2 b3:List Int}{r:Bool} (h:az8 now state c index fuse down b2 b3=some r):i4 E 49 [.ptr 0 0 0,.int .i64 now] [some ⟨88,true,[(e9.l state (d9.l c [.int .i64 index,.ptr 1 0 0]))]⟩,some ⟨4,true,[[(f6 2 (List.map (d8 .u8) b2)),(f6 3 (List.map (d8 .u8) b3)),.int .i64 fuse,.bool down]]⟩,some ⟨1,false,(List.map (d8 .u8) b2)⟩,some ⟨1,false,(List.map (d8 .u8) b3)⟩] (Rs (cT8 state c index fuse down b2 b3) r):=so (fn:=Tryz.f49) (k:=true) (m:=4) h<| by
 intro r h;unfold az8 at h
 refine zs 10 h (fun h=> ?_) fun h=> ?_
 ·
  exact zu 35 h
 refine zs 6 h (fun h=> ?_) fun h=> ?_
 ·
  exact zu 28 h
 refine zs 15 h (fun h=> ?_) fun h=> ?_
 ·
  exact zu 13 h
 refine zm 9 (b:=(Nat.ble (0+(List.map (d8 .u8) b2).length) ((List.map (d8 .u8) b2).length))) (v6 _) ?_
 refine zm 0 (b:=(Nat.ble (0+(List.map (d8 .u8) b3).length) ((List.map (d8 .u8) b3).length))) (v6 _) ?_
 refine zcE 0 [] (args1:= [.iptr 4 [[.sl false 1 (List.take ((List.map (d8 .u8) b2).length) (List.drop 0 (List.map (d8 .u8) b2))),.sl false 1 (List.take ((List.map (d8 .u8) b3).length) (List.drop 0 (List.map (d8 .u8) b3))),.int .i64 fuse,.bool down]] 0 0]) h (fun _=>bx4) ⟨by simp [d9.enc,d9.l,i8.enc,i8.l,n9.enc,n9.l,r6.enc,r6.l,f3.enc,f3.l,Op.enc,Op.l,Plan.enc,Plan.l,D0.enc,D0.l,i9.enc,i9.l,p6.enc,p6.l,m9.enc,m9.l,e9.enc,e9.l,List.take_of_length_le,List.map_take,List.map_drop],rfl⟩ fun y4 h=> ?_
 exact zu 5 h
end Go.RX.L

namespace Go.RX.L
open Go Go.RX Go.Proofs
attribute [local irreducible] i0
noncomputable def C4:=p7 (q0 Tryz.f32)
noncomputable def bu4 (c:d9) (index fuse:Int) (down:Bool) (b2 b3:List Int) (y:(List f3)×e9):D×f4:=(.sl false 26 (List.map f3.enc y.1),[some ⟨88,true,[(e9.l y.2 (d9.l c [.int .i64 index,.ptr 1 0 0]))]⟩,some ⟨4,true,[[(f6 2 (List.map (d8 .u8) b2)),(f6 3 (List.map (d8 .u8) b3)),.int .i64 fuse,.bool down]]⟩,some ⟨1,false,(List.map (d8 .u8) b2)⟩,some ⟨1,false,(List.map (d8 .u8) b3)⟩])
abbrev Z1 (m:f3) (now:Int) (state:e9) (c:d9) (index fuse:Int) (down:Bool) (b2 b3:List Int):=AOk E (Cx.of Tryz.f32 true 4) (bu4 c index fuse down b2 b3)
noncomputable def ch0 (m:f3) (now:Int) (state:e9) (c:d9) (index fuse:Int) (down:Bool) (b2 b3:List Int) (i:Int) (t252:Bool):M:=⟨[.code (C4 [1,1,1,0,1,0,1,1,1,1,1,1,1,1,1,1,1,1,1,0,1,1]),.blk 0,.code (C4 [1,1,1,1])],[(0,.ptr 0 0 0),(10,.int .i64 i),(252,.bool t252)],[some ⟨88,true,[(e9.l state (d9.l c [.int .i64 index,.ptr 1 0 0]))]⟩,some ⟨4,true,[[(f6 2 (List.map (d8 .u8) b2)),(f6 3 (List.map (d8 .u8) b3)),.int .i64 fuse,.bool down]]⟩,some ⟨1,false,(List.map (d8 .u8) b2)⟩,some ⟨1,false,(List.map (d8 .u8) b3)⟩]⟩
noncomputable def Y6 (m:f3) (now:Int) (state:e9) (c:d9) (index fuse:Int) (down:Bool) (b2 b3:List Int) (i:Int) (t252:Bool):Option ((List f3)×e9):=(bif t252 then (bif (!decide ((i:Int)<0)) then (some ([],(⟨state.boot,state.known,state.heard,state.votes,state.hold,state.asked,state.prop,state.made,state.top,(orI .u64 state.sealed (F3 .u64 1 i)),state.told⟩:e9))) else none) else (some ([],state)))
theorem aY3 {m now state c index fuse down b2 b3 i t252}:Z1 m now state c index fuse down b2 b3 (ch0 m now state c index fuse down b2 b3 i t252) (Y6 m now state c index fuse down b2 b3 i t252):=by
 intro r h;unfold Y6 at h
 refine zs 1 h (fun h=> ?_) fun h=> ?_
 ·
  refine zn 2 h fun h=> ?_
  exact zu 8 h [.slot 0 [some 26]]
 exact zu 7 h [.slot 0 [some 26]]
noncomputable def cf0 (m:f3) (now:Int) (state:e9) (c:d9) (index fuse:Int) (down:Bool) (b2 b3:List Int) (t216:Bool):M:=⟨[.code (C4 [1,1,1,0,1,0,1,1,1,1,1,1,1,1,1,1,1,0,1]),.blk 0,.code (C4 [1,1,1,1])],[(0,.ptr 0 0 0),(2,.int .i64 now),(4,.ptr 4 0 0),(216,.bool t216)],[some ⟨88,true,[(e9.l state (d9.l c [.int .i64 index,.ptr 1 0 0]))]⟩,some ⟨4,true,[[(f6 2 (List.map (d8 .u8) b2)),(f6 3 (List.map (d8 .u8) b3)),.int .i64 fuse,.bool down]]⟩,some ⟨1,false,(List.map (d8 .u8) b2)⟩,some ⟨1,false,(List.map (d8 .u8) b3)⟩,some ⟨26,false,[(f3.enc m)]⟩]⟩
noncomputable def Y9 (m:f3) (now:Int) (state:e9) (c:d9) (index fuse:Int) (down:Bool) (b2 b3:List Int) (t216:Bool):Option ((List f3)×e9):=(bif t216 then ((ay0 m.Plan now state c index fuse down b2 b3).bind fun y2=>(some ([],y2))) else (some ([],state)))
theorem aB5 {m now state c index fuse down b2 b3 t216}:Z1 m now state c index fuse down b2 b3 (cf0 m now state c index fuse down b2 b3 t216) (Y9 m now state c index fuse down b2 b3 t216):=by
 intro r h;unfold Y9 at h
 refine zs 1 h (fun h=> ?_) fun h=> ?_
 ·
  refine zc 7 [] h (fun _=>bt7) fun y2 h=> ?_
  exact zu 7 h [.slot 0 [some 26]]
 exact zu 7 h [.slot 0 [some 26]]
noncomputable def cf5 (m:f3) (now:Int) (state:e9) (c:d9) (index fuse:Int) (down:Bool) (b2 b3:List Int) (t168:Bool) (state2:e9):M:=⟨[.code (C4 [1,1,1,0,1,0,1,1,1,1,1,1,1,0,1,1]),.blk 0,.code (C4 [1,1,1,1])],[(0,.ptr 0 0 0),(2,.int .i64 now),(168,.bool t168)],[some ⟨88,true,[(e9.l state2 (d9.l c [.int .i64 index,.ptr 1 0 0]))]⟩,some ⟨4,true,[[(f6 2 (List.map (d8 .u8) b2)),(f6 3 (List.map (d8 .u8) b3)),.int .i64 fuse,.bool down]]⟩,some ⟨1,false,(List.map (d8 .u8) b2)⟩,some ⟨1,false,(List.map (d8 .u8) b3)⟩]⟩
noncomputable def aj0 (m:f3) (now:Int) (state:e9) (c:d9) (index fuse:Int) (down:Bool) (b2 b3:List Int) (t168:Bool) (state2:e9):Option ((List f3)×e9):=(bif t168 then ((ay0 state2.prop.Value now state2 c index fuse down b2 b3).bind fun y2=>((as6 now y2 c index fuse down b2 b3).bind fun y3=>(some (y3.1,y3.2)))) else (some ([],state2)))
theorem aZ0 {m now state c index fuse down b2 b3 t168 state2}:Z1 m now state c index fuse down b2 b3 (cf5 m now state c index fuse down b2 b3 t168 state2) (aj0 m now state c index fuse down b2 b3 t168 state2):=by
 intro r h;unfold aj0 at h
 refine zs 1 h (fun h=> ?_) fun h=> ?_
 ·
  refine zc 12 [] h (fun _=>bt7) fun y2 h=> ?_
  refine zc 6 [] h (fun _=>bx7) fun y3 h=> ?_
  exact zu 3 h
 exact zu 7 h [.slot 0 [some 26]]
noncomputable def cg4 (m:f3) (now:Int) (state:e9) (c:d9) (index fuse:Int) (down:Bool) (b2 b3:List Int) (t117:Bool) (state2:e9):M:=⟨[.code (C4 [1,1,1,0,1,0,1,1,1,1,1,0,1,1]),.blk 0,.code (C4 [1,1,1,1])],[(0,.ptr 0 0 0),(117,.bool t117)],[some ⟨88,true,[(e9.l state2 (d9.l c [.int .i64 index,.ptr 1 0 0]))]⟩,some ⟨4,true,[[(f6 2 (List.map (d8 .u8) b2)),(f6 3 (List.map (d8 .u8) b3)),.int .i64 fuse,.bool down]]⟩,some ⟨1,false,(List.map (d8 .u8) b2)⟩,some ⟨1,false,(List.map (d8 .u8) b3)⟩]⟩
noncomputable def ak4 (m:f3) (now:Int) (state:e9) (c:d9) (index fuse:Int) (down:Bool) (b2 b3:List Int) (t117:Bool) (state2:e9):Option ((List f3)×e9):=(bif t117 then ((L5 state2 c index fuse down b2 b3).bind fun y2=>((J7 (⟨7,0,0,state2.prop.Epoch,state2.prop.Ballot,0,0,0,0,0,true,state2.prop.Value,[],[],[]⟩:f3) state2 c index fuse down b2 b3).bind fun y3=>(some (y3,state2)))) else (some ([],state2)))
theorem aY8 {m now state c index fuse down b2 b3 t117 state2}:Z1 m now state c index fuse down b2 b3 (cg4 m now state c index fuse down b2 b3 t117 state2) (ak4 m now state c index fuse down b2 b3 t117 state2):=by
 intro r h;unfold ak4 at h
 refine zs 1 h (fun h=> ?_) fun h=> ?_
 ·
  refine zdR 2 [] h (fun _=>aw3) fun y2 h=> ?_
  refine zc 3 [some 1,some 1,some 1] h (fun _=>ae1) fun y3 h=> ?_
  refine cc1 6 (n1:=(0+(List.map f3.enc y3).length)) (n2:=((List.map f3.enc y3).length)) (raw:=(List.take ((List.map f3.enc y3).length) (List.drop 0 (List.map f3.enc y3)))) (rs:=(List.map f3.enc y3)) (by kernel_rfl) (v6 _) (by simp only [A1,E8,List.map_take,List.map_drop]) ?_
  exact zu 1 h
 exact zu 7 h [.slot 0 [some 26]]
noncomputable def ce8 (m:f3) (now:Int) (state:e9) (c:d9) (index fuse:Int) (down:Bool) (b2 b3:List Int) (t74:Bool):M:=⟨[.code (C4 [1,1,1,0,1,0,1,1,1,0,1]),.blk 0,.code (C4 [1,1,1,1])],[(0,.ptr 0 0 0),(4,.ptr 4 0 0),(74,.bool t74)],[some ⟨88,true,[(e9.l state (d9.l c [.int .i64 index,.ptr 1 0 0]))]⟩,some ⟨4,true,[[(f6 2 (List.map (d8 .u8) b2)),(f6 3 (List.map (d8 .u8) b3)),.int .i64 fuse,.bool down]]⟩,some ⟨1,false,(List.map (d8 .u8) b2)⟩,some ⟨1,false,(List.map (d8 .u8) b3)⟩,some ⟨26,false,[(f3.enc m)]⟩]⟩
noncomputable def Z2 (m:f3) (now:Int) (state:e9) (c:d9) (index fuse:Int) (down:Bool) (b2 b3:List Int) (t74:Bool):Option ((List f3)×e9):=(bif t74 then ((aN8 state.hold c m).bind fun y2=>(some ([],(⟨state.boot,state.known,state.heard,state.votes,y2,state.asked,state.prop,state.made,state.top,state.sealed,state.told⟩:e9)))) else (some ([],state)))
theorem aY7 {m now state c index fuse down b2 b3 t74}:Z1 m now state c index fuse down b2 b3 (ce8 m now state c index fuse down b2 b3 t74) (Z2 m now state c index fuse down b2 b3 t74):=by
 intro r h;unfold Z2 at h
 refine zs 1 h (fun h=> ?_) fun h=> ?_
 ·
  refine zd 4 [] h (fun _=>cH3) fun y2 h=> ?_
  exact zu 8 h [.slot 0 [some 26]]
 exact zu 7 h [.slot 0 [some 26]]
noncomputable def cg0 (m:f3) (now:Int) (state:e9) (c:d9) (index fuse:Int) (down:Bool) (b2 b3:List Int) (t19:Bool):M:=⟨[.code (C4 [1,0,1]),.code (C4 [1,1])],[(0,.ptr 0 0 0),(2,.int .i64 now),(4,.ptr 4 0 0),(19,.bool t19)],[some ⟨88,true,[(e9.l state (d9.l c [.int .i64 index,.ptr 1 0 0]))]⟩,some ⟨4,true,[[(f6 2 (List.map (d8 .u8) b2)),(f6 3 (List.map (d8 .u8) b3)),.int .i64 fuse,.bool down]]⟩,some ⟨1,false,(List.map (d8 .u8) b2)⟩,some ⟨1,false,(List.map (d8 .u8) b3)⟩,some ⟨26,false,[(f3.enc m)]⟩]⟩
noncomputable def S4 (m:f3) (now:Int) (state:e9) (c:d9) (index fuse:Int) (down:Bool) (b2 b3:List Int) (t19:Bool):Option ((List f3)×e9):=(bif t19 then (some ([],state)) else (bif ((m.Kind:Int)==3) then ((M6 c 0).bind fun y3=>((al4 m.From y3 c.Observers).bind fun y4=>(bif y4.2 then ((bg8 state.votes (⟨y4.1,m.Up,now⟩:i9)).bind fun y6=>(some ([],(⟨state.boot,state.known,state.heard,y6,state.hold,state.asked,state.prop,state.made,state.top,state.sealed,state.told⟩:e9)))) else (some ([],state))))) else (bif ((m.Kind:Int)==11) then (bif ((m.Code:Int)==2) then (Z2 m now state c index fuse down b2 b3 state.asked.ever) else (Z2 m now state c index fuse down b2 b3 false)) else (bif ((m.Kind:Int)==5) then ((ai6 state.prop c m).bind fun y10=>(bif ((state.prop.Phase:Int)==1) then (ak4 m now state c index fuse down b2 b3 ((y10.Phase:Int)==2) (⟨state.boot,state.known,state.heard,state.votes,state.hold,state.asked,y10,state.made,state.top,state.sealed,state.told⟩:e9)) else (ak4 m now state c index fuse down b2 b3 false (⟨state.boot,state.known,state.heard,state.votes,state.hold,state.asked,y10,state.made,state.top,state.sealed,state.told⟩:e9)))) else (bif ((m.Kind:Int)==8) then ((ag1 state.prop c m).bind fun y13=>(bif ((state.prop.Phase:Int)==2) then (aj0 m now state c index fuse down b2 b3 ((y13.Phase:Int)==3) (⟨state.boot,state.known,state.heard,state.votes,state.hold,state.asked,y13,state.made,state.top,state.sealed,state.told⟩:e9)) else (aj0 m now state c index fuse down b2 b3 false (⟨state.boot,state.known,state.heard,state.votes,state.hold,state.asked,y13,state.made,state.top,state.sealed,state.told⟩:e9)))) else (bif ((m.Kind:Int)==6) then (some ([],(⟨state.boot,state.known,state.heard,state.votes,state.hold,state.asked,state.prop,state.made,(u9 state.top m.Ballot),state.sealed,state.told⟩:e9))) else (bif ((m.Kind:Int)==9) then (bif m.HasPlan then ((aG9 m.Plan state c index fuse down b2 b3).bind fun y18=>(bif y18 then (Y9 m now state c index fuse down b2 b3 (decide ((m.Plan.Epoch:Int)>state.known.Epoch))) else (Y9 m now state c index fuse down b2 b3 false))) else (Y9 m now state c index fuse down b2 b3 false)) else (bif ((m.Kind:Int)==13) then ((Y7 c 0).bind fun y21=>((al4 m.From y21 c.Targets).bind fun y22=>(bif y22.2 then (Y6 m now state c index fuse down b2 b3 y22.1 ((m.Epoch:Int)==(IntKind.i64.wrap (state.known.Epoch+1)))) else (Y6 m now state c index fuse down b2 b3 y22.1 false)))) else (some ([],state))))))))))
theorem aY0 {m now state c index fuse down b2 b3 t19}:Z1 m now state c index fuse down b2 b3 (cg0 m now state c index fuse down b2 b3 t19) (S4 m now state c index fuse down b2 b3 t19):=by
 intro r h;unfold S4 at h
 refine zs 1 h (fun h=> ?_) fun h=> ?_
 ·
  exact zu 5 h [.slot 0 [some 26]]
 refine zs 26 h (fun h=> ?_) fun h=> ?_
 ·
  refine zd 4 [] h (fun _=>ak7) fun y3 h=> ?_
  refine zd 1 [] h (fun _=>br1) fun y4 h=> ?_
  refine zs 5 h (fun h=> ?_) fun h=> ?_
  ·
   refine zd 3 [] h (fun _=>cY7) fun y6 h=> ?_
   exact zu 8 h [.slot 0 [some 26]]
  exact zu 7 h [.slot 0 [some 26]]
 refine zs 6 h (fun h=> ?_) fun h=> ?_
 ·
  refine zs 8 h (fun h=> ?_) fun h=> ?_
  ·
   exact zg 14 (aY7 h)
  exact zg 13 (aY7 h)
 refine zs 6 h (fun h=> ?_) fun h=> ?_
 ·
  refine zd 5 [] h (fun _=>bS3) fun y10 h=> ?_
  refine zs 8 h (fun h=> ?_) fun h=> ?_
  ·
   exact zg 16 (aY8 h)
  exact zg 15 (aY8 h)
 refine zs 6 h (fun h=> ?_) fun h=> ?_
 ·
  refine zd 5 [] h (fun _=>bN7) fun y13 h=> ?_
  refine zs 8 h (fun h=> ?_) fun h=> ?_
  ·
   exact zg 16 (aZ0 h)
  exact zg 15 (aZ0 h)
 refine zs 6 h (fun h=> ?_) fun h=> ?_
 ·
  exact zu 11 h [.slot 0 [some 26]]
 refine zs 6 h (fun h=> ?_) fun h=> ?_
 ·
  refine zs 3 h (fun h=> ?_) fun h=> ?_
  ·
   refine zdR 4 [] h (fun _=>cz4) fun y18 h=> ?_
   refine zs 1 h (fun h=> ?_) fun h=> ?_
   ·
    exact zg 12 (aB5 h)
   exact zg 10 (aB5 h)
  exact zg 15 (aB5 h)
 refine zs 6 h (fun h=> ?_) fun h=> ?_
 ·
  refine zd 4 [] h (fun _=>aK8) fun y21 h=> ?_
  refine zd 1 [] h (fun _=>br1) fun y22 h=> ?_
  refine zs 2 h (fun h=> ?_) fun h=> ?_
  ·
   exact zg 12 (aY3 h)
  exact zg 10 (aY3 h)
 exact zu 7 h [.slot 0 [some 26]]
noncomputable def at8 (m:f3) (now:Int) (state:e9) (c:d9) (index fuse:Int) (down:Bool) (b2 b3:List Int):Option ((List f3)×e9):=((an5 m).bind fun y1=>(bif (!y1) then (S4 m now state c index fuse down b2 b3 true) else ((az8 now state c index fuse down b2 b3).bind fun y3=>(S4 m now state c index fuse down b2 b3 y3))))
theorem ce4 {m:f3}{now:Int}{state:e9}{c:d9}{index fuse:Int}{down:Bool}{b2 b3:List Int}{r:(List f3)×e9} (h:at8 m now state c index fuse down b2 b3=some r):i4 E 32 [.ptr 0 0 0,.agg (f3.enc m),.int .i64 now] [some ⟨88,true,[(e9.l state (d9.l c [.int .i64 index,.ptr 1 0 0]))]⟩,some ⟨4,true,[[(f6 2 (List.map (d8 .u8) b2)),(f6 3 (List.map (d8 .u8) b3)),.int .i64 fuse,.bool down]]⟩,some ⟨1,false,(List.map (d8 .u8) b2)⟩,some ⟨1,false,(List.map (d8 .u8) b3)⟩] (Rs (bu4 c index fuse down b2 b3) r):=so (fn:=Tryz.f32) (k:=true) (m:=4) h<| by
 intro r h;unfold at8 at h
 refine zc 11 [] h (fun _=>bs9) fun y1 h=> ?_
 refine zs 3 h (fun h=> ?_) fun h=> ?_
 ·
  exact zg 7 (aY0 h)
 refine zc 4 [] h (fun _=>bD5) fun y3 h=> ?_
 exact zg 3 (aY0 h)
end Go.RX.L

namespace Go.RX.L
open Go Go.RX Go.Proofs
attribute [local irreducible] i0
noncomputable def cA4 (c:d9) (index fuse:Int) (down:Bool) (b2 b3:List Int) (y:(List f3)×e9):D×f4:=(.sl false 26 (List.map f3.enc y.1),[some ⟨88,true,[(e9.l y.2 (d9.l c [.int .i64 index,.ptr 1 0 0]))]⟩,some ⟨4,true,[[(f6 2 (List.map (d8 .u8) b2)),(f6 3 (List.map (d8 .u8) b3)),.int .i64 fuse,.bool down]]⟩,some ⟨1,false,(List.map (d8 .u8) b2)⟩,some ⟨1,false,(List.map (d8 .u8) b3)⟩])
noncomputable def Q5 (now:Int) (state:e9) (c:d9) (index fuse:Int) (down:Bool) (b2 b3:List Int):Option ((List f3)×e9):=((az8 now state c index fuse down b2 b3).bind fun y1=>(bif y1 then (some ([],state)) else ((aF9 now state c index fuse down b2 b3).bind fun y3=>(bif (decide (((List.map f3.enc y3.1).length)*288≤i7)) then ((aN5 now y3.2 c index fuse down b2 b3).bind fun y5=>(bif (decide (((List.map f3.enc y3.1).length+(List.map f3.enc y5.1).length)*288≤i7)) then ((an3 now y5.2 c index fuse down b2 b3).bind fun y7=>(bif (decide (((List.map f3.enc (y3.1++y5.1)).length+(List.map f3.enc y7.1).length)*288≤i7)) then (some (((y3.1++y5.1)++y7.1),y7.2)) else none)) else none)) else none))))
theorem aV5 {now:Int}{state:e9}{c:d9}{index fuse:Int}{down:Bool}{b2 b3:List Int}{r:(List f3)×e9} (h:Q5 now state c index fuse down b2 b3=some r):i4 E 24 [.ptr 0 0 0,.int .i64 now] [some ⟨88,true,[(e9.l state (d9.l c [.int .i64 index,.ptr 1 0 0]))]⟩,some ⟨4,true,[[(f6 2 (List.map (d8 .u8) b2)),(f6 3 (List.map (d8 .u8) b3)),.int .i64 fuse,.bool down]]⟩,some ⟨1,false,(List.map (d8 .u8) b2)⟩,some ⟨1,false,(List.map (d8 .u8) b3)⟩] (Rs (cA4 c index fuse down b2 b3) r):=so (fn:=Tryz.f24) (k:=true) (m:=4) h<| by
 intro r h;unfold Q5 at h
 refine zc 14 [] h (fun _=>bD5) fun y1 h=> ?_
 refine zs 2 h (fun h=> ?_) fun h=> ?_
 ·
  exact zu 5 h [.slot 0 [some 26]]
 refine zc 7 [] h (fun _=>cy0) fun y3 h=> ?_
 refine zn 1 h fun h=> ?_
 refine zc 9 [] h (fun _=>cH0) fun y5 h=> ?_
 refine zn 1 h fun h=> ?_
 refine za 0 f3.enc y3.1 y5.1 ?_
 refine zc 8 [] h (fun _=>ca8) fun y7 h=> ?_
 refine zn 1 h fun h=> ?_
 refine za 0 f3.enc (y3.1++y5.1) y7.1 ?_
 refine l6 hm 2 _ ?_
 refine cc1 4 (n1:=(0+(List.map f3.enc ((y3.1++y5.1)++y7.1)).length)) (n2:=((List.map f3.enc ((y3.1++y5.1)++y7.1)).length)) (raw:=(List.take ((List.map f3.enc ((y3.1++y5.1)++y7.1)).length) (List.drop 0 (List.map f3.enc ((y3.1++y5.1)++y7.1))))) (rs:=(List.map f3.enc ((y3.1++y5.1)++y7.1))) (by kernel_rfl) (v6 _) (by simp only [A1,E8,List.map_take,List.map_drop]) ?_
 exact zu 1 h
end Go.RX.L

namespace Go.RX.L
open Go Go.RX
def ap1 (p:Plan):Prop:=Rt p∧bi4 p
def cd3:i8:=⟨0,0,0,v7,0,v7,0,0⟩
/-- A proposal of what comes behind an epoch. -/
structure PI (p : i8) (e : Int) : Prop where
  pr : n8 .u64 p.Promises
  ac : n8 .u64 p.Accepts
  ph : p.Phase = 0 ∨ ((p.Phase = 1 ∨ p.Phase = 2) ∧ p.Epoch = e + 1 ∧ (ap1 p.Own ∧ p.Own.Epoch = p.Epoch) ∧ 0 ≤ p.Best ∧ (0 < p.Best → ap1 p.Value ∧ p.Value.Epoch = p.Epoch) ∧ (p.Phase = 2 → ap1 p.Value ∧ p.Value.Epoch = p.Epoch))
theorem PI0 (e:Int):PI cd3 e:=⟨G0.2 (by decide),G0.2 (by decide),.inl rfl⟩
/-- What a decider keeps true. -/
structure DI (c : d9) (st : e9) (M : Int) (i : Nat) : Prop where
  kn : ap1 st.known
  vl : st.votes.length ≤ i
  vo : ∀ v ∈ st.votes, VOk v
  gr : n8 .u64 st.hold.Grants
  bo : 0 ≤ st.boot ∧ st.boot ≤ M
  mi : M ≤ i
  tp : 0 ≤ st.top
  pi : PI st.prop st.known.Epoch
theorem bN8 {p:i8}{c:d9}{m:f3}{e:Int} (h:PI p e) (hr:A0 m=true) (hf:ak8 m):
  PI (I4 p c m) e∧(I4 p c m).Epoch=p.Epoch∧(I4 p c m).Ballot=p.Ballot∧((I4 p c m).Phase=p.Phase∨(p.Phase=1∧(I4 p c m).Phase=2)):=by
 have hu:=di5 c m h.pr
 obtain ⟨h1,h2,h3⟩:=h
 cases hc:toP p c m 5 1&&cy5 p m with
 | false=>
  have e:I4 p c m=p:=by unfold I4;rw [hc];rfl
  rw [e];exact ⟨⟨h1,h2,h3⟩,rfl,rfl,.inl rfl⟩
 | true=>
  have hc2:=hc
  simp only [Bool.and_eq_true] at hc2
  have ph1:p.Phase=1:=by have:=hc2.1;simp only [toP,Bool.and_eq_true,decide_eq_true_eq] at this;exact this.1
  have wl:m.HasPlan=true→m.Plan.Epoch=p.Epoch:=fun hp=>by
   have:=hc2.2
   simp only [cy5,hp,Bool.true_and,Bool.not_eq_true',decide_eq_false_iff_not,Decidable.not_not] at this
   exact this
  have ep:I4 p c m=st3 (st2 (st1 p m) m) c:=by unfold I4;rw [hc];rfl
  rcases h3 with h3 | ⟨h4,h5,h6,h7,h8,h9⟩
  ·omega
  have b:∃q:i8,st2 (st1 p m) m=q∧q.Phase=1∧q.Epoch=p.Epoch∧q.Ballot=p.Ballot∧q.Own=p.Own∧q.Accepts=p.Accepts∧0≤q.Best∧(0<q.Best→ap1 q.Value∧q.Value.Epoch=p.Epoch):=by
   refine ⟨_,rfl,?_⟩
   unfold st2
   cases hh:m.HasPlan&&decide (m.Accepted>(st1 p m).Best) with
   | false=>exact ⟨ph1,rfl,rfl,rfl,rfl,h7,h8⟩
   | true=>
    simp only [Bool.and_eq_true,decide_eq_true_eq] at hh
    have hb:(st1 p m).Best=p.Best:=rfl
    rw [hb] at hh
    exact ⟨ph1,rfl,rfl,rfl,rfl,by simp only [cond_true];omega,fun _=>⟨⟨bp2 hr hh.1,hf.pl⟩,wl hh.1⟩⟩
  obtain ⟨q,hq,q1,q2,q3,q4,q5,q6,q7⟩:=b
  rw [ep,hq]
  rw [ep,hq] at hu
  unfold st3 at hu ⊢
  cases hm:aW7 c q.Promises.toNat with
  | false=>
   rw [hm] at hu
   exact ⟨⟨hu,by simp only [cond_false];rw [q5];exact h2,.inr ⟨.inl q1,by simp only [cond_false];rw [q2];exact h5,by simp only [cond_false];rw [q4,q2];exact h6,q6,by simp only [cond_false];rw [q2];exact q7,fun h=>by simp only [cond_false] at h;omega⟩⟩,q2,q3,.inl (by simp only [cond_false];omega)⟩
  | true=>
   rw [hm] at hu
   simp only [cond_true] at hu ⊢
   have v:ap1 (bif decide (q.Best=0) then q.Own else q.Value)∧(bif decide (q.Best=0) then q.Own else q.Value).Epoch=p.Epoch:=by
    by_cases hb:q.Best=0
    ·rw [decide_eq_true hb];simp only [cond_true];rw [q4];exact h6
    ·rw [decide_eq_false hb];simp only [cond_false];exact q7 (by omega)
   exact ⟨⟨hu,by simp only;rw [q5];exact h2,.inr ⟨.inr rfl,by simp only;rw [q2];exact h5,by simp only;rw [q4,q2];exact h6,q6,fun _=>by simp only;rw [q2];exact v,fun _=>by simp only;rw [q2];exact v⟩⟩,q2,q3,.inr ⟨ph1,trivial⟩⟩
theorem ch5 {p:i8}{c:d9}{m:f3}{e:Int} (h:PI p e):(W0 p c m).Value=p.Value∧(((W0 p c m).Phase=p.Phase∧PI (W0 p c m) e)∨(p.Phase=2∧(W0 p c m).Phase=3)):=by
 have hu:=cW6 c m h.ac
 obtain ⟨h1,h2,h3⟩:=h
 unfold W0 at hu ⊢
 cases hc:toP p c m 8 2 with
 | false=>exact ⟨rfl,.inl ⟨rfl,⟨h1,h2,h3⟩⟩⟩
 | true=>
  have ph:p.Phase=2:=by simp only [toP,Bool.and_eq_true,decide_eq_true_eq] at hc;exact hc.1
  rw [hc] at hu
  simp only [cond_true] at hu ⊢
  refine ⟨trivial,?_⟩
  cases aW7 c (orP p.Accepts m.From.toNat).toNat with
  | true=>exact .inr ⟨ph,rfl⟩
  | false=>exact .inl ⟨rfl,⟨h1,hu,h3⟩⟩
def bY6 (st:e9) (p:Plan) (now:Int):e9:={ st with known:=p,heard:=now,prop:=cd3,sealed:=0 }
def eh8 (p:i8):f3:=⟨7,0,0,p.Epoch,p.Ballot,0,0,0,0,0,true,p.Value,[],[],[]⟩
/-- What a message does. -/
inductive HR (c : d9) (ix : Int) (st : e9) (m : f3) (now : Int) : List f3 → e9 → Prop
  | same : HR c ix st m now [] st
  | vote {v : i9} : VOk v → HR c ix st m now [] { st with votes := bL0 st.votes v }
  | hold : HR c ix st m now [] { st with hold := az1 st.hold c m }
  | prom : ¬(st.prop.Phase = 1 ∧ (I4 st.prop c m).Phase = 2) → HR c ix st m now [] { st with prop := I4 st.prop c m }
  | acc : st.prop.Phase = 1 → (I4 st.prop c m).Phase = 2 → HR c ix st m now (U4 c ix (eh8 (I4 st.prop c m)) (at1 c)) { st with prop := I4 st.prop c m }
  | accd : ¬(st.prop.Phase = 2 ∧ (W0 st.prop c m).Phase = 3) → HR c ix st m now [] { st with prop := W0 st.prop c m }
  | learn : m.Kind = 8 → st.prop.Phase = 2 → HR c ix st m now (U4 c ix (bi7 st.prop.Value) (aX5 c ix)) (cV2 (bY6 st st.prop.Value now) now)
  | nack : HR c ix st m now [] { st with top := u9 st.top m.Ballot }
  | told : m.Kind = 9 → Rt m.Plan → m.Plan.Epoch > st.known.Epoch → HR c ix st m now [] (bY6 st m.Plan now)
  | shut {x : Int} : HR c ix st m now [] { st with sealed := x }
section
variable {c : d9} {ix : Int} {st : e9} {fuse : Int} {down : Bool} {s t : List Int} {M : Int} {i : Nat}
theorem cZ7 (now:Int):az8 now st c ix fuse down s t=some (decide (now<0) || (decide (now>1099511627776) || (decide (st.boot=0) || down))):=by
 simp only [az8,as9,Option.bind_some]
 cases decide (now<0)<;>cases decide (now>1099511627776)<;>simp
 by_cases h:st.boot=0<;>simp [h,beqF']
where beqF' :∀{a b:Int},¬a=b→(a==b)=false:=fun h=>beq_eq_false_iff_ne.2 h
theorem dV6 (cb:CB c) {p:Plan} (hf:bi4 p):∃b,aG9 p st c ix fuse down s t=some b∧(b=true→Rt p):=by
 have nt:(!decide (c.Targets<0))=true:=by have:=cb.t;simp;omega
 simp only [aG9,nt,cond_true,bc5 hf.s hf.up hf.sup,Option.bind_some]
 cases hr:U5 p with
 | false=>exact ⟨false,rfl,fun h=>by cases h⟩
 | true=>
  have r:=Z5.1 hr
  simp only [cond_true]
  have key:∀(a b d e:Bool),∃x,(bif a then (bif b then (bif d then some e else some false) else some false) else some false)=some x∧(x=true→Rt p):=fun a b d e=>by
   cases a<;>cases b<;>cases d<;>exact ⟨_,rfl,fun _=>r⟩
  exact key _ _ _ _
theorem db1 {node first many:Int} (h1:0≤node∧node≤255) (h2:0≤first∧first≤255) (h3:0≤many∧many≤255):∃b,al4 node first many=some (node-first,b)∧(b=true→0≤node-first∧node-first<many):=by
 simp only [al4,u7 (n:=node-first) (by omega) (by omega),u7 (n:=first+many) (by omega) (by omega)]
 by_cases h:node≥first
 ·rw [decide_eq_true h];exact ⟨_,rfl,fun h=>by have:=of_decide_eq_true h;omega⟩
 ·rw [decide_eq_false h];exact ⟨_,rfl,fun h=>by cases h⟩
theorem dx5 {m:f3}{now:Int} (h:DI c st M i) (cb:CB c) (hix:0≤ix∧ix≤4) (hf:ak8 m) (hi:i≤300):
  ∃out st',at8 m now st c ix fuse down s t=some (out,st')∧((out= []∧st' =st)∨(A0 m=true∧0≤now∧now≤1099511627776∧st.boot≠0∧down=false∧HR c ix st m now out st')):=by
 have up:∀b:Bool,S4 m now st c ix fuse down s t true=some ([],st):=fun _=>rfl
 simp only [at8,bz6 hf.sh,Option.bind_some,cZ7]
 cases hr:A0 m with
 | false=>exact ⟨[],st,rfl,.inl ⟨rfl,rfl⟩⟩
 | true=>
  simp only [Bool.not_true,cond_false]
  cases ho:decide (now<0) || (decide (now>1099511627776) || (decide (st.boot=0) || down)) with
  | true=>exact ⟨[],st,rfl,.inl ⟨rfl,rfl⟩⟩
  | false=>
   simp only [Bool.or_eq_false_iff,decide_eq_false_iff_not] at ho
   obtain ⟨o1,o2,o3,o4⟩:=ho
   subst o4
   have wrap:∀{out st'},HR c ix st m now out st' →(out= []∧st' =st)∨(A0 m=true∧0≤now∧now≤1099511627776∧st.boot≠0∧false=false∧HR c ix st m now out st'):=fun hh=> .inr ⟨hr,by omega,by omega,o3,rfl,hh⟩
   have key:∃out st',S4 m now st c ix fuse false s t false=some (out,st')∧HR c ix st m now out st' :=by
    obtain ⟨hd,-,-⟩:=ao8 hr
    have hF:0≤m.From∧m.From≤255:=by unfold hdM at hd;omega
    have cF:=cb.f;have cD:=cb.dec;have cT:=cb.t;have cR:=cb.rou;have cO:=cb.obs
    unfold S4
    simp only [cond_false]
    by_cases k3:m.Kind=3
    ·rw [beq_iff_eq.2 k3]
     obtain ⟨b,hb,hb2⟩:=db1 hF (first:=l9 c (c.Deciders+c.Targets+c.Routers+0)) (many:=c.Observers) (by unfold l9;omega) (by omega)
     simp only [cond_true,bN4 cb (i:=0) (by omega),Option.bind_some,hb]
     cases b with
     | false=>exact ⟨_,_,rfl,.same⟩
     | true=>
      have hv:=hb2 rfl
      have hup:=G0.1 hf.sh.up
      have vok:VOk ⟨m.From-l9 c (c.Deciders+c.Targets+c.Routers+0),m.Up,now⟩:=⟨by simp only;omega,⟨hf.up,by unfold hdM at hd;simp only;omega⟩,by simp only;omega⟩
      simp only [cond_true,dW7 st.votes ⟨m.From-l9 c (c.Deciders+c.Targets+c.Routers+0),m.Up,now⟩ (by have:=h.vl;omega),Option.bind_some]
      exact ⟨_,_,rfl,.vote vok⟩
    rw [beq_eq_false_iff_ne.2 k3]
    by_cases k11:m.Kind=11
    ·rw [beq_iff_eq.2 k11]
     have h2:∀b,∃out st',Z2 m now st c ix fuse false s t b=some (out,st')∧HR c ix st m now out st' :=fun b=>by
      cases b with
      | false=>exact ⟨_,_,rfl,.same⟩
      | true=>simp only [Z2,dJ8 st.hold c m h.gr,Option.bind_some,cond_true];exact ⟨_,_,rfl,.hold⟩
     simp only [cond_true,cond_false]
     cases (m.Code==2) with
     | true=>exact h2 st.asked.ever
     | false=>exact h2 false
    rw [beq_eq_false_iff_ne.2 k11]
    by_cases k5:m.Kind=5
    ·rw [beq_iff_eq.2 k5]
     simp only [cond_true,cond_false,dp8 st.prop c m h.pi.pr,Option.bind_some]
     by_cases p1:st.prop.Phase=1
     ·rw [beq_iff_eq.2 p1]
      simp only [cond_true]
      by_cases p2:(I4 st.prop c m).Phase=2
      ·rw [beq_iff_eq.2 p2]
       have h0:∀st:e9,L5 st c ix fuse false s t=some ():=fun _=>rfl
       simp only [ak4,cond_true,h0,Option.bind_some,br8 cb (show 0≤ix∧ix≤100 by omega)]
       exact ⟨_,_,rfl,.acc p1 p2⟩
      ·rw [beq_eq_false_iff_ne.2 p2]
       exact ⟨_,_,rfl,.prom fun hh=>p2 hh.2⟩
     ·rw [beq_eq_false_iff_ne.2 p1]
      exact ⟨_,_,rfl,.prom fun hh=>p1 hh.1⟩
    rw [beq_eq_false_iff_ne.2 k5]
    by_cases k8:m.Kind=8
    ·rw [beq_iff_eq.2 k8]
     simp only [cond_true,cond_false,dg6 st.prop c m h.pi.ac,Option.bind_some]
     by_cases p1:st.prop.Phase=2
     ·rw [beq_iff_eq.2 p1]
      simp only [cond_true]
      by_cases p2:(W0 st.prop c m).Phase=3
      ·rw [beq_iff_eq.2 p2]
       have hl:∀(p:Plan) (st:e9),ay0 p now st c ix fuse false s t=some (bY6 st p now):=fun _ _=>rfl
       simp only [aj0,cond_true,hl,Option.bind_some,dk3 cb (show 0≤ix∧ix≤100 by omega)]
       have ev:=(ch5 (c:=c) (m:=m) h.pi).1
       refine ⟨_,_,rfl,?_⟩
       have:=HR.learn (c:=c) (ix:=ix) (now:=now) k8 p1
       rw [←ev] at this
       exact this
      ·rw [beq_eq_false_iff_ne.2 p2]
       exact ⟨_,_,rfl,.accd fun hh=>p2 hh.2⟩
     ·rw [beq_eq_false_iff_ne.2 p1]
      exact ⟨_,_,rfl,.accd fun hh=>p1 hh.1⟩
    rw [beq_eq_false_iff_ne.2 k8]
    by_cases k6:m.Kind=6
    ·rw [beq_iff_eq.2 k6]
     exact ⟨_,_,rfl,.nack⟩
    rw [beq_eq_false_iff_ne.2 k6]
    by_cases k9:m.Kind=9
    ·rw [beq_iff_eq.2 k9]
     simp only [cond_true,cond_false]
     have h5:Y9 m now st c ix fuse false s t false=some ([],st):=rfl
     cases hp:m.HasPlan with
     | false=>exact ⟨_,_,h5,.same⟩
     | true=>
      obtain ⟨b,hb,hb2⟩:=dV6 (st:=st) (ix:=ix) (fuse:=fuse) (down:=false) (s:=s) (t:=t) cb hf.pl
      simp only [cond_true,hb,Option.bind_some]
      cases b with
      | false=>exact ⟨_,_,h5,.same⟩
      | true=>
       simp only [cond_true]
       by_cases he:m.Plan.Epoch>st.known.Epoch
       ·rw [decide_eq_true he]
        exact ⟨_,_,rfl,.told k9 (hb2 rfl) he⟩
       ·rw [decide_eq_false he]
        exact ⟨_,_,h5,.same⟩
    rw [beq_eq_false_iff_ne.2 k9]
    by_cases k13:m.Kind=13
    ·rw [beq_iff_eq.2 k13]
     obtain ⟨b,hb,hb2⟩:=db1 hF (first:=l9 c (c.Deciders+0)) (many:=c.Targets) (by unfold l9;omega) (by omega)
     have h6:∀x,Y6 m now st c ix fuse false s t x false=some ([],st):=fun _=>rfl
     simp only [cond_true,cond_false,cl0 cb (i:=0) (by omega),Option.bind_some,hb]
     cases b with
     | false=>exact ⟨_,_,h6 (m.From-l9 c (c.Deciders+0)),.same⟩
     | true=>
      have hv:=hb2 rfl
      have n0:(!decide (m.From-l9 c (c.Deciders+0)<0))=true:=by rw [decide_eq_false (by omega)];rfl
      simp only [cond_true]
      cases (m.Epoch==IntKind.i64.wrap (st.known.Epoch+1)) with
      | false=>exact ⟨_,_,h6 (m.From-l9 c (c.Deciders+0)),.same⟩
      | true=>simp only [Y6,cond_true,n0];exact ⟨_,_,rfl,.shut⟩
    ·rw [beq_eq_false_iff_ne.2 k13]
     exact ⟨_,_,rfl,.same⟩
   obtain ⟨out,st',h1,h2⟩:=key
   exact ⟨out,st',h1,(wrap h2).imp id fun x=>⟨trivial,x.2⟩⟩
end
end Go.RX.L

namespace Go.RX.L
open Go Go.RX
def dN9 (e:Int):f3:=⟨12,0,0,e,0,0,0,0,0,0,false,v7,[],[],[]⟩
def cb4 (e b code:Int) (p:Plan):f3:=⟨4,0,0,e,b,0,0,0,0,code,true,p,[],[],[]⟩
def ao6 (e b:Int) (n:Plan):i8:=⟨e,b,1,dq1 n e,0,v7,0,0⟩
def isT (c:d9) (x:Int):Prop:=∃k:Int,0≤k∧k<c.Targets∧x=l9 c (c.Deciders+k)
/-- What is proposed. -/
inductive PR (c : d9) (ix now : Int) (st : e9) : List f3 → e9 → Prop
  | same : PR c ix now st [] st
  | none : PR c ix now st [] { st with prop := cd3 }
  | go {n : Plan} {b code : Int} {open_ : List Int} : st.boot ≠ 0 → bK7 st.hold 0 now = true → bb4 c st.known → ax1 c st.known (bs5 st.votes c.Observers now c.Fresh) now = (n, true) →
      st.top < b → b % 16777216 = st.boot * 16 + ix → b < 18014398509481984 → (code = 0 ∨ code = 1) → open_.length ≤ 16 → (∀ x ∈ open_, isT c x) →
      PR c ix now st (U4 c ix (dN9 (st.known.Epoch + 1)) open_ ++ U4 c ix (cb4 (st.known.Epoch + 1) b code st.known) (at1 c)) { st with prop := ao6 (st.known.Epoch + 1) b n, made := now, top := b }
section
variable {c : d9} {ix : Int} {st : e9} {fuse : Int} {down : Bool} {s t : List Int} {M : Int} {i : Nat} {now : Int}
theorem cq5:am0 now st c ix fuse down s t=some (decide (st.boot≠0)&&(!down&&bK7 st.hold 0 now)):=by
 simp only [am0,as9,Option.bind_some,dT0]
 by_cases h:st.boot=0
 ·rw [bneF2 h,decide_eq_false (by simp [h])];rfl
 ·rw [bne_iff_ne.2 h,decide_eq_true h];cases down<;>rfl
where bneF2:∀{a b:Int},a=b→(a !=b)=false:=fun h=>by rw [h];simp
theorem dv2 (p:Plan) (x:Int):∃b,aV2 p x=some b:=by
 unfold aV2
 cases decide (x≥0) with
 | false=>exact ⟨_,rfl⟩
 | true=>
  cases (x==p.Target) with
  | true=>exact ⟨_,rfl⟩
  | false=>
   cases (x==p.Prev) with
   | false=>exact ⟨_,rfl⟩
   | true=>cases decide (p.Percent<100)<;>exact ⟨_,rfl⟩
theorem dC0 (cb:CB c) {ch:Bool}{b:Int}{st2:e9}:∀(j k:Nat) (named open_:List Int),((k+j:Nat):Int)=c.Targets→named.length≤k→open_.length≤k→(∀x∈open_,isT c x)→
  ∃named' open',named'.length≤16∧open'.length≤16∧(∀x∈open',isT c x)∧∀r,Ev (n7 now st c ix fuse down s t) (.s4 ch b open' st2 named') r→Ev (n7 now st c ix fuse down s t) (.s2 ch b c.Targets (k:Int) st2 named open_) r:=by
 have cT:=cb.t
 intro j
 induction j with
 | zero=>
  intro k named open_ hk hn ho hx
  refine ⟨named,open_,by omega,by omega,hx,fun r h=> .next (s' := .s4 ch b open_ st2 named) ?_ h⟩
  have:decide ((k:Int)<c.Targets)=false:=decide_eq_false (by omega)
  simp only [n7,O6,this,cond_false]
 | succ j ih=>
  intro k named open_ hk hn ho hx
  have lt:decide ((k:Int)<c.Targets)=true:=decide_eq_true (by omega)
  have n0:(!decide ((k:Int)<0))=true:=by rw [decide_eq_false (by omega)];rfl
  obtain ⟨nb,hnb⟩:=dv2 st2.known (k:Int)
  have l1:decide ((named.length+1)*8≤i7)=true:=D1 (by omega)
  have l2:decide ((open_.length+1)*8≤i7)=true:=D1 (by omega)
  have hw:=wD (show k≤3000000 by omega)
  have ht:=cl0 cb (i:=(k:Int)) (by omega)
  have e1:((k+1+j:Nat):Int)=c.Targets:=by omega
  cases nb with
  | false=>
   obtain ⟨n',o',h1,h2,h3,h4⟩:=ih (k+1) named open_ e1 (by omega) (by omega) hx
   refine ⟨n',o',h1,h2,h3,fun r h=> .next (s' := .s2 ch b c.Targets ((k+1:Nat):Int) st2 named open_) ?_ (h4 r h)⟩
   simp only [n7,O6,lt,cond_true,hnb,Option.bind_some,cond_false,hw]
  | true=>
   cases hs:((k7 .u64 (n5 .u64 st2.sealed (k:Int)) 1)==0) with
   | false=>
    obtain ⟨n',o',h1,h2,h3,h4⟩:=ih (k+1) (named++ [(k:Int)]) open_ e1 (by simp;omega) (by omega) hx
    refine ⟨n',o',h1,h2,h3,fun r h=> .next (s' := .s2 ch b c.Targets ((k+1:Nat):Int) st2 (named++ [(k:Int)]) open_) ?_ (h4 r h)⟩
    simp only [n7,O6,lt,cond_true,hnb,Option.bind_some,List.length_map,l1,n0,hs,cond_false,hw]
   | true=>
    have hx2:∀x∈open_++ [l9 c (c.Deciders+k)],isT c x:=fun x h=>by
     rcases List.mem_append.1 h with h | h
     ·exact hx x h
     ·exact ⟨k,by omega,by omega,List.mem_singleton.1 h⟩
    obtain ⟨n',o',h1,h2,h3,h4⟩:=ih (k+1) (named++ [(k:Int)]) (open_++ [l9 c (c.Deciders+k)]) e1 (by simp;omega) (by simp;omega) hx2
    refine ⟨n',o',h1,h2,h3,fun r h=> .next (s' := .s2 ch b c.Targets ((k+1:Nat):Int) st2 (named++ [(k:Int)]) (open_++ [l9 c (c.Deciders+k)])) ?_ (h4 r h)⟩
    simp only [n7,O6,lt,cond_true,hnb,Option.bind_some,List.length_map,l1,n0,hs,ht,l2,hw]
theorem cc3 (m:f3) (l:List Int):(U4 c ix m l).length=l.length:=by simp [U4]
theorem dr3 (h:DI c st M i) (hc:ab4 c=true) (ht:c.Tiers.length<9223372036854775807) (hix:0≤ix∧ix≤4) (hi:i≤300) (hn:0≤now∧now≤1099511627776) (hd:down=false):
  ∃out st',an3 now st c ix fuse down s t=some (out,st')∧PR c ix now st out st' :=by
 subst hd
 have cb:=aG5 hc
 have cT:=cb.t
 have b1:∃b:Bool,n7 now st c ix fuse false s t .s0=some (.inl (.s1 b))∧(b=false→st.boot≠0∧bK7 st.hold 0 now=true):=by
  simp only [n7,ae7,cq5,Option.bind_some]
  cases hl:(decide (st.boot≠0)&&(!false&&bK7 st.hold 0 now)) with
  | false=>exact ⟨true,rfl,fun h=>by cases h⟩
  | true=>
   simp only [Bool.and_eq_true,decide_eq_true_eq,Bool.not_false,true_and] at hl
   cases (st.prop.Phase !=0) with
   | true=>exact ⟨_,rfl,fun _=>hl⟩
   | false=>exact ⟨_,rfl,fun _=>hl⟩
 obtain ⟨b,hb,hlead⟩:=b1
 cases b with
 | true=>exact ⟨[],st,u6 (.next hb (.done rfl)),.same⟩
 | false=>
  obtain ⟨hboot,hlive⟩:=hlead rfl
  obtain ⟨r,hr,hr2⟩:=eg2 hc ht h.kn.2.s h.kn.2.up h.kn.2.sup (dz5 st.votes c.Observers now c.Fresh) hn.1
  have htal:=eb3 (l:=st.votes) (o:=c.Observers) (n:=now) (f:=c.Fresh) (by have:=h.vl;omega) h.vo (by have:=cb.obs;omega)
  obtain ⟨n,is⟩:=r
  cases is with
  | false=>
   refine ⟨[],{ st with prop:=cd3 },u6 (.next hb (.done ?_)),.none⟩
   simp only [n7,af2,cond_false,htal,Option.bind_some,hr,Bool.not_false,cond_true];rfl
  | true=>
   obtain ⟨hfit,-,hnx⟩:=hr2 rfl
   have s3:∃ch d:Bool,n7 now st c ix fuse false s t (.s1 false)=some (.inl (.s3 ch d n)):=by
    simp only [n7,af2,cond_false,htal,Option.bind_some,hr,Bool.not_true]
    cases (n.Target !=st.known.Target)<;>exact ⟨_,_,rfl⟩
   obtain ⟨ch,d,h3⟩:=s3
   cases d with
   | true=>exact ⟨[],st,u6 (.next hb (.next h3 (.done rfl))),.same⟩
   | false=>
    obtain ⟨⟨b,e⟩,hbal,hb2⟩:=dR6 (b:=st.top) (boot:=st.boot) (index:=ix) h.tp (by have:=h.bo;have:=h.mi;omega) (by omega)
    by_cases he:e=0
    ·subst he
     obtain ⟨t1,t2,t3⟩:=hb2 rfl
     have hE:=hfit.e
     have hE0:=hfit.r.epoch
     have w1:IntKind.i64.wrap (st.known.Epoch+1)=st.known.Epoch+1:=u7 (by omega) (by omega)
     have s2:n7 now st c ix fuse false s t (.s3 ch false n)=some (.inl (.s2 ch b c.Targets ((0:Nat):Int) { st with prop:=ao6 (st.known.Epoch+1) b n,made:=now,top:=b } [] [])):=by
      simp only [n7,ae9,cond_false,hbal,Option.bind_some,bne_self_eq_false,dI1,w1];rfl
     obtain ⟨named,op,g1,g2,g3,g4⟩:=dC0 (now:=now) (st:=st) (ix:=ix) (fuse:=fuse) (down:=false) (s:=s) (t:=t) (ch:=ch) (b:=b) (st2:={ st with prop:=ao6 (st.known.Epoch+1) b n,made:=now,top:=b }) cb c.Targets.toNat 0 [] [] (by omega) (by simp) (by simp) (by simp)
     have hacc:∀m (st:e9),J7 m st c ix fuse false s t=some (U4 c ix m (at1 c)):=fun m st=>br8 cb (by omega) m
     have h0:∀st:e9,L5 st c ix fuse false s t=some ():=fun _=>rfl
     have hal:=br5 cb
     --the last steps
     have fin:∀(out:List f3) (st2:e9) (ask:f3),out.length≤100→Ev (n7 now st c ix fuse false s t) (.s5 st2 out ask) (out++U4 c ix ask (at1 c),st2):=fun out st2 ask ho=>by
      refine .done ?_
      have lim:decide ((out.length+(U4 c ix ask (at1 c)).length)*288≤i7)=true:=D1 (by rw [cc3];omega)
      simp only [n7,ar3,h0,Option.bind_some,hacc,List.drop_zero,List.length_map,List.length_take,Nat.min_self,lim,cond_true]
     have six:∀(out:List f3) (q:Bool) (st2:e9),out.length≤100→∃code,(code=0∨code=1)∧Ev (n7 now st c ix fuse false s t) (.s6 q st2 out (cb4 (st.known.Epoch+1) b 0 st.known)) (out++U4 c ix (cb4 (st.known.Epoch+1) b code st.known) (at1 c),st2):=fun out q st2 ho=>by
      cases q with
      | false=>exact ⟨0,.inl rfl,.next rfl (fin out st2 _ ho)⟩
      | true=>exact ⟨1,.inr rfl,.next rfl (fin out st2 (cb4 (st.known.Epoch+1) b 1 st.known) ho)⟩
     have seven:∀(out:List f3),out.length≤100→∃code,(code=0∨code=1)∧Ev (n7 now st c ix fuse false s t) (.s7 b op { st with prop:=ao6 (st.known.Epoch+1) b n,made:=now,top:=b } named out) (out++U4 c ix (cb4 (st.known.Epoch+1) b code st.known) (at1 c),{ st with prop:=ao6 (st.known.Epoch+1) b n,made:=now,top:=b }):=fun out ho=>by
      have st7:∃q,n7 now st c ix fuse false s t (.s7 b op { st with prop:=ao6 (st.known.Epoch+1) b n,made:=now,top:=b } named out)=some (.inl (.s6 q { st with prop:=ao6 (st.known.Epoch+1) b n,made:=now,top:=b } out (cb4 (st.known.Epoch+1) b 0 st.known))):=by
       simp only [n7,ar5]
       cases decide (((List.map (d8 .i64) named).length:Int)>0)<;>exact ⟨_,rfl⟩
      obtain ⟨q,h7⟩:=st7
      obtain ⟨code,k1,k2⟩:=six out q { st with prop:=ao6 (st.known.Epoch+1) b n,made:=now,top:=b } ho
      exact ⟨code,k1,.next h7 k2⟩
     cases hch:ch with
     | true=>
      obtain ⟨code,k1,k2⟩:=seven (U4 c ix (dN9 (st.known.Epoch+1)) op) (by rw [cc3];omega)
      refine ⟨_,_,u6 (.next hb (.next h3 (.next s2 (g4 _ (.next ?_ k2))))),.go (n:=n) hboot hlive hfit hnx.symm t1 t2 t3 k1 g2 g3⟩
      have hv:aP2 op=some op:=rfl
      rw [hch]
      simp only [n7,ar7,cond_true,hv,Option.bind_some,dt2 op (show op.length≤100 by omega) cb (show 0≤ix∧ix≤100 by omega)];rfl
     | false=>
      obtain ⟨code,k1,k2⟩:=seven [] (by simp)
      refine ⟨_,_,u6 (.next hb (.next h3 (.next s2 (g4 _ (.next ?_ k2))))),PR.go (n:=n) (open_:= []) hboot hlive hfit hnx.symm t1 t2 t3 k1 (by simp) (by simp)⟩
      rw [hch];rfl
    ·refine ⟨[],st,u6 (.next hb (.next h3 (.done ?_))),.same⟩
     simp only [n7,ae9,cond_false,hbal,Option.bind_some,bne_iff_ne.2 he,cond_true]
def cA3 (c:d9) (ix now:Int) (st:e9):e9:=(aX4 c ix now (R7 c ix now st).2).2
theorem cV5 (cb:CB c):(R7 c ix now st).1.length≤7:=by
 have:=br5 cb
 unfold R7;split<;>simp [U4];omega
theorem dn3 (cb:CB c):(aX4 c ix now st).1.length≤24:=by
 have:=ck9 cb ix
 unfold aX4;split<;>simp [U4];omega
theorem dn2:∃ho a to,cA3 c ix now st={ st with hold:=ho,asked:=a,told:=to }∧(ho=st.hold∨ho=df3 st.hold 0 now):=by
 unfold cA3 aX4 R7
 split<;>split<;>first | exact ⟨_,_,_,rfl,.inl rfl⟩ | exact ⟨_,_,_,rfl,.inr rfl⟩
theorem dl8 (h:DI c st M i):DI c (cA3 c ix now st) M i:=by
 obtain ⟨ho,a,to,he,hh⟩:=dn2 (c:=c) (ix:=ix) (now:=now) (st:=st)
 rw [he]
 refine ⟨h.kn,h.vl,h.vo,?_,h.bo,h.mi,h.tp,h.pi⟩
 rcases hh with rfl | rfl
 ·exact h.gr
 ·exact G0.2 (by simp [df3])
theorem dx0 (cb:CB c) {out:List f3}{st' :e9} (h:PR c ix now st out st'):out.length≤23:=by
 have:=br5 cb
 cases h with
 | same=>simp
 | none=>simp
 | go _ _ _ _ _ _ _ _ h1 _=>simp [U4];omega
theorem dQ0 (h:DI c st M i) (hc:ab4 c=true) (ht:c.Tiers.length<9223372036854775807) (hix:0≤ix∧ix≤4) (hi:i≤300):
  ∃out st',Q5 now st c ix fuse down s t=some (out,st')∧((out= []∧st' =st)∨(0≤now∧now≤1099511627776∧st.boot≠0∧down=false∧∃o3,out=(R7 c ix now st).1++(aX4 c ix now (R7 c ix now st).2).1++o3∧PR c ix now (cA3 c ix now st) o3 st')):=by
 have cb:=aG5 hc
 simp only [Q5,cZ7,Option.bind_some]
 cases ho:decide (now<0) || (decide (now>1099511627776) || (decide (st.boot=0) || down)) with
 | true=>exact ⟨[],st,rfl,.inl ⟨rfl,rfl⟩⟩
 | false=>
  simp only [Bool.or_eq_false_iff,decide_eq_false_iff_not] at ho
  obtain ⟨o1,o2,o3,o4⟩:=ho
  obtain ⟨out,st',h1,h2⟩:=dr3 (fuse:=fuse) (s:=s) (t:=t) (dl8 (ix:=ix) (now:=now) h) hc ht hix hi (now:=now) (by omega) o4
  have l1:=cV5 (ix:=ix) (now:=now) (st:=st) cb
  have l2:=dn3 (ix:=ix) (now:=now) (st:=(R7 c ix now st).2) cb
  have l3:=dx0 cb h2
  have e1:decide ((R7 c ix now st).1.length*288≤i7)=true:=D1 (by omega)
  have e2:decide (((R7 c ix now st).1.length+(aX4 c ix now (R7 c ix now st).2).1.length)*288≤i7)=true:=D1 (by omega)
  have e3:decide ((((R7 c ix now st).1.length+(aX4 c ix now (R7 c ix now st).2).1.length)+out.length)*288≤i7)=true:=D1 (by omega)
  refine ⟨_,st',?_,.inr ⟨by omega,by omega,o3,o4,out,rfl,h2⟩⟩
  have h1' :an3 now (aX4 c ix now (R7 c ix now st).2).2 c ix fuse down s t=some (out,st'):=h1
  simp only [cond_false,dl9 cb (show 0≤ix∧ix≤100 by omega),dw1 cb (show 0≤ix∧ix≤100 by omega),Option.bind_some,List.length_map,List.map_append,List.length_append,e1,e2,e3,cond_true,h1']
/-! ### what stays true -/
theorem DI.more {M' :Int}{j:Nat} (h:DI c st M i) (h1:i≤j) (h2:M≤M') (h3:M' ≤j):DI c st M' j:=⟨h.kn,by have:=h.vl;omega,h.vo,h.gr,by have:=h.bo;omega,h3,h.tp,h.pi⟩
theorem ef0 {m:f3}{out:List f3}{st' :e9} (h:DI c st M i) (hr:A0 m=true) (hf:ak8 m) (hh:HR c ix st m now out st'):DI c st' M (i+1):=by
 have hv:=h.vl
 have hmi:M≤((i+1:Nat):Int):=by have:=h.mi;omega
 cases hh with
 | same=>exact h.more (by omega) (Int.le_refl _) hmi
 | vote vok=>
  rename_i v
  refine ⟨h.kn,?_,?_,h.gr,h.bo,hmi,h.tp,h.pi⟩
  ·have:=dM3 st.votes v;simp only;omega
  ·intro x hx
   rcases dI7 hx with hx | rfl
   ·exact h.vo x hx
   ·exact vok
 | hold=>exact ⟨h.kn,by simp only;omega,h.vo,dy6 _ _ _ h.gr,h.bo,hmi,h.tp,h.pi⟩
 | prom _=>exact ⟨h.kn,by simp only;omega,h.vo,h.gr,h.bo,hmi,h.tp,(bN8 h.pi hr hf).1⟩
 | acc _ _=>exact ⟨h.kn,by simp only;omega,h.vo,h.gr,h.bo,hmi,h.tp,(bN8 h.pi hr hf).1⟩
 | accd hno=>
  refine ⟨h.kn,by simp only;omega,h.vo,h.gr,h.bo,hmi,h.tp,?_⟩
  rcases (ch5 (c:=c) (m:=m) h.pi).2 with ⟨_,h2⟩ | h2
  ·exact h2
  ·exact absurd h2 hno
 | learn _ h2=>
  have hp:=h.pi.ph
  refine ⟨?_,by simp only [cV2,bY6];omega,h.vo,h.gr,h.bo,hmi,h.tp,PI0 _⟩
  rcases hp with hp | ⟨-,-,-,-,-,hp⟩
  ·omega
  ·exact (hp h2).1
 | nack=>exact ⟨h.kn,by simp only;omega,h.vo,h.gr,h.bo,hmi,by have:=h.tp;have:=dd2 st.top m.Ballot;simp only;omega,h.pi⟩
 | told _ h2 _=>exact ⟨⟨h2,hf.pl⟩,by simp only [bY6];omega,h.vo,h.gr,h.bo,hmi,h.tp,PI0 _⟩
 | shut=>exact ⟨h.kn,by simp only;omega,h.vo,h.gr,h.bo,hmi,h.tp,h.pi⟩
theorem dH8 {e b:Int}{n:Plan} (hg:ap1 (dq1 n (e+1))):PI (ao6 (e+1) b n) e:=
 ⟨G0.2 (by simp [ao6]),G0.2 (by simp [ao6]),.inr ⟨.inl rfl,rfl,⟨hg,rfl⟩,by simp [ao6],fun h=>by simp [ao6] at h,fun h=>by simp [ao6] at h⟩⟩
theorem dU6 (cb:CB c) (hn:0≤now) {n:Plan}{u:Nat} (hfit:bb4 c st.known) (hnx:ax1 c st.known u now=(n,true)):ap1 n∧n.Epoch=st.known.Epoch+1∧dq1 n (st.known.Epoch+1)=n:=by
 obtain ⟨r1,r2,r3,r4⟩:=dU5 cb hfit u hn (by rw [hnx])
 rw [hnx] at r1 r2 r3 r4
 have hE:=hfit.e
 have hE0:=hfit.r.epoch
 refine ⟨⟨r1,⟨ac6.2 (by simp only at r2;omega),r3,r4,r1.shrt⟩⟩,r2,?_⟩
 rw [←r2];rfl
theorem ee4 (cb:CB c) (hn:0≤now) {out:List f3}{st' :e9} (h:DI c st M i) (hh:PR c ix now st out st'):DI c st' M i:=by
 cases hh with
 | same=>exact h
 | none=>exact ⟨h.kn,h.vl,h.vo,h.gr,h.bo,h.mi,h.tp,PI0 _⟩
 | go h1 h2 hfit hnx t1 t2 t3 k1 k2 k3=>
  obtain ⟨g1,g2,g3⟩:=dU6 cb hn hfit hnx
  exact ⟨h.kn,h.vl,h.vo,h.gr,h.bo,h.mi,by have:=h.tp;simp only;omega,dH8 (by rw [g3];exact g1)⟩
end
end Go.RX.L

namespace Go.RX.L
open Go Go.RX Go.Proofs
attribute [local irreducible] i0
noncomputable def cQ9 (y:Int×Bool×(List Int)×(List Int)):D×f4:=(.ptr 0 0 0,[some ⟨4,true,[[(f6 1 (List.map (d8 .u8) y.2.2.1)),(f6 2 (List.map (d8 .u8) y.2.2.2)),.int .i64 y.1,.bool y.2.1]]⟩,some ⟨1,false,(List.map (d8 .u8) y.2.2.1)⟩,some ⟨1,false,(List.map (d8 .u8) y.2.2.2)⟩])
noncomputable def bc9:Option (Int×Bool×(List Int)×(List Int)):=(some ((-1),false,[],[]))
theorem cC3 {r:Int×Bool×(List Int)×(List Int)} (h:bc9=some r):i4 E 28 [] [] (Rs cQ9 r):=so (fn:=Tryz.f28) (k:=true) (m:=0) h<| by
 intro r h;unfold bc9 at h
 refine zf 10 [.matc 0 0 0 1,.matc 0 0 1 1] ?_
 exact zu 1 h
end Go.RX.L

namespace Go.RX.L
open Go Go.RX Go.Proofs
attribute [local irreducible] i0
noncomputable def bP3:=p7 (q0 Tryz.f8)
inductive am2 where
 | r0
 | r1 (a0:e9) (a1:Int) (a2:Bool) (a3:List Int) (a4:List Int)
noncomputable def bP0 (c:d9) (index:Int):am2→D×f4
 | .r0=>(.nilp,[])
 | .r1 a0 a1 a2 a3 a4=>(.ptr 0 0 0,[some ⟨88,true,[(e9.l a0 (d9.l c [.int .i64 index,.ptr 1 0 0]))]⟩,some ⟨4,true,[[(f6 2 (List.map (d8 .u8) a3)),(f6 3 (List.map (d8 .u8) a4)),.int .i64 a1,.bool a2]]⟩,some ⟨1,false,(List.map (d8 .u8) a3)⟩,some ⟨1,false,(List.map (d8 .u8) a4)⟩])
abbrev cO5 (c:d9) (index:Int):=AOk E (Cx.of Tryz.f8 true 0) (bP0 c index)
noncomputable def cE6 (c:d9) (index:Int) (t17:Bool):M:=⟨[.code (bP3 [1,0,1]),.code (bP3 [1,1])],[(1,.int .i64 index),(2,.ptr 0 0 0),(17,.bool t17)],[some ⟨30,false,[(d9.enc c)]⟩]⟩
noncomputable def R3 (c:d9) (index:Int) (t17:Bool):Option am2:=(bif t17 then (some (am2.r0)) else ((aA2 c).bind fun y2=>((bc9).bind fun y3=>(some (am2.r1 (⟨0,y2,0,[],(⟨0,0,0,0⟩:n9),(⟨false,0⟩:T5),(⟨0,0,0,(⟨0,0,0,0,0,0,0,0,0,0,[],[]⟩:Plan),0,(⟨0,0,0,0,0,0,0,0,0,0,[],[]⟩:Plan),0,0⟩:i8),0,0,0,(⟨false,0⟩:T5)⟩:e9) y3.1 y3.2.1 y3.2.2.1 y3.2.2.2)))))
theorem aQ6 {c index t17}:cO5 c index (cE6 c index t17) (R3 c index t17):=by
 intro r h;unfold R3 at h
 refine zs 1 h (fun h=> ?_) fun h=> ?_
 ·
  exact zu 5 h
 refine zd 4 [] h (fun _=>bE4) fun y2 h=> ?_
 refine zc 1 [] h (fun _=>cC3) fun y3 h=> ?_
 refine zf 0 [.blk 4 [some 3,some 1,some 1,some 1,some 1]] ?_
 exact zu 1 h
noncomputable def aq1 (c:d9) (index:Int):Option am2:=((ai3 c).bind fun y1=>(bif (!y1) then (R3 c index true) else (bif (decide ((index:Int)<0)) then (R3 c index true) else (R3 c index (decide ((index:Int)≥c.Deciders))))))
theorem ba7 {c:d9}{index:Int}{r:am2} (h:aq1 c index=some r):i4 E 8 [.agg (d9.enc c),.int .i64 index] [] (Rs (bP0 c index) r):=so (fn:=Tryz.f8) (k:=true) (m:=0) h<| by
 intro r h;unfold aq1 at h
 refine zc 11 [] h (fun _=>aV1) fun y1 h=> ?_
 refine zs 3 h (fun h=> ?_) fun h=> ?_
 ·
  exact zg 16 (aQ6 h)
 refine zs 6 h (fun h=> ?_) fun h=> ?_
 ·
  exact zg 9 (aQ6 h)
 exact zg 10 (aQ6 h)
end Go.RX.L

namespace Go.RX.L
open Go Go.RX Go.Proofs
attribute [local irreducible] i0
noncomputable def cg9 (state:e9) (c:d9) (index fuse:Int) (down:Bool) (b2 b3:List Int) (y:Unit):D×f4:=(.ptr 1 0 0,[some ⟨88,true,[(e9.l state (d9.l c [.int .i64 index,.ptr 1 0 0]))]⟩,some ⟨4,true,[[(f6 2 (List.map (d8 .u8) b2)),(f6 3 (List.map (d8 .u8) b3)),.int .i64 fuse,.bool down]]⟩,some ⟨1,false,(List.map (d8 .u8) b2)⟩,some ⟨1,false,(List.map (d8 .u8) b3)⟩])
noncomputable def P7 (state:e9) (c:d9) (index fuse:Int) (down:Bool) (b2 b3:List Int):Option Unit:=(some ())
theorem aG3 {state:e9}{c:d9}{index fuse:Int}{down:Bool}{b2 b3:List Int}{r:Unit} (h:P7 state c index fuse down b2 b3=some r):i4 E 23 [.ptr 0 0 0] [some ⟨88,true,[(e9.l state (d9.l c [.int .i64 index,.ptr 1 0 0]))]⟩,some ⟨4,true,[[(f6 2 (List.map (d8 .u8) b2)),(f6 3 (List.map (d8 .u8) b3)),.int .i64 fuse,.bool down]]⟩,some ⟨1,false,(List.map (d8 .u8) b2)⟩,some ⟨1,false,(List.map (d8 .u8) b3)⟩] (Rs (cg9 state c index fuse down b2 b3) r):=so (fn:=Tryz.f23) (k:=true) (m:=4) h<| by
 intro r h;unfold P7 at h
 exact zu 14 h
end Go.RX.L

namespace Go.RX.L
open Go Go.RX Go.Proofs
attribute [local irreducible] i0
noncomputable def cs6 (state:e9) (c:d9) (index fuse:Int) (down:Bool) (b2 b3:List Int) (y:Plan):D×f4:=(.agg (Plan.enc y),[some ⟨88,true,[(e9.l state (d9.l c [.int .i64 index,.ptr 1 0 0]))]⟩,some ⟨4,true,[[(f6 2 (List.map (d8 .u8) b2)),(f6 3 (List.map (d8 .u8) b3)),.int .i64 fuse,.bool down]]⟩,some ⟨1,false,(List.map (d8 .u8) b2)⟩,some ⟨1,false,(List.map (d8 .u8) b3)⟩])
noncomputable def aP6 (state:e9) (c:d9) (index fuse:Int) (down:Bool) (b2 b3:List Int):Option Plan:=(some state.known)
theorem cm7 {state:e9}{c:d9}{index fuse:Int}{down:Bool}{b2 b3:List Int}{r:Plan} (h:aP6 state c index fuse down b2 b3=some r):i4 E 12 [.ptr 0 0 0] [some ⟨88,true,[(e9.l state (d9.l c [.int .i64 index,.ptr 1 0 0]))]⟩,some ⟨4,true,[[(f6 2 (List.map (d8 .u8) b2)),(f6 3 (List.map (d8 .u8) b3)),.int .i64 fuse,.bool down]]⟩,some ⟨1,false,(List.map (d8 .u8) b2)⟩,some ⟨1,false,(List.map (d8 .u8) b3)⟩] (Rs (cs6 state c index fuse down b2 b3) r):=so (fn:=Tryz.f12) (k:=true) (m:=4) h<| by
 intro r h;unfold aP6 at h
 exact zu 18 h
end Go.RX.L

namespace Go.RX.L
open Go Go.RX Go.Proofs
attribute [local irreducible] i0
noncomputable def au4:=p7 (q0 Tryz.f7)
noncomputable def bZ0 (y:Bool):D×f4:=(.bool y,[])
abbrev aT4:=AOk E (Cx.of Tryz.f7 false 0) bZ0
noncomputable def cR8:M:=⟨[.code (au4 [1,1,1,0,1]),.code (au4 [1,1,1,1])],[(2,.nilp),(29,.bool true)],[]⟩
noncomputable def bv8:Option Bool:=(some false)
theorem cu2:aT4 cR8 (bv8):=by
 intro r h;unfold bv8 at h
 exact zu 7 h
noncomputable def cO7 (c:d9):M:=⟨[.code (au4 [1,1,1])],[(1,.ptr 0 0 0),(2,.nilp)],[some ⟨30,false,[(d9.enc c)]⟩]⟩
noncomputable def bt4 (c:d9):Option Bool:=(bv8)
theorem cs4 {c}:aT4 (cO7 c) (bt4 c):=by
 intro r h;unfold bt4 at h
 exact zg 44 (cu2 h)
noncomputable def cQ4 (t29:Bool) (state:e9) (c:d9) (index fuse:Int) (down:Bool) (b2 b3:List Int):M:=⟨[.code (au4 [1,1,1,0,1]),.code (au4 [1,1,1,1])],[(2,.ptr 0 0 0),(29,.bool t29)],[some ⟨88,true,[(e9.l state (d9.l c [.int .i64 index,.ptr 1 0 0]))]⟩,some ⟨4,true,[[(f6 2 (List.map (d8 .u8) b2)),(f6 3 (List.map (d8 .u8) b3)),.int .i64 fuse,.bool down]]⟩,some ⟨1,false,(List.map (d8 .u8) b2)⟩,some ⟨1,false,(List.map (d8 .u8) b3)⟩]⟩
noncomputable def au2 (t29:Bool) (state:e9) (c:d9) (index fuse:Int) (down:Bool) (b2 b3:List Int):Option Bool:=(bif t29 then (some false) else ((Q5 0 state c index fuse down b2 b3).bind fun y2=>(bif (((((List.map f3.enc y2.1).length:Nat):Int):Int)==3) then (bif (decide ((0:Int)<(((List.map f3.enc y2.1).length:Nat):Int))) then (((y2.1)[0]?).bind fun y5=>(bif ((y5.Kind:Int)==10) then (bif (decide ((0:Int)<(((List.map f3.enc y2.1).length:Nat):Int))) then (((y2.1)[0]?).bind fun y9=>(bif ((y9.Code:Int)==2) then ((am0 0 y2.2 c index fuse down b2 b3).bind fun y12=>(bif (!y12) then ((aP6 y2.2 c index fuse down b2 b3).bind fun y14=>(some ((y14.Target:Int)==(-1)))) else (some false))) else (some false))) else none) else (some false))) else none) else (some false))))
theorem aW0 {t29 state c index fuse down b2 b3}:aT4 (cQ4 t29 state c index fuse down b2 b3) (au2 t29 state c index fuse down b2 b3):=by
 intro r h;unfold au2 at h
 refine zs 1 h (fun h=> ?_) fun h=> ?_
 ·
  exact zu 5 h
 refine zc 5 [] h (fun _=>aV5) fun y2 h=> ?_
 refine zs 9 h (fun h=> ?_) fun h=> ?_
 ·
  refine zn 2 h fun h=> ?_
  refine zr 4 f3.enc h fun y5 h=> ?_
  refine zs 6 h (fun h=> ?_) fun h=> ?_
  ·
   refine zn 2 h fun h=> ?_
   refine zr 4 f3.enc h fun y9 h=> ?_
   refine zs 6 h (fun h=> ?_) fun h=> ?_
   ·
    refine zc 2 [] h (fun _=>bv3) fun y12 h=> ?_
    refine zs 6 h (fun h=> ?_) fun h=> ?_
    ·
     refine zc 2 [] h (fun _=>cm7) fun y14 h=> ?_
     exact zu 9 h
    exact zu 11 h
   exact zu 20 h
  exact zu 33 h
 exact zu 46 h
noncomputable def cO4 (c:d9) (state:e9) (c2:d9) (index fuse:Int) (down:Bool) (b3 b4:List Int):M:=⟨[.code (au4 [1,1,1])],[(1,.ptr 0 0 0),(2,.ptr 1 0 0)],[some ⟨30,false,[(d9.enc c)]⟩,some ⟨88,true,[(e9.l state (d9.l c2 [.int .i64 index,.ptr 2 0 0]))]⟩,some ⟨4,true,[[(f6 3 (List.map (d8 .u8) b3)),(f6 4 (List.map (d8 .u8) b4)),.int .i64 fuse,.bool down]]⟩,some ⟨1,false,(List.map (d8 .u8) b3)⟩,some ⟨1,false,(List.map (d8 .u8) b4)⟩]⟩
noncomputable def aV9 (c:d9) (state:e9) (c2:d9) (index fuse:Int) (down:Bool) (b3 b4:List Int):Option Bool:=((aq1 c 2).bind fun y1=>match y1 with | .r0=>((P7 state c2 index fuse down b3 b4).bind fun y2=>((Q5 0 state c2 index fuse down b3 b4).bind fun y3=>(bif (((((List.map f3.enc y3.1).length:Nat):Int):Int) !=0) then (au2 true y3.2 c2 index fuse down b3 b4) else ((an9 0 y3.2 c2 index fuse down b3 b4).bind fun y5=>(au2 ((y5.1:Int) !=0) y5.2.1 c2 index y5.2.2.1 y5.2.2.2.1 y5.2.2.2.2.1 y5.2.2.2.2.2))))) | .r1 y1a0 y1a1 y1a2 y1a3 y1a4=>(au2 true state c2 index fuse down b3 b4))
theorem cu9 {c state c2 index fuse down b3 b4}:aT4 (cO4 c state c2 index fuse down b3 b4) (aV9 c state c2 index fuse down b3 b4):=by
 intro r h;unfold aV9 at h
 refine zc 11 [] h (fun _=>ba7) fun y1 h=> ?_
 cases y1 with
 | r0=>
  dsimp only at h
  refine zc 9 [] h (fun _=>aG3) fun y2 h=> ?_
  refine zc 9 [] h (fun _=>aV5) fun y3 h=> ?_
  refine zs 8 h (fun h=> ?_) fun h=> ?_
  ·
   exact zg 7 (aW0 h)
  refine zc 2 [] h (fun _=>bh4) fun y5 h=> ?_
  exact zg 5 (aW0 h)
 | r1 y1a0 y1a1 y1a2 y1a3 y1a4=>
  dsimp only at h
  exact zg 34 (aW0 h)
noncomputable def aT7:Option Bool:=((be7).bind fun y1=>((aq1 y1 0).bind fun y2=>match y2 with | .r0=>(bt4 y1) | .r1 y2a0 y2a1 y2a2 y2a3 y2a4=>(aV9 y1 y2a0 y1 0 y2a1 y2a2 y2a3 y2a4)))
theorem cT0 {r:Bool} (h:aT7=some r):i4 E 7 [] [] (Rs bZ0 r):=so (fn:=Tryz.f7) (k:=false) (m:=0) h<| by
 intro r h;unfold aT7 at h
 refine zc 7 [] h (fun _=>cC5) fun y1 h=> ?_
 refine zc 10 [] h (fun _=>ba7) fun y2 h=> ?_
 cases y2 with
 | r0=>
  dsimp only at h
  exact zg 2 (cs4 h)
 | r1 y2a0 y2a1 y2a2 y2a3 y2a4=>
  dsimp only at h
  exact zg 2 (cu9 h)
end Go.RX.L

namespace Go.RX.L
open Go Go.RX Go.Proofs
attribute [local irreducible] i0
noncomputable def cZ3 (y:Int):D×f4:=(.int .i64 y,[])
noncomputable def bo9 (now:Int):Option Int:=(some (u9 0 (A3 now 1099511627776)))
theorem cT3 {now r:Int} (h:bo9 now=some r):i4 E 31 [.int .i64 now] [] (Rs cZ3 r):=so (fn:=Tryz.f31) (k:=false) (m:=0) h<| by
 intro r h;unfold bo9 at h
 exact zu 12 h
end Go.RX.L

namespace Go.RX.L
open Go Go.RX Go.Proofs
attribute [local irreducible] i0
noncomputable def df9 (c:d9) (index:Int) (y:(List f3)×e9×Int×Bool×(List Int)×(List Int)):D×f4:=(.sl false 26 (List.map f3.enc y.1),[some ⟨88,true,[(e9.l y.2.1 (d9.l c [.int .i64 index,.ptr 1 0 0]))]⟩,some ⟨4,true,[[(f6 4 (List.map (d8 .u8) y.2.2.2.2.1)),(f6 5 (List.map (d8 .u8) y.2.2.2.2.2)),.int .i64 y.2.2.1,.bool y.2.2.2.1]]⟩,none,none,some ⟨1,false,(List.map (d8 .u8) y.2.2.2.2.1)⟩,some ⟨1,false,(List.map (d8 .u8) y.2.2.2.2.2)⟩])
noncomputable def aS9 (o:Op) (state:e9) (c:d9) (index fuse:Int) (down:Bool) (b2 b3:List Int):Option ((List f3)×e9×Int×Bool×(List Int)×(List Int)):=(bif (((k7 .i64 o.What 7):Int)==1) then ((P7 state c index fuse down b2 b3).bind fun y2=>((aV4 o.N_ fuse down b2 b3).bind fun y3=>(some ([],state,y3,down,b2,b3)))) else (bif (((k7 .i64 o.What 7):Int)==2) then ((P7 state c index fuse down b2 b3).bind fun y5=>((am7 o.N_ fuse down b2 b3).bind fun y6=>(some ([],state,y6.1,y6.2.1,y6.2.2.1,y6.2.2.2)))) else (bif (((k7 .i64 o.What 7):Int)==3) then ((bo9 o.Now).bind fun y8=>((an9 y8 state c index fuse down b2 b3).bind fun y9=>(some ([],y9.2.1,y9.2.2.1,y9.2.2.2.1,y9.2.2.2.2.1,y9.2.2.2.2.2)))) else (bif (((k7 .i64 o.What 7):Int)==4) then ((Q5 o.Now state c index fuse down b2 b3).bind fun y11=>(some (y11.1,y11.2,fuse,down,b2,b3))) else ((at8 o.M_ o.Now state c index fuse down b2 b3).bind fun y12=>(some (y12.1,y12.2,fuse,down,b2,b3)))))))
theorem cS3 {o:Op}{state:e9}{c:d9}{index fuse:Int}{down:Bool}{b2 b3:List Int}{r:(List f3)×e9×Int×Bool×(List Int)×(List Int)} (h:aS9 o state c index fuse down b2 b3=some r):i4 E 10 [.ptr 0 0 0,.agg (Op.enc o)] [some ⟨88,true,[(e9.l state (d9.l c [.int .i64 index,.ptr 1 0 0]))]⟩,some ⟨4,true,[[(f6 2 (List.map (d8 .u8) b2)),(f6 3 (List.map (d8 .u8) b3)),.int .i64 fuse,.bool down]]⟩,some ⟨1,false,(List.map (d8 .u8) b2)⟩,some ⟨1,false,(List.map (d8 .u8) b3)⟩] (Rs (df9 c index) r):=so (fn:=Tryz.f10) (k:=true) (m:=4) h<| by
 intro r h;unfold aS9 at h
 refine zs 20 h (fun h=> ?_) fun h=> ?_
 ·
  refine zdR 1 [] h (fun _=>aG3) fun y2 h=> ?_
  refine zc 1 [] h (fun _=>cu0) fun y3 h=> ?_
  refine zf 5 [.mv 2,.mv 3] ?_
  exact zu 1 h [.slot 0 [some 26]]
 refine zs 6 h (fun h=> ?_) fun h=> ?_
 ·
  refine zdR 1 [] h (fun _=>aG3) fun y5 h=> ?_
  refine zc 1 [] h (fun _=>cn0) fun y6 h=> ?_
  refine zf 5 [.mv 3] ?_
  exact zu 1 h [.slot 0 [some 26]]
 refine zs 6 h (fun h=> ?_) fun h=> ?_
 ·
  refine zc 6 [] h (fun _=>cT3) fun y8 h=> ?_
  refine zc 1 [] h (fun _=>bh4) fun y9 h=> ?_
  exact zu 7 h [.slot 0 [some 26]]
 refine zs 6 h (fun h=> ?_) fun h=> ?_
 ·
  refine zc 7 [] h (fun _=>aV5) fun y11 h=> ?_
  refine zf 2 [.mv 2,.mv 3] ?_
  exact zu 1 h
 refine zc 10 [] h (fun _=>ce4) fun y12 h=> ?_
 refine zf 2 [.mv 2,.mv 3] ?_
 exact zu 1 h
end Go.RX.L

namespace Go.RX.L
open Go Go.RX
def aa7 (c:d9):Plan:=⟨0,-1,-1,-1,0,0,0,0,0,0,List.replicate c.Targets.toNat 0,[]⟩
def zst (c:d9):e9:=⟨0,aa7 c,0,[],⟨0,0,0,0⟩,⟨false,0⟩,cd3,0,0,0,⟨false,0⟩⟩
def upS (c:d9) (b now:Int):e9:={ zst c with boot:=b,heard:=now }
theorem cw1 {c:d9} (cb:CB c):ap1 (aa7 c):=by
 have:=cb.t
 refine ⟨⟨by simp [aa7],by simp [aa7],by simp [aa7],by simp [aa7],by simp [aa7],by simp [aa7],by simp [aa7];omega,by simp [aa7],fun x hx=> ?_,by simp [aa7],rfl⟩,⟨ac6.2 (by simp [aa7]),by simp [aa7],by simp [aa7],⟨by simp [aa7];omega,by simp [aa7]⟩⟩⟩
 rw [(List.mem_replicate.1 hx).2];decide
theorem dA1 {c:d9} (cb:CB c) {M:Int}{i:Nat} (h0:0≤M) (hi:M≤i):DI c (zst c) M i:=⟨cw1 cb,by simp [zst],by simp [zst],G0.2 (by simp [zst]),by simp [zst];exact h0,hi,by simp [zst],PI0 _⟩
theorem ed9 {c:d9} (cb:CB c) {M now:Int}{i:Nat} (h0:0≤M) (hi:M≤i):DI c (upS c M now) M i:=⟨cw1 cb,by simp [upS,zst],by simp [upS,zst],G0.2 (by simp [upS,zst]),by simp [upS];exact h0,hi,by simp [upS,zst],PI0 _⟩
section
variable {c : d9} {ix : Int} {st : e9} {ns : List Int} {pend : Option Int} {fuse : Int} {down : Bool} {s t : List Int} {i : Nat}
theorem dx4 {now f:Int}{d:Bool}{st2:e9}{s' t' :List Int}{r:Int×e9×Int×Bool×List Int×List Int} (hn:∀n∈ns,n8 .i64 n∧n<1048575) (hl:ns.length≤1000):∀(j k:Nat),k+j=ns.length→
  Ev (O3 now c ix) (.s1 (at3 ns) (al0 ns) (ns.length:Nat) (ns.length:Nat) st2 f d s' t') r→Ev (O3 now c ix) (.s1 (at3 ns) (al0 ns) (ns.length:Nat) (k:Nat) st2 f d s' t') r:=by
 intro j
 induction j with
 | zero=>
  intro k hk h
  have:k=ns.length:=by omega
  subst this
  exact h
 | succ j ih=>
  intro k hk h
  have hlt:k<ns.length:=by omega
  obtain ⟨g1,g2⟩:=dN5 hlt
  obtain ⟨hk1,hk2⟩:=hn _ (List.getElem_mem hlt)
  have hof:=dl1 hk1
  have l1:(decide ((k:Int)<((al0 ns).length:Int)))=true:=by simp [al0];omega
  have l2:(decide ((k:Int)<((at3 ns).length:Int)))=true:=by simp [at3];omega
  have big:decide ((z0 ns[k]).Nonce≥1048575)=false:=decide_eq_false (by show ¬ns[k]≥1048575;omega)
  refine .next (s' := .s1 (at3 ns) (al0 ns) (ns.length:Nat) ((k+1:Nat):Int) st2 f d s' t') ?_ (ih (k+1) (by omega) h)
  simp only [O3,P2,F2 hlt,cond_true,List.length_map,M7,l1,l2,Bool.and_self,Int.toNat_natCast,g1,g2,Option.bind_some,hof,beq_self_eq_true,show (z0 ns[k]).Kind=17 from rfl,big,cond_false,wB (show k≤3000000 by omega)]
theorem cu3 {now:Int} (h:JR ns pend fuse down s t i) (hc:ab4 c=true) (ht:c.Tiers.length<9223372036854775807) (hi:i≤250):
  ∃e st' f d s' t' ns' pend',an9 now st c ix fuse down s t=some (e,st',f,d,s',t')∧JR ns' pend' f d s' t' (i+1)∧H2 ns≤H2 ns' ∧(st' =zst c∨(H2 ns<H2 ns' ∧st' =upS c (H2 ns') now))∧(fuse= -1→e=0∧st' =upS c (H2 ns') now∧d=false∧H2 ns<H2 ns'):=by
 have hz:=ct2 ht hc
 rcases h.open_ (by omega) with ⟨f,ho,hr,hf1⟩ | ⟨f,ho,hr,hf1⟩
 rotate_left
 ·refine ⟨61,zst c,f,true,s,[],ns,none,u6 (.done ?_),hr.more,Int.le_refl _,.inl rfl,fun h=>absurd h hf1⟩
  simp only [O3,af4,hz,ho,Option.bind_some,show ((61:Int) !=0)=true from rfl,cond_true];rfl
 have hin:∀n∈ns,n8 .i64 n∧n<1048575:=fun n hn=>⟨de3 (h.ns_ n hn) (by omega),by have:=h.ns_ n hn;omega⟩
 have hl:ns.length≤1000:=by have:=h.cnt;omega
 obtain ⟨b,e,g,d,s',t',ns',pend',hb,hj,hm,he,hfe⟩:=dU2 hr hi
 have lt:decide (((ns.length:Nat):Int)<((ns.length:Nat):Int))=false:=decide_eq_false (by omega)
 have first:∀{r},P2 now c ix (at3 ns) (al0 ns) (ns.length:Nat) (ns.length:Nat) (zst c) f false (log (ns.map z0)) []=some (.inr r)→an9 now st c ix fuse down s t=some r:=fun {r} hh=>by
  refine u6 (.next (s' := .s1 (at3 ns) (al0 ns) (ns.length:Nat) ((0:Nat):Int) (zst c) f false (log (ns.map z0)) []) ?_ (dx4 hin hl ns.length 0 (by omega) (.done hh)))
  simp only [O3,af4,hz,ho,Option.bind_some,show ((0:Int) !=0)=false from rfl,cond_false,List.length_map]
  simp [al0];rfl
 by_cases h0:e=0
 ·subst h0
  obtain ⟨q1,q2,q3⟩:=he rfl
  refine ⟨0,upS c (H2 ns') now,g,d,s',t',ns',pend',first ?_,hj,hm,.inr ⟨by omega,rfl⟩,fun _=>⟨rfl,rfl,q1,by omega⟩⟩
  simp only [P2,lt,cond_false,hb,Option.bind_some,show ((0:Int) !=0)=false from rfl,q3];rfl
 ·refine ⟨e,zst c,g,d,s',t',ns',pend',first ?_,hj,hm,.inl rfl,fun h=>absurd (hfe (hf1 h)) h0⟩
  simp only [P2,lt,cond_false,hb,Option.bind_some,bne_iff_ne.2 h0,cond_true]
end
/-- One step of whatever is done: what is sent, what it is then, the highest boot on its disk. -/
inductive SR (c : d9) (ix : Int) (o : Op) (st : e9) (M : Int) (d : Bool) : List f3 → e9 → Int → Prop
  | idle {M' : Int} : k7 .i64 o.What 7 ≠ 3 → M ≤ M' → SR c ix o st M d [] st M'
  | fall {M' : Int} : k7 .i64 o.What 7 = 3 → M ≤ M' → SR c ix o st M d [] (zst c) M'
  | boot {M' now : Int} : k7 .i64 o.What 7 = 3 → M < M' → SR c ix o st M d [] (upS c M' now) M'
  | tick {o3 : List f3} {st' : e9} : k7 .i64 o.What 7 = 4 → 0 ≤ o.Now → o.Now ≤ 1099511627776 → st.boot ≠ 0 → d = false → PR c ix o.Now (cA3 c ix o.Now st) o3 st' → SR c ix o st M d ((R7 c ix o.Now st).1 ++ (aX4 c ix o.Now (R7 c ix o.Now st).2).1 ++ o3) st' M
  | handle {out : List f3} {st' : e9} : k7 .i64 o.What 7 ≠ 3 → A0 o.M_ = true → 0 ≤ o.Now → o.Now ≤ 1099511627776 → st.boot ≠ 0 → d = false → HR c ix st o.M_ o.Now out st' → SR c ix o st M d out st' M
theorem dT3 {c:d9}{ix:Int}{o:Op}{st:e9}{ns:List Int}{pend:Option Int}{fuse:Int}{down:Bool}{s t:List Int}{i:Nat} (h:DI c st (H2 ns) i) (hj:JR ns pend fuse down s t i) (hc:ab4 c=true) (ht:c.Tiers.length<9223372036854775807) (hix:0≤ix∧ix≤4) (ho:o.Ok) (hi:i≤250):
  ∃out st' f d s' t' ns' pend',aS9 o st c ix fuse down s t=some (out,st',f,d,s',t')∧DI c st' (H2 ns') (i+1)∧JR ns' pend' f d s' t' (i+1)∧SR c ix o st (H2 ns) d out st' (H2 ns'):=by
 have cb:=aG5 hc
 have hm:=hj.mx
 have hm1:H2 ns≤((i+1:Nat):Int):=by omega
 have hN:=ho.2.2.2
 have hf:ak8 o.M_:=ho.2.1.fine
 have mid:=h.more (j:=i+1) (by omega) (Int.le_refl _) hm1
 unfold aS9
 by_cases w1:k7 .i64 o.What 7=1
 ·rw [beq_iff_eq.2 w1]
  obtain ⟨e1,e2⟩:=dR5 hj hN
  have h0:P7 st c ix fuse down s t=some ():=rfl
  simp only [cond_true,h0,e1,Option.bind_some]
  exact ⟨_,_,_,_,_,_,ns,pend,rfl,mid,e2.more,.idle (by omega) (Int.le_refl _)⟩
 rw [beq_eq_false_iff_ne.2 w1]
 by_cases w2:k7 .i64 o.What 7=2
 ·rw [beq_iff_eq.2 w2]
  obtain ⟨s',ns',e1,e2,e3⟩:=dL8 (keep:=o.N_) hj (by omega)
  have h0:P7 st c ix fuse down s t=some ():=rfl
  simp only [cond_true,cond_false,h0,e1,Option.bind_some]
  exact ⟨_,_,_,_,_,_,ns',none,rfl,h.more (by omega) e3 (by have:=e2.mx;omega),e2.more,.idle (by omega) e3⟩
 rw [beq_eq_false_iff_ne.2 w2]
 by_cases w3:k7 .i64 o.What 7=3
 ·rw [beq_iff_eq.2 w3]
  obtain ⟨e,st',f,d,s',t',ns',pend',e1,e2,e3,e4,-⟩:=cu3 (st:=st) (ix:=ix) (now:=u9 0 (A3 o.Now 1099511627776)) hj hc ht hi
  have hm' :=e2.mx
  simp only [cond_true,cond_false,bo9,Option.bind_some,e1]
  refine ⟨_,_,_,_,_,_,ns',pend',rfl,?_,e2,?_⟩
  ·rcases e4 with rfl | ⟨-,rfl⟩
   ·exact dA1 cb hm'.1 hm'.2
   ·exact ed9 cb hm'.1 hm'.2
  ·rcases e4 with rfl | ⟨e5,rfl⟩
   ·exact .fall w3 e3
   ·exact .boot w3 e5
 rw [beq_eq_false_iff_ne.2 w3]
 by_cases w4:k7 .i64 o.What 7=4
 ·rw [beq_iff_eq.2 w4]
  obtain ⟨out,st',e1,e2⟩:=dQ0 (now:=o.Now) (fuse:=fuse) (down:=down) (s:=s) (t:=t) h hc ht hix (by omega)
  simp only [cond_true,cond_false,e1,Option.bind_some]
  rcases e2 with ⟨rfl,rfl⟩ | ⟨q1,q2,q3,q4,o3,rfl,q5⟩
  ·exact ⟨_,_,_,_,_,_,ns,pend,rfl,mid,hj.more,.idle w3 (Int.le_refl _)⟩
  ·exact ⟨_,_,_,_,_,_,ns,pend,rfl,(ee4 cb q1 (dl8 h) q5).more (by omega) (Int.le_refl _) hm1,hj.more,.tick w4 q1 q2 q3 q4 q5⟩
 rw [beq_eq_false_iff_ne.2 w4]
 obtain ⟨out,st',e1,e2⟩:=dx5 (m:=o.M_) (now:=o.Now) (fuse:=fuse) (down:=down) (s:=s) (t:=t) h cb hix hf (by omega)
 simp only [cond_false,e1,Option.bind_some]
 rcases e2 with ⟨rfl,rfl⟩ | ⟨q1,q2,q3,q4,q5,q6⟩
 ·exact ⟨_,_,_,_,_,_,ns,pend,rfl,mid,hj.more,.idle w3 (Int.le_refl _)⟩
 ·exact ⟨_,_,_,_,_,_,ns,pend,rfl,ef0 h q1 hf q6,hj.more,.handle w3 q1 q2 q3 q4 q5 q6⟩
theorem cG8 {c:d9}{index:Int} (ht:c.Tiers.length<9223372036854775807):aq1 c index=some (if ab4 c=true∧0≤index∧index<c.Deciders then .r1 (zst c) (-1) false [] [] else .r0):=by
 simp only [aq1,bd3 ht,Option.bind_some]
 cases h:ab4 c with
 | false=>simp [R3]
 | true=>
  have hz:=ct2 ht h
  by_cases h1:index<0
  ·have:¬(0≤index):=by omega
   simp [h1,R3,this]
  ·by_cases h2:index≥c.Deciders
   ·have:¬(index<c.Deciders):=by omega
    simp [h1,h2,R3,this]
   ·have h3:0≤index∧index<c.Deciders:=by omega
    simp [h1,h2,R3,bc9,hz,h3,zst,aa7,cd3,v7]
theorem cl5:ab4 B4=true:=by decide+kernel
theorem cL7:aT7=some true:=by
 have ht:B4.Tiers.length<9223372036854775807:=by decide
 have cb:=aG5 cl5
 have n0:=cG8 (index:=0) ht
 have n2:=cG8 (index:=2) ht
 rw [if_pos ⟨cl5,by decide,by decide⟩] at n0
 rw [if_neg (by decide)] at n2
 have t1:Q5 0 (zst B4) B4 0 (-1) false [] []=some ([],zst B4):=rfl
 obtain ⟨e,st',f,d,s',t',ns',pend',e1,e2,e3,e4,e5⟩:=cu3 (st:=zst B4) (ix:=0) (now:=0) JR0 cl5 ht (by decide)
 obtain ⟨rfl,rfl,rfl,hlt⟩:=e5 rfl
 have m0:H2 []=0:=rfl
 generalize hb:H2 ns' =b at*
 have hl:R7 B4 0 0 (upS B4 b 0)=(U4 B4 0 (bU4 0) (at1 B4),bw8 (upS B4 b 0) 0):=by unfold R7;rw [if_pos];rfl
 have hs:aX4 B4 0 0 (bw8 (upS B4 b 0) 0)=([],bw8 (upS B4 b 0) 0):=by unfold aX4;rw [if_pos (.inl rfl)]
 have lv:bK7 (bw8 (upS B4 b 0) 0).hold 0 0=false:=rfl
 have hp:an3 0 (bw8 (upS B4 b 0) 0) B4 0 f false s' t' =some ([],bw8 (upS B4 b 0) 0):=by
  refine u6 (.next (s' := .s1 true) ?_ (.done rfl))
  simp only [n7,ae7,cq5,Option.bind_some,lv,Bool.and_false,Bool.not_false,cond_true]
 have of:(decide ((0:Int)<0) || (decide ((0:Int)>1099511627776) || (decide ((upS B4 b 0).boot=0) || false)))=false:=by
  have:decide ((upS B4 b 0).boot=0)=false:=decide_eq_false (by show ¬b=0;omega)
  rw [this];rfl
 have la:(U4 B4 0 (bU4 0) (at1 B4)).length=3:=rfl
 have e1' :decide (3*288≤i7)=true:=D1 (by omega)
 have e2' :decide ((3+0)*288≤i7)=true:=D1 (by omega)
 have tk:Q5 0 (upS B4 b 0) B4 0 f false s' t' =some (U4 B4 0 (bU4 0) (at1 B4),bw8 (upS B4 b 0) 0):=by
  simp only [Q5,cZ7,Option.bind_some,of,cond_false,dl9 cb (show (0:Int)≤0∧(0:Int)≤100 by decide),dw1 cb (show (0:Int)≤0∧(0:Int)≤100 by decide),hl,hs,hp,List.length_map,List.map_append,List.length_append,List.length_nil,la,e1',e2',cond_true,List.append_nil]
 have g0:(U4 B4 0 (bU4 0) (at1 B4))[0]? =some (ftM (bU4 0) (l9 B4 0) 0):=rfl
 have j0:∀(st:e9) (f:Int) (d:Bool) (s t:List Int),P7 st B4 0 f d s t=some ():=fun _ _ _ _ _=>rfl
 have k0:∀(st:e9) (f:Int) (d:Bool) (s t:List Int),aP6 st B4 0 f d s t=some st.known:=fun _ _ _ _ _=>rfl
 simp only [aT7,dF4,Option.bind_some,n0,aV9,n2,j0,t1,e1,List.length_map,List.length_nil,au2,show (((0:Nat):Int) !=0)=false from rfl,show ((0:Int) !=0)=false from rfl,cond_false,tk,la,show (((3:Nat):Int)==3)=true from rfl,cond_true,show decide ((0:Int)<((3:Nat):Int))=true from rfl,g0,show ((ftM (bU4 0) (l9 B4 0) 0).Kind==10)=true from rfl,show ((ftM (bU4 0) (l9 B4 0) 0).Code==2)=true from rfl,cq5,lv,Bool.and_false,Bool.not_false,k0]
 rfl
end Go.RX.L

namespace Go.RX.L
open Go Go.RX
def C7 (c:d9):Int:=l9 c (c.Deciders+c.Targets+c.Routers+c.Observers)
structure bO6 (c:d9) (m:f3):Prop where
 f:m.From=l9 c 0
 t:0≤m.To∧m.To<C7 c
 r:A0 m=true
 s:Shm m
structure dr7 (m:f3):Prop where
 k:1≤m.Kind∧m.Kind≤19
 u:m.Up=0
 c:0≤m.Code∧m.Code≤1000
 i:m.ID= []
 s:m.Session= []
 q:m.Payload= []
 p:as0 m=true
 sh:Shm m
section
variable {c : d9} (cb : CB c)
include cb
theorem bM4:5≤C7 c∧C7 c≤100:=by
 have:=cb.f;have:=cb.dec;have:=cb.t;have:=cb.rou;have:=cb.obs
 unfold C7 l9;omega
theorem dS0 {m:f3} (h:dr7 m) {t:Int} (ht:0≤t∧t<C7 c):bO6 c (ftM m (l9 c 0) t):=by
 have hn:=bM4 cb
 have hf:=cb.f
 obtain ⟨k,u,co,i,s,q,p,sh⟩:=h
 refine ⟨rfl,ht,?_,⟨sh.s,sh.up,sh.sup⟩⟩
 simp only [A0,Bool.and_eq_true,decide_eq_true_eq]
 refine ⟨?_,?_,p⟩
 ·unfold hdM ftM l9;simp only [u];omega
 ·unfold txM ftM;simp only [i,s,q];simp
theorem cn1 {t:Int} (h:t∈at1 c):0≤t∧t<C7 c:=by
 have:=cb.f;have:=cb.dec;have:=cb.t;have:=cb.rou;have:=cb.obs
 obtain ⟨k,hk,rfl⟩:=List.mem_map.1 h
 have:=List.mem_range.1 hk
 unfold C7 l9;omega
theorem dF9 {ix t:Int} (h:t∈aX5 c ix):0≤t∧t<C7 c:=by
 have:=cb.f;have:=cb.dec;have:=cb.t;have:=cb.rou;have:=cb.obs
 obtain ⟨k,hk,rfl⟩:=List.mem_map.1 (List.mem_filter.1 h).1
 have h2:=List.mem_range.1 hk
 unfold aB4 at h2
 unfold C7 l9;omega
theorem dK5 {t:Int} (h:isT c t):0≤t∧t<C7 c:=by
 have:=cb.f;have:=cb.dec;have:=cb.t;have:=cb.rou;have:=cb.obs
 obtain ⟨k,h1,h2,rfl⟩:=h
 unfold C7 l9;omega
theorem bv4 {m:f3} (h:dr7 m) {l:List Int} (hl:∀t∈l,0≤t∧t<C7 c):∀x∈U4 c 0 m l,bO6 c x:=fun x hx=>by
 obtain ⟨t,ht,rfl⟩:=List.mem_map.1 hx
 exact dS0 cb h (hl t ht)
end
theorem bS7 {m:f3} (hp:ap1 m.Plan) (k:1≤m.Kind∧m.Kind≤19) (u:m.Up=0) (co:m.Code=0∨m.Code=1) (i:m.ID= []) (s:m.Session= []) (q:m.Payload= []) (h:m.HasPlan=true):dr7 m:=by
 have h1:=hp.1.up
 have h2:=hp.1.sup
 refine ⟨k,u,by omega,i,s,q,by unfold as0;rw [h];exact Z5.2 hp.1,⟨hp.2.s,G0.2 ⟨hp.2.up,by omega⟩,G0.2 ⟨hp.2.sup,by omega⟩⟩⟩
theorem cL9 {m:f3} (hp:m.Plan=v7) (k:1≤m.Kind∧m.Kind≤19) (u:m.Up=0) (co:0≤m.Code∧m.Code≤1000) (i:m.ID= []) (s:m.Session= []) (q:m.Payload= []) (h:m.HasPlan=false):dr7 m:=
 ⟨k,u,co,i,s,q,by unfold as0;rw [h,hp];exact bY5.2 rfl,⟨by rw [hp];exact dc8.s,by rw [hp];exact G0.2 (by decide),by rw [hp];exact G0.2 (by decide)⟩⟩
/-! ### decisions -/
def cN (x:List f3) (q:Int):Nat:=x.countP fun m=>m.Kind==9&&m.To==q
def cA (x:List f3):Nat:=x.countP fun m=>m.Kind==9
theorem bV1 (a b:List f3) (q:Int):cN (a++b) q=cN a q+cN b q:=List.countP_append
theorem dO1 {x:List f3} (h:∀m∈x,m.Kind≠9) (q:Int):cN x q=0:=by
 refine List.countP_eq_zero.2 fun m hm=> ?_
 simp [beq_eq_false_iff_ne.2 (h m hm)]
theorem ee6 {x:List f3} (h:∀m∈x,m.Kind≠9):cA x=0:=by
 refine List.countP_eq_zero.2 fun m hm=> ?_
 simp [h m hm]
theorem bJ9 {c:d9}{ix:Int}{m:f3}{l:List Int}:∀x∈U4 c ix m l,x.Kind=m.Kind:=fun x hx=>by
 obtain ⟨t,_,rfl⟩:=List.mem_map.1 hx;rfl
theorem du4 (c:d9) (p:Plan) (q:Int):∀n:Nat,cN (U4 c 0 (bi7 p) (aB0 c 0 (List.range n))) q=if l9 c 0<q∧q<l9 c n then 1 else 0
 | 0=>by
  rw [if_neg (by intro h;have:l9 c ((0:Nat):Int)=l9 c 0:=rfl;omega)];rfl
 | n+1=>by
  have ih:=du4 c p q n
  rw [List.range_succ]
  by_cases h0:n=0
  ·subst h0
   have:aB0 c 0 (List.range 0++ [0])= []:=by simp [aB0]
   rw [this,if_neg (by unfold l9;omega)];rfl
  ·have e:(l9 c (n:Int) !=l9 c 0)=true:=bne_iff_ne.2 (by unfold l9;omega)
   have:aB0 c 0 (List.range n++ [n])=aB0 c 0 (List.range n)++ [l9 c (n:Int)]:=by simp [aB0,List.filter_append,e]
   rw [this]
   have e2:U4 c 0 (bi7 p) (aB0 c 0 (List.range n)++ [l9 c (n:Int)])=U4 c 0 (bi7 p) (aB0 c 0 (List.range n))++ [ftM (bi7 p) (l9 c 0) (l9 c (n:Int))]:=by simp [U4]
   rw [e2,bV1,ih]
   have e3:cN [ftM (bi7 p) (l9 c 0) (l9 c (n:Int))] q=if l9 c (n:Int)=q then 1 else 0:=by
    by_cases hq:l9 c (n:Int)=q
    ·subst hq;simp [cN,ftM,bi7]
    ·simp [cN,ftM,bi7,hq]
   rw [e3]
   by_cases hq:l9 c (n:Int)=q
   ·rw [if_pos hq,if_neg (by omega),if_pos (by subst hq;unfold l9;omega)]
   ·rw [if_neg hq]
    by_cases hr:l9 c 0<q∧q<l9 c n
    ·rw [if_pos hr,if_pos (by unfold l9 at hr ⊢;omega)]
    ·rw [if_neg hr,if_neg (by unfold l9 at hr hq ⊢;omega)]
def SX (c:d9) (x:List f3):Prop:=(∀m∈x,m.Kind≠9)∨∀q:Int,cN x q=if l9 c 0<q∧q<l9 c (c.Deciders+c.Targets+c.Routers) then 1 else 0
theorem dt5 {c:d9} (cb:CB c) {a b:List f3}{p:Plan} (ha:∀m∈a,m.Kind≠9) (hb:∀m∈b,m.Kind≠9):SX c (a++U4 c 0 (bi7 p) (aX5 c 0)++b):=by
 refine .inr fun q=> ?_
 rw [bV1,bV1,dO1 ha,dO1 hb]
 have:=du4 c p q (aB4 c)
 have e:((aB4 c:Nat):Int)=c.Deciders+c.Targets+c.Routers:=by
  have:=cb.dec;have:=cb.t;have:=cb.rou
  unfold aB4;omega
 rw [e] at this
 unfold aX5
 rw [this];omega
theorem ef5 {c:d9}{a b d:List f3} (ha:∀m∈a,m.Kind≠9) (hb:∀m∈b,m.Kind≠9) (hd:∀m∈d,m.Kind≠9):SX c (a++b++d):=by
 refine .inl fun m hm=> ?_
 rcases List.mem_append.1 hm with hm | hm
 ·rcases List.mem_append.1 hm with hm | hm
  ·exact ha m hm
  ·exact hb m hm
 ·exact hd m hm
theorem ec1 {P:f3→Prop}{a b d:List f3} (ha:∀m∈a,P m) (hb:∀m∈b,P m) (hd:∀m∈d,P m):∀m∈a++b++d,P m:=fun m hm=>by
 rcases List.mem_append.1 hm with hm | hm
 ·rcases List.mem_append.1 hm with hm | hm
  ·exact ha m hm
  ·exact hb m hm
 ·exact hd m hm
section
variable {c : d9} {st : e9} {M : Int} {i : Nat} {now : Int}
theorem Q1 {P:f3→Prop}:∀m∈([]:List f3),P m:=fun m hm=>by cases hm
theorem dw0 (cb:CB c):(∀m∈(R7 c 0 now st).1,bO6 c m)∧∀m∈(R7 c 0 now st).1,m.Kind≠9:=by
 unfold R7
 split
 ·exact ⟨bv4 cb (cL9 rfl (show 1≤(10:Int)∧(10:Int)≤19 by decide) rfl (show 0≤(2:Int)∧(2:Int)≤1000 by decide) rfl rfl rfl rfl) (fun t ht=>cn1 cb ht),fun m hm=>by rw [bJ9 m hm];exact (by decide:(10:Int)≠9)⟩
 ·exact ⟨Q1,Q1⟩
theorem dR4 (cb:CB c) (hk:ap1 st.known) {out:List f3}{st' :e9} (h:PR c 0 now st out st'):(∀m∈out,bO6 c m)∧∀m∈out,m.Kind≠9:=by
 cases h with
 | same=>exact ⟨Q1,Q1⟩
 | none=>exact ⟨Q1,Q1⟩
 | go _ _ _ _ _ _ _ hc _ hx=>
  refine ⟨fun m hm=> ?_,fun m hm=> ?_⟩
  ·rcases List.mem_append.1 hm with hm | hm
   ·exact bv4 cb (cL9 rfl (show 1≤(12:Int)∧(12:Int)≤19 by decide) rfl (show 0≤(0:Int)∧(0:Int)≤1000 by decide) rfl rfl rfl rfl) (fun t ht=>dK5 cb (hx t ht)) m hm
   ·exact bv4 cb (bS7 hk (show 1≤(4:Int)∧(4:Int)≤19 by decide) rfl hc rfl rfl rfl rfl) (fun t ht=>cn1 cb ht) m hm
  ·rcases List.mem_append.1 hm with hm | hm
   ·rw [bJ9 m hm];exact (by decide:(12:Int)≠9)
   ·rw [bJ9 m hm];exact (by decide:(4:Int)≠9)
theorem dc9 (cb:CB c) {p:Plan} (hk:ap1 p):∀m∈U4 c 0 (bi7 p) (aX5 c 0),bO6 c m:=
 bv4 cb (bS7 hk (show 1≤(9:Int)∧(9:Int)≤19 by decide) rfl (.inl rfl) rfl rfl rfl rfl) (fun t ht=>dF9 cb ht)
theorem dQ6 (cb:CB c) {o:Op}{d:Bool}{out:List f3}{st' :e9}{M' :Int} (h:DI c st M i) (hf:ak8 o.M_) (hs:SR c 0 o st M d out st' M'):(∀m∈out,bO6 c m)∧SX c out:=by
 cases hs with
 | idle _ _=>exact ⟨Q1,.inl Q1⟩
 | fall _ _=>exact ⟨Q1,.inl Q1⟩
 | boot _ _=>exact ⟨Q1,.inl Q1⟩
 | tick _ h1 h2 _ _ hp=>
  obtain ⟨g1,g2⟩:=dw0 (now:=o.Now) (st:=st) cb
  have hk:(cA3 c 0 o.Now st).known=st.known:=by
   obtain ⟨ho,a,to,he,-⟩:=dn2 (c:=c) (ix:=0) (now:=o.Now) (st:=st)
   rw [he]
  obtain ⟨g5,g6⟩:=dR4 cb (by rw [hk];exact h.kn) hp
  have hk2:(R7 c 0 o.Now st).2.known=st.known:=by unfold R7;split<;>rfl
  unfold aX4
  split
  ·exact ⟨ec1 g1 Q1 g5,ef5 g2 Q1 g6⟩
  ·rw [hk2]
   exact ⟨ec1 g1 (dc9 cb h.kn) g5,dt5 cb g2 g6⟩
 | handle _ hr h1 h2 _ _ hh=>
  cases hh with
  | acc p1 p2=>
   refine ⟨?_,.inl fun m hm=> ?_⟩
   ·have hp:=(bN8 (c:=c) h.pi hr hf).1.ph
    have hv:ap1 (I4 st.prop c o.M_).Value:=by
     rcases hp with hp | ⟨-,-,-,-,-,hp⟩
     ·omega
     ·exact (hp p2).1
    exact bv4 cb (bS7 hv (show 1≤(7:Int)∧(7:Int)≤19 by decide) rfl (.inl rfl) rfl rfl rfl rfl) (fun t ht=>cn1 cb ht)
   ·rw [bJ9 m hm];exact (by decide:(7:Int)≠9)
  | learn k8 p2=>
   have hp:=h.pi.ph
   have hv:ap1 st.prop.Value:=by
    rcases hp with hp | ⟨-,-,-,-,-,hp⟩
    ·omega
    ·exact (hp p2).1
   exact ⟨dc9 cb hv,by have:=dt5 cb (a:= []) (b:= []) (p:=st.prop.Value) Q1 Q1;simpa using this⟩
  | _=>exact ⟨Q1,.inl Q1⟩
theorem dY6 (cb:CB c) {o:Op}{d:Bool}{out:List f3}{st' :e9}{M' :Int} (hs:SR c 0 o st M d out st' M'):out.length≤60:=by
 have a:=br5 cb
 have b:=ck9 cb 0
 cases hs with
 | tick _ _ _ _ _ hp=>
  have l1:=cV5 (ix:=0) (now:=o.Now) (st:=st) cb
  have l2:=dn3 (ix:=0) (now:=o.Now) (st:=(R7 c 0 o.Now st).2) cb
  have l3:=dx0 cb hp
  simp only [List.length_append];omega
 | handle _ _ _ _ _ _ hh=>
  cases hh with
  | acc _ _=>rw [cc3];omega
  | learn _ _=>rw [cc3];omega
  | _=>simp
 | _=>simp
end
end Go.RX.L

namespace Go.RX.L
open Go Go.RX Go.Proofs
attribute [local irreducible] i0
noncomputable def cS9 (y:Bool):D×f4:=(.bool y,[])
noncomputable def aM4 (l_:List Op):Option Bool:=(some (decide (((((List.map Op.enc l_).length:Nat):Int):Int)>200)))
theorem cD0 {l_:List Op}{r:Bool} (h:aM4 l_=some r):i4 E 9 [.sl false 29 (List.map Op.enc l_)] [] (Rs cS9 r):=so (fn:=Tryz.f9) (k:=false) (m:=0) h<| by
 intro r h;unfold aM4 at h
 exact zu 12 h
end Go.RX.L

namespace Go.RX.L
open Go Go.RX Go.Proofs
attribute [local irreducible] i0
noncomputable def i6:=p7 (q0 Tryz.f5)
noncomputable def aY4 (y:Bool):D×f4:=(.bool y,[])
inductive z3 where
 | s0
 | s1 (up:Bool)
 | s2 (up:Bool) (state:e9) (index fuse:Int) (down:Bool) (b3 b4:List Int)
 | s3 (up:Bool) (i:Int) (state:e9) (index fuse:Int) (down:Bool) (b3 b4:List Int)
 | s4 (up:Bool) (i:Int) (x_:List f3) (n k:Int) (state:e9) (index:Int) (told:List Int) (fuse:Int) (down:Bool) (b4 b5:List Int)
 | s5 (up:Bool) (i:Int) (x_:List f3) (n k:Int) (t78:Bool) (state:e9) (index:Int) (told:List Int) (fuse:Int) (down:Bool) (b4 b5:List Int)
 | s6 (up:Bool) (i n k:Int) (state:e9) (index:Int) (told:List Int) (fuse:Int) (down:Bool) (b4 b5:List Int)
 | s8 (up:Bool) (i n k:Int) (t104:Bool) (state:e9) (index:Int) (told:List Int) (fuse:Int) (down:Bool) (b4 b5:List Int)
 | s7 (up:Bool) (i n k:Int) (other:Bool) (state:e9) (index:Int) (told:List Int) (fuse:Int) (down:Bool) (b4 b5:List Int)
noncomputable def aY1 (c:d9) (l_:List Op):z3→M
 | .s0=>A6 Tryz.f5 [.agg (d9.enc c),.sl false 29 (List.map Op.enc l_)] []
 | .s1 up=>⟨[.code (i6 [1,1,1])],[(1,.sl false 29 (List.map Op.enc l_)),(2,.ptr 0 0 0),(5,.bool up),(6,.nilp)],[some ⟨30,false,[(d9.enc c)]⟩]⟩
 | .s2 up state index fuse down b3 b4=>⟨[.code (i6 [1,1,1])],[(1,.sl false 29 (List.map Op.enc l_)),(2,.ptr 0 0 0),(5,.bool up),(6,.ptr 1 0 0)],[some ⟨30,false,[(d9.enc c)]⟩,some ⟨88,true,[(e9.l state (d9.l c [.int .i64 index,.ptr 2 0 0]))]⟩,some ⟨4,true,[[(f6 3 (List.map (d8 .u8) b3)),(f6 4 (List.map (d8 .u8) b4)),.int .i64 fuse,.bool down]]⟩,some ⟨1,false,(List.map (d8 .u8) b3)⟩,some ⟨1,false,(List.map (d8 .u8) b4)⟩]⟩
 | .s3 up i state index fuse down b3 b4=>⟨[.lpc (i6 [1,1,1,1,0,1,0,0]) 230,.blk 0,.code (i6 [1,1,1,1,1])],[(1,.sl false 29 (List.map Op.enc l_)),(2,.ptr 0 0 0),(5,.bool up),(6,.ptr 1 0 0),(7,.int .i64 i)],[some ⟨30,false,[(d9.enc c)]⟩,some ⟨88,true,[(e9.l state (d9.l c [.int .i64 index,.ptr 2 0 0]))]⟩,some ⟨4,true,[[(f6 3 (List.map (d8 .u8) b3)),(f6 4 (List.map (d8 .u8) b4)),.int .i64 fuse,.bool down]]⟩,some ⟨1,false,(List.map (d8 .u8) b3)⟩,some ⟨1,false,(List.map (d8 .u8) b4)⟩]⟩
 | .s4 up i x_ n k state index told fuse down b4 b5=>⟨[.lpc (i6 [1,1,1,1,0,1,0,0,1,0,0,1,1,1,0,1,0,0]) 4070,.blk 2,.code (i6 [1,1,1,1,0,1,0,0,1,0,0,1,1,1,1]),.blk 1,.code (i6 [1,1,1,1,0,1,0,0,1,1]),.lp (i6 [1,1,1,1,0,1,0,0]) 230,.blk 0,.code (i6 [1,1,1,1,1])],[(1,.sl false 29 (List.map Op.enc l_)),(2,.ptr 0 0 0),(5,.bool up),(6,.ptr 1 0 0),(7,.int .i64 i),(8,.sl false 26 (List.map f3.enc x_)),(9,.msl 2 0 ((List.map (d8 .i64) told).length) ((List.map (d8 .i64) told).length) true),(10,.int .i64 n),(11,.int .i64 k)],[some ⟨30,false,[(d9.enc c)]⟩,some ⟨88,true,[(e9.l state (d9.l c [.int .i64 index,.ptr 3 0 0]))]⟩,some ⟨1,false,(List.map (d8 .i64) told)⟩,some ⟨4,true,[[(f6 4 (List.map (d8 .u8) b4)),(f6 5 (List.map (d8 .u8) b5)),.int .i64 fuse,.bool down]]⟩,some ⟨1,false,(List.map (d8 .u8) b4)⟩,some ⟨1,false,(List.map (d8 .u8) b5)⟩]⟩
 | .s5 up i x_ n k t78 state index told fuse down b4 b5=>⟨[.code (i6 [1,1,1,1,0,1,0,0,1,0,0,1,1,1,0,1,0,0,1,0,0,0,1]),.code (i6 [1,1,1,1,0,1,0,0,1,0,0,1,1,1,0,1,0,0,1,0,0,1]),.blk 3,.code (i6 [1,1,1,1,0,1,0,0,1,0,0,1,1,1,0,1,0,0,1,1]),.lp (i6 [1,1,1,1,0,1,0,0,1,0,0,1,1,1,0,1,0,0]) 4070,.blk 2,.code (i6 [1,1,1,1,0,1,0,0,1,0,0,1,1,1,1]),.blk 1,.code (i6 [1,1,1,1,0,1,0,0,1,1]),.lp (i6 [1,1,1,1,0,1,0,0]) 230,.blk 0,.code (i6 [1,1,1,1,1])],[(1,.sl false 29 (List.map Op.enc l_)),(2,.ptr 0 0 0),(5,.bool up),(6,.ptr 1 0 0),(7,.int .i64 i),(8,.sl false 26 (List.map f3.enc x_)),(9,.msl 2 0 ((List.map (d8 .i64) told).length) ((List.map (d8 .i64) told).length) true),(10,.int .i64 n),(11,.int .i64 k),(78,.bool t78)],[some ⟨30,false,[(d9.enc c)]⟩,some ⟨88,true,[(e9.l state (d9.l c [.int .i64 index,.ptr 3 0 0]))]⟩,some ⟨1,false,(List.map (d8 .i64) told)⟩,some ⟨4,true,[[(f6 4 (List.map (d8 .u8) b4)),(f6 5 (List.map (d8 .u8) b5)),.int .i64 fuse,.bool down]]⟩,some ⟨1,false,(List.map (d8 .u8) b4)⟩,some ⟨1,false,(List.map (d8 .u8) b5)⟩]⟩
 | .s6 up i n k state index told fuse down b4 b5=>⟨[.lpc (i6 [1,1,1,1,0,1,0,0,1,0,0,1,1,1,1,1,0,0]) 5862,.blk 4,.blk 1,.code (i6 [1,1,1,1,0,1,0,0,1,1]),.lp (i6 [1,1,1,1,0,1,0,0]) 230,.blk 0,.code (i6 [1,1,1,1,1])],[(1,.sl false 29 (List.map Op.enc l_)),(2,.ptr 0 0 0),(5,.bool up),(6,.ptr 1 0 0),(7,.int .i64 i),(9,.msl 2 0 ((List.map (d8 .i64) told).length) ((List.map (d8 .i64) told).length) true),(10,.int .i64 n),(12,.int .i64 k)],[some ⟨30,false,[(d9.enc c)]⟩,some ⟨88,true,[(e9.l state (d9.l c [.int .i64 index,.ptr 3 0 0]))]⟩,some ⟨1,false,(List.map (d8 .i64) told)⟩,some ⟨4,true,[[(f6 4 (List.map (d8 .u8) b4)),(f6 5 (List.map (d8 .u8) b5)),.int .i64 fuse,.bool down]]⟩,some ⟨1,false,(List.map (d8 .u8) b4)⟩,some ⟨1,false,(List.map (d8 .u8) b5)⟩]⟩
 | .s8 up i n k t104 state index told fuse down b4 b5=>⟨[.code (i6 [1,1,1,1,0,1,0,0,1,0,0,1,1,1,1,1,0,0,0,1]),.code (i6 [1,1,1,1,0,1,0,0,1,0,0,1,1,1,1,1,0,0,1]),.lp (i6 [1,1,1,1,0,1,0,0,1,0,0,1,1,1,1,1,0,0]) 5862,.blk 4,.blk 1,.code (i6 [1,1,1,1,0,1,0,0,1,1]),.lp (i6 [1,1,1,1,0,1,0,0]) 230,.blk 0,.code (i6 [1,1,1,1,1])],[(1,.sl false 29 (List.map Op.enc l_)),(2,.ptr 0 0 0),(5,.bool up),(6,.ptr 1 0 0),(7,.int .i64 i),(9,.msl 2 0 ((List.map (d8 .i64) told).length) ((List.map (d8 .i64) told).length) true),(10,.int .i64 n),(12,.int .i64 k),(104,.bool t104)],[some ⟨30,false,[(d9.enc c)]⟩,some ⟨88,true,[(e9.l state (d9.l c [.int .i64 index,.ptr 3 0 0]))]⟩,some ⟨1,false,(List.map (d8 .i64) told)⟩,some ⟨4,true,[[(f6 4 (List.map (d8 .u8) b4)),(f6 5 (List.map (d8 .u8) b5)),.int .i64 fuse,.bool down]]⟩,some ⟨1,false,(List.map (d8 .u8) b4)⟩,some ⟨1,false,(List.map (d8 .u8) b5)⟩]⟩
 | .s7 up i n k other state index told fuse down b4 b5=>⟨[.code (i6 [1,1,1,1,0,1,0,0,1,0,0,1,1,1,1,1,0,0,1,0,0,1]),.blk 5,.code (i6 [1,1,1,1,0,1,0,0,1,0,0,1,1,1,1,1,0,0,1,1]),.lp (i6 [1,1,1,1,0,1,0,0,1,0,0,1,1,1,1,1,0,0]) 5862,.blk 4,.blk 1,.code (i6 [1,1,1,1,0,1,0,0,1,1]),.lp (i6 [1,1,1,1,0,1,0,0]) 230,.blk 0,.code (i6 [1,1,1,1,1])],[(1,.sl false 29 (List.map Op.enc l_)),(2,.ptr 0 0 0),(5,.bool up),(6,.ptr 1 0 0),(7,.int .i64 i),(9,.msl 2 0 ((List.map (d8 .i64) told).length) ((List.map (d8 .i64) told).length) true),(10,.int .i64 n),(12,.int .i64 k),(13,.bool other)],[some ⟨30,false,[(d9.enc c)]⟩,some ⟨88,true,[(e9.l state (d9.l c [.int .i64 index,.ptr 3 0 0]))]⟩,some ⟨1,false,(List.map (d8 .i64) told)⟩,some ⟨4,true,[[(f6 4 (List.map (d8 .u8) b4)),(f6 5 (List.map (d8 .u8) b5)),.int .i64 fuse,.bool down]]⟩,some ⟨1,false,(List.map (d8 .u8) b4)⟩,some ⟨1,false,(List.map (d8 .u8) b5)⟩]⟩
abbrev E6 (c:d9) (l_:List Op):=SOk E (Cx.of Tryz.f5 false 0) aY4 (aY1 c l_)
noncomputable def X8 (c:d9) (l_:List Op):Option (z3⊕Bool):=((aT7).bind fun y1=>((aq1 c 0).bind fun y2=>match y2 with | .r0=>(some (.inl (.s1 y1))) | .r1 y2a0 y2a1 y2a2 y2a3 y2a4=>(some (.inl (.s2 y1 y2a0 0 y2a1 y2a2 y2a3 y2a4)))))
noncomputable def aB1 (c:d9) (l_:List Op) (up:Bool):Option (z3⊕Bool):=(some (.inr up))
noncomputable def X9 (c:d9) (l_:List Op) (up:Bool) (state:e9) (index fuse:Int) (down:Bool) (b3 b4:List Int):Option (z3⊕Bool):=((aM4 l_).bind fun y1=>(bif y1 then (some (.inr up)) else (some (.inl (.s3 up 0 state index fuse down b3 b4)))))
noncomputable def X7 (c:d9) (l_:List Op) (up:Bool) (i:Int) (state:e9) (index fuse:Int) (down:Bool) (b3 b4:List Int):Option (z3⊕Bool):=(bif (decide ((i:Int)<(((List.map Op.enc l_).length:Nat):Int))) then (bif ((decide ((0:Int)≤i))&&(decide ((i:Int)<(((List.map Op.enc l_).length:Nat):Int)))) then (((l_)[i.toNat]?).bind fun y3=>((aS9 y3 state c index fuse down b3 b4).bind fun y5=>((av8 c).bind fun y6=>(bif (decide ((0:Int)≤y6)&&(decide ((y6:Int)≤y6)&&(decide ((y6:Int)≤9223372036854775807)&&decide (y6.toNat*8≤i7)))) then (some (.inl (.s4 up i y5.1 0 0 y5.2.1 index (List.replicate y6.toNat 0) y5.2.2.1 y5.2.2.2.1 y5.2.2.2.2.1 y5.2.2.2.2.2))) else none)))) else none) else (some (.inr up)))
noncomputable def X5 (c:d9) (l_:List Op) (up:Bool) (i:Int) (x_:List f3) (n k:Int) (state:e9) (index:Int) (told:List Int) (fuse:Int) (down:Bool) (b4 b5:List Int):Option (z3⊕Bool):=(bif (decide ((k:Int)<(((List.map f3.enc x_).length:Nat):Int))) then (bif ((decide ((0:Int)≤k))&&(decide ((k:Int)<(((List.map f3.enc x_).length:Nat):Int)))) then (((x_)[k.toNat]?).bind fun y3=>((D9 c 0).bind fun y5=>(bif ((y3.From:Int) !=y5) then (some (.inl (.s5 up i x_ n k true state index told fuse down b4 b5))) else (bif ((decide ((0:Int)≤k))&&(decide ((k:Int)<(((List.map f3.enc x_).length:Nat):Int)))) then (((x_)[k.toNat]?).bind fun y8=>(bif (decide ((y8.To:Int)<0)) then (some (.inl (.s5 up i x_ n k true state index told fuse down b4 b5))) else (bif ((decide ((0:Int)≤k))&&(decide ((k:Int)<(((List.map f3.enc x_).length:Nat):Int)))) then (((x_)[k.toNat]?).bind fun y12=>((av8 c).bind fun y14=>(bif (decide ((y12.To:Int)≥y14)) then (some (.inl (.s5 up i x_ n k true state index told fuse down b4 b5))) else (bif ((decide ((0:Int)≤k))&&(decide ((k:Int)<(((List.map f3.enc x_).length:Nat):Int)))) then (((x_)[k.toNat]?).bind fun y17=>((aA3 y17).bind fun y19=>(some (.inl (.s5 up i x_ n k (!y19) state index told fuse down b4 b5))))) else none)))) else none))) else none)))) else none) else (some (.inl (.s6 up i n 0 state index told fuse down b4 b5))))
noncomputable def X6 (c:d9) (l_:List Op) (up:Bool) (i:Int) (x_:List f3) (n k:Int) (t78:Bool) (state:e9) (index:Int) (told:List Int) (fuse:Int) (down:Bool) (b4 b5:List Int):Option (z3⊕Bool):=(bif t78 then (some (.inr false)) else (bif ((decide ((0:Int)≤k))&&(decide ((k:Int)<(((List.map f3.enc x_).length:Nat):Int)))) then (((x_)[k.toNat]?).bind fun y3=>(bif ((y3.Kind:Int)==9) then (bif ((decide ((0:Int)≤k))&&(decide ((k:Int)<(((List.map f3.enc x_).length:Nat):Int)))) then (((x_)[k.toNat]?).bind fun y7=>(bif ((decide ((0:Int)≤y7.To))&&(decide ((y7.To:Int)<(((List.map (d8 .i64) told).length:Nat):Int)))) then (((told)[(0+y7.To.toNat)]?).bind fun y10=>(bif ((decide ((0:Int)≤y7.To))&&(decide ((y7.To:Int)<(((List.map (d8 .i64) told).length:Nat):Int)))) then (((told)[(0+y7.To.toNat)]?).bind fun y13=>(some (.inl (.s4 up i x_ (IntKind.i64.wrap (n+1)) (IntKind.i64.wrap (k+1)) state index (List.set told (0+y7.To.toNat) (IntKind.i64.wrap (y10+1))) fuse down b4 b5)))) else none)) else none)) else none) else (some (.inl (.s4 up i x_ n (IntKind.i64.wrap (k+1)) state index told fuse down b4 b5))))) else none))
noncomputable def Y0 (c:d9) (l_:List Op) (up:Bool) (i n k:Int) (state:e9) (index:Int) (told:List Int) (fuse:Int) (down:Bool) (b4 b5:List Int):Option (z3⊕Bool):=(bif (decide ((k:Int)<(((List.map (d8 .i64) told).length:Nat):Int))) then (some (.inl (.s8 up i n k (decide ((n:Int)>0)) state index told fuse down b4 b5))) else (some (.inl (.s8 up i n k false state index told fuse down b4 b5))))
noncomputable def L6 (c:d9) (l_:List Op) (up:Bool) (i n k:Int) (t104:Bool) (state:e9) (index:Int) (told:List Int) (fuse:Int) (down:Bool) (b4 b5:List Int):Option (z3⊕Bool):=(bif t104 then ((D9 c 0).bind fun y2=>(bif (decide ((k:Int)>y2)) then ((M6 c 0).bind fun y4=>(some (.inl (.s7 up i n k (decide ((k:Int)<y4)) state index told fuse down b4 b5)))) else (some (.inl (.s7 up i n k false state index told fuse down b4 b5))))) else (some (.inl (.s3 up (IntKind.i64.wrap (i+1)) state index fuse down b4 b5))))
noncomputable def X4 (c:d9) (l_:List Op) (up:Bool) (i n k:Int) (other:Bool) (state:e9) (index:Int) (told:List Int) (fuse:Int) (down:Bool) (b4 b5:List Int):Option (z3⊕Bool):=(bif ((decide ((0:Int)≤k))&&(decide ((k:Int)<(((List.map (d8 .i64) told).length:Nat):Int)))) then (((told)[(0+k.toNat)]?).bind fun y2=>(bif (!(((y2:Int)==1)==other)) then (some (.inr false)) else (bif ((decide ((0:Int)≤k))&&(decide ((k:Int)<(((List.map (d8 .i64) told).length:Nat):Int)))) then (((told)[(0+k.toNat)]?).bind fun y6=>(bif (decide ((y6:Int)>1)) then (some (.inr false)) else (some (.inl (.s6 up i n (IntKind.i64.wrap (k+1)) state index told fuse down b4 b5))))) else none))) else none)
noncomputable def m7 (c:d9) (l_:List Op):z3→Option (z3⊕Bool)
 | .s0=>X8 c l_
 | .s1 up=>aB1 c l_ up
 | .s2 up state index fuse down b3 b4=>X9 c l_ up state index fuse down b3 b4
 | .s3 up i state index fuse down b3 b4=>X7 c l_ up i state index fuse down b3 b4
 | .s4 up i x_ n k state index told fuse down b4 b5=>X5 c l_ up i x_ n k state index told fuse down b4 b5
 | .s5 up i x_ n k t78 state index told fuse down b4 b5=>X6 c l_ up i x_ n k t78 state index told fuse down b4 b5
 | .s6 up i n k state index told fuse down b4 b5=>Y0 c l_ up i n k state index told fuse down b4 b5
 | .s8 up i n k t104 state index told fuse down b4 b5=>L6 c l_ up i n k t104 state index told fuse down b4 b5
 | .s7 up i n k other state index told fuse down b4 b5=>X4 c l_ up i n k other state index told fuse down b4 b5
theorem bB4 {c l_}:E6 c l_ .s0 (X8 c l_):=by
 intro r x h ha;unfold X8 at h
 refine zc 8 [] h (fun _=>cT0) fun y1 h=> ?_
 refine zc 7 [] h (fun _=>ba7) fun y2 h=> ?_
 cases y2 with
 | r0=>
  dsimp only at h
  exact zk 2 h ha
 | r1 y2a0 y2a1 y2a2 y2a3 y2a4=>
  dsimp only at h
  exact zk 2 h ha
theorem bz9 {c l_ up}:E6 c l_ (.s1 up) (aB1 c l_ up):=by
 intro r x h ha;unfold aB1 at h
 exact zt 21 h ha
theorem bB0 {c l_ up state index fuse down b3 b4}:E6 c l_ (.s2 up state index fuse down b3 b4) (X9 c l_ up state index fuse down b3 b4):=by
 intro r x h ha;unfold X9 at h
 refine zc 10 [] h (fun _=>cD0) fun y1 h=> ?_
 refine zs 4 h (fun h=> ?_) fun h=> ?_
 ·
  exact zt 6 h ha
 exact zj 9 h ha
theorem bB1 {c l_ up i state index fuse down b3 b4}:E6 c l_ (.s3 up i state index fuse down b3 b4) (X7 c l_ up i state index fuse down b3 b4):=by
 intro r x h ha;unfold X7 at h
 refine zs 10 h (fun h=> ?_) fun h=> ?_
 ·
  refine zn 9 h fun h=> ?_
  refine zr 1 Op.enc h fun y3 h=> ?_
  refine zc 1 [] h (fun _=>cS3) fun y5 h=> ?_
  refine zc 7 [] h (fun _=>bV6) fun y6 h=> ?_
  refine zn 1 h fun h=> ?_
  refine zw 0 (a:=(List.replicate y6.toNat ((d8 .i64) 0))) (b:=(List.map (d8 .i64) (List.replicate y6.toNat 0))) (dd7 _ _ _) ?_
  exact zj 14 h ha
 exact zt 7 h ha
theorem bA3 {c l_ up i x_ n k state index told fuse down b4 b5}:E6 c l_ (.s4 up i x_ n k state index told fuse down b4 b5) (X5 c l_ up i x_ n k state index told fuse down b4 b5):=by
 intro r x h ha;unfold X5 at h
 refine zs 10 h (fun h=> ?_) fun h=> ?_
 ·
  refine zn 6 h fun h=> ?_
  refine zr 0 f3.enc h fun y3 h=> ?_
  refine zd 1 [] h (fun _=>J1) fun y5 h=> ?_
  refine zs 0 h (fun h=> ?_) fun h=> ?_
  ·
   exact zk 22 h ha
  refine zn 2 h fun h=> ?_
  refine zr 2 f3.enc h fun y8 h=> ?_
  refine zs 2 h (fun h=> ?_) fun h=> ?_
  ·
   exact zk 15 h ha
  refine zn 2 h fun h=> ?_
  refine zr 2 f3.enc h fun y12 h=> ?_
  refine zd 3 [] h (fun _=>bV6) fun y14 h=> ?_
  refine zs 2 h (fun h=> ?_) fun h=> ?_
  ·
   exact zk 6 h ha
  refine zn 2 h fun h=> ?_
  refine zr 1 f3.enc h fun y17 h=> ?_
  refine zd 1 [] h (fun _=>cI1) fun y19 h=> ?_
  exact zk 2 h ha
 exact zj 8 h ha
theorem bB2 {c l_ up i x_ n k t78 state index told fuse down b4 b5}:E6 c l_ (.s5 up i x_ n k t78 state index told fuse down b4 b5) (X6 c l_ up i x_ n k t78 state index told fuse down b4 b5):=by
 intro r x h ha;unfold X6 at h
 refine zs 1 h (fun h=> ?_) fun h=> ?_
 ·
  exact zt 5 h ha
 refine zn 6 h fun h=> ?_
 refine zr 2 f3.enc h fun y3 h=> ?_
 refine zs 3 h (fun h=> ?_) fun h=> ?_
 ·
  refine zn 6 h fun h=> ?_
  refine zr 2 f3.enc h fun y7 h=> ?_
  refine zn 1 h fun h=> ?_
  refine zr 1 (d8 .i64) h fun y10 h=> ?_
  refine zn 2 h fun h=> ?_
  refine zr 1 (d8 .i64) h fun y13 h=> ?_
  refine zw 0 (a:=(List.set (List.map (d8 .i64) told) (0+y7.To.toNat) ((d8 .i64) (IntKind.i64.wrap (y10+1))))) (b:=(List.map (d8 .i64) (List.set told (0+y7.To.toNat) (IntKind.i64.wrap (y10+1))))) (bc4 _ _ _ _) ?_
  refine l6 hm 13 _ ?_
  obtain rfl:=Option.some.inj h
  refine aR3 (q' := .go ⟨[.lpc (i6 [1,1,1,1,0,1,0,0,1,0,0,1,1,1,0,1,0,0]) 4070,.blk 2,.code (i6 [1,1,1,1,0,1,0,0,1,0,0,1,1,1,1]),.blk 1,.code (i6 [1,1,1,1,0,1,0,0,1,1]),.lp (i6 [1,1,1,1,0,1,0,0]) 230,.blk 0,.code (i6 [1,1,1,1,1])],[(1,.sl false 29 (List.map Op.enc l_)),(2,.ptr 0 0 0),(5,.bool up),(6,.ptr 1 0 0),(7,.int .i64 i),(8,.sl false 26 (List.map f3.enc x_)),(9,.msl 2 0 ((List.map (d8 .i64) told).length) ((List.map (d8 .i64) told).length) true),(10,.int .i64 (IntKind.i64.wrap (n+1))),(11,.int .i64 (IntKind.i64.wrap (k+1)))],[some ⟨30,false,[(d9.enc c)]⟩,some ⟨88,true,[(e9.l state (d9.l c [.int .i64 index,.ptr 3 0 0]))]⟩,some ⟨1,false,(List.map (d8 .i64) (List.set told (0+y7.To.toNat) (IntKind.i64.wrap (y10+1))))⟩,some ⟨4,true,[[(f6 4 (List.map (d8 .u8) b4)),(f6 5 (List.map (d8 .u8) b5)),.int .i64 fuse,.bool down]]⟩,some ⟨1,false,(List.map (d8 .u8) b4)⟩,some ⟨1,false,(List.map (d8 .u8) b5)⟩]⟩) (by kernel_rfl) ?_
  refine ac8 (n1:=(List.map (d8 .i64) told).length) (n2:=(List.map (d8 .i64) (List.set told (0+y7.To.toNat) (IntKind.i64.wrap (y10+1)))).length) (fun n_len=> .go ⟨[.lpc (i6 [1,1,1,1,0,1,0,0,1,0,0,1,1,1,0,1,0,0]) 4070,.blk 2,.code (i6 [1,1,1,1,0,1,0,0,1,0,0,1,1,1,1]),.blk 1,.code (i6 [1,1,1,1,0,1,0,0,1,1]),.lp (i6 [1,1,1,1,0,1,0,0]) 230,.blk 0,.code (i6 [1,1,1,1,1])],[(1,.sl false 29 (List.map Op.enc l_)),(2,.ptr 0 0 0),(5,.bool up),(6,.ptr 1 0 0),(7,.int .i64 i),(8,.sl false 26 (List.map f3.enc x_)),(9,.msl 2 0 n_len n_len true),(10,.int .i64 (IntKind.i64.wrap (n+1))),(11,.int .i64 (IntKind.i64.wrap (k+1)))],[some ⟨30,false,[(d9.enc c)]⟩,some ⟨88,true,[(e9.l state (d9.l c [.int .i64 index,.ptr 3 0 0]))]⟩,some ⟨1,false,(List.map (d8 .i64) (List.set told (0+y7.To.toNat) (IntKind.i64.wrap (y10+1))))⟩,some ⟨4,true,[[(f6 4 (List.map (d8 .u8) b4)),(f6 5 (List.map (d8 .u8) b5)),.int .i64 fuse,.bool down]]⟩,some ⟨1,false,(List.map (d8 .u8) b4)⟩,some ⟨1,false,(List.map (d8 .u8) b5)⟩]⟩) (by simp) ?_
  exact ha
 exact zj 8 h ha
theorem bA9 {c l_ up i n k state index told fuse down b4 b5}:E6 c l_ (.s6 up i n k state index told fuse down b4 b5) (Y0 c l_ up i n k state index told fuse down b4 b5):=by
 intro r x h ha;unfold Y0 at h
 refine zs 10 h (fun h=> ?_) fun h=> ?_
 ·
  exact zk 5 h ha
 exact zk 5 h ha
theorem bA7 {c l_ up i n k t104 state index told fuse down b4 b5}:E6 c l_ (.s8 up i n k t104 state index told fuse down b4 b5) (L6 c l_ up i n k t104 state index told fuse down b4 b5):=by
 intro r x h ha;unfold L6 at h
 refine zs 1 h (fun h=> ?_) fun h=> ?_
 ·
  refine zc 9 [] h (fun _=>J1) fun y2 h=> ?_
  refine zs 3 h (fun h=> ?_) fun h=> ?_
  ·
   refine zc 5 [] h (fun _=>ak7) fun y4 h=> ?_
   exact zk 6 h ha
  exact zk 10 h ha
 exact zj 8 h ha
theorem bA4 {c l_ up i n k other state index told fuse down b4 b5}:E6 c l_ (.s7 up i n k other state index told fuse down b4 b5) (X4 c l_ up i n k other state index told fuse down b4 b5):=by
 intro r x h ha;unfold X4 at h
 refine zn 5 h fun h=> ?_
 refine zr 1 (d8 .i64) h fun y2 h=> ?_
 refine zs 5 h (fun h=> ?_) fun h=> ?_
 ·
  exact zt 18 h ha
 refine zn 4 h fun h=> ?_
 refine zr 2 (d8 .i64) h fun y6 h=> ?_
 refine zs 6 h (fun h=> ?_) fun h=> ?_
 ·
  exact zt 5 h ha
 exact zj 8 h ha
noncomputable def aK9 (c:d9) (l_:List Op):Option Bool:=T8 (m7 c l_) (.s0)
theorem bM9 {c:d9}{l_:List Op}{r:Bool} (h:aK9 c l_=some r):i4 E 5 [.agg (d9.enc c),.sl false 29 (List.map Op.enc l_)] [] (Rs aY4 r):=sc (fn:=Tryz.f5) (k:=false) (m:=0) (stM:=(aY1 c l_)) h fun s=>by
 cases s with
 | s0=>exact bB4
 | s1=>exact bz9
 | s2=>exact bB0
 | s3=>exact bB1
 | s4=>exact bA3
 | s5=>exact bB2
 | s6=>exact bA9
 | s8=>exact bA7
 | s7=>exact bA4
end Go.RX.L

namespace Go.RX.L
open Go Go.RX Go.Proofs
theorem l5 {n:Nat}{ds:List D} (h:S0 Tryz.prog (n+1) 3 ds):∃x:Int,ds=(d8 .i64) x∧n8 .i64 x:=by
 obtain ⟨m,rfl,o⟩:=bU1 (k:= .i64) (by kernel_rfl) h
 exact ⟨m,rfl,o⟩
theorem aG6 {n:Nat}{ds:List D} (h:S0 Tryz.prog (n+2) 22 ds):∃x:List Int,ds=(E5 1 (d8 .i64)) x∧(x.length*8≤reachBytes∧∀y∈x,n8 .i64 y):=by
 obtain ⟨rows,rfl,o,w⟩:=bI0 (n:=n+1) (e:=3) (sz:=1) (by_:=8) (by kernel_rfl) (by kernel_rfl) (by kernel_rfl) h
 obtain ⟨l,rfl,q⟩:=bD4 (en:=(d8 .i64)) (Ok:=fun y=>n8 .i64 y) (fun r hr=>l5 (n:=n+0) hr) rows w
 exact ⟨l,rfl,by simpa using o,q⟩
theorem l8 {n:Nat}{ds:List D} (h:S0 Tryz.prog (n+1) 2 ds):∃x:Int,ds=(d8 .i64) x∧n8 .i64 x:=by
 obtain ⟨m,rfl,o⟩:=bU1 (k:= .i64) (by kernel_rfl) h
 exact ⟨m,rfl,o⟩
theorem bu9 {n:Nat}{ds:List D} (h:S0 Tryz.prog (n+3) 24 ds):∃x:d9,ds=d9.enc x∧x.Ok:=by
 have h0:=by0 (n:=n+2) (ts:= [3,3,3,3,3,22,2,2,3,3,2,2,2,2,2,2,3,3,3,3,2,3,3,2,2,3,2,3,3,2]) (by kernel_rfl) h
 obtain ⟨a0,b0,rfl,w0,h1⟩:=n6 h0
 obtain ⟨x0,rfl,o0⟩:=l5 (n:=n+1) w0
 obtain ⟨a1,b1,rfl,w1,h2⟩:=n6 h1
 obtain ⟨x1,rfl,o1⟩:=l5 (n:=n+1) w1
 obtain ⟨a2,b2,rfl,w2,h3⟩:=n6 h2
 obtain ⟨x2,rfl,o2⟩:=l5 (n:=n+1) w2
 obtain ⟨a3,b3,rfl,w3,h4⟩:=n6 h3
 obtain ⟨x3,rfl,o3⟩:=l5 (n:=n+1) w3
 obtain ⟨a4,b4,rfl,w4,h5⟩:=n6 h4
 obtain ⟨x4,rfl,o4⟩:=l5 (n:=n+1) w4
 obtain ⟨a5,b5,rfl,w5,h6⟩:=n6 h5
 obtain ⟨x5,rfl,o5⟩:=aG6 (n:=n+0) w5
 obtain ⟨a6,b6,rfl,w6,h7⟩:=n6 h6
 obtain ⟨x6,rfl,o6⟩:=l8 (n:=n+1) w6
 obtain ⟨a7,b7,rfl,w7,h8⟩:=n6 h7
 obtain ⟨x7,rfl,o7⟩:=l8 (n:=n+1) w7
 obtain ⟨a8,b8,rfl,w8,h9⟩:=n6 h8
 obtain ⟨x8,rfl,o8⟩:=l5 (n:=n+1) w8
 obtain ⟨a9,b9,rfl,w9,h10⟩:=n6 h9
 obtain ⟨x9,rfl,o9⟩:=l5 (n:=n+1) w9
 obtain ⟨a10,b10,rfl,w10,h11⟩:=n6 h10
 obtain ⟨x10,rfl,o10⟩:=l8 (n:=n+1) w10
 obtain ⟨a11,b11,rfl,w11,h12⟩:=n6 h11
 obtain ⟨x11,rfl,o11⟩:=l8 (n:=n+1) w11
 obtain ⟨a12,b12,rfl,w12,h13⟩:=n6 h12
 obtain ⟨x12,rfl,o12⟩:=l8 (n:=n+1) w12
 obtain ⟨a13,b13,rfl,w13,h14⟩:=n6 h13
 obtain ⟨x13,rfl,o13⟩:=l8 (n:=n+1) w13
 obtain ⟨a14,b14,rfl,w14,h15⟩:=n6 h14
 obtain ⟨x14,rfl,o14⟩:=l8 (n:=n+1) w14
 obtain ⟨a15,b15,rfl,w15,h16⟩:=n6 h15
 obtain ⟨x15,rfl,o15⟩:=l8 (n:=n+1) w15
 obtain ⟨a16,b16,rfl,w16,h17⟩:=n6 h16
 obtain ⟨x16,rfl,o16⟩:=l5 (n:=n+1) w16
 obtain ⟨a17,b17,rfl,w17,h18⟩:=n6 h17
 obtain ⟨x17,rfl,o17⟩:=l5 (n:=n+1) w17
 obtain ⟨a18,b18,rfl,w18,h19⟩:=n6 h18
 obtain ⟨x18,rfl,o18⟩:=l5 (n:=n+1) w18
 obtain ⟨a19,b19,rfl,w19,h20⟩:=n6 h19
 obtain ⟨x19,rfl,o19⟩:=l5 (n:=n+1) w19
 obtain ⟨a20,b20,rfl,w20,h21⟩:=n6 h20
 obtain ⟨x20,rfl,o20⟩:=l8 (n:=n+1) w20
 obtain ⟨a21,b21,rfl,w21,h22⟩:=n6 h21
 obtain ⟨x21,rfl,o21⟩:=l5 (n:=n+1) w21
 obtain ⟨a22,b22,rfl,w22,h23⟩:=n6 h22
 obtain ⟨x22,rfl,o22⟩:=l5 (n:=n+1) w22
 obtain ⟨a23,b23,rfl,w23,h24⟩:=n6 h23
 obtain ⟨x23,rfl,o23⟩:=l8 (n:=n+1) w23
 obtain ⟨a24,b24,rfl,w24,h25⟩:=n6 h24
 obtain ⟨x24,rfl,o24⟩:=l8 (n:=n+1) w24
 obtain ⟨a25,b25,rfl,w25,h26⟩:=n6 h25
 obtain ⟨x25,rfl,o25⟩:=l5 (n:=n+1) w25
 obtain ⟨a26,b26,rfl,w26,h27⟩:=n6 h26
 obtain ⟨x26,rfl,o26⟩:=l8 (n:=n+1) w26
 obtain ⟨a27,b27,rfl,w27,h28⟩:=n6 h27
 obtain ⟨x27,rfl,o27⟩:=l5 (n:=n+1) w27
 obtain ⟨a28,b28,rfl,w28,h29⟩:=n6 h28
 obtain ⟨x28,rfl,o28⟩:=l5 (n:=n+1) w28
 obtain ⟨a29,b29,rfl,w29,h30⟩:=n6 h29
 obtain ⟨x29,rfl,o29⟩:=l8 (n:=n+1) w29
 obtain rfl:=cc4 h30
 exact ⟨⟨x0,x1,x2,x3,x4,x5,x6,x7,x8,x9,x10,x11,x12,x13,x14,x15,x16,x17,x18,x19,x20,x21,x22,x23,x24,x25,x26,x27,x28,x29⟩,rfl,o0,o1,o2,o3,o4,o5,o6,o7,o8,o9,o10,o11,o12,o13,o14,o15,o16,o17,o18,o19,o20,o21,o22,o23,o24,o25,o26,o27,o28,o29⟩
theorem bq7 {n:Nat}{ds:List D} (h:S0 Tryz.prog (n+1) 34 ds):∃x:Int,ds=(d8 .i64) x∧n8 .i64 x:=by
 obtain ⟨m,rfl,o⟩:=bU1 (k:= .i64) (by kernel_rfl) h
 exact ⟨m,rfl,o⟩
theorem ak6 {n:Nat}{ds:List D} (h:S0 Tryz.prog (n+1) 35 ds):∃x:Int,ds=(d8 .u64) x∧n8 .u64 x:=by
 obtain ⟨m,rfl,o⟩:=bU1 (k:= .u64) (by kernel_rfl) h
 exact ⟨m,rfl,o⟩
theorem bw5 {n:Nat}{ds:List D} (h:S0 Tryz.prog (n+1) 4 ds):∃x:Bool,ds=ef1 x∧True:=by
 obtain ⟨m,rfl⟩:=dT1 (by kernel_rfl) h
 exact ⟨m,rfl,trivial⟩
theorem aE9 {n:Nat}{ds:List D} (h:S0 Tryz.prog (n+2) 31 ds):∃x:List Int,ds=(E5 1 (d8 .i64)) x∧(x.length*8≤reachBytes∧∀y∈x,n8 .i64 y):=by
 obtain ⟨rows,rfl,o,w⟩:=bI0 (n:=n+1) (e:=2) (sz:=1) (by_:=8) (by kernel_rfl) (by kernel_rfl) (by kernel_rfl) h
 obtain ⟨l,rfl,q⟩:=bD4 (en:=(d8 .i64)) (Ok:=fun y=>n8 .i64 y) (fun r hr=>l8 (n:=n+0) hr) rows w
 exact ⟨l,rfl,by simpa using o,q⟩
theorem bu3 {n:Nat}{ds:List D} (h:S0 Tryz.prog (n+3) 37 ds):∃x:Plan,ds=Plan.enc x∧x.Ok:=by
 have h0:=by0 (n:=n+2) (ts:= [2,3,3,3,3,2,2,2,35,35,22,31]) (by kernel_rfl) h
 obtain ⟨a0,b0,rfl,w0,h1⟩:=n6 h0
 obtain ⟨x0,rfl,o0⟩:=l8 (n:=n+1) w0
 obtain ⟨a1,b1,rfl,w1,h2⟩:=n6 h1
 obtain ⟨x1,rfl,o1⟩:=l5 (n:=n+1) w1
 obtain ⟨a2,b2,rfl,w2,h3⟩:=n6 h2
 obtain ⟨x2,rfl,o2⟩:=l5 (n:=n+1) w2
 obtain ⟨a3,b3,rfl,w3,h4⟩:=n6 h3
 obtain ⟨x3,rfl,o3⟩:=l5 (n:=n+1) w3
 obtain ⟨a4,b4,rfl,w4,h5⟩:=n6 h4
 obtain ⟨x4,rfl,o4⟩:=l5 (n:=n+1) w4
 obtain ⟨a5,b5,rfl,w5,h6⟩:=n6 h5
 obtain ⟨x5,rfl,o5⟩:=l8 (n:=n+1) w5
 obtain ⟨a6,b6,rfl,w6,h7⟩:=n6 h6
 obtain ⟨x6,rfl,o6⟩:=l8 (n:=n+1) w6
 obtain ⟨a7,b7,rfl,w7,h8⟩:=n6 h7
 obtain ⟨x7,rfl,o7⟩:=l8 (n:=n+1) w7
 obtain ⟨a8,b8,rfl,w8,h9⟩:=n6 h8
 obtain ⟨x8,rfl,o8⟩:=ak6 (n:=n+1) w8
 obtain ⟨a9,b9,rfl,w9,h10⟩:=n6 h9
 obtain ⟨x9,rfl,o9⟩:=ak6 (n:=n+1) w9
 obtain ⟨a10,b10,rfl,w10,h11⟩:=n6 h10
 obtain ⟨x10,rfl,o10⟩:=aG6 (n:=n+0) w10
 obtain ⟨a11,b11,rfl,w11,h12⟩:=n6 h11
 obtain ⟨x11,rfl,o11⟩:=aE9 (n:=n+0) w11
 obtain rfl:=cc4 h12
 exact ⟨⟨x0,x1,x2,x3,x4,x5,x6,x7,x8,x9,x10,x11⟩,rfl,o0,o1,o2,o3,o4,o5,o6,o7,o8,o9,o10,o11⟩
theorem bw0 {n:Nat}{ds:List D} (h:S0 Tryz.prog (n+1) 5 ds):∃x:Int,ds=(d8 .u8) x∧n8 .u8 x:=by
 obtain ⟨m,rfl,o⟩:=bU1 (k:= .u8) (by kernel_rfl) h
 exact ⟨m,rfl,o⟩
theorem aG8 {n:Nat}{ds:List D} (h:S0 Tryz.prog (n+2) 38 ds):∃x:List Int,ds=(E5 1 (d8 .u8)) x∧(x.length*1≤reachBytes∧∀y∈x,n8 .u8 y):=by
 obtain ⟨rows,rfl,o,w⟩:=bI0 (n:=n+1) (e:=5) (sz:=1) (by_:=1) (by kernel_rfl) (by kernel_rfl) (by kernel_rfl) h
 obtain ⟨l,rfl,q⟩:=bD4 (en:=(d8 .u8)) (Ok:=fun y=>n8 .u8 y) (fun r hr=>bw0 (n:=n+0) hr) rows w
 exact ⟨l,rfl,by simpa using o,q⟩
theorem bt9 {n:Nat}{ds:List D} (h:S0 Tryz.prog (n+4) 40 ds):∃x:f3,ds=f3.enc x∧x.Ok:=by
 have h0:=by0 (n:=n+3) (ts:= [34,3,3,2,2,2,2,2,35,3,4,37,31,38,38]) (by kernel_rfl) h
 obtain ⟨a0,b0,rfl,w0,h1⟩:=n6 h0
 obtain ⟨x0,rfl,o0⟩:=bq7 (n:=n+2) w0
 obtain ⟨a1,b1,rfl,w1,h2⟩:=n6 h1
 obtain ⟨x1,rfl,o1⟩:=l5 (n:=n+2) w1
 obtain ⟨a2,b2,rfl,w2,h3⟩:=n6 h2
 obtain ⟨x2,rfl,o2⟩:=l5 (n:=n+2) w2
 obtain ⟨a3,b3,rfl,w3,h4⟩:=n6 h3
 obtain ⟨x3,rfl,o3⟩:=l8 (n:=n+2) w3
 obtain ⟨a4,b4,rfl,w4,h5⟩:=n6 h4
 obtain ⟨x4,rfl,o4⟩:=l8 (n:=n+2) w4
 obtain ⟨a5,b5,rfl,w5,h6⟩:=n6 h5
 obtain ⟨x5,rfl,o5⟩:=l8 (n:=n+2) w5
 obtain ⟨a6,b6,rfl,w6,h7⟩:=n6 h6
 obtain ⟨x6,rfl,o6⟩:=l8 (n:=n+2) w6
 obtain ⟨a7,b7,rfl,w7,h8⟩:=n6 h7
 obtain ⟨x7,rfl,o7⟩:=l8 (n:=n+2) w7
 obtain ⟨a8,b8,rfl,w8,h9⟩:=n6 h8
 obtain ⟨x8,rfl,o8⟩:=ak6 (n:=n+2) w8
 obtain ⟨a9,b9,rfl,w9,h10⟩:=n6 h9
 obtain ⟨x9,rfl,o9⟩:=l5 (n:=n+2) w9
 obtain ⟨a10,b10,rfl,w10,h11⟩:=n6 h10
 obtain ⟨x10,rfl,o10⟩:=bw5 (n:=n+2) w10
 obtain ⟨a11,b11,rfl,w11,h12⟩:=n6 h11
 obtain ⟨x11,rfl,o11⟩:=bu3 (n:=n+0) w11
 obtain ⟨a12,b12,rfl,w12,h13⟩:=n6 h12
 obtain ⟨x12,rfl,o12⟩:=aE9 (n:=n+1) w12
 obtain ⟨a13,b13,rfl,w13,h14⟩:=n6 h13
 obtain ⟨x13,rfl,o13⟩:=aG8 (n:=n+1) w13
 obtain ⟨a14,b14,rfl,w14,h15⟩:=n6 h14
 obtain ⟨x14,rfl,o14⟩:=aG8 (n:=n+1) w14
 obtain rfl:=cc4 h15
 exact ⟨⟨x0,x1,x2,x3,x4,x5,x6,x7,x8,x9,x10,x11,x12,x13,x14⟩,rfl,o0,o1,o2,o3,o4,o5,o6,o7,o8,o9,o10,o11,o12,o13,o14⟩
theorem br9 {n:Nat}{ds:List D} (h:S0 Tryz.prog (n+5) 42 ds):∃x:Op,ds=Op.enc x∧x.Ok:=by
 have h0:=by0 (n:=n+4) (ts:= [3,40,2,3]) (by kernel_rfl) h
 obtain ⟨a0,b0,rfl,w0,h1⟩:=n6 h0
 obtain ⟨x0,rfl,o0⟩:=l5 (n:=n+3) w0
 obtain ⟨a1,b1,rfl,w1,h2⟩:=n6 h1
 obtain ⟨x1,rfl,o1⟩:=bt9 (n:=n+0) w1
 obtain ⟨a2,b2,rfl,w2,h3⟩:=n6 h2
 obtain ⟨x2,rfl,o2⟩:=l8 (n:=n+3) w2
 obtain ⟨a3,b3,rfl,w3,h4⟩:=n6 h3
 obtain ⟨x3,rfl,o3⟩:=l5 (n:=n+3) w3
 obtain rfl:=cc4 h4
 exact ⟨⟨x0,x1,x2,x3⟩,rfl,o0,o1,o2,o3⟩
theorem bs8 {n:Nat}{ds:List D} (h:S0 Tryz.prog (n+6) 25 ds):∃x:List Op,ds=(E5 29 Op.enc) x∧(x.length*312≤reachBytes∧∀y∈x,y.Ok):=by
 obtain ⟨rows,rfl,o,w⟩:=bI0 (n:=n+5) (e:=42) (sz:=29) (by_:=312) (by kernel_rfl) (by kernel_rfl) (by kernel_rfl) h
 obtain ⟨l,rfl,q⟩:=bD4 (en:=Op.enc) (Ok:=fun y=>y.Ok) (fun r hr=>br9 (n:=n+0) hr) rows w
 exact ⟨l,rfl,by simpa using o,q⟩
theorem law24_DeciderSays_sound (H:∀(c:d9) (l_:List Op),c.Ok→(l_.length*312≤reachBytes∧∀y∈l_,y.Ok)→aK9 c l_=some true):∀xs,wtA Tryz.prog Tryz.f5.params.toList xs→i4 E 5 xs [] fun d _=>d= .bool true:=by
 intro xs h
 have h0:wtA Tryz.prog [24,25] xs:=h
 obtain ⟨d0,r0,rfl,w0,h1⟩:=cY8 h0
 obtain ⟨c0,rfl,v0⟩:=dU1 (by kernel_rfl) w0
 obtain ⟨x0,rfl,o0⟩:=bu9 (n:=3) v0
 obtain ⟨d1,r1,rfl,w1,h2⟩:=cY8 h1
 have v1:=dI8 (by kernel_rfl) w1
 obtain ⟨x1,e1,o1⟩:=bs8 (n:=0) v1
 obtain ⟨rfl,-⟩:=List.cons.inj e1
 obtain rfl:=dR9 h2
 exact (bM9 (H x0 x1 o0 o1)).mono fun d s h=>h.1
end Go.RX.L

namespace Go.RX.L
open Go Go.RX
def tol (c:d9) (x:List f3):List Int:=(List.range (C7 c).toNat).map fun (q:Nat)=>((cN x (q:Int):Nat):Int)
theorem aR9 (c:d9) (x:List f3):(tol c x).length=(C7 c).toNat:=by simp [tol]
theorem bF5 {c:d9}{x:List f3}{q:Nat} (h:q<(C7 c).toNat):(tol c x)[q]? =some ((cN x (q:Int):Nat):Int):=by simp [tol,h]
theorem dR0 {c:d9}{x:List f3}{m:f3} (h9:m.Kind=9) {q:Nat} (hq:m.To=q) (h:q<(C7 c).toNat):(tol c x).set q (((cN x (q:Int):Nat):Int)+1)=tol c (x++ [m]):=by
 refine List.ext_getElem? fun j=> ?_
 by_cases hj:j<(C7 c).toNat
 ·rw [List.getElem?_set,bF5 (x:=x++ [m]) hj,aR9,bV1]
  by_cases e:q=j
  ·subst e
   rw [if_pos rfl,if_pos h]
   simp [cN,h9,hq]
  ·rw [if_neg e,bF5 (x:=x) hj]
   have:cN [m] (j:Int)=0:=by simp [cN,h9,hq];omega
   rw [this];simp
 ·rw [List.getElem?_eq_none (by simp [aR9];omega),List.getElem?_eq_none (by rw [aR9];omega)]
theorem dG9 {c:d9}{x:List f3}{m:f3} (h9:m.Kind≠9):tol c (x++ [m])=tol c x:=by
 refine List.map_congr_left fun q _=> ?_
 rw [bV1]
 have:cN [m] (q:Int)=0:=by simp [cN,h9]
 rw [this];simp
section
variable {c : d9} {l_ : List Op} {i : Nat} {st : e9} {f : Int} {d : Bool} {s t : List Int} {r : Bool}
theorem dv0 (cb:CB c) {x:List f3} (hx:∀m∈x,bO6 c m) (hl:x.length≤100000):∀(j k:Nat),k+j=x.length→
  Ev (m7 c l_) (.s6 true (i:Int) ((cA x:Nat):Int) 0 st 0 (tol c x) f d s t) r→Ev (m7 c l_) (.s4 true (i:Int) x ((cA (x.take k):Nat):Int) (k:Int) st 0 (tol c (x.take k)) f d s t) r:=by
 have hN:=bM4 cb
 intro j
 induction j with
 | zero=>
  intro k hk h
  have:k=x.length:=by omega
  subst this
  rw [List.take_length]
  refine .next (s' := .s6 true (i:Int) ((cA x:Nat):Int) 0 st 0 (tol c x) f d s t) ?_ h
  simp only [m7,X5,List.length_map,geB (Nat.le_refl x.length),cond_false]
 | succ j ih=>
  intro k hk h
  have hlt:k<x.length:=by omega
  have hm:=hx _ (List.getElem_mem hlt)
  have ih:=ih (k+1) (by omega) h
  rw [List.take_succ_eq_append_getElem hlt] at ih
  have hcA:cA (x.take k)≤k:=Nat.le_trans List.countP_le_length (by simp;omega)
  have w:=wD (show k≤3000000 by omega)
  have hto:=hm.t
  have e0:decide ((x[k]).To<0)=false:=decide_eq_false (by omega)
  have e1:decide ((x[k]).To≥C7 c)=false:=decide_eq_false (by omega)
  have hn:av8 c=some (C7 c):=df1 cb
  have hd:=aG0 cb (i:=0) (by omega)
  have hr:=ds3 hm.s
  rw [hm.r] at hr
  refine .next (s' := .s5 true (i:Int) x ((cA (x.take k):Nat):Int) (k:Int) false st 0 (tol c (x.take k)) f d s t) ?_ ?_
  ·have hfr:((x[k]).From !=l9 c 0)=false:=by rw [hm.f];exact bne_self_eq_false _
   simp only [m7,X5,List.length_map,F2 hlt,M7,Bool.and_self,cond_true,Int.toNat_natCast,List.getE hlt,Option.bind_some,hd,hfr,cond_false,e0,hn,e1,hr,Bool.not_true]
  by_cases h9:(x[k]).Kind=9
  ·obtain ⟨q,hq⟩:=Int.eq_ofNat_of_zero_le hto.1
   have hq2:q<(C7 c).toNat:=by omega
   have hcN:cN (x.take k) (q:Int)≤k:=Nat.le_trans List.countP_le_length (by simp;omega)
   have b1:(decide ((0:Int)≤(x[k]).To)&&decide ((x[k]).To<(((tol c (x.take k)).length:Nat):Int)))=true:=by
    rw [aR9,decide_eq_true hto.1,decide_eq_true (by omega)];rfl
   have e3:(x[k]).To.toNat=q:=by omega
   have e4:IntKind.i64.wrap (((cA (x.take k):Nat):Int)+1)=((cA (x.take k++ [x[k]]):Nat):Int):=by
    rw [wD (by omega)];unfold cA;rw [List.countP_append];simp [h9]
   have e5:IntKind.i64.wrap (((cN (x.take k) (q:Int):Nat):Int)+1)=((cN (x.take k) (q:Int):Nat):Int)+1:=u7 (by omega) (by omega)
   have e6:=dR0 (x:=x.take k) h9 hq hq2
   refine .next (s' := .s4 true (i:Int) x ((cA (x.take k++ [x[k]]):Nat):Int) ((k+1:Nat):Int) st 0 (tol c (x.take k++ [x[k]])) f d s t) ?_ ih
   simp only [m7,X6,cond_false,List.length_map,F2 hlt,M7,Bool.and_self,cond_true,Int.toNat_natCast,List.getE hlt,Option.bind_some,beq_iff_eq.2 h9,b1,e3,Nat.zero_add,bF5 hq2,e4,e5,w,e6]
  ·have e4:cA (x.take k++ [x[k]])=cA (x.take k):=by unfold cA;rw [List.countP_append];simp [h9]
   rw [e4,dG9 h9] at ih
   refine .next (s' := .s4 true (i:Int) x ((cA (x.take k):Nat):Int) ((k+1:Nat):Int) st 0 (tol c (x.take k)) f d s t) ?_ ih
   simp only [m7,X6,cond_false,List.length_map,F2 hlt,M7,Bool.and_self,cond_true,Int.toNat_natCast,List.getE hlt,Option.bind_some,beq_eq_false_iff_ne.2 h9,w]
theorem dy9 (cb:CB c) {x:List f3}{n:Int} (hn:n=0∨∀q:Int,cN x q=if l9 c 0<q∧q<l9 c (c.Deciders+c.Targets+c.Routers) then 1 else 0) (hi:i≤100000):∀(j k:Nat),k+j=(C7 c).toNat→
  Ev (m7 c l_) (.s3 true ((i+1:Nat):Int) st 0 f d s t) r→Ev (m7 c l_) (.s6 true (i:Int) n (k:Int) st 0 (tol c x) f d s t) r:=by
 have hN:=bM4 cb
 have w:=wD (show i≤3000000 by omega)
 intro j
 induction j with
 | zero=>
  intro k hk h
  refine .next (s' := .s8 true (i:Int) n (k:Int) false st 0 (tol c x) f d s t) ?_ (.next (s' := .s3 true ((i+1:Nat):Int) st 0 f d s t) ?_ h)
  ·simp only [m7,Y0,List.length_map,aR9,geB (show (C7 c).toNat≤k by omega),cond_false]
  ·simp only [m7,L6,cond_false,w]
 | succ j ih=>
  intro k hk h
  have hlt:k<(C7 c).toNat:=by omega
  have ih:=ih (k+1) (by omega) h
  refine .next (s' := .s8 true (i:Int) n (k:Int) (decide (n>0)) st 0 (tol c x) f d s t) ?_ ?_
  ·simp only [m7,Y0,List.length_map,aR9,F2 hlt,cond_true]
  by_cases hp:n>0
  ·rcases hn with hn | hn
   ·omega
   have hd:=aG0 cb (i:=0) (by omega)
   have ho:=bN4 cb (i:=0) (by omega)
   rw [show c.Deciders+c.Targets+c.Routers+0=c.Deciders+c.Targets+c.Routers by omega] at ho
   have wk:=wD (show k≤3000000 by omega)
   have seven:Ev (m7 c l_) (.s7 true (i:Int) n (k:Int) (decide (l9 c 0<k∧(k:Int)<l9 c (c.Deciders+c.Targets+c.Routers))) st 0 (tol c x) f d s t) r:=by
    refine .next (s' := .s6 true (i:Int) n ((k+1:Nat):Int) st 0 (tol c x) f d s t) ?_ ih
    have g:=bF5 (x:=x) hlt
    rw [hn (k:Int)] at g
    have b1:(decide ((0:Int)≤(k:Int))&&decide ((k:Int)<(((tol c x).length:Nat):Int)))=true:=by rw [aR9,decide_eq_true (by omega),decide_eq_true (by omega)];rfl
    by_cases hq:l9 c 0<(k:Int)∧(k:Int)<l9 c (c.Deciders+c.Targets+c.Routers)
    ·rw [if_pos hq] at g
     simp only [m7,X4,List.length_map,b1,cond_true,Int.toNat_natCast,Nat.zero_add,g,Option.bind_some,decide_eq_true hq,wk];rfl
    ·rw [if_neg hq] at g
     simp only [m7,X4,List.length_map,b1,cond_true,Int.toNat_natCast,Nat.zero_add,g,Option.bind_some,decide_eq_false hq,wk];rfl
   refine .next ?_ seven
   by_cases h1:l9 c 0<(k:Int)
   ·have e:decide (l9 c 0<(k:Int)∧(k:Int)<l9 c (c.Deciders+c.Targets+c.Routers))=decide ((k:Int)<l9 c (c.Deciders+c.Targets+c.Routers)):=by simp [h1]
    have e2:decide ((k:Int)>l9 c 0)=true:=decide_eq_true h1
    simp only [m7,L6,decide_eq_true hp,cond_true,hd,Option.bind_some,e2,ho,e]
   ·have e:decide (l9 c 0<(k:Int)∧(k:Int)<l9 c (c.Deciders+c.Targets+c.Routers))=false:=by simp [h1]
    have e2:decide ((k:Int)>l9 c 0)=false:=decide_eq_false h1
    simp only [m7,L6,decide_eq_true hp,cond_true,hd,Option.bind_some,e2,cond_false,e]
  ·refine .next (s' := .s3 true ((i+1:Nat):Int) st 0 f d s t) ?_ h
   simp only [m7,L6,decide_eq_false hp,cond_false,w]
end
theorem deciderSays (c:d9) (l_:List Op) (hc0:c.Ok) (hl:l_.length*312≤reachBytes∧∀y∈l_,y.Ok):aK9 c l_=some true:=by
 have ht:c.Tiers.length<9223372036854775807:=by
  obtain ⟨-,-,-,-,-,⟨h1,-⟩,-⟩:=hc0
  exact dn7 h1
 have hnew:=cG8 (c:=c) (index:=0) ht
 have s0:m7 c l_ .s0=X8 c l_:=rfl
 unfold X8 at s0
 by_cases hr:ab4 c=true∧0≤(0:Int)∧0<c.Deciders
 rotate_left
 ·rw [if_neg hr] at hnew
  exact u6 (.next (s' := .s1 true) (by rw [s0,cL7];simp only [Option.bind_some,hnew]) (.done rfl))
 rw [if_pos hr] at hnew
 obtain ⟨hc,-,-⟩:=hr
 have cb:=aG5 hc
 have hN:=bM4 cb
 refine u6 (.next (s' := .s2 true (zst c) 0 (-1) false [] []) (by rw [s0,cL7];simp only [Option.bind_some,hnew]) ?_)
 by_cases hg:l_.length≤200
 rotate_left
 ·refine .done ?_
  have:decide (((l_.length:Nat):Int)>200)=true:=decide_eq_true (by omega)
  simp only [m7,X9,aM4,List.length_map,this,Option.bind_some,cond_true]
 have key:∀(j i:Nat) (st:e9) (ns:List Int) (pend:Option Int) (f:Int) (d:Bool) (s t:List Int),i+j=l_.length→DI c st (H2 ns) i→JR ns pend f d s t i→Ev (m7 c l_) (.s3 true (i:Int) st 0 f d s t) true:=by
  intro j
  induction j with
  | zero=>
   intro i st ns pend f d s t hi hd hj
   refine .done ?_
   simp only [m7,X7,List.length_map,geB (show l_.length≤i by omega),cond_false]
  | succ j ih=>
   intro i st ns pend f d s t hi hd hj
   have hlt:i<l_.length:=by omega
   have ho:=hl.2 _ (List.getElem_mem hlt)
   obtain ⟨out,st',f',d',s',t',ns',pend',e1,e2,e3,e4⟩:=dT3 (ix:=0) hd hj hc ht (by decide) ho (by omega)
   have ih:=ih (i+1) st' ns' pend' f' d' s' t' (by omega) e2 e3
   obtain ⟨g1,g2⟩:=dQ6 cb hd ho.2.1.fine e4
   have ol:=dY6 cb e4
   have hn:av8 c=some (C7 c):=df1 cb
   have t0:List.replicate (C7 c).toNat (0:Int)=tol c []:=by
    refine List.ext_getElem? fun q=> ?_
    by_cases hq:q<(C7 c).toNat
    ·rw [bF5 hq];simp [hq,cN]
    ·rw [List.getElem?_eq_none (by simp;omega),List.getElem?_eq_none (by rw [aR9];omega)]
   have lim:(decide ((0:Int)≤C7 c)&&(decide ((C7 c:Int)≤C7 c)&&(decide ((C7 c:Int)≤9223372036854775807)&&decide ((C7 c).toNat*8≤i7))))=true:=by
    have l:decide ((C7 c).toNat*8≤i7)=true:=D1 (by omega)
    simp only [l,Bool.and_eq_true,decide_eq_true_eq]
    exact ⟨by omega,Int.le_refl _,by omega,trivial⟩
   refine .next (s' := .s4 true (i:Int) out 0 0 st' 0 (tol c []) f' d' s' t') ?_ ?_
   ·simp only [m7,X7,List.length_map,F2 hlt,M7,Bool.and_self,cond_true,Int.toNat_natCast,List.getE hlt,Option.bind_some,e1,hn,lim,t0]
   ·have h4:=dv0 (c:=c) (l_:=l_) (i:=i) (st:=st') (f:=f') (d:=d') (s:=s') (t:=t') (r:=true) cb g1 (by omega) out.length 0 (by omega) (dy9 (n:=((cA out:Nat):Int)) (x:=out) cb ?_ (by omega) (C7 c).toNat 0 (by omega) ih)
    ·simpa [cA] using h4
    ·rcases g2 with g2 | g2
     ·left;rw [ee6 g2];rfl
     ·exact .inr g2
 refine .next (s' := .s3 true ((0:Nat):Int) (zst c) 0 (-1) false [] []) ?_ (key l_.length 0 (zst c) [] none (-1) false [] [] (by omega) (dA1 cb (by decide) (by decide)) JR0)
 have:decide (((l_.length:Nat):Int)>200)=false:=decide_eq_false (by omega)
 simp only [m7,X9,aM4,List.length_map,this,Option.bind_some,cond_false];rfl
end Go.RX.L
