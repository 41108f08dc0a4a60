/-
  Words and walks for LeaseOne. No condition.
-/
import Derived.Test.YtgkilbojgafldaaDoorLeaseOneY5
set_option linter.unusedSectionVars false
set_option linter.unnecessarySimpa false
set_option linter.unusedSimpArgs false
set_option linter.unusedVariables false
set_option maxRecDepth 100000
set_option maxHeartbeats 4000000
namespace Go.RX.L
open Go Go.RX Go.Proofs
attribute [local irreducible] i6
noncomputable def ae0:=r4 (r9 Tryd.f23)
noncomputable def aK9 (c:f0) (d8:Int) (y:(List i5)×i0×Int×Bool×(List Int)×(List Int)):D×i4:=(.sl false 26 (List.map i5.enc y.1),[some ⟨67,true,[(i0.l y.2.1 (f0.l c [.int .i64 d8,.ptr 1 0 0]))]⟩,some ⟨4,true,[[(i9 4 (List.map (d7 .u8) y.2.2.2.2.1)),(i9 5 (List.map (d7 .u8) y.2.2.2.2.2)),.int .i64 y.2.2.1,.bool y.2.2.2.1]]⟩,none,none,some ⟨1,false,(List.map (d7 .u8) y.2.2.2.2.1)⟩,some ⟨1,false,(List.map (d7 .u8) y.2.2.2.2.2)⟩])
abbrev aK3 (m:i5) (d9:Int) (af2:i0) (c:f0) (d8 ac6:Int) (ad9:Bool) (b2 b3:List Int):=AOk E (Cx.of Tryd.f23 true 4) (aK9 c d8)
noncomputable def bo9 (m:i5) (d9:Int) (af2:i0) (c:f0) (d8 ac6:Int) (ad9:Bool) (b2 b3:List Int) (t56:Bool):M:=⟨[.code (ae0 [1,0,0,1,1,1,1,1,1,1]),.blk 0,.code (ae0 [1,1])],[(0,.ptr 0 0 0),(4,.ptr 4 0 0),(56,.bool t56)],[some ⟨67,true,[(i0.l af2 (f0.l c [.int .i64 d8,.ptr 1 0 0]))]⟩,some ⟨4,true,[[(i9 2 (List.map (d7 .u8) b2)),(i9 3 (List.map (d7 .u8) b3)),.int .i64 ac6,.bool ad9]]⟩,some ⟨1,false,(List.map (d7 .u8) b2)⟩,some ⟨1,false,(List.map (d7 .u8) b3)⟩,some ⟨26,false,[(i5.enc m)]⟩]⟩
noncomputable def H6 (m:i5) (d9:Int) (af2:i0) (c:f0) (d8 ac6:Int) (ad9:Bool) (b2 b3:List Int) (t56:Bool):Option ((List i5)×i0×Int×Bool×(List Int)×(List Int)):=(bif t56 then (some ([],af2,ac6,ad9,b2,b3)) else ((r5 (⟨8,0,0,m.Epoch,m.Ballot,0,0,0,0,0,true,m.Plan,[],[],[]⟩:i5) af2 c d8 ac6 ad9 b2 b3).bind fun y2=>(bif (!y2.1) then (some ([],y2.2.1,y2.2.2.1,y2.2.2.2.1,y2.2.2.2.2.1,y2.2.2.2.2.2)) else ((r8 m 8 y2.2.1 c d8 y2.2.2.1 y2.2.2.2.1 y2.2.2.2.2.1 y2.2.2.2.2.2).bind fun y4=>(some ([(⟨y4.Kind,y4.From,y4.To,y4.Epoch,m.Ballot,y4.Accepted,y4.Nonce,y4.Time,y4.Up,y4.Code,y4.HasPlan,y4.Plan,y4.ID,y4.Session,y4.Payload⟩:i5)],y2.2.1,y2.2.2.1,y2.2.2.2.1,y2.2.2.2.2.1,y2.2.2.2.2.2))))))
theorem aA1 {m d9 af2 c d8 ac6 ad9 b2 b3 t56}:aK3 m d9 af2 c d8 ac6 ad9 b2 b3 (bo9 m d9 af2 c d8 ac6 ad9 b2 b3 t56) (H6 m d9 af2 c d8 ac6 ad9 b2 b3 t56):=by
 intro r h;unfold H6 at h
 refine zs 1 h (fun h=> ?_) fun h=> ?_
 ·
  refine zf 4 [.mv 2,.mv 3] ?_
  exact zu 1 h [.slot 0 [some 26]]
 refine zc 19 [some 1,some 1,some 1] h (fun _=>D3) fun y2 h=> ?_
 refine zs 3 h (fun h=> ?_) fun h=> ?_
 ·
  exact zu 5 h [.slot 0 [some 26]]
 refine zc 7 [] h (fun _=>K6) fun y4 h=> ?_
 refine o7 hm 22 _ ?_
 refine bF4 6 (n1:=1) (n2:=1) (raw:=([(.int .i64 y4.Kind::.int .i64 y4.From::.int .i64 y4.To::.int .i64 y4.Epoch::.int .i64 m.Ballot::.int .i64 y4.Accepted::.int .i64 y4.Nonce::.int .i64 y4.Time::.int .u64 y4.Up::.int .i64 y4.Code::.bool y4.HasPlan::Plan.l y4.Plan [.sl false 1 (List.map (d7 .i64) y4.ID),.sl false 1 (List.map (d7 .u8) y4.Session),.sl false 1 (List.map (d7 .u8) y4.Payload)])])) (rs:=([(.int .i64 y4.Kind::.int .i64 y4.From::.int .i64 y4.To::.int .i64 y4.Epoch::.int .i64 m.Ballot::.int .i64 y4.Accepted::.int .i64 y4.Nonce::.int .i64 y4.Time::.int .u64 y4.Up::.int .i64 y4.Code::.bool y4.HasPlan::Plan.l y4.Plan [.sl false 1 (List.map (d7 .i64) y4.ID),.sl false 1 (List.map (d7 .u8) y4.Session),.sl false 1 (List.map (d7 .u8) y4.Payload)])])) (by kernel_rfl) rfl rfl ?_
 exact zu 1 h
noncomputable def bq4 (m:i5) (d9:Int) (af2:i0) (c:f0) (d8 ac6:Int) (ad9:Bool) (b2 b3:List Int) (t8:Bool):M:=⟨[.code (ae0 [1,0,0,1]),.blk 0,.code (ae0 [1,1])],[(0,.ptr 0 0 0),(2,.int .i64 d9),(4,.ptr 4 0 0),(8,.bool t8)],[some ⟨67,true,[(i0.l af2 (f0.l c [.int .i64 d8,.ptr 1 0 0]))]⟩,some ⟨4,true,[[(i9 2 (List.map (d7 .u8) b2)),(i9 3 (List.map (d7 .u8) b3)),.int .i64 ac6,.bool ad9]]⟩,some ⟨1,false,(List.map (d7 .u8) b2)⟩,some ⟨1,false,(List.map (d7 .u8) b3)⟩,some ⟨26,false,[(i5.enc m)]⟩]⟩
noncomputable def A4 (m:i5) (d9:Int) (af2:i0) (c:f0) (d8 ac6:Int) (ad9:Bool) (b2 b3:List Int) (t8:Bool):Option ((List i5)×i0×Int×Bool×(List Int)×(List Int)):=(bif t8 then (some ([],af2,ac6,ad9,b2,b3)) else (bif (decide (m.Epoch<af2.epoch)) then ((P5 m af2 c d8 ac6 ad9 b2 b3).bind fun y3=>(some (y3,af2,ac6,ad9,b2,b3))) else (bif (decide (m.Ballot<af2.promised)) then ((aa5 m af2 c d8 ac6 ad9 b2 b3).bind fun y5=>(some (y5,af2,ac6,ad9,b2,b3))) else (bif (decide (m.Ballot>af2.promised)) then (H6 m d9 af2 c d8 ac6 ad9 b2 b3 (decide (m.Ballot>af2.promised))) else (H6 m d9 af2 c d8 ac6 ad9 b2 b3 (decide (((IntKind.i64.wrap (m.Plan.Stamp-d9)):Int)>c.S_)))))))
theorem W0 {m d9 af2 c d8 ac6 ad9 b2 b3 t8}:aK3 m d9 af2 c d8 ac6 ad9 b2 b3 (bq4 m d9 af2 c d8 ac6 ad9 b2 b3 t8) (A4 m d9 af2 c d8 ac6 ad9 b2 b3 t8):=by
 intro r h;unfold A4 at h
 refine zs 1 h (fun h=> ?_) fun h=> ?_
 ·
  refine zf 4 [.mv 2,.mv 3] ?_
  exact zu 1 h [.slot 0 [some 26]]
 refine zs 5 h (fun h=> ?_) fun h=> ?_
 ·
  refine zc 6 [] h (fun _=>aC5) fun y3 h=> ?_
  refine zf 2 [.mv 2,.mv 3] ?_
  exact zu 1 h
 refine zs 5 h (fun h=> ?_) fun h=> ?_
 ·
  refine zc 6 [] h (fun _=>aP7) fun y5 h=> ?_
  refine zf 2 [.mv 2,.mv 3] ?_
  exact zu 1 h
 refine zs 6 h (fun h=> ?_) fun h=> ?_
 ·
  exact zg 1 (aA1 h)
 exact zg 3 (aA1 h)
noncomputable def ab1 (m:i5) (d9:Int) (af2:i0) (c:f0) (d8 ac6:Int) (ad9:Bool) (b2 b3:List Int):Option ((List i5)×i0×Int×Bool×(List Int)×(List Int)):=(bif (decide (((z0 m.Epoch m.Ballot):Int)<1)) then (A4 m d9 af2 c d8 ac6 ad9 b2 b3 (decide (((z0 m.Epoch m.Ballot):Int)<1))) else (bif (!m.HasPlan) then (A4 m d9 af2 c d8 ac6 ad9 b2 b3 (!m.HasPlan)) else (bif (m.Plan.Epoch !=m.Epoch) then (A4 m d9 af2 c d8 ac6 ad9 b2 b3 (m.Plan.Epoch !=m.Epoch)) else (A4 m d9 af2 c d8 ac6 ad9 b2 b3 (decide (m.Epoch>af2.epoch))))))
theorem bq5 {m:i5}{d9:Int}{af2:i0}{c:f0}{d8 ac6:Int}{ad9:Bool}{b2 b3:List Int}{r:(List i5)×i0×Int×Bool×(List Int)×(List Int)} (h:ab1 m d9 af2 c d8 ac6 ad9 b2 b3=some r):l4 E 23 [.ptr 0 0 0,.agg (i5.enc m),.int .i64 d9] [some ⟨67,true,[(i0.l af2 (f0.l c [.int .i64 d8,.ptr 1 0 0]))]⟩,some ⟨4,true,[[(i9 2 (List.map (d7 .u8) b2)),(i9 3 (List.map (d7 .u8) b3)),.int .i64 ac6,.bool ad9]]⟩,some ⟨1,false,(List.map (d7 .u8) b2)⟩,some ⟨1,false,(List.map (d7 .u8) b3)⟩] (Rs (aK9 c d8) r):=so (fn:=Tryd.f23) (k:=true) (m:=4) h<| by
 intro r h;unfold ab1 at h
 refine zs 21 h (fun h=> ?_) fun h=> ?_
 ·
  exact zg 1 (W0 h)
 refine zs 9 h (fun h=> ?_) fun h=> ?_
 ·
  exact zg 1 (W0 h)
 refine zs 13 h (fun h=> ?_) fun h=> ?_
 ·
  exact zg 1 (W0 h)
 exact zg 3 (W0 h)
noncomputable def bB1 (af2:i0) (c:f0) (d8 ac6:Int) (ad9:Bool) (b2 b3:List Int) (y:Bool):D×i4:=(.bool y,[some ⟨67,true,[(i0.l af2 (f0.l c [.int .i64 d8,.ptr 1 0 0]))]⟩,some ⟨4,true,[[(i9 2 (List.map (d7 .u8) b2)),(i9 3 (List.map (d7 .u8) b3)),.int .i64 ac6,.bool ad9]]⟩,some ⟨1,false,(List.map (d7 .u8) b2)⟩,some ⟨1,false,(List.map (d7 .u8) b3)⟩])
noncomputable def X0 (at_ d9:Int) (af2:i0) (c:f0) (d8 ac6:Int) (ad9:Bool) (b2 b3:List Int):Option Bool:=(some (decide (((IntKind.i64.wrap (d9-at_)):Int)<(IntKind.i64.wrap (c.L_+c.M_)))))
theorem aK0 {at_ d9:Int}{af2:i0}{c:f0}{d8 ac6:Int}{ad9:Bool}{b2 b3:List Int}{r:Bool} (h:X0 at_ d9 af2 c d8 ac6 ad9 b2 b3=some r):l4 E 39 [.ptr 0 0 0,.int .i64 at_,.int .i64 d9] [some ⟨67,true,[(i0.l af2 (f0.l c [.int .i64 d8,.ptr 1 0 0]))]⟩,some ⟨4,true,[[(i9 2 (List.map (d7 .u8) b2)),(i9 3 (List.map (d7 .u8) b3)),.int .i64 ac6,.bool ad9]]⟩,some ⟨1,false,(List.map (d7 .u8) b2)⟩,some ⟨1,false,(List.map (d7 .u8) b3)⟩] (Rs (bB1 af2 c d8 ac6 ad9 b2 b3) r):=so (fn:=Tryd.f39) (k:=false) (m:=4) h<| by
 intro r h;unfold X0 at h
 exact zu 9 h
noncomputable def bj3 (y:Bool):D×i4:=(.bool y,[])
noncomputable def U8 (s_:o6) (ah3:Int):Option Bool:=(bif (s_.low !=0) then (bif (decide (s_.low≤ah3)) then (some (decide (ah3≤s_.high))) else (some false)) else (some false))
theorem bh6 {s_:o6}{ah3:Int}{r:Bool} (h:U8 s_ ah3=some r):l4 E 43 [.agg (o6.enc s_),.int .i64 ah3] [] (Rs bj3 r):=so (fn:=Tryd.f43) (k:=false) (m:=0) h<| by
 intro r h;unfold U8 at h
 refine zs 13 h (fun h=> ?_) fun h=> ?_
 ·
  refine zs 11 h (fun h=> ?_) fun h=> ?_
  ·
   exact zu 12 h
  exact zu 11 h
 exact zu 22 h
noncomputable def C0:=r4 (r9 Tryd.f24)
noncomputable def aP4 (c:f0) (d8:Int) (y:(List i5)×i0×Int×Bool×(List Int)×(List Int)):D×i4:=(.sl false 26 (List.map i5.enc y.1),[some ⟨67,true,[(i0.l y.2.1 (f0.l c [.int .i64 d8,.ptr 1 0 0]))]⟩,some ⟨4,true,[[(i9 4 (List.map (d7 .u8) y.2.2.2.2.1)),(i9 5 (List.map (d7 .u8) y.2.2.2.2.2)),.int .i64 y.2.2.1,.bool y.2.2.2.1]]⟩,none,none,some ⟨1,false,(List.map (d7 .u8) y.2.2.2.2.1)⟩,some ⟨1,false,(List.map (d7 .u8) y.2.2.2.2.2)⟩])
abbrev Y4 (m:i5) (d9:Int) (af2:i0) (c:f0) (d8 ac6:Int) (ad9:Bool) (b2 b3:List Int):=AOk E (Cx.of Tryd.f24 true 4) (aP4 c d8)
noncomputable def bv0 (m:i5) (d9:Int) (af2:i0) (c:f0) (d8 ac6:Int) (ad9:Bool) (b2 b3:List Int) (t86:Bool) (j0:i0) (k8:Int) (k7:Bool) (b5 b6:List Int):M:=⟨[.code (C0 [1,1,1,0,1,0,1,0,1,0,1]),.code (C0 [1,1,1,0,1,0,1,0,1,1]),.blk 0,.code (C0 [1,1,1,1])],[(0,.ptr 0 0 0),(2,.int .i64 d9),(4,.ptr 4 0 0),(86,.bool t86)],[some ⟨67,true,[(i0.l j0 (f0.l c [.int .i64 d8,.ptr 1 0 0]))]⟩,some ⟨4,true,[[(i9 5 (List.map (d7 .u8) b5)),(i9 6 (List.map (d7 .u8) b6)),.int .i64 k8,.bool k7]]⟩,none,none,some ⟨26,false,[(i5.enc m)]⟩,some ⟨1,false,(List.map (d7 .u8) b5)⟩,some ⟨1,false,(List.map (d7 .u8) b6)⟩]⟩
noncomputable def E0 (m:i5) (d9:Int) (af2:i0) (c:f0) (d8 ac6:Int) (ad9:Bool) (b2 b3:List Int) (t86:Bool) (j0:i0) (k8:Int) (k7:Bool) (b5 b6:List Int):Option ((List i5)×i0×Int×Bool×(List Int)×(List Int)):=(bif t86 then (some ([],j0,k8,k7,b5,b6)) else ((r8 m 11 (⟨j0.epoch,j0.known,j0.promised,j0.accepted,j0.plan,(⟨j0.writes.low,j0.writes.high,d9⟩:o6),j0.wish,j0.wishAt,j0.lead⟩:i0) c d8 k8 k7 b5 b6).bind fun y2=>(some ([(⟨y2.Kind,y2.From,y2.To,y2.Epoch,y2.Ballot,y2.Accepted,m.Nonce,y2.Time,y2.Up,m.Code,y2.HasPlan,y2.Plan,y2.ID,y2.Session,y2.Payload⟩:i5)],(⟨j0.epoch,j0.known,j0.promised,j0.accepted,j0.plan,(⟨j0.writes.low,j0.writes.high,d9⟩:o6),j0.wish,j0.wishAt,j0.lead⟩:i0),k8,k7,b5,b6))))
theorem Z9 {m d9 af2 c d8 ac6 ad9 b2 b3 t86 j0 k8 k7 b5 b6}:Y4 m d9 af2 c d8 ac6 ad9 b2 b3 (bv0 m d9 af2 c d8 ac6 ad9 b2 b3 t86 j0 k8 k7 b5 b6) (E0 m d9 af2 c d8 ac6 ad9 b2 b3 t86 j0 k8 k7 b5 b6):=by
 intro r h;unfold E0 at h
 refine zs 1 h (fun h=> ?_) fun h=> ?_
 ·
  exact zu 5 h [.slot 0 [some 26]]
 refine zc 19 [] h (fun _=>K6) fun y2 h=> ?_
 refine o7 hm 20 _ ?_
 refine bF4 6 (n1:=1) (n2:=1) (raw:=([(.int .i64 y2.Kind::.int .i64 y2.From::.int .i64 y2.To::.int .i64 y2.Epoch::.int .i64 y2.Ballot::.int .i64 y2.Accepted::.int .i64 m.Nonce::.int .i64 y2.Time::.int .u64 y2.Up::.int .i64 m.Code::.bool y2.HasPlan::Plan.l y2.Plan [.sl false 1 (List.map (d7 .i64) y2.ID),.sl false 1 (List.map (d7 .u8) y2.Session),.sl false 1 (List.map (d7 .u8) y2.Payload)])])) (rs:=([(.int .i64 y2.Kind::.int .i64 y2.From::.int .i64 y2.To::.int .i64 y2.Epoch::.int .i64 y2.Ballot::.int .i64 y2.Accepted::.int .i64 m.Nonce::.int .i64 y2.Time::.int .u64 y2.Up::.int .i64 m.Code::.bool y2.HasPlan::Plan.l y2.Plan [.sl false 1 (List.map (d7 .i64) y2.ID),.sl false 1 (List.map (d7 .u8) y2.Session),.sl false 1 (List.map (d7 .u8) y2.Payload)])])) (by kernel_rfl) rfl rfl ?_
 exact zu 1 h
noncomputable def bu8 (m:i5) (d9:Int) (af2:i0) (c:f0) (d8 ac6:Int) (ad9:Bool) (b2 b3:List Int) (aZ0:Bool) (H2:i5):M:=⟨[.code (C0 [1,1,1,0,1,0,1,0,1]),.blk 0,.code (C0 [1,1,1,1])],[(0,.ptr 0 0 0),(2,.int .i64 d9),(4,.ptr 4 0 0),(7,.ptr 5 0 0),(8,.bool aZ0)],[some ⟨67,true,[(i0.l af2 (f0.l c [.int .i64 d8,.ptr 1 0 0]))]⟩,some ⟨4,true,[[(i9 2 (List.map (d7 .u8) b2)),(i9 3 (List.map (d7 .u8) b3)),.int .i64 ac6,.bool ad9]]⟩,some ⟨1,false,(List.map (d7 .u8) b2)⟩,some ⟨1,false,(List.map (d7 .u8) b3)⟩,some ⟨26,false,[(i5.enc m)]⟩,some ⟨26,false,[(i5.enc H2)]⟩]⟩
noncomputable def P6 (m:i5) (d9:Int) (af2:i0) (c:f0) (d8 ac6:Int) (ad9:Bool) (b2 b3:List Int) (aZ0:Bool) (H2:i5):Option ((List i5)×i0×Int×Bool×(List Int)×(List Int)):=(bif (decide (m.Epoch<(C9 af2.epoch 1))) then (E0 m d9 af2 c d8 ac6 ad9 b2 b3 true af2 ac6 ad9 b2 b3) else (bif aZ0 then (E0 m d9 af2 c d8 ac6 ad9 b2 b3 true af2 ac6 ad9 b2 b3) else ((U8 af2.writes m.Epoch).bind fun y3=>(bif (!y3) then ((r5 H2 af2 c d8 ac6 ad9 b2 b3).bind fun y5=>(E0 m d9 af2 c d8 ac6 ad9 b2 b3 (!y5.1) y5.2.1 y5.2.2.1 y5.2.2.2.1 y5.2.2.2.2.1 y5.2.2.2.2.2)) else (E0 m d9 af2 c d8 ac6 ad9 b2 b3 false af2 ac6 ad9 b2 b3)))))
theorem aC7 {m d9 af2 c d8 ac6 ad9 b2 b3 aZ0 H2}:Y4 m d9 af2 c d8 ac6 ad9 b2 b3 (bu8 m d9 af2 c d8 ac6 ad9 b2 b3 aZ0 H2) (P6 m d9 af2 c d8 ac6 ad9 b2 b3 aZ0 H2):=by
 intro r h;unfold P6 at h
 refine zs 5 h (fun h=> ?_) fun h=> ?_
 ·
  exact zg 13 (Z9 h) [.mv 2,.mv 3]
 refine zs 1 h (fun h=> ?_) fun h=> ?_
 ·
  exact zg 11 (Z9 h) [.mv 2,.mv 3]
 refine zd 9 [] h (fun _=>bh6) fun y3 h=> ?_
 refine zs 2 h (fun h=> ?_) fun h=> ?_
 ·
  refine zc 5 [] h (fun _=>D3) fun y5 h=> ?_
  exact zg 4 (Z9 h)
 exact zg 8 (Z9 h) [.mv 2,.mv 3]
noncomputable def bu0 (m:i5) (d9:Int) (af2:i0) (c:f0) (d8 ac6:Int) (ad9:Bool) (b2 b3:List Int) (bP5:Bool) (j0:i0) (k8:Int) (k7:Bool) (b5 b6:List Int):M:=⟨[.code (C0 [1,1,1,0,1,0,1,1,1,0,1,0,1]),.code (C0 [1,1,1,0,1,0,1,1,1,0,1,1]),.blk 0,.code (C0 [1,1,1,1])],[(0,.ptr 0 0 0),(2,.int .i64 d9),(4,.ptr 4 0 0),(140,.bool bP5)],[some ⟨67,true,[(i0.l j0 (f0.l c [.int .i64 d8,.ptr 1 0 0]))]⟩,some ⟨4,true,[[(i9 5 (List.map (d7 .u8) b5)),(i9 6 (List.map (d7 .u8) b6)),.int .i64 k8,.bool k7]]⟩,none,none,some ⟨26,false,[(i5.enc m)]⟩,some ⟨1,false,(List.map (d7 .u8) b5)⟩,some ⟨1,false,(List.map (d7 .u8) b6)⟩]⟩
noncomputable def B6 (m:i5) (d9:Int) (af2:i0) (c:f0) (d8 ac6:Int) (ad9:Bool) (b2 b3:List Int) (bP5:Bool) (j0:i0) (k8:Int) (k7:Bool) (b5 b6:List Int):Option ((List i5)×i0×Int×Bool×(List Int)×(List Int)):=(bif bP5 then (some ([],j0,k8,k7,b5,b6)) else ((r8 m 11 (⟨j0.epoch,j0.known,j0.promised,j0.accepted,j0.plan,j0.writes,j0.wish,j0.wishAt,(⟨true,m.From,d9⟩:q7)⟩:i0) c d8 k8 k7 b5 b6).bind fun y2=>(some ([(⟨y2.Kind,y2.From,y2.To,y2.Epoch,y2.Ballot,y2.Accepted,m.Nonce,y2.Time,y2.Up,m.Code,y2.HasPlan,y2.Plan,y2.ID,y2.Session,y2.Payload⟩:i5)],(⟨j0.epoch,j0.known,j0.promised,j0.accepted,j0.plan,j0.writes,j0.wish,j0.wishAt,(⟨true,m.From,d9⟩:q7)⟩:i0),k8,k7,b5,b6))))
theorem Z8 {m d9 af2 c d8 ac6 ad9 b2 b3 bP5 j0 k8 k7 b5 b6}:Y4 m d9 af2 c d8 ac6 ad9 b2 b3 (bu0 m d9 af2 c d8 ac6 ad9 b2 b3 bP5 j0 k8 k7 b5 b6) (B6 m d9 af2 c d8 ac6 ad9 b2 b3 bP5 j0 k8 k7 b5 b6):=by
 intro r h;unfold B6 at h
 refine zs 1 h (fun h=> ?_) fun h=> ?_
 ·
  exact zu 5 h [.slot 0 [some 26]]
 refine zc 22 [] h (fun _=>K6) fun y2 h=> ?_
 refine o7 hm 20 _ ?_
 refine bF4 6 (n1:=1) (n2:=1) (raw:=([(.int .i64 y2.Kind::.int .i64 y2.From::.int .i64 y2.To::.int .i64 y2.Epoch::.int .i64 y2.Ballot::.int .i64 y2.Accepted::.int .i64 m.Nonce::.int .i64 y2.Time::.int .u64 y2.Up::.int .i64 m.Code::.bool y2.HasPlan::Plan.l y2.Plan [.sl false 1 (List.map (d7 .i64) y2.ID),.sl false 1 (List.map (d7 .u8) y2.Session),.sl false 1 (List.map (d7 .u8) y2.Payload)])])) (rs:=([(.int .i64 y2.Kind::.int .i64 y2.From::.int .i64 y2.To::.int .i64 y2.Epoch::.int .i64 y2.Ballot::.int .i64 y2.Accepted::.int .i64 m.Nonce::.int .i64 y2.Time::.int .u64 y2.Up::.int .i64 m.Code::.bool y2.HasPlan::Plan.l y2.Plan [.sl false 1 (List.map (d7 .i64) y2.ID),.sl false 1 (List.map (d7 .u8) y2.Session),.sl false 1 (List.map (d7 .u8) y2.Payload)])])) (by kernel_rfl) rfl rfl ?_
 exact zu 1 h
noncomputable def bu6 (m:i5) (d9:Int) (af2:i0) (c:f0) (d8 ac6:Int) (ad9:Bool) (b2 b3:List Int) (own:Bool) (H2:i5):M:=⟨[.code (C0 [1,1,1,0,1,0,1,1,1,0,1]),.blk 0,.code (C0 [1,1,1,1])],[(0,.ptr 0 0 0),(2,.int .i64 d9),(4,.ptr 4 0 0),(7,.ptr 5 0 0),(9,.bool own)],[some ⟨67,true,[(i0.l af2 (f0.l c [.int .i64 d8,.ptr 1 0 0]))]⟩,some ⟨4,true,[[(i9 2 (List.map (d7 .u8) b2)),(i9 3 (List.map (d7 .u8) b3)),.int .i64 ac6,.bool ad9]]⟩,some ⟨1,false,(List.map (d7 .u8) b2)⟩,some ⟨1,false,(List.map (d7 .u8) b3)⟩,some ⟨26,false,[(i5.enc m)]⟩,some ⟨26,false,[(i5.enc H2)]⟩]⟩
noncomputable def Q0 (m:i5) (d9:Int) (af2:i0) (c:f0) (d8 ac6:Int) (ad9:Bool) (b2 b3:List Int) (own:Bool) (H2:i5):Option ((List i5)×i0×Int×Bool×(List Int)×(List Int)):=(bif (!own) then (bif af2.lead.is_ then ((X0 af2.lead.at_ d9 af2 c d8 ac6 ad9 b2 b3).bind fun y3=>(bif y3 then (B6 m d9 af2 c d8 ac6 ad9 b2 b3 true af2 ac6 ad9 b2 b3) else ((r5 H2 af2 c d8 ac6 ad9 b2 b3).bind fun y5=>(B6 m d9 af2 c d8 ac6 ad9 b2 b3 (!y5.1) y5.2.1 y5.2.2.1 y5.2.2.2.1 y5.2.2.2.2.1 y5.2.2.2.2.2)))) else ((r5 H2 af2 c d8 ac6 ad9 b2 b3).bind fun y6=>(B6 m d9 af2 c d8 ac6 ad9 b2 b3 (!y6.1) y6.2.1 y6.2.2.1 y6.2.2.2.1 y6.2.2.2.2.1 y6.2.2.2.2.2))) else (B6 m d9 af2 c d8 ac6 ad9 b2 b3 false af2 ac6 ad9 b2 b3))
theorem aC2 {m d9 af2 c d8 ac6 ad9 b2 b3 own H2}:Y4 m d9 af2 c d8 ac6 ad9 b2 b3 (bu6 m d9 af2 c d8 ac6 ad9 b2 b3 own H2) (Q0 m d9 af2 c d8 ac6 ad9 b2 b3 own H2):=by
 intro r h;unfold Q0 at h
 refine zs 7 h (fun h=> ?_) fun h=> ?_
 ·
  refine zs 14 h (fun h=> ?_) fun h=> ?_
  ·
   refine zc 17 [] h (fun _=>aK0) fun y3 h=> ?_
   refine zs 6 h (fun h=> ?_) fun h=> ?_
   ·
    exact zg 16 (Z8 h) [.mv 2,.mv 3]
   refine zc 9 [] h (fun _=>D3) fun y5 h=> ?_
   exact zg 8 (Z8 h)
  refine zc 32 [] h (fun _=>D3) fun y6 h=> ?_
  exact zg 8 (Z8 h)
 exact zg 36 (Z8 h) [.mv 2,.mv 3]
noncomputable def bt1 (m:i5) (d9:Int) (af2:i0) (c:f0) (d8 ac6:Int) (ad9:Bool) (b2 b3:List Int) (H2:i5):M:=⟨[.code (C0 [1,1,1])],[(0,.ptr 0 0 0),(2,.int .i64 d9),(4,.ptr 4 0 0),(7,.ptr 5 0 0)],[some ⟨67,true,[(i0.l af2 (f0.l c [.int .i64 d8,.ptr 1 0 0]))]⟩,some ⟨4,true,[[(i9 2 (List.map (d7 .u8) b2)),(i9 3 (List.map (d7 .u8) b3)),.int .i64 ac6,.bool ad9]]⟩,some ⟨1,false,(List.map (d7 .u8) b2)⟩,some ⟨1,false,(List.map (d7 .u8) b3)⟩,some ⟨26,false,[(i5.enc m)]⟩,some ⟨26,false,[(i5.enc H2)]⟩]⟩
noncomputable def Q1 (m:i5) (d9:Int) (af2:i0) (c:f0) (d8 ac6:Int) (ad9:Bool) (b2 b3:List Int) (H2:i5):Option ((List i5)×i0×Int×Bool×(List Int)×(List Int)):=(bif (m.Code==1) then (bif (decide (m.Epoch<af2.wish)) then (P6 m d9 af2 c d8 ac6 ad9 b2 b3 (decide (((IntKind.i64.wrap (d9-af2.wishAt)):Int)<(IntKind.i64.wrap ((2:Int)*(IntKind.i64.wrap (c.L_+c.M_)))))) H2) else (P6 m d9 af2 c d8 ac6 ad9 b2 b3 false H2)) else (bif (m.Code==2) then (bif af2.lead.is_ then (Q0 m d9 af2 c d8 ac6 ad9 b2 b3 (af2.lead.who==m.From) H2) else (Q0 m d9 af2 c d8 ac6 ad9 b2 b3 false H2)) else (some ([],af2,ac6,ad9,b2,b3))))
theorem aC6 {m d9 af2 c d8 ac6 ad9 b2 b3 H2}:Y4 m d9 af2 c d8 ac6 ad9 b2 b3 (bt1 m d9 af2 c d8 ac6 ad9 b2 b3 H2) (Q1 m d9 af2 c d8 ac6 ad9 b2 b3 H2):=by
 intro r h;unfold Q1 at h
 refine zs 14 h (fun h=> ?_) fun h=> ?_
 ·
  refine zs 4 h (fun h=> ?_) fun h=> ?_
  ·
   exact zg 23 (aC7 h)
  exact zg 20 (aC7 h)
 refine zs 6 h (fun h=> ?_) fun h=> ?_
 ·
  refine zs 3 h (fun h=> ?_) fun h=> ?_
  ·
   exact zg 11 (aC2 h)
  exact zg 9 (aC2 h)
 refine zf 4 [.mv 2,.mv 3] ?_
 exact zu 1 h [.slot 0 [some 26]]
noncomputable def af5 (m:i5) (d9:Int) (af2:i0) (c:f0) (d8 ac6:Int) (ad9:Bool) (b2 b3:List Int):Option ((List i5)×i0×Int×Bool×(List Int)×(List Int)):=(bif (m.Code==1) then (Q1 m d9 af2 c d8 ac6 ad9 b2 b3 (⟨11,m.From,0,m.Epoch,0,0,0,0,0,m.Code,false,(⟨0,0,0,0,0,0,0,0,0,0,[],[]⟩:Plan),[],[],[]⟩:i5)) else (Q1 m d9 af2 c d8 ac6 ad9 b2 b3 (⟨11,m.From,0,0,0,0,0,0,0,m.Code,false,(⟨0,0,0,0,0,0,0,0,0,0,[],[]⟩:Plan),[],[],[]⟩:i5)))
theorem bt2 {m:i5}{d9:Int}{af2:i0}{c:f0}{d8 ac6:Int}{ad9:Bool}{b2 b3:List Int}{r:(List i5)×i0×Int×Bool×(List Int)×(List Int)} (h:af5 m d9 af2 c d8 ac6 ad9 b2 b3=some r):l4 E 24 [.ptr 0 0 0,.agg (i5.enc m),.int .i64 d9] [some ⟨67,true,[(i0.l af2 (f0.l c [.int .i64 d8,.ptr 1 0 0]))]⟩,some ⟨4,true,[[(i9 2 (List.map (d7 .u8) b2)),(i9 3 (List.map (d7 .u8) b3)),.int .i64 ac6,.bool ad9]]⟩,some ⟨1,false,(List.map (d7 .u8) b2)⟩,some ⟨1,false,(List.map (d7 .u8) b3)⟩] (Rs (aP4 c d8) r):=so (fn:=Tryd.f24) (k:=true) (m:=4) h<| by
 intro r h;unfold af5 at h
 refine zs 28 h (fun h=> ?_) fun h=> ?_
 ·
  exact zg 9 (aC6 h) [.blk 5 [some 1,some 1,some 1,some 1,some 1]]
 exact zg 1 (aC6 h) [.blk 5 [some 1,some 1,some 1,some 1,some 1]]
noncomputable def ac3:=r4 (r9 Tryd.f22)
noncomputable def aI6 (c:f0) (d8:Int) (y:(List i5)×i0×Int×Bool×(List Int)×(List Int)):D×i4:=(.sl false 26 (List.map i5.enc y.1),[some ⟨67,true,[(i0.l y.2.1 (f0.l c [.int .i64 d8,.ptr 1 0 0]))]⟩,some ⟨4,true,[[(i9 4 (List.map (d7 .u8) y.2.2.2.2.1)),(i9 5 (List.map (d7 .u8) y.2.2.2.2.2)),.int .i64 y.2.2.1,.bool y.2.2.2.1]]⟩,none,none,some ⟨1,false,(List.map (d7 .u8) y.2.2.2.2.1)⟩,some ⟨1,false,(List.map (d7 .u8) y.2.2.2.2.2)⟩])
abbrev aH7 (m:i5) (d9:Int) (af2:i0) (c:f0) (d8 ac6:Int) (ad9:Bool) (b2 b3:List Int):=AOk E (Cx.of Tryd.f22 true 4) (aI6 c d8)
noncomputable def bj0 (m:i5) (d9:Int) (af2:i0) (c:f0) (d8 ac6:Int) (ad9:Bool) (b2 b3:List Int) (t81:Bool) (as6:Plan):M:=⟨[.code (ac3 [1,1,0,0,1,1,1,1,1,0,1,1]),.blk 0,.code (ac3 [1,1,1])],[(0,.ptr 0 0 0),(2,.int .i64 d9),(4,.ptr 4 0 0),(7,.ptr 5 0 0),(81,.bool t81)],[some ⟨67,true,[(i0.l af2 (f0.l c [.int .i64 d8,.ptr 1 0 0]))]⟩,some ⟨4,true,[[(i9 2 (List.map (d7 .u8) b2)),(i9 3 (List.map (d7 .u8) b3)),.int .i64 ac6,.bool ad9]]⟩,some ⟨1,false,(List.map (d7 .u8) b2)⟩,some ⟨1,false,(List.map (d7 .u8) b3)⟩,some ⟨26,false,[(i5.enc m)]⟩,some ⟨12,false,[(Plan.enc as6)]⟩]⟩
noncomputable def A6 (m:i5) (d9:Int) (af2:i0) (c:f0) (d8 ac6:Int) (ad9:Bool) (b2 b3:List Int) (t81:Bool) (as6:Plan):Option ((List i5)×i0×Int×Bool×(List Int)×(List Int)):=(bif t81 then (some ([],(⟨af2.epoch,af2.known,af2.promised,af2.accepted,af2.plan,af2.writes,(C9 af2.wish m.Epoch),d9,af2.lead⟩:i0),ac6,ad9,b2,b3)) else ((r5 (⟨5,0,0,m.Epoch,m.Ballot,0,0,0,0,0,true,as6,[],[],[]⟩:i5) af2 c d8 ac6 ad9 b2 b3).bind fun y2=>(bif (!y2.1) then (some ([],y2.2.1,y2.2.2.1,y2.2.2.2.1,y2.2.2.2.2.1,y2.2.2.2.2.2)) else ((r8 m 5 y2.2.1 c d8 y2.2.2.1 y2.2.2.2.1 y2.2.2.2.2.1 y2.2.2.2.2.2).bind fun y4=>(some ([(⟨y4.Kind,y4.From,y4.To,y4.Epoch,m.Ballot,y2.2.1.accepted,y4.Nonce,y4.Time,y4.Up,y4.Code,((y2.2.1.accepted:Int) !=0),y2.2.1.plan,y4.ID,y4.Session,y4.Payload⟩:i5)],y2.2.1,y2.2.2.1,y2.2.2.2.1,y2.2.2.2.2.1,y2.2.2.2.2.2))))))
theorem S4 {m d9 af2 c d8 ac6 ad9 b2 b3 t81 as6}:aH7 m d9 af2 c d8 ac6 ad9 b2 b3 (bj0 m d9 af2 c d8 ac6 ad9 b2 b3 t81 as6) (A6 m d9 af2 c d8 ac6 ad9 b2 b3 t81 as6):=by
 intro r h;unfold A6 at h
 refine zs 1 h (fun h=> ?_) fun h=> ?_
 ·
  refine zf 12 [.mv 2,.mv 3] ?_
  exact zu 1 h [.slot 0 [some 26]]
 refine zc 18 [some 1,some 1,some 1] h (fun _=>D3) fun y2 h=> ?_
 refine zs 3 h (fun h=> ?_) fun h=> ?_
 ·
  exact zu 5 h [.slot 0 [some 26]]
 refine zc 7 [] h (fun _=>K6) fun y4 h=> ?_
 refine o7 hm 26 _ ?_
 refine bF4 6 (n1:=1) (n2:=1) (raw:=([(.int .i64 y4.Kind::.int .i64 y4.From::.int .i64 y4.To::.int .i64 y4.Epoch::.int .i64 m.Ballot::.int .i64 y2.2.1.accepted::.int .i64 y4.Nonce::.int .i64 y4.Time::.int .u64 y4.Up::.int .i64 y4.Code::.bool ((y2.2.1.accepted:Int) !=0)::Plan.l y2.2.1.plan [.sl false 1 (List.map (d7 .i64) y4.ID),.sl false 1 (List.map (d7 .u8) y4.Session),.sl false 1 (List.map (d7 .u8) y4.Payload)])])) (rs:=([(.int .i64 y4.Kind::.int .i64 y4.From::.int .i64 y4.To::.int .i64 y4.Epoch::.int .i64 m.Ballot::.int .i64 y2.2.1.accepted::.int .i64 y4.Nonce::.int .i64 y4.Time::.int .u64 y4.Up::.int .i64 y4.Code::.bool ((y2.2.1.accepted:Int) !=0)::Plan.l y2.2.1.plan [.sl false 1 (List.map (d7 .i64) y4.ID),.sl false 1 (List.map (d7 .u8) y4.Session),.sl false 1 (List.map (d7 .u8) y4.Payload)])])) (by kernel_rfl) rfl rfl ?_
 exact zu 1 h
noncomputable def bj4 (m:i5) (d9:Int) (af2:i0) (c:f0) (d8 ac6:Int) (ad9:Bool) (b2 b3:List Int) (t17:Bool) (as6:Plan):M:=⟨[.code (ac3 [1,1,0,0,1]),.blk 0,.code (ac3 [1,1,1])],[(0,.ptr 0 0 0),(2,.int .i64 d9),(4,.ptr 4 0 0),(7,.ptr 5 0 0),(17,.bool t17)],[some ⟨67,true,[(i0.l af2 (f0.l c [.int .i64 d8,.ptr 1 0 0]))]⟩,some ⟨4,true,[[(i9 2 (List.map (d7 .u8) b2)),(i9 3 (List.map (d7 .u8) b3)),.int .i64 ac6,.bool ad9]]⟩,some ⟨1,false,(List.map (d7 .u8) b2)⟩,some ⟨1,false,(List.map (d7 .u8) b3)⟩,some ⟨26,false,[(i5.enc m)]⟩,some ⟨12,false,[(Plan.enc as6)]⟩]⟩
noncomputable def D5 (m:i5) (d9:Int) (af2:i0) (c:f0) (d8 ac6:Int) (ad9:Bool) (b2 b3:List Int) (t17:Bool) (as6:Plan):Option ((List i5)×i0×Int×Bool×(List Int)×(List Int)):=(bif t17 then (some ([],af2,ac6,ad9,b2,b3)) else (bif (decide (m.Epoch<af2.epoch)) then ((P5 m af2 c d8 ac6 ad9 b2 b3).bind fun y3=>(some (y3,af2,ac6,ad9,b2,b3))) else (bif (decide (m.Epoch>af2.epoch)) then (bif (af2.writes.low !=0) then (bif (decide (af2.writes.low<m.Epoch)) then ((X0 af2.writes.at_ d9 af2 c d8 ac6 ad9 b2 b3).bind fun y7=>(bif y7 then (A6 m d9 af2 c d8 ac6 ad9 b2 b3 (m.Code !=1) as6) else (A6 m d9 af2 c d8 ac6 ad9 b2 b3 false as6))) else (A6 m d9 af2 c d8 ac6 ad9 b2 b3 false as6)) else (A6 m d9 af2 c d8 ac6 ad9 b2 b3 false as6)) else (bif (decide (m.Ballot≤af2.promised)) then ((aa5 m af2 c d8 ac6 ad9 b2 b3).bind fun y10=>(some (y10,af2,ac6,ad9,b2,b3))) else ((r5 (⟨5,0,0,m.Epoch,m.Ballot,0,0,0,0,0,true,af2.known,[],[],[]⟩:i5) af2 c d8 ac6 ad9 b2 b3).bind fun y11=>(bif (!y11.1) then (some ([],y11.2.1,y11.2.2.1,y11.2.2.2.1,y11.2.2.2.2.1,y11.2.2.2.2.2)) else ((r8 m 5 y11.2.1 c d8 y11.2.2.1 y11.2.2.2.1 y11.2.2.2.2.1 y11.2.2.2.2.2).bind fun y13=>(some ([(⟨y13.Kind,y13.From,y13.To,y13.Epoch,m.Ballot,y11.2.1.accepted,y13.Nonce,y13.Time,y13.Up,y13.Code,((y11.2.1.accepted:Int) !=0),y11.2.1.plan,y13.ID,y13.Session,y13.Payload⟩:i5)],y11.2.1,y11.2.2.1,y11.2.2.2.1,y11.2.2.2.2.1,y11.2.2.2.2.2)))))))))
theorem af3 {m d9 af2 c d8 ac6 ad9 b2 b3 t17 as6}:aH7 m d9 af2 c d8 ac6 ad9 b2 b3 (bj4 m d9 af2 c d8 ac6 ad9 b2 b3 t17 as6) (D5 m d9 af2 c d8 ac6 ad9 b2 b3 t17 as6):=by
 intro r h;unfold D5 at h
 refine zs 1 h (fun h=> ?_) fun h=> ?_
 ·
  refine zf 4 [.mv 2,.mv 3] ?_
  exact zu 1 h [.slot 0 [some 26]]
 refine zs 5 h (fun h=> ?_) fun h=> ?_
 ·
  refine zc 6 [] h (fun _=>aC5) fun y3 h=> ?_
  refine zf 2 [.mv 2,.mv 3] ?_
  exact zu 1 h
 refine zs 5 h (fun h=> ?_) fun h=> ?_
 ·
  refine zs 21 h (fun h=> ?_) fun h=> ?_
  ·
   refine zs 14 h (fun h=> ?_) fun h=> ?_
   ·
    refine zc 9 [] h (fun _=>aK0) fun y7 h=> ?_
    refine zs 4 h (fun h=> ?_) fun h=> ?_
    ·
     exact zg 8 (S4 h)
    exact zg 7 (S4 h)
   exact zg 20 (S4 h)
  exact zg 33 (S4 h)
 refine zs 5 h (fun h=> ?_) fun h=> ?_
 ·
  refine zc 6 [] h (fun _=>aP7) fun y10 h=> ?_
  refine zf 2 [.mv 2,.mv 3] ?_
  exact zu 1 h
 refine zc 28 [some 1,some 1,some 1] h (fun _=>D3) fun y11 h=> ?_
 refine zs 3 h (fun h=> ?_) fun h=> ?_
 ·
  exact zu 5 h [.slot 0 [some 26]]
 refine zc 7 [] h (fun _=>K6) fun y13 h=> ?_
 refine o7 hm 26 _ ?_
 refine bF4 6 (n1:=1) (n2:=1) (raw:=([(.int .i64 y13.Kind::.int .i64 y13.From::.int .i64 y13.To::.int .i64 y13.Epoch::.int .i64 m.Ballot::.int .i64 y11.2.1.accepted::.int .i64 y13.Nonce::.int .i64 y13.Time::.int .u64 y13.Up::.int .i64 y13.Code::.bool ((y11.2.1.accepted:Int) !=0)::Plan.l y11.2.1.plan [.sl false 1 (List.map (d7 .i64) y13.ID),.sl false 1 (List.map (d7 .u8) y13.Session),.sl false 1 (List.map (d7 .u8) y13.Payload)])])) (rs:=([(.int .i64 y13.Kind::.int .i64 y13.From::.int .i64 y13.To::.int .i64 y13.Epoch::.int .i64 m.Ballot::.int .i64 y11.2.1.accepted::.int .i64 y13.Nonce::.int .i64 y13.Time::.int .u64 y13.Up::.int .i64 y13.Code::.bool ((y11.2.1.accepted:Int) !=0)::Plan.l y11.2.1.plan [.sl false 1 (List.map (d7 .i64) y13.ID),.sl false 1 (List.map (d7 .u8) y13.Session),.sl false 1 (List.map (d7 .u8) y13.Payload)])])) (by kernel_rfl) rfl rfl ?_
 exact zu 1 h
noncomputable def Z6 (m:i5) (d9:Int) (af2:i0) (c:f0) (d8 ac6:Int) (ad9:Bool) (b2 b3:List Int):Option ((List i5)×i0×Int×Bool×(List Int)×(List Int)):=(bif (decide (((z0 m.Epoch m.Ballot):Int)<1)) then (D5 m d9 af2 c d8 ac6 ad9 b2 b3 (decide (((z0 m.Epoch m.Ballot):Int)<1)) m.Plan) else (bif (!m.HasPlan) then (D5 m d9 af2 c d8 ac6 ad9 b2 b3 (!m.HasPlan) m.Plan) else (D5 m d9 af2 c d8 ac6 ad9 b2 b3 (m.Plan.Epoch !=(IntKind.i64.wrap (m.Epoch-1))) m.Plan)))
theorem bj2 {m:i5}{d9:Int}{af2:i0}{c:f0}{d8 ac6:Int}{ad9:Bool}{b2 b3:List Int}{r:(List i5)×i0×Int×Bool×(List Int)×(List Int)} (h:Z6 m d9 af2 c d8 ac6 ad9 b2 b3=some r):l4 E 22 [.ptr 0 0 0,.agg (i5.enc m),.int .i64 d9] [some ⟨67,true,[(i0.l af2 (f0.l c [.int .i64 d8,.ptr 1 0 0]))]⟩,some ⟨4,true,[[(i9 2 (List.map (d7 .u8) b2)),(i9 3 (List.map (d7 .u8) b3)),.int .i64 ac6,.bool ad9]]⟩,some ⟨1,false,(List.map (d7 .u8) b2)⟩,some ⟨1,false,(List.map (d7 .u8) b3)⟩] (Rs (aI6 c d8) r):=so (fn:=Tryd.f22) (k:=true) (m:=4) h<| by
 intro r h;unfold Z6 at h
 refine zs 31 h (fun h=> ?_) fun h=> ?_
 ·
  exact zg 1 (af3 h)
 refine zs 9 h (fun h=> ?_) fun h=> ?_
 ·
  exact zg 1 (af3 h)
 exact zg 12 (af3 h)
noncomputable def aK1:=r4 (r9 Tryd.f11)
noncomputable def aK7 (c:f0) (d8:Int) (y:(List i5)×i0×Int×Bool×(List Int)×(List Int)):D×i4:=(.sl false 26 (List.map i5.enc y.1),[some ⟨67,true,[(i0.l y.2.1 (f0.l c [.int .i64 d8,.ptr 1 0 0]))]⟩,some ⟨4,true,[[(i9 4 (List.map (d7 .u8) y.2.2.2.2.1)),(i9 5 (List.map (d7 .u8) y.2.2.2.2.2)),.int .i64 y.2.2.1,.bool y.2.2.2.1]]⟩,none,none,some ⟨1,false,(List.map (d7 .u8) y.2.2.2.2.1)⟩,some ⟨1,false,(List.map (d7 .u8) y.2.2.2.2.2)⟩])
abbrev bt9 (m:i5) (d9:Int) (af2:i0) (c:f0) (d8 ac6:Int) (ad9:Bool) (b2 b3:List Int):=AOk E (Cx.of Tryd.f11 true 4) (aK7 c d8)
noncomputable def bo3 (m:i5) (d9:Int) (af2:i0) (c:f0) (d8 ac6:Int) (ad9:Bool) (b2 b3:List Int) (F2:Bool):M:=⟨[.code (aK1 [1,0,1]),.code (aK1 [1,1])],[(0,.ptr 0 0 0),(2,.int .i64 d9),(4,.ptr 4 0 0),(24,.bool F2)],[some ⟨67,true,[(i0.l af2 (f0.l c [.int .i64 d8,.ptr 1 0 0]))]⟩,some ⟨4,true,[[(i9 2 (List.map (d7 .u8) b2)),(i9 3 (List.map (d7 .u8) b3)),.int .i64 ac6,.bool ad9]]⟩,some ⟨1,false,(List.map (d7 .u8) b2)⟩,some ⟨1,false,(List.map (d7 .u8) b3)⟩,some ⟨26,false,[(i5.enc m)]⟩]⟩
noncomputable def E8 (m:i5) (d9:Int) (af2:i0) (c:f0) (d8 ac6:Int) (ad9:Bool) (b2 b3:List Int) (F2:Bool):Option ((List i5)×i0×Int×Bool×(List Int)×(List Int)):=(bif F2 then (some ([],af2,ac6,ad9,b2,b3)) else (bif (m.Kind==4) then ((Z6 m d9 af2 c d8 ac6 ad9 b2 b3).bind fun y3=>(some (y3.1,y3.2.1,y3.2.2.1,y3.2.2.2.1,y3.2.2.2.2.1,y3.2.2.2.2.2))) else (bif (m.Kind==7) then ((ab1 m d9 af2 c d8 ac6 ad9 b2 b3).bind fun y5=>(some (y5.1,y5.2.1,y5.2.2.1,y5.2.2.2.1,y5.2.2.2.2.1,y5.2.2.2.2.2))) else (bif (m.Kind==10) then ((af5 m d9 af2 c d8 ac6 ad9 b2 b3).bind fun y7=>(some (y7.1,y7.2.1,y7.2.2.1,y7.2.2.2.1,y7.2.2.2.2.1,y7.2.2.2.2.2))) else (some ([],af2,ac6,ad9,b2,b3))))))
theorem V8 {m d9 af2 c d8 ac6 ad9 b2 b3 F2}:bt9 m d9 af2 c d8 ac6 ad9 b2 b3 (bo3 m d9 af2 c d8 ac6 ad9 b2 b3 F2) (E8 m d9 af2 c d8 ac6 ad9 b2 b3 F2):=by
 intro r h;unfold E8 at h
 refine zs 1 h (fun h=> ?_) fun h=> ?_
 ·
  refine zf 4 [.mv 2,.mv 3] ?_
  exact zu 1 h [.slot 0 [some 26]]
 refine zs 15 h (fun h=> ?_) fun h=> ?_
 ·
  refine zc 7 [] h (fun _=>bj2) fun y3 h=> ?_
  exact zu 3 h
 refine zs 6 h (fun h=> ?_) fun h=> ?_
 ·
  refine zc 7 [] h (fun _=>bq5) fun y5 h=> ?_
  exact zu 3 h
 refine zs 6 h (fun h=> ?_) fun h=> ?_
 ·
  refine zc 7 [] h (fun _=>bt2) fun y7 h=> ?_
  exact zu 3 h
 refine zf 6 [.mv 2,.mv 3] ?_
 exact zu 1 h [.slot 0 [some 26]]
noncomputable def p5 (m:i5) (d9:Int) (af2:i0) (c:f0) (d8 ac6:Int) (ad9:Bool) (b2 b3:List Int):Option ((List i5)×i0×Int×Bool×(List Int)×(List Int)):=((ac0 m).bind fun y1=>(bif (!y1) then (E8 m d9 af2 c d8 ac6 ad9 b2 b3 true) else (bif (decide (d9<0)) then (E8 m d9 af2 c d8 ac6 ad9 b2 b3 true) else (bif (decide (d9>1099511627776)) then (E8 m d9 af2 c d8 ac6 ad9 b2 b3 true) else ((ap6 (⟨b2,b3,ac6,ad9⟩:q9)).bind fun y5=>(E8 m d9 af2 c d8 ac6 ad9 b2 b3 y5))))))
theorem an8 {m:i5}{d9:Int}{af2:i0}{c:f0}{d8 ac6:Int}{ad9:Bool}{b2 b3:List Int}{r:(List i5)×i0×Int×Bool×(List Int)×(List Int)} (h:p5 m d9 af2 c d8 ac6 ad9 b2 b3=some r):l4 E 11 [.ptr 0 0 0,.agg (i5.enc m),.int .i64 d9] [some ⟨67,true,[(i0.l af2 (f0.l c [.int .i64 d8,.ptr 1 0 0]))]⟩,some ⟨4,true,[[(i9 2 (List.map (d7 .u8) b2)),(i9 3 (List.map (d7 .u8) b3)),.int .i64 ac6,.bool ad9]]⟩,some ⟨1,false,(List.map (d7 .u8) b2)⟩,some ⟨1,false,(List.map (d7 .u8) b3)⟩] (Rs (aK7 c d8) r):=so (fn:=Tryd.f11) (k:=true) (m:=4) h<| by
 intro r h;unfold p5 at h
 refine zc 11 [] h (fun _=>aP5) fun y1 h=> ?_
 refine zs 3 h (fun h=> ?_) fun h=> ?_
 ·
  exact zg 25 (V8 h)
 refine zs 6 h (fun h=> ?_) fun h=> ?_
 ·
  exact zg 18 (V8 h)
 refine zs 6 h (fun h=> ?_) fun h=> ?_
 ·
  exact zg 11 (V8 h)
 refine zm 9 (b:=(Nat.ble (0+(List.map (d7 .u8) b2).length) ((List.map (d7 .u8) b2).length))) (C8 _) ?_
 refine zm 0 (b:=(Nat.ble (0+(List.map (d7 .u8) b3).length) ((List.map (d7 .u8) b3).length))) (C8 _) ?_
 refine zcE 0 [] (args1:= [.iptr 4 [[.sl false 1 (List.take ((List.map (d7 .u8) b2).length) (List.drop 0 (List.map (d7 .u8) b2))),.sl false 1 (List.take ((List.map (d7 .u8) b3).length) (List.drop 0 (List.map (d7 .u8) b3))),.int .i64 ac6,.bool ad9]] 0 0]) h (fun _=>bH3) ⟨by simp[f0.enc,f0.l,l6.enc,l6.l,q9.enc,q9.l,i5.enc,i5.l,Plan.enc,Plan.l,q6.enc,q6.l,i0.enc,i0.l,q7.enc,q7.l,n5.enc,n5.l,o6.enc,o6.l,List.take_of_length_le,List.map_take,List.map_drop],rfl⟩ fun y5 h=> ?_
 exact zg 3 (V8 h)
noncomputable def bN8 (y:Bool):D×i4:=(.bool y,[])
noncomputable def ae6 (n t t2:Int):Option Bool:=(bif (decide (n<t)) then (some true) else (some (decide (n>t2))))
theorem bJ7 {n t t2:Int}{r:Bool} (h:ae6 n t t2=some r):l4 E 47 [.int .i64 n,.iptr 1 [[.int .i64 t]] 0 0,.iptr 1 [[.int .i64 t2]] 0 0] [] (Rs bN8 r):=so (fn:=Tryd.f47) (k:=false) (m:=0) h<| by
 intro r h;unfold ae6 at h
 refine zs 12 h (fun h=> ?_) fun h=> ?_
 ·
  exact zu 9 h
 exact zu 10 h
noncomputable def Y9:=r4 (r9 Tryd.f63)
noncomputable def Y2 (y:Int):D×i4:=(.int .i64 y,[])
inductive B7 where
 | s0 (s_:List Int) (f f2:Int)
 | s1 (s_:List Int) (f f2:Int) (t7 t8:Int)
noncomputable def Z1:B7→M
 | .s0 s_ f f2=>J0 Tryd.f63 [.sl false 1 (List.map (d7 .i64) s_),.fn 47 [] [.iptr 1 [[.int .i64 f]] 0 0,.iptr 1 [[.int .i64 f2]] 0 0]] []
 | .s1 s_ f f2 t7 t8=>⟨[.lpc (Y9 [1,0,1,0,0]) 387,.blk 0,.code (Y9 [1,1])],[(0,.sl false 1 (List.map (d7 .i64) s_)),(1,.fn 47 [] [.iptr 1 [[.int .i64 f]] 0 0,.iptr 1 [[.int .i64 f2]] 0 0]),(7,.int .i64 t7),(8,.int .i64 t8)],[]⟩
abbrev Y3:=SOk E (Cx.of Tryd.f63 false 0) Y2 Z1
noncomputable def G0 (s_:List Int) (f f2:Int):Option (B7⊕Int):=(some (.inl (.s1 s_ f f2 (((List.map (d7 .i64) s_).length:Nat):Int) 0)))
noncomputable def x4 (s_:List Int) (f f2:Int) (t7 t8:Int):Option (B7⊕Int):=(bif (decide (t8<t7)) then (bif ((decide ((0:Int)≤t8))&&(decide (t8<(((List.map (d7 .i64) s_).length:Nat):Int)))) then (((s_)[t8.toNat]?).bind fun y3=>((ae6 y3 f f2).bind fun y5=>(bif y5 then (some (.inr t8)) else (some (.inl (.s1 s_ f f2 t7 (IntKind.i64.wrap (t8+1)))))))) else none) else (some (.inr (-1))))
noncomputable def u5:B7→Option (B7⊕Int)
 | .s0 s_ f f2=>G0 s_ f f2
 | .s1 s_ f f2 t7 t8=>x4 s_ f f2 t7 t8
theorem ar1 {s_ f f2}:Y3 (.s0 s_ f f2) (G0 s_ f f2):=by
 intro r x h ha;unfold G0 at h
 exact zj 14 h ha
theorem ar8 {s_ f f2 t7 t8}:Y3 (.s1 s_ f f2 t7 t8) (x4 s_ f f2 t7 t8):=by
 intro r x h ha;unfold x4 at h
 refine zs 7 h (fun h=> ?_) fun h=> ?_
 ·
  refine zn 14 h fun h=> ?_
  refine zr 1 (d7 .i64) h fun y3 h=> ?_
  refine zc 1 [] h (fun _=>bJ7) fun y5 h=> ?_
  refine zs 2 h (fun h=> ?_) fun h=> ?_
  ·
   exact zt 6 h ha
  exact zj 7 h ha
 exact zt 6 h ha
noncomputable def N9 (s_:List Int) (f f2:Int):Option Int:=evf u5 (.s0 s_ f f2)
theorem at3 {s_:List Int}{f f2 r:Int} (h:N9 s_ f f2=some r):l4 E 63 [.sl false 1 (List.map (d7 .i64) s_),.fn 47 [] [.iptr 1 [[.int .i64 f]] 0 0,.iptr 1 [[.int .i64 f2]] 0 0]] [] (Rs Y2 r):=sc (fn:=Tryd.f63) (k:=false) (m:=0) (I6:=Z1) h fun s=>by
 cases s with
 | s0=>exact ar1
 | s1=>exact ar8
noncomputable def ar7 (y:Bool):D×i4:=(.bool y,[])
noncomputable def F7 (s_:List Int) (f f2:Int):Option Bool:=((N9 s_ f f2).bind fun y1=>(some (decide (y1≥0))))
theorem ao4 {s_:List Int}{f f2:Int}{r:Bool} (h:F7 s_ f f2=some r):l4 E 46 [.sl false 1 (List.map (d7 .i64) s_),.fn 47 [] [.iptr 1 [[.int .i64 f]] 0 0,.iptr 1 [[.int .i64 f2]] 0 0]] [] (Rs ar7 r):=so (fn:=Tryd.f46) (k:=false) (m:=0) h<| by
 intro r h;unfold F7 at h
 refine zc 9 [] h (fun _=>at3) fun y1 h=> ?_
 exact zu 4 h
noncomputable def cd5 (y:Bool):D×i4:=(.bool y,[])
noncomputable def C5 (low ax1:Int) (l_:List Int):Option Bool:=((F7 l_ low ax1).bind fun y1=>(some (!y1)))
theorem D2 {low ax1:Int}{l_:List Int}{r:Bool} (h:C5 low ax1 l_=some r):l4 E 26 [.int .i64 low,.int .i64 ax1,.sl false 1 (List.map (d7 .i64) l_)] [] (Rs cd5 r):=so (fn:=Tryd.f26) (k:=false) (m:=0) h<| by
 intro r h;unfold C5 at h
 refine zc 11 [] h (fun _=>ao4) fun y1 h=> ?_
 exact zu 4 h
noncomputable def bt6 (y:Bool):D×i4:=(.bool y,[])
noncomputable def T5 (n t t2:Int):Option Bool:=(bif (decide (n<t)) then (some true) else (some (decide (n>t2))))
theorem bp4 {n t t2:Int}{r:Bool} (h:T5 n t t2=some r):l4 E 49 [.int .i64 n,.iptr 1 [[.int .i64 t]] 0 0,.iptr 1 [[.int .i64 t2]] 0 0] [] (Rs bt6 r):=so (fn:=Tryd.f49) (k:=false) (m:=0) h<| by
 intro r h;unfold T5 at h
 refine zs 12 h (fun h=> ?_) fun h=> ?_
 ·
  exact zu 9 h
 exact zu 10 h
noncomputable def T0:=r4 (r9 Tryd.f64)
noncomputable def S3 (y:Int):D×i4:=(.int .i64 y,[])
inductive z4 where
 | s0 (s_:List Int) (f f2:Int)
 | s1 (s_:List Int) (f f2:Int) (t7 t8:Int)
noncomputable def S2:z4→M
 | .s0 s_ f f2=>J0 Tryd.f64 [.sl false 1 (List.map (d7 .i64) s_),.fn 49 [] [.iptr 1 [[.int .i64 f]] 0 0,.iptr 1 [[.int .i64 f2]] 0 0]] []
 | .s1 s_ f f2 t7 t8=>⟨[.lpc (T0 [1,0,1,0,0]) 387,.blk 0,.code (T0 [1,1])],[(0,.sl false 1 (List.map (d7 .i64) s_)),(1,.fn 49 [] [.iptr 1 [[.int .i64 f]] 0 0,.iptr 1 [[.int .i64 f2]] 0 0]),(7,.int .i64 t7),(8,.int .i64 t8)],[]⟩
abbrev T3:=SOk E (Cx.of Tryd.f64 false 0) S3 S2
noncomputable def E4 (s_:List Int) (f f2:Int):Option (z4⊕Int):=(some (.inl (.s1 s_ f f2 (((List.map (d7 .i64) s_).length:Nat):Int) 0)))
noncomputable def u6 (s_:List Int) (f f2:Int) (t7 t8:Int):Option (z4⊕Int):=(bif (decide (t8<t7)) then (bif ((decide ((0:Int)≤t8))&&(decide (t8<(((List.map (d7 .i64) s_).length:Nat):Int)))) then (((s_)[t8.toNat]?).bind fun y3=>((T5 y3 f f2).bind fun y5=>(bif y5 then (some (.inr t8)) else (some (.inl (.s1 s_ f f2 t7 (IntKind.i64.wrap (t8+1)))))))) else none) else (some (.inr (-1))))
noncomputable def r7:z4→Option (z4⊕Int)
 | .s0 s_ f f2=>E4 s_ f f2
 | .s1 s_ f f2 t7 t8=>u6 s_ f f2 t7 t8
theorem al4 {s_ f f2}:T3 (.s0 s_ f f2) (E4 s_ f f2):=by
 intro r x h ha;unfold E4 at h
 exact zj 14 h ha
theorem al8 {s_ f f2 t7 t8}:T3 (.s1 s_ f f2 t7 t8) (u6 s_ f f2 t7 t8):=by
 intro r x h ha;unfold u6 at h
 refine zs 7 h (fun h=> ?_) fun h=> ?_
 ·
  refine zn 14 h fun h=> ?_
  refine zr 1 (d7 .i64) h fun y3 h=> ?_
  refine zc 1 [] h (fun _=>bp4) fun y5 h=> ?_
  refine zs 2 h (fun h=> ?_) fun h=> ?_
  ·
   exact zt 6 h ha
  exact zj 7 h ha
 exact zt 6 h ha
noncomputable def M1 (s_:List Int) (f f2:Int):Option Int:=evf r7 (.s0 s_ f f2)
theorem ao2 {s_:List Int}{f f2 r:Int} (h:M1 s_ f f2=some r):l4 E 64 [.sl false 1 (List.map (d7 .i64) s_),.fn 49 [] [.iptr 1 [[.int .i64 f]] 0 0,.iptr 1 [[.int .i64 f2]] 0 0]] [] (Rs S3 r):=sc (fn:=Tryd.f64) (k:=false) (m:=0) (I6:=S2) h fun s=>by
 cases s with
 | s0=>exact al4
 | s1=>exact al8
noncomputable def al6 (y:Bool):D×i4:=(.bool y,[])
noncomputable def D8 (s_:List Int) (f f2:Int):Option Bool:=((M1 s_ f f2).bind fun y1=>(some (decide (y1≥0))))
theorem ak1 {s_:List Int}{f f2:Int}{r:Bool} (h:D8 s_ f f2=some r):l4 E 48 [.sl false 1 (List.map (d7 .i64) s_),.fn 49 [] [.iptr 1 [[.int .i64 f]] 0 0,.iptr 1 [[.int .i64 f2]] 0 0]] [] (Rs al6 r):=so (fn:=Tryd.f48) (k:=false) (m:=0) h<| by
 intro r h;unfold D8 at h
 refine zc 9 [] h (fun _=>ao2) fun y1 h=> ?_
 exact zu 4 h
noncomputable def bE3 (y:Bool):D×i4:=(.bool y,[])
noncomputable def U2 (low ax1:Int) (l_:List Int):Option Bool:=((D8 l_ low ax1).bind fun y1=>(some (!y1)))
theorem aQ2 {low ax1:Int}{l_:List Int}{r:Bool} (h:U2 low ax1 l_=some r):l4 E 27 [.int .i64 low,.int .i64 ax1,.sl false 1 (List.map (d7 .i64) l_)] [] (Rs bE3 r):=so (fn:=Tryd.f27) (k:=false) (m:=0) h<| by
 intro r h;unfold U2 at h
 refine zc 11 [] h (fun _=>ak1) fun y1 h=> ?_
 exact zu 4 h
noncomputable def bM7 (y:Bool):D×i4:=(.bool y,[])
noncomputable def ae8 (c:f0):Option Bool:=((C5 0 3 ([c.F_])).bind fun y1=>(bif y1 then ((C5 1 4 ([c.Deciders,c.Routers])).bind fun y3=>(bif y3 then ((C5 1 16 ([c.Targets])).bind fun y5=>(bif y5 then ((C5 1 7 ([c.Observers])).bind fun y7=>(bif y7 then (bif (((((List.map (d7 .i64) c.Tiers).length:Nat):Int):Int)==c.Targets) then ((C5 0 15 c.Tiers).bind fun y10=>(bif y10 then ((U2 1 1048576 ([c.Every,c.Wait,c.Fresh,c.L_,c.Dwell,c.D_,c.W_,c.Half,c.StepTime,c.S_,c.Span,c.Retry])).bind fun y12=>(bif y12 then ((U2 0 1048576 ([c.M_])).bind fun y14=>(bif y14 then ((C5 1 100 ([c.Rise,c.Fall,c.First,c.Step])).bind fun y16=>(bif y16 then ((C5 1 8 ([c.B_])).bind fun y18=>(bif y18 then ((C5 0 1000000 ([c.Hit])).bind fun y20=>(bif y20 then ((C5 1 1000000 ([c.Suppress])).bind fun y22=>(bif y22 then ((C5 0 (IntKind.i64.wrap (c.Suppress-1)) ([c.Reuse])).bind fun y24=>(bif y24 then ((C5 1 1000 ([c.Cap])).bind fun y26=>(bif y26 then ((C5 1 64 ([c.Room])).bind fun y28=>(bif y28 then ((C5 1 20 ([c.Tries])).bind fun y30=>(some y30)) else (some false))) else (some false))) else (some false))) else (some false))) else (some false))) else (some false))) else (some false))) else (some false))) else (some false))) else (some false))) else (some false)) else (some false))) else (some false))) else (some false))) else (some false)))
theorem aT4 {c:f0}{r:Bool} (h:ae8 c=some r):l4 E 14 [.agg (f0.enc c)] [] (Rs bM7 r):=so (fn:=Tryd.f14) (k:=false) (m:=0) h<| by
 intro r h;unfold ae8 at h
 refine zc 13 [] h (fun _=>D2) fun y1 h=> ?_
 refine zs 2 h (fun h=> ?_) fun h=> ?_
 ·
  refine zc 13 [] h (fun _=>D2) fun y3 h=> ?_
  refine zs 4 h (fun h=> ?_) fun h=> ?_
  ·
   refine zc 8 [] h (fun _=>D2) fun y5 h=> ?_
   refine zs 4 h (fun h=> ?_) fun h=> ?_
   ·
    refine zc 8 [] h (fun _=>D2) fun y7 h=> ?_
    refine zs 4 h (fun h=> ?_) fun h=> ?_
    ·
     refine zs 16 h (fun h=> ?_) fun h=> ?_
     ·
      refine zc 5 [] h (fun _=>D2) fun y10 h=> ?_
      refine zs 4 h (fun h=> ?_) fun h=> ?_
      ·
       refine zc 63 [] h (fun _=>aQ2) fun y12 h=> ?_
       refine zs 4 h (fun h=> ?_) fun h=> ?_
       ·
        refine zc 8 [] h (fun _=>aQ2) fun y14 h=> ?_
        refine zs 4 h (fun h=> ?_) fun h=> ?_
        ·
         refine zc 23 [] h (fun _=>D2) fun y16 h=> ?_
         refine zs 4 h (fun h=> ?_) fun h=> ?_
         ·
          refine zc 8 [] h (fun _=>D2) fun y18 h=> ?_
          refine zs 4 h (fun h=> ?_) fun h=> ?_
          ·
           refine zc 8 [] h (fun _=>D2) fun y20 h=> ?_
           refine zs 4 h (fun h=> ?_) fun h=> ?_
           ·
            refine zc 8 [] h (fun _=>D2) fun y22 h=> ?_
            refine zs 4 h (fun h=> ?_) fun h=> ?_
            ·
             refine zc 15 [] h (fun _=>D2) fun y24 h=> ?_
             refine zs 4 h (fun h=> ?_) fun h=> ?_
             ·
              refine zc 8 [] h (fun _=>D2) fun y26 h=> ?_
              refine zs 4 h (fun h=> ?_) fun h=> ?_
              ·
               refine zc 8 [] h (fun _=>D2) fun y28 h=> ?_
               refine zs 4 h (fun h=> ?_) fun h=> ?_
               ·
                refine zc 8 [] h (fun _=>D2) fun y30 h=> ?_
                exact zu 5 h
               exact zu 11 h
              exact zu 22 h
             exact zu 33 h
            exact zu 50 h
           exact zu 61 h
          exact zu 72 h
         exact zu 83 h
        exact zu 106 h
       exact zu 117 h
      exact zu 172 h
     exact zu 181 h
    exact zu 196 h
   exact zu 207 h
  exact zu 218 h
 exact zu 233 h
noncomputable def bX6 (y:Plan):D×i4:=(.agg (Plan.enc y),[])
noncomputable def at2 (c:f0):Option Plan:=((ae8 c).bind fun y1=>(bif (!y1) then (some (⟨0,0,0,0,0,0,0,0,0,0,[],[]⟩:Plan)) else (bif (decide ((0:Int)≤c.Targets)&&(decide (c.Targets≤c.Targets)&&(decide (c.Targets≤9223372036854775807)&&decide (c.Targets.toNat*8≤n4)))) then (some (⟨0,(-1),(-1),(-1),0,0,0,0,0,0,(List.replicate c.Targets.toNat 0),[]⟩:Plan)) else none)))
theorem bK5 {c:f0}{r:Plan} (h:at2 c=some r):l4 E 28 [.agg (f0.enc c)] [] (Rs bX6 r):=so (fn:=Tryd.f28) (k:=false) (m:=0) h<| by
 intro r h;unfold at2 at h
 refine zc 11 [] h (fun _=>aT4) fun y1 h=> ?_
 refine zs 3 h (fun h=> ?_) fun h=> ?_
 ·
  exact zu 9 h [.slot 0 [some 1,some 1]]
 refine zn 7 h fun h=> ?_
 refine zw 0 (a:=(List.replicate c.Targets.toNat ((d7 .i64) 0))) (b:=(List.map (d7 .i64) (List.replicate c.Targets.toNat 0))) (cG2 _ _ _) ?_
 refine zm 7 (b:=(Nat.ble (0+(List.map (d7 .i64) (List.replicate c.Targets.toNat 0)).length) ((List.map (d7 .i64) (List.replicate c.Targets.toNat 0)).length))) (C8 _) ?_
 obtain rfl:=Option.some.inj h
 exact aB5 [.slot 0 [some 1]] (d1:=.agg [.int .i64 0,.int .i64 (-1),.int .i64 (-1),.int .i64 (-1),.int .i64 0,.int .i64 0,.int .i64 0,.int .i64 0,.int .u64 0,.int .u64 0,.sl false 1 (List.take ((List.map (d7 .i64) (List.replicate c.Targets.toNat 0)).length) (List.drop 0 (List.map (d7 .i64) (List.replicate c.Targets.toNat 0)))),.sl false 1 []]) (d:=.agg [.int .i64 0,.int .i64 (-1),.int .i64 (-1),.int .i64 (-1),.int .i64 0,.int .i64 0,.int .i64 0,.int .i64 0,.int .u64 0,.int .u64 0,.sl false 1 (List.map (d7 .i64) (List.replicate c.Targets.toNat 0)),.sl false 1 []]) (s1:= []) (s:= []) (by kernel_rfl) ⟨by simp[f0.enc,f0.l,l6.enc,l6.l,q9.enc,q9.l,i5.enc,i5.l,Plan.enc,Plan.l,q6.enc,q6.l,i0.enc,i0.l,q7.enc,q7.l,n5.enc,n5.l,o6.enc,o6.l,List.take_of_length_le,List.map_take,List.map_drop],rfl⟩ ⟨rfl,rfl⟩ Cx.fin_of
noncomputable def by6 (c:f0) (d8 ac6:Int) (ad9:Bool) (b2 b3:List Int) (y:i0):D×i4:=(.tup [],[some ⟨67,true,[(i0.l y (f0.l c [.int .i64 d8,.ptr 1 0 0]))]⟩,some ⟨4,true,[[(i9 2 (List.map (d7 .u8) b2)),(i9 3 (List.map (d7 .u8) b3)),.int .i64 ac6,.bool ad9]]⟩,some ⟨1,false,(List.map (d7 .u8) b2)⟩,some ⟨1,false,(List.map (d7 .u8) b3)⟩])
noncomputable def P8 (af2:i0) (c:f0) (d8 ac6:Int) (ad9:Bool) (b2 b3:List Int):Option i0:=((at2 c).bind fun y1=>(some (⟨0,y1,0,0,(⟨0,0,0,0,0,0,0,0,0,0,[],[]⟩:Plan),(⟨0,0,0⟩:o6),0,0,(⟨false,(-1),0⟩:q7)⟩:i0)))
theorem aK6 {af2:i0}{c:f0}{d8 ac6:Int}{ad9:Bool}{b2 b3:List Int}{r:i0} (h:P8 af2 c d8 ac6 ad9 b2 b3=some r):l4 E 16 [.ptr 0 0 0] [some ⟨67,true,[(i0.l af2 (f0.l c [.int .i64 d8,.ptr 1 0 0]))]⟩,some ⟨4,true,[[(i9 2 (List.map (d7 .u8) b2)),(i9 3 (List.map (d7 .u8) b3)),.int .i64 ac6,.bool ad9]]⟩,some ⟨1,false,(List.map (d7 .u8) b2)⟩,some ⟨1,false,(List.map (d7 .u8) b3)⟩] (Rs (by6 c d8 ac6 ad9 b2 b3) r):=so (fn:=Tryd.f16) (k:=false) (m:=4) h<| by
 intro r h;unfold P8 at h
 refine zc 8 [] h (fun _=>bK5) fun y1 h=> ?_
 refine zf 8 [.blk 0 [some 1,some 1]] ?_
 exact zu 1 h
noncomputable def ba5:=r4 (r9 Tryd.f18)
noncomputable def S5 (c:f0) (d8 ac6:Int) (ad9:Bool) (b2 b3:List Int) (y:i0):D×i4:=(.tup [],[some ⟨67,true,[(i0.l y (f0.l c [.int .i64 d8,.ptr 1 0 0]))]⟩,some ⟨4,true,[[(i9 2 (List.map (d7 .u8) b2)),(i9 3 (List.map (d7 .u8) b3)),.int .i64 ac6,.bool ad9]]⟩,some ⟨1,false,(List.map (d7 .u8) b2)⟩,some ⟨1,false,(List.map (d7 .u8) b3)⟩])
inductive F1 where
 | s0 (af2:i0)
 | s1 (t11 y0:Int) (j0:i0)
noncomputable def ax2 (N3:List Int) (J1:List (List Int)) (c:f0) (d8 ac6:Int) (ad9:Bool) (b2 b3:List Int):F1→M
 | .s0 af2=>J0 Tryd.f18 [.sl false 1 (List.map (d7 .u8) N3),.sl false 1 (List.map (D1 1 (d7 .u8)) J1),.fn 19 [.ptr 0 0 0] []] [some ⟨67,true,[(i0.l af2 (f0.l c [.int .i64 d8,.ptr 1 0 0]))]⟩,some ⟨4,true,[[(i9 2 (List.map (d7 .u8) b2)),(i9 3 (List.map (d7 .u8) b3)),.int .i64 ac6,.bool ad9]]⟩,some ⟨1,false,(List.map (d7 .u8) b2)⟩,some ⟨1,false,(List.map (d7 .u8) b3)⟩]
 | .s1 t11 y0 j0=>⟨[.lpc (ba5 [1,0,0]) 7174,.blk 0],[(1,.sl false 1 (List.map (D1 1 (d7 .u8)) J1)),(2,.fn 19 [.ptr 0 0 0] []),(10,.sl false 1 (List.map (d7 .u8) N3)),(11,.int .i64 t11),(12,.int .i64 y0)],[some ⟨67,true,[(i0.l j0 (f0.l c [.int .i64 d8,.ptr 1 0 0]))]⟩,some ⟨4,true,[[(i9 2 (List.map (d7 .u8) b2)),(i9 3 (List.map (d7 .u8) b3)),.int .i64 ac6,.bool ad9]]⟩,some ⟨1,false,(List.map (d7 .u8) b2)⟩,some ⟨1,false,(List.map (d7 .u8) b3)⟩]⟩
abbrev ax4 (N3:List Int) (J1:List (List Int)) (c:f0) (d8 ac6:Int) (ad9:Bool) (b2 b3:List Int):=SOk E (Cx.of Tryd.f18 false 4) (S5 c d8 ac6 ad9 b2 b3) (ax2 N3 J1 c d8 ac6 ad9 b2 b3)
noncomputable def S1 (N3:List Int) (J1:List (List Int)) (c:f0) (d8 ac6:Int) (ad9:Bool) (b2 b3:List Int) (af2:i0):Option (F1⊕i0):=(some (.inl (.s1 (((List.map (d7 .u8) N3).length:Nat):Int) 0 af2)))
noncomputable def N1 (N3:List Int) (J1:List (List Int)) (c:f0) (d8 ac6:Int) (ad9:Bool) (b2 b3:List Int) (t11 y0:Int) (j0:i0):Option (F1⊕i0):=(bif (decide (y0<t11)) then (bif ((decide ((0:Int)≤y0))&&(decide (y0<(((List.map (d7 .u8) N3).length:Nat):Int)))) then (((N3)[y0.toNat]?).bind fun y3=>(bif ((decide ((0:Int)≤y0))&&(decide (y0<(((List.map (D1 1 (d7 .u8)) J1).length:Nat):Int)))) then (((J1)[y0.toNat]?).bind fun y6=>((aQ7 y3 y6).bind fun y8=>(bif ((y8.2:Int)==0) then ((aa7 y8.1 j0 c d8 ac6 ad9 b2 b3).bind fun y10=>(some (.inl (.s1 t11 (IntKind.i64.wrap (y0+1)) y10)))) else (some (.inl (.s1 t11 (IntKind.i64.wrap (y0+1)) j0)))))) else none)) else none) else (some (.inr j0)))
noncomputable def J3 (N3:List Int) (J1:List (List Int)) (c:f0) (d8 ac6:Int) (ad9:Bool) (b2 b3:List Int):F1→Option (F1⊕i0)
 | .s0 af2=>S1 N3 J1 c d8 ac6 ad9 b2 b3 af2
 | .s1 t11 y0 j0=>N1 N3 J1 c d8 ac6 ad9 b2 b3 t11 y0 j0
theorem aQ8 {N3 J1 c d8 ac6 ad9 b2 b3 af2}:ax4 N3 J1 c d8 ac6 ad9 b2 b3 (.s0 af2) (S1 N3 J1 c d8 ac6 ad9 b2 b3 af2):=by
 intro r x h ha;unfold S1 at h
 exact zj 9 h ha
theorem aS9 {N3 J1 c d8 ac6 ad9 b2 b3 t11 y0 j0}:ax4 N3 J1 c d8 ac6 ad9 b2 b3 (.s1 t11 y0 j0) (N1 N3 J1 c d8 ac6 ad9 b2 b3 t11 y0 j0):=by
 intro r x h ha;unfold N1 at h
 refine zs 7 h (fun h=> ?_) fun h=> ?_
 ·
  refine zn 7 h fun h=> ?_
  refine zr 1 (d7 .u8) h fun y3 h=> ?_
  refine zn 9 h fun h=> ?_
  refine zr 1 (D1 1 (d7 .u8)) h fun y6 h=> ?_
  refine zc 1 [] h (fun _=>cD7) fun y8 h=> ?_
  refine zs 15 h (fun h=> ?_) fun h=> ?_
  ·
   refine zc 5 [] h (fun _=>aR5) fun y10 h=> ?_
   exact zj 7 h ha
  exact zj 7 h ha
 exact zt 2 h ha
noncomputable def aa0 (N3:List Int) (J1:List (List Int)) (af2:i0) (c:f0) (d8 ac6:Int) (ad9:Bool) (b2 b3:List Int):Option i0:=evf (J3 N3 J1 c d8 ac6 ad9 b2 b3) (.s0 af2)
theorem aW7 {N3:List Int}{J1:List (List Int)}{af2:i0}{c:f0}{d8 ac6:Int}{ad9:Bool}{b2 b3:List Int}{r:i0} (h:aa0 N3 J1 af2 c d8 ac6 ad9 b2 b3=some r):l4 E 18 [.sl false 1 (List.map (d7 .u8) N3),.sl false 1 (List.map (D1 1 (d7 .u8)) J1),.fn 19 [.ptr 0 0 0] []] [some ⟨67,true,[(i0.l af2 (f0.l c [.int .i64 d8,.ptr 1 0 0]))]⟩,some ⟨4,true,[[(i9 2 (List.map (d7 .u8) b2)),(i9 3 (List.map (d7 .u8) b3)),.int .i64 ac6,.bool ad9]]⟩,some ⟨1,false,(List.map (d7 .u8) b2)⟩,some ⟨1,false,(List.map (d7 .u8) b3)⟩] (Rs (S5 c d8 ac6 ad9 b2 b3) r):=sc (fn:=Tryd.f18) (k:=false) (m:=4) (I6:=(ax2 N3 J1 c d8 ac6 ad9 b2 b3)) h fun s=>by
 cases s with
 | s0=>exact aQ8
 | s1=>exact aS9
noncomputable def bm3 (c:f0) (d8:Int) (y:Int×i0×Int×Bool×(List Int)×(List Int)):D×i4:=(.int .i64 y.1,[some ⟨67,true,[(i0.l y.2.1 (f0.l c [.int .i64 d8,.ptr 1 0 0]))]⟩,some ⟨4,true,[[(i9 4 (List.map (d7 .u8) y.2.2.2.2.1)),(i9 5 (List.map (d7 .u8) y.2.2.2.2.2)),.int .i64 y.2.2.1,.bool y.2.2.2.1]]⟩,none,none,some ⟨1,false,(List.map (d7 .u8) y.2.2.2.2.1)⟩,some ⟨1,false,(List.map (d7 .u8) y.2.2.2.2.2)⟩])
noncomputable def x5 (d9:Int) (af2:i0) (c:f0) (d8 ac6:Int) (ad9:Bool) (b2 b3:List Int):Option (Int×i0×Int×Bool×(List Int)×(List Int)):=((P8 af2 c d8 ac6 ad9 b2 b3).bind fun y1=>((ag2 ac6 ad9 b2 b3).bind fun y2=>(bif ((y2.2.2.1:Int) !=0) then (some (y2.2.2.1,y1,y2.2.2.2.1,y2.2.2.2.2.1,y2.2.2.2.2.2.1,y2.2.2.2.2.2.2)) else ((aa0 y2.1 y2.2.1 y1 c d8 y2.2.2.2.1 y2.2.2.2.2.1 y2.2.2.2.2.2.1 y2.2.2.2.2.2.2).bind fun y4=>(some (0,(⟨y4.epoch,y4.known,y4.promised,y4.accepted,y4.plan,(⟨y4.writes.low,y4.writes.high,d9⟩:o6),y4.wish,y4.wishAt,(⟨y4.lead.is_,y4.lead.who,d9⟩:q7)⟩:i0),y2.2.2.2.1,y2.2.2.2.2.1,y2.2.2.2.2.2.1,y2.2.2.2.2.2.2))))))
theorem al3 {d9:Int}{af2:i0}{c:f0}{d8 ac6:Int}{ad9:Bool}{b2 b3:List Int}{r:Int×i0×Int×Bool×(List Int)×(List Int)} (h:x5 d9 af2 c d8 ac6 ad9 b2 b3=some r):l4 E 10 [.ptr 0 0 0,.int .i64 d9] [some ⟨67,true,[(i0.l af2 (f0.l c [.int .i64 d8,.ptr 1 0 0]))]⟩,some ⟨4,true,[[(i9 2 (List.map (d7 .u8) b2)),(i9 3 (List.map (d7 .u8) b3)),.int .i64 ac6,.bool ad9]]⟩,some ⟨1,false,(List.map (d7 .u8) b2)⟩,some ⟨1,false,(List.map (d7 .u8) b3)⟩] (Rs (bm3 c d8) r):=so (fn:=Tryd.f10) (k:=true) (m:=4) h<| by
 intro r h;unfold x5 at h
 refine zc 8 [] h (fun _=>aK6) fun y1 h=> ?_
 refine zc 9 [] h (fun _=>bJ2) fun y2 h=> ?_
 refine zs 15 h (fun h=> ?_) fun h=> ?_
 ·
  exact zu 6 h
 refine o7 hm 8 _ ?_
 have ok4:=fun(y:i0) (hy:aa0 y2.1 y2.2.1 y1 c d8 y2.2.2.2.1 y2.2.2.2.2.1 y2.2.2.2.2.2.1 y2.2.2.2.2.2.2=some y)=> @Eq.mp (l4 E 18 [.sl false 1 (List.map (d7 .u8) y2.1),.sl false 1 (List.map (D1 1 (d7 .u8)) y2.2.1),.fn 19 [.ptr 0 0 0] []] [some ⟨67,true,[(i0.l y1 (f0.l c [.int .i64 d8,.ptr 1 0 0]))]⟩,some ⟨4,true,[[(i9 2 (List.map (d7 .u8) y2.2.2.2.2.2.1)),(i9 3 (List.map (d7 .u8) y2.2.2.2.2.2.2)),.int .i64 y2.2.2.2.1,.bool y2.2.2.2.2.1]]⟩,some ⟨1,false,(List.map (d7 .u8) y2.2.2.2.2.2.1)⟩,some ⟨1,false,(List.map (d7 .u8) y2.2.2.2.2.2.2)⟩] (Rs (S5 c d8 y2.2.2.2.1 y2.2.2.2.2.1 y2.2.2.2.2.2.1 y2.2.2.2.2.2.2) y)) (l4 E 18 [.sl false 1 (List.map (d7 .u8) y2.1),.sl false 1 (List.map (D1 1 (d7 .u8)) y2.2.1),.fn 19 [.ptr 0 0 0] []] [some ⟨67,true,[(i0.l y1 (f0.l c [.int .i64 d8,.ptr 1 0 0]))]⟩,some ⟨4,true,[[(i9 2 (List.map (d7 .u8) y2.2.2.2.2.2.1)),(i9 3 (List.map (d7 .u8) y2.2.2.2.2.2.2)),.int .i64 y2.2.2.2.1,.bool y2.2.2.2.2.1]]⟩,some ⟨1,false,(List.map (d7 .u8) y2.2.2.2.2.2.1)⟩,some ⟨1,false,(List.map (d7 .u8) y2.2.2.2.2.2.2)⟩] (Rs (S5 c d8 y2.2.2.2.1 y2.2.2.2.2.1 y2.2.2.2.2.2.1 y2.2.2.2.2.2.2) y)) (by kernel_rfl) (aW7 hy)
 refine zc 0 [] h ok4 fun y4 h=> ?_
 exact zu 27 h
noncomputable def bW2 (y:Int×Bool×(List Int)×(List Int)):D×i4:=(.ptr 0 0 0,[some ⟨4,true,[[(i9 1 (List.map (d7 .u8) y.2.2.1)),(i9 2 (List.map (d7 .u8) y.2.2.2)),.int .i64 y.1,.bool y.2.1]]⟩,some ⟨1,false,(List.map (d7 .u8) y.2.2.1)⟩,some ⟨1,false,(List.map (d7 .u8) y.2.2.2)⟩])
noncomputable def aG0:Option (Int×Bool×(List Int)×(List Int)):=(some ((-1),false,[],[]))
theorem bM3 {r:Int×Bool×(List Int)×(List Int)} (h:aG0=some r):l4 E 15 [] [] (Rs bW2 r):=so (fn:=Tryd.f15) (k:=true) (m:=0) h<| by
 intro r h;unfold aG0 at h
 refine zf 10 [.matc 0 0 0 1,.matc 0 0 1 1] ?_
 exact zu 1 h
noncomputable def aZ3:=r4 (r9 Tryd.f6)
inductive X5 where
 | r0
 | r1 (a0:i0) (a1:Int) (a2:Bool) (a3:List Int) (a4:List Int)
noncomputable def bb8 (c:f0) (d8:Int):X5→D×i4
 | .r0=>(.nilp,[])
 | .r1 a0 a1 a2 a3 a4=>(.ptr 0 0 0,[some ⟨67,true,[(i0.l a0 (f0.l c [.int .i64 d8,.ptr 1 0 0]))]⟩,some ⟨4,true,[[(i9 2 (List.map (d7 .u8) a3)),(i9 3 (List.map (d7 .u8) a4)),.int .i64 a1,.bool a2]]⟩,some ⟨1,false,(List.map (d7 .u8) a3)⟩,some ⟨1,false,(List.map (d7 .u8) a4)⟩])
abbrev bO2 (c:f0) (d8:Int):=AOk E (Cx.of Tryd.f6 true 0) (bb8 c d8)
noncomputable def bE2 (c:f0) (d8:Int) (t16:Bool):M:=⟨[.code (aZ3 [1,0,1]),.code (aZ3 [1,1])],[(1,.int .i64 d8),(2,.ptr 0 0 0),(16,.bool t16)],[some ⟨30,false,[(f0.enc c)]⟩]⟩
noncomputable def K1 (c:f0) (d8:Int) (t16:Bool):Option X5:=(bif t16 then (some (X5.r0)) else ((aG0).bind fun y2=>((P8 (⟨0,(⟨0,0,0,0,0,0,0,0,0,0,[],[]⟩:Plan),0,0,(⟨0,0,0,0,0,0,0,0,0,0,[],[]⟩:Plan),(⟨0,0,0⟩:o6),0,0,(⟨false,0,0⟩:q7)⟩:i0) c d8 y2.1 y2.2.1 y2.2.2.1 y2.2.2.2).bind fun y3=>(some (X5.r1 y3 y2.1 y2.2.1 y2.2.2.1 y2.2.2.2)))))
theorem as8 {c d8 t16}:bO2 c d8 (bE2 c d8 t16) (K1 c d8 t16):=by
 intro r h;unfold K1 at h
 refine zs 1 h (fun h=> ?_) fun h=> ?_
 ·
  exact zu 5 h
 refine zc 4 [] h (fun _=>bM3) fun y2 h=> ?_
 refine zcx 4 [] [.blk 0 [some 1,some 1,some 1,some 1]] h (fun _=>aK6) (fun y3 h=> ?_)
 exact zu 7 h
noncomputable def H3 (c:f0) (d8:Int):Option X5:=((ae8 c).bind fun y1=>(bif (!y1) then (K1 c d8 true) else (bif (decide (d8<0)) then (K1 c d8 true) else (K1 c d8 (decide (d8>255))))))
theorem am7 {c:f0}{d8:Int}{r:X5} (h:H3 c d8=some r):l4 E 6 [.agg (f0.enc c),.int .i64 d8] [] (Rs (bb8 c d8) r):=so (fn:=Tryd.f6) (k:=true) (m:=0) h<| by
 intro r h;unfold H3 at h
 refine zc 11 [] h (fun _=>aT4) fun y1 h=> ?_
 refine zs 3 h (fun h=> ?_) fun h=> ?_
 ·
  exact zg 12 (as8 h)
 refine zs 6 h (fun h=> ?_) fun h=> ?_
 ·
  exact zg 5 (as8 h)
 exact zg 5 (as8 h)
noncomputable def bq1 (af2:i0) (c:f0) (d8 ac6:Int) (ad9:Bool) (b2 b3:List Int) (y:Unit):D×i4:=(.ptr 1 0 0,[some ⟨67,true,[(i0.l af2 (f0.l c [.int .i64 d8,.ptr 1 0 0]))]⟩,some ⟨4,true,[[(i9 2 (List.map (d7 .u8) b2)),(i9 3 (List.map (d7 .u8) b3)),.int .i64 ac6,.bool ad9]]⟩,some ⟨1,false,(List.map (d7 .u8) b2)⟩,some ⟨1,false,(List.map (d7 .u8) b3)⟩])
noncomputable def Y1 (af2:i0) (c:f0) (d8 ac6:Int) (ad9:Bool) (b2 b3:List Int):Option Unit:=(some ())
theorem al5 {af2:i0}{c:f0}{d8 ac6:Int}{ad9:Bool}{b2 b3:List Int}{r:Unit} (h:Y1 af2 c d8 ac6 ad9 b2 b3=some r):l4 E 8 [.ptr 0 0 0] [some ⟨67,true,[(i0.l af2 (f0.l c [.int .i64 d8,.ptr 1 0 0]))]⟩,some ⟨4,true,[[(i9 2 (List.map (d7 .u8) b2)),(i9 3 (List.map (d7 .u8) b3)),.int .i64 ac6,.bool ad9]]⟩,some ⟨1,false,(List.map (d7 .u8) b2)⟩,some ⟨1,false,(List.map (d7 .u8) b3)⟩] (Rs (bq1 af2 c d8 ac6 ad9 b2 b3) r):=so (fn:=Tryd.f8) (k:=true) (m:=4) h<| by
 intro r h;unfold Y1 at h
 exact zu 14 h
/-! ### records that are taken -/
def bF1 (s:o6) (e:Int):o6:=if s.low=0 then ⟨e,e,s.at_⟩ else ⟨z0 s.low e,C9 s.high e,s.at_⟩
def bH5 (s:o6) (e:Int):o6:=if s.high<e then ⟨0,0,s.at_⟩ else ⟨C9 s.low e,s.high,s.at_⟩
def bg7 (s:o6) (e:Int):Prop:=s.low≠0∧s.low≤e∧e≤s.high
instance (s:o6) (e:Int):Decidable (bg7 s e):=by unfold bg7;infer_instance
def C7 (k:i0) (m:i5):i0:=
 if m.Kind=5 then (if m.Epoch=k.epoch then ⟨m.Epoch,m.Plan,m.Ballot,k.accepted,k.plan,k.writes,k.wish,k.wishAt,k.lead⟩ else ⟨m.Epoch,m.Plan,m.Ballot,0,n8,bH5 k.writes m.Epoch,k.wish,k.wishAt,k.lead⟩)
 else if m.Kind=8 then ⟨k.epoch,k.known,m.Ballot,m.Ballot,m.Plan,k.writes,k.wish,k.wishAt,k.lead⟩
 else if m.Kind=11 then (if m.Code=2 then ⟨k.epoch,k.known,k.promised,k.accepted,k.plan,k.writes,k.wish,k.wishAt,⟨true,-1,k.lead.at_⟩⟩ else ⟨k.epoch,k.known,k.promised,k.accepted,k.plan,bF1 k.writes m.Epoch,k.wish,k.wishAt,k.lead⟩)
 else k
theorem bp9 {a b:Int} (h:¬a=b):(a==b)=false:=beq_eq_false_iff_ne.2 h
theorem cF3 {a b:Int} (h:¬a=b):(a !=b)=true:=bne_iff_ne.2 h
theorem cQ2 (s:o6) (e:Int):R3 s e=some (bF1 s e):=by
 unfold R3 bF1
 by_cases h:s.low=0
 ·simp[h]
 ·simp[h,bp9 h]
theorem cQ9 (s:o6) (e:Int):R1 s e=some (bH5 s e):=by
 unfold R1 bH5
 by_cases h:s.high<e
 ·simp[h]
 ·simp[h]
theorem cB8 (s:o6) (e:Int):U8 s e=some (decide (bg7 s e)):=by
 unfold U8 bg7
 by_cases h:s.low=0
 ·simp[h]
 ·by_cases h2:s.low≤e
  ·simp[h,h2,cF3 h]
  ·simp[h,h2,cF3 h]
theorem cm8 (m:i5) (k:i0) (c:f0) (d8 fuse:Int) (d:Bool) (s t:List Int):aa7 m k c d8 fuse d s t=some (C7 k m):=by
 unfold aa7 C7
 by_cases h5:m.Kind=5
 ·by_cases he:m.Epoch=k.epoch
  ·simp[h5,he,S9]
  ·simp[h5,he,S9,cQ9,n8,cF3 he]
 ·by_cases h8:m.Kind=8
  ·simp[h8]
  ·by_cases h11:m.Kind=11
   ·by_cases h2:m.Code=2
    ·simp[h11,h2]
    ·simp[h11,h2,cQ2,bp9 h2]
   ·simp[h5,h8,h11,bp9 h5,bp9 h8,bp9 h11]
theorem aW3 {r:i5} (hr:ar2 r) {k:i0}{c:f0}{d8 fuse:Int} (hf:J2 fuse) {s:List Int} (hs:s.length≤10000000):
  r5 r k c d8 fuse false s []=some (match Z4 fuse false with
   | none=>(false,k,fd fuse false,true,s,[])
   | some f=>(match Z4 f false with
    | none=>(false,k,fd f false,true,s,log [r])
    | some g=>(true,C7 k r,g,false,s++log [r],[]))):=by
 have hb:bc4 r=some (r.Kind,T7 r,0):=by rw[cP8 hr.1,cp3,if_pos hr.2]
 obtain⟨h1,h2,h3⟩:=hr.fr
 have ha:=cP3 (k:=r.Kind) (body:=T7 r) h1 h2 h3 hf (down:=false) (s:=s) (t:= []) (by simp)
 have hl:(log [r]).length≤9000:=by rw[aY2,aj0];have h3' :(T7 r).length≤8192:=h3;omega
 simp only[r5,hb,Option.bind_some,bne_self_eq_false,cond_false,ha]
 cases he:Z4 fuse false with
 | none=>simp[w6]
 | some f=>
  have hf2:=bc7 hf he
  have hy:=da0 (fuse:=f) hf2 (down:=false) (s:=s) (t:=log [r]) (by omega)
  simp only[List.nil_append,bne_self_eq_false,cond_false,←aY2,hy,Option.bind_some]
  cases hg:Z4 f false with
  | none=>simp[w6]
  | some g=>simp[w6,cm8]
/-! ### what it does with a message -/
inductive Act where
 | say (m9:List i5) (k:i0)
 | note (r:i5) (m9:i0→List i5) (post:i0→i0)
def ap7 (c:f0) (at_ d9:Int):Bool:=decide (IntKind.i64.wrap (d9-at_)<IntKind.i64.wrap (c.L_+c.M_))
def cb9 (d8:Int) (k:i0) (m:i5):i5:=⟨9,d8,m.From,k.known.Epoch,0,0,0,0,0,0,true,k.known,[],[],[]⟩
def bJ1 (d8:Int) (k:i0) (m:i5):i5:=⟨6,d8,m.From,m.Epoch,k.promised,0,0,0,0,0,false,n8,[],[],[]⟩
def br1 (d8:Int) (m:i5) (k:i0):i5:=⟨5,d8,m.From,m.Epoch,m.Ballot,k.accepted,0,0,0,0,k.accepted !=0,k.plan,[],[],[]⟩
def cs1 (d8:Int) (m:i5):i5:=⟨8,d8,m.From,m.Epoch,m.Ballot,0,0,0,0,0,false,n8,[],[],[]⟩
def H1 (d8:Int) (m:i5):i5:=⟨11,d8,m.From,m.Epoch,0,0,m.Nonce,0,0,m.Code,false,n8,[],[],[]⟩
def av7 (m:i5) (p:Plan):i5:=⟨5,0,0,m.Epoch,m.Ballot,0,0,0,0,0,true,p,[],[],[]⟩
def bN6 (m:i5):i5:=⟨8,0,0,m.Epoch,m.Ballot,0,0,0,0,0,true,m.Plan,[],[],[]⟩
def L3 (m:i5):i5:=⟨11,m.From,0,if m.Code=1 then m.Epoch else 0,0,0,0,0,0,m.Code,false,n8,[],[],[]⟩
def atW (d9:Int) (k:i0):i0:=⟨k.epoch,k.known,k.promised,k.accepted,k.plan,⟨k.writes.low,k.writes.high,d9⟩,k.wish,k.wishAt,k.lead⟩
def toL (who d9:Int) (k:i0):i0:=⟨k.epoch,k.known,k.promised,k.accepted,k.plan,k.writes,k.wish,k.wishAt,⟨true,who,d9⟩⟩
def aO0 (c:f0) (d8:Int) (k:i0) (m:i5) (d9:Int):Act:=
 if z0 m.Epoch m.Ballot<1∨m.HasPlan=false∨m.Plan.Epoch≠IntKind.i64.wrap (m.Epoch-1) then .say [] k
 else if m.Epoch<k.epoch then .say [cb9 d8 k m] k
 else if k.epoch<m.Epoch then
  (if k.writes.low≠0∧k.writes.low<m.Epoch∧ap7 c k.writes.at_ d9=true∧m.Code≠1 then .say [] ⟨k.epoch,k.known,k.promised,k.accepted,k.plan,k.writes,C9 k.wish m.Epoch,d9,k.lead⟩
   else .note (av7 m m.Plan) (fun k1=> [br1 d8 m k1]) id)
 else if m.Ballot≤k.promised then .say [bJ1 d8 k m] k
 else .note (av7 m k.known) (fun k1=> [br1 d8 m k1]) id
def be0 (c:f0) (d8:Int) (k:i0) (m:i5) (d9:Int):Act:=
 if z0 m.Epoch m.Ballot<1∨m.HasPlan=false∨m.Plan.Epoch≠m.Epoch∨k.epoch<m.Epoch then .say [] k
 else if m.Epoch<k.epoch then .say [cb9 d8 k m] k
 else if m.Ballot<k.promised then .say [bJ1 d8 k m] k
 else if k.promised<m.Ballot∨c.S_<IntKind.i64.wrap (m.Plan.Stamp-d9) then .say [] k
 else .note (bN6 m) (fun _=> [cs1 d8 m]) id
def cp5 (c:f0) (k:i0) (m:i5) (d9:Int):Bool:=decide (m.Epoch<k.wish)&&decide (IntKind.i64.wrap (d9-k.wishAt)<IntKind.i64.wrap ((2:Int)*IntKind.i64.wrap (c.L_+c.M_)))
def grA (c:f0) (d8:Int) (k:i0) (m:i5) (d9:Int):Act:=
 if m.Code=1 then
  (if m.Epoch<C9 k.epoch 1∨cp5 c k m d9=true then .say [] k
   else if bg7 k.writes m.Epoch then .say [H1 d8 m] (atW d9 k)
   else .note (L3 m) (fun _=> [H1 d8 m]) (atW d9))
 else if m.Code=2 then
  (if k.lead.is_=true∧k.lead.who=m.From then .say [H1 d8 m] (toL m.From d9 k)
   else if k.lead.is_=true∧ap7 c k.lead.at_ d9=true then .say [] k
   else .note (L3 m) (fun _=> [H1 d8 m]) (toL m.From d9))
 else .say [] k
def act (c:f0) (d8:Int) (k:i0) (m:i5) (d9:Int):Act:=
 if m.Kind=4 then aO0 c d8 k m d9 else if m.Kind=7 then be0 c d8 k m d9 else if m.Kind=10 then grA c d8 k m d9 else .say [] k
def H8 (k:i0) (fuse:Int) (s:List Int):Act→List i5×i0×Int×Bool×List Int×List Int
 | .say m9 k' =>(m9,k',fuse,false,s,[])
 | .note r m9 post=>(match Z4 fuse false with
  | none=>([],k,fd fuse false,true,s,[])
  | some f=>(match Z4 f false with
   | none=>([],k,fd f false,true,s,log [r])
   | some g=>(m9 (C7 k r),post (C7 k r),g,false,s++log [r],[])))
section
variable {c : f0} {d8 : Int} {k : i0} {m : i5} {d9 fuse : Int} {s : List Int}
/-- A plan that may be, and is as wide as can be told. -/
structure aJ6 (p : Plan) : Prop where
  r : R5 p = true
  f : aW2 p
  u1 : n9 .u64 p.Up
  u2 : n9 .u64 p.Sup
theorem bG1 (hf:N6 m) (hr:w5 m=true) (h:m.HasPlan=true):aJ6 m.Plan:=by
 simp only[w5,Bool.and_eq_true,az4,h,cond_true] at hr
 exact⟨hr.2.2,hf.pl,hf.sh.up,hf.sh.sup⟩
theorem bD8 (e b:Int) (he:n9 .i64 e) (hb:n9 .i64 b) (kd:Int) (hk:kd=5∨kd=8) {p:Plan} (h:aJ6 p):ar2 ⟨kd,0,0,e,b,0,0,0,0,0,true,p,[],[],[]⟩:=by
 refine⟨⟨⟨h.f.s,h.u1,h.u2⟩,h.f,?_,by simp,fun x hx=>by simp at hx,fun x hx=>by simp at hx,fun x hx=>by simp at hx⟩,?_⟩
 ·intro x hx
  simp only[List.mem_cons,List.not_mem_nil,or_false] at hx
  rcases hx with rfl | rfl | rfl | rfl | rfl<;>first | assumption | exact K2.2 (by decide)
 ·simp only[w5,Bool.and_eq_true,decide_eq_true_eq,az4,cond_true,h.r,and_true]
  exact⟨by unfold hdM;simp only;omega,by unfold txM;simp⟩
theorem cq9 (hf:N6 m) (hr:w5 m=true):ar2 (L3 m):=by
 have h0:R5 n8=true∨True:=.inr trivial
 have hd:hdM m:=by simp only[w5,Bool.and_eq_true,decide_eq_true_eq] at hr;exact hr.1
 unfold hdM at hd
 refine⟨⟨⟨⟨by simp[L3,n8],by simp[L3,n8]⟩,H9.2 (by simp[L3,n8]),H9.2 (by simp[L3,n8])⟩,⟨K2.2 (by simp[L3,n8]),by simp[L3,n8],by simp[L3,n8],⟨by simp[L3,n8],by simp[L3,n8]⟩⟩,?_,by simp[L3],fun x hx=>by simp[L3] at hx,fun x hx=>by simp[L3] at hx,fun x hx=>by simp[L3] at hx⟩,?_⟩
 ·intro x hx
  have he:n9 .i64 m.Epoch:=hf.w _ (by simp)
  simp only[L3,List.mem_cons,List.not_mem_nil,or_false] at hx
  rcases hx with rfl | rfl | rfl | rfl | rfl
  ·split
   ·exact he
   ·exact K2.2 (by decide)
  all_goals exact K2.2 (by decide)
 ·simp only[w5,Bool.and_eq_true,decide_eq_true_eq,az4,L3,cond_false]
  refine⟨?_,?_,by rw[bR3]⟩
  ·unfold hdM;simp;omega
  ·unfold txM;simp
theorem by3 (hf:N6 m):n9 .i64 m.Epoch:=hf.w _ (by simp)
theorem bo2 (hf:N6 m):n9 .i64 m.Ballot:=hf.w _ (by simp)
theorem bH0 (a b:Int):(z0 a b<1)↔a<1∨b<1:=by unfold z0;split<;>omega
theorem cQ8 (hf:N6 m) (hr:w5 m=true) (hk:aJ6 k.known) (hfu:J2 fuse) (hs:s.length≤10000000):
  Z6 m d9 k c d8 fuse false s []=some (H8 k fuse s (aO0 c d8 k m d9)):=by
 have he:=by3 hf
 have hb:=bo2 hf
 have p1t:∀p,A6 m d9 k c d8 fuse false s [] true p=some (H8 k fuse s (.say [] ⟨k.epoch,k.known,k.promised,k.accepted,k.plan,k.writes,C9 k.wish m.Epoch,d9,k.lead⟩)):=fun p=>by
  simp[A6,H8]
 have note:∀p,aJ6 p→(r5 (av7 m p) k c d8 fuse false s []).bind (fun y2=>(bif (!y2.1) then (some ([],y2.2.1,y2.2.2.1,y2.2.2.2.1,y2.2.2.2.2.1,y2.2.2.2.2.2)) else ((r8 m 5 y2.2.1 c d8 y2.2.2.1 y2.2.2.2.1 y2.2.2.2.2.1 y2.2.2.2.2.2).bind fun y4=>(some ([(⟨y4.Kind,y4.From,y4.To,y4.Epoch,m.Ballot,y2.2.1.accepted,y4.Nonce,y4.Time,y4.Up,y4.Code,((y2.2.1.accepted:Int) !=0),y2.2.1.plan,y4.ID,y4.Session,y4.Payload⟩:i5)],y2.2.1,y2.2.2.1,y2.2.2.2.1,y2.2.2.2.2.1,y2.2.2.2.2.2)))))=some (H8 k fuse s (.note (av7 m p) (fun k1=> [br1 d8 m k1]) id)):=fun p hp=>by
  have hrem:=aW3 (k:=k) (c:=c) (d8:=d8) (bD8 m.Epoch m.Ballot he hb 5 (.inl rfl) hp) hfu hs
  simp only[av7,hrem,Option.bind_some,H8]
  cases Z4 fuse false with
  | none=>simp
  | some f=>cases h9_:Z4 f false with
   | none=>simp[h9_]
   | some g=>simp[h9_,r8,br1]
 have p1f:m.HasPlan=true→A6 m d9 k c d8 fuse false s [] false m.Plan=some (H8 k fuse s (.note (av7 m m.Plan) (fun k1=> [br1 d8 m k1]) id)):=fun hh=>by
  have:=note m.Plan (bG1 hf hr hh)
  simp only[A6,cond_false]
  exact this
 unfold Z6 aO0
 by_cases h1:z0 m.Epoch m.Ballot<1
 ·simp[h1,D5,H8]
 ·by_cases h2:m.HasPlan=true
  ·by_cases h3:m.Plan.Epoch=IntKind.i64.wrap (m.Epoch-1)
   ·have e3:((m.Plan.Epoch:Int) !=IntKind.i64.wrap (m.Epoch-1))=false:=by simpa using h3
    rw[if_neg (by simp[h1,h2,h3])]
    simp only[h1,decide_false,cond_false,h2,Bool.not_true,e3,D5]
    by_cases h4:m.Epoch<k.epoch
    ·simp[h4,P5,r8,H8,cb9]
    ·by_cases h5:k.epoch<m.Epoch
     ·have e5:decide (m.Epoch>k.epoch)=true:=decide_eq_true h5
      simp only[h4,decide_false,cond_false,e5,cond_true,if_false,h5,if_true]
      by_cases h6:k.writes.low=0
      ·simp only[h6,bne_self_eq_false,cond_false,ne_eq,not_true_eq_false,false_and,if_false]
       exact p1f h2
      ·have e6:((k.writes.low:Int) !=0)=true:=bne_iff_ne.2 h6
       simp only[e6,cond_true]
       by_cases h7:k.writes.low<m.Epoch
       ·have ee:X0 k.writes.at_ d9 k c d8 fuse false s []=some (ap7 c k.writes.at_ d9):=rfl
        simp only[h7,decide_true,cond_true,ee,Option.bind_some]
        cases h8:ap7 c k.writes.at_ d9 with
        | false=>
         simp only[cond_false,h6,ne_eq,not_false_eq_true,Bool.false_eq_true,false_and,and_false,if_false]
         exact p1f h2
        | true=>
         simp only[cond_true]
         by_cases h9:m.Code=1
         ·simp only[h9,bne_self_eq_false,ne_eq,not_true_eq_false,and_false,if_false]
          exact p1f h2
         ·have e9:((m.Code:Int) !=1)=true:=bne_iff_ne.2 h9
          simp only[e9,p1t,ne_eq,h6,not_false_eq_true,h9,and_self,if_true]
       ·simp only[h7,decide_false,cond_false,false_and,and_false,if_false]
        exact p1f h2
     ·have e5:decide (m.Epoch>k.epoch)=false:=decide_eq_false h5
      simp only[h4,decide_false,cond_false,e5,if_false,h5]
      by_cases h6:m.Ballot≤k.promised
      ·simp[h6,aa5,r8,H8,bJ1,n8]
      ·simp only[h6,decide_false,cond_false,if_false]
       exact note k.known hk
   ·have e3:((m.Plan.Epoch:Int) !=IntKind.i64.wrap (m.Epoch-1))=true:=bne_iff_ne.2 h3
    simp[h1,h2,e3,h3,D5,H8]
  ·simp only[Bool.not_eq_true] at h2
   simp[h1,h2,D5,H8]
theorem cp1 (hf:N6 m) (hr:w5 m=true) (hfu:J2 fuse) (hs:s.length≤10000000):
  ab1 m d9 k c d8 fuse false s []=some (H8 k fuse s (be0 c d8 k m d9)):=by
 have he:=by3 hf
 have hb:=bo2 hf
 have a1t:H6 m d9 k c d8 fuse false s [] true=some (H8 k fuse s (.say [] k)):=by simp[H6,H8]
 have a1f:m.HasPlan=true→H6 m d9 k c d8 fuse false s [] false=some (H8 k fuse s (.note (bN6 m) (fun _=> [cs1 d8 m]) id)):=fun hh=>by
  have:=aW3 (k:=k) (c:=c) (d8:=d8) (bD8 m.Epoch m.Ballot he hb 8 (.inr rfl) (bG1 hf hr hh)) hfu hs
  simp only[H6,cond_false,this,Option.bind_some,H8,bN6]
  cases Z4 fuse false with
  | none=>simp
  | some f=>cases h9_:Z4 f false with
   | none=>simp[h9_]
   | some g=>simp[h9_,r8,cs1,n8]
 unfold ab1 be0
 by_cases h1:z0 m.Epoch m.Ballot<1
 ·simp[h1,A4,H8]
 ·by_cases h2:m.HasPlan=true
  ·by_cases h3:m.Plan.Epoch=m.Epoch
   ·have e3:((m.Plan.Epoch:Int) !=m.Epoch)=false:=by simpa using h3
    by_cases h4:k.epoch<m.Epoch
    ·have e4:decide (m.Epoch>k.epoch)=true:=decide_eq_true h4
     simp[h1,h2,e3,h3,h4,A4,H8]
    ·have e4:decide (m.Epoch>k.epoch)=false:=decide_eq_false h4
     rw[if_neg (by simp[h1,h2,h3];omega)]
     simp only[h1,decide_false,cond_false,h2,Bool.not_true,e3,e4,A4]
     by_cases h5:m.Epoch<k.epoch
     ·simp[h5,P5,r8,H8,cb9]
     ·simp only[h5,decide_false,cond_false,if_false]
      by_cases h6:m.Ballot<k.promised
      ·simp[h6,aa5,r8,H8,bJ1,n8]
      ·simp only[h6,decide_false,cond_false,if_false]
       by_cases h7:k.promised<m.Ballot
       ·have e7:decide (m.Ballot>k.promised)=true:=decide_eq_true h7
        rw[if_pos (.inl h7)];simp only[e7,cond_true,a1t]
       ·have e7:decide (m.Ballot>k.promised)=false:=decide_eq_false h7
        simp only[e7,cond_false]
        by_cases h8:c.S_<IntKind.i64.wrap (m.Plan.Stamp-d9)
        ·have e8:decide (IntKind.i64.wrap (m.Plan.Stamp-d9)>c.S_)=true:=decide_eq_true h8
         rw[if_pos (.inr h8)];simp only[e8,a1t]
        ·have e8:decide (IntKind.i64.wrap (m.Plan.Stamp-d9)>c.S_)=false:=decide_eq_false h8
         rw[if_neg (by simp only[not_or];exact⟨h7,h8⟩)];simp only[e8]
         exact a1f h2
   ·have e3:((m.Plan.Epoch:Int) !=m.Epoch)=true:=bne_iff_ne.2 h3
    simp[h1,h2,e3,h3,A4,H8]
  ·simp only[Bool.not_eq_true] at h2
   simp[h1,h2,A4,H8]
theorem da3 (hf:N6 m) (hr:w5 m=true) (hfu:J2 fuse) (hs:s.length≤10000000):
  af5 m d9 k c d8 fuse false s []=some (H8 k fuse s (grA c d8 k m d9)):=by
 have hrec:=cq9 hf hr
 have hrem:=aW3 (k:=k) (c:=c) (d8:=d8) hrec hfu hs
 have g1t:∀k2 f2 d2 s2 t2,E0 m d9 k c d8 fuse false s [] true k2 f2 d2 s2 t2=some ([],k2,f2,d2,s2,t2):=fun _ _ _ _ _=>by simp[E0]
 have g1f:∀k2 f2 d2 s2 t2,E0 m d9 k c d8 fuse false s [] false k2 f2 d2 s2 t2=some ([H1 d8 m],atW d9 k2,f2,d2,s2,t2):=fun _ _ _ _ _=>by simp[E0,r8,H1,atW,n8]
 have g3t:∀k2 f2 d2 s2 t2,B6 m d9 k c d8 fuse false s [] true k2 f2 d2 s2 t2=some ([],k2,f2,d2,s2,t2):=fun _ _ _ _ _=>by simp[B6]
 have g3f:∀k2 f2 d2 s2 t2,B6 m d9 k c d8 fuse false s [] false k2 f2 d2 s2 t2=some ([H1 d8 m],toL m.From d9 k2,f2,d2,s2,t2):=fun _ _ _ _ _=>by simp[B6,r8,H1,toL,n8]
 unfold af5 grA
 by_cases h1:m.Code=1
 ·have hrr:L3 m=⟨11,m.From,0,m.Epoch,0,0,0,0,0,m.Code,false,n8,[],[],[]⟩:=by simp[L3,h1]
  have e1:((m.Code:Int)==1)=true:=by simpa using h1
  rw[hrr] at hrem
  have g2:∀w,P6 m d9 k c d8 fuse false s [] w (⟨11,m.From,0,m.Epoch,0,0,0,0,0,m.Code,false,n8,[],[],[]⟩:i5)=some (H8 k fuse s (if m.Epoch<C9 k.epoch 1∨w=true then .say [] k else if bg7 k.writes m.Epoch then .say [H1 d8 m] (atW d9 k) else .note (L3 m) (fun _=> [H1 d8 m]) (atW d9))):=fun w=>by
   unfold P6
   by_cases h2:m.Epoch<C9 k.epoch 1
   ·simp[h2,g1t,H8]
   ·cases w with
    | true=>simp[h2,g1t,H8]
    | false=>
     by_cases h3:bg7 k.writes m.Epoch
     ·simp[h2,h3,cB8,g1f,H8]
     ·simp only[h2,decide_false,cond_false,cB8,h3,Option.bind_some,Bool.not_false,cond_true,hrem,Bool.false_eq_true,or_self,if_false,H8,hrr]
      cases Z4 fuse false with
      | none=>simp[g1t]
      | some f=>cases h9_:Z4 f false with
       | none=>simp[h9_,g1t]
       | some g=>simp[h9_,g1f]
  simp only[e1,cond_true,Q1,if_pos h1]
  have zz:(⟨0,0,0,0,0,0,0,0,0,0,[],[]⟩:Plan)=n8:=rfl
  rw[zz,g2,g2]
  by_cases h4:m.Epoch<k.wish
  ·simp[h4,cp5]
  ·simp[h4,cp5]
 ·have hrr:L3 m=⟨11,m.From,0,0,0,0,0,0,0,m.Code,false,n8,[],[],[]⟩:=by simp[L3,h1]
  have e1:((m.Code:Int)==1)=false:=by simpa using h1
  have zz:(⟨0,0,0,0,0,0,0,0,0,0,[],[]⟩:Plan)=n8:=rfl
  rw[hrr] at hrem
  simp only[e1,cond_false,Q1,if_neg h1,zz]
  by_cases h2:m.Code=2
  ·have e2:((m.Code:Int)==2)=true:=by simpa using h2
   have g4:∀own,Q0 m d9 k c d8 fuse false s [] own (⟨11,m.From,0,0,0,0,0,0,0,m.Code,false,n8,[],[],[]⟩:i5)=some (H8 k fuse s (if own=true then .say [H1 d8 m] (toL m.From d9 k) else if k.lead.is_=true∧ap7 c k.lead.at_ d9=true then .say [] k else .note (L3 m) (fun _=> [H1 d8 m]) (toL m.From d9))):=fun own=>by
    unfold Q0
    cases own with
    | true=>simp[g3f,H8]
    | false=>
     have ee:X0 k.lead.at_ d9 k c d8 fuse false s []=some (ap7 c k.lead.at_ d9):=rfl
     have note:(r5 (⟨11,m.From,0,0,0,0,0,0,0,m.Code,false,n8,[],[],[]⟩:i5) k c d8 fuse false s []).bind (fun y5=>(B6 m d9 k c d8 fuse false s [] (!y5.1) y5.2.1 y5.2.2.1 y5.2.2.2.1 y5.2.2.2.2.1 y5.2.2.2.2.2))=some (H8 k fuse s (.note (L3 m) (fun _=> [H1 d8 m]) (toL m.From d9))):=by
      simp only[hrem,Option.bind_some,H8,hrr]
      cases Z4 fuse false with
      | none=>simp[g3t]
      | some f=>cases h9_:Z4 f false with
       | none=>simp[h9_,g3t]
       | some g=>simp[h9_,g3f]
     simp only[Bool.not_false,cond_true,Bool.false_eq_true,if_false]
     cases h3:k.lead.is_ with
     | true=>
      simp only[cond_true,ee,Option.bind_some,true_and]
      cases h4:ap7 c k.lead.at_ d9 with
      | true=>simp[g3t,H8]
      | false=>simp only[cond_false,Bool.false_eq_true,if_false];exact note
     | false=>simp only[cond_false,Bool.false_eq_true,false_and,if_false];exact note
   simp only[e2,cond_true,if_pos h2,g4]
   cases h3:k.lead.is_ with
   | true=>simp
   | false=>simp
  ·have e2:((m.Code:Int)==2)=false:=by simpa using h2
   simp only[e2,cond_false,if_neg h2,H8]
def hval (m:i5) (d9:Int):Prop:=w5 m=true∧0≤d9∧d9≤1099511627776
theorem cr7 {t:List Int}{d:Bool} (hf:N6 m) (h:d=true∨¬hval m d9):p5 m d9 k c d8 fuse d s t=some ([],k,fuse,d,s,t):=by
 have h1:E8 m d9 k c d8 fuse d s t true=some ([],k,fuse,d,s,t):=by simp[E8]
 simp only[p5,aJ1 hf.sh,Option.bind_some]
 cases hr:w5 m with
 | false=>simp[h1]
 | true=>
  simp only[Bool.not_true,cond_false]
  by_cases a:d9<0
  ·simp[a,h1]
  ·by_cases b:d9>1099511627776
   ·simp[a,b,h1]
   ·have:d=true:=h.resolve_right fun hh=>hh ⟨hr,by omega,by omega⟩
    subst this
    simp[a,b,ap6,h1]
theorem cB5 (hf:N6 m) (h:hval m d9) (hk:aJ6 k.known) (hfu:J2 fuse) (hs:s.length≤10000000):p5 m d9 k c d8 fuse false s []=some (H8 k fuse s (act c d8 k m d9)):=by
 obtain⟨hr,h1,h2⟩:=h
 have a:decide (d9<0)=false:=decide_eq_false (by omega)
 have b:decide (d9>1099511627776)=false:=decide_eq_false (by omega)
 simp only[p5,aJ1 hf.sh,Option.bind_some,hr,Bool.not_true,cond_false,a,b,ap6,E8,act]
 by_cases h4:m.Kind=4
 ·simp[h4,cQ8 hf hr hk hfu hs]
 ·by_cases h7:m.Kind=7
  ·simp[h7,cp1 hf hr hfu hs]
  ·by_cases h10:m.Kind=10
   ·simp[h10,da3 hf hr hfu hs]
   ·simp[h4,h7,h10,H8,bp9 h4,bp9 h7,bp9 h10]
end
theorem cE2 (l:List Int) (lo hi:Int) (hl:l.length<9223372036854775807):∀(j k:Nat),k+j=l.length→∃r:Int,Ev u5 (.s1 l lo hi l.length k) r∧decide (r≥0)= !(I9 lo hi (l.drop k)):=by
 intro j
 induction j with
 | zero=>
  intro k hk
  refine⟨-1,.done ?_,?_⟩
  ·simp[u5,x4,show ¬(k:Int)<l.length by omega]
  ·rw[List.drop_eq_nil_of_le (by omega)];rfl
 | succ j ih=>
  intro k hk
  have hlt:k<l.length:=by omega
  rw[List.drop_eq_getElem_cons hlt,be2]
  by_cases h:lo≤l[k]∧l[k]≤hi
  ·obtain⟨r,h1,h2⟩:=ih (k+1) (by omega)
   refine⟨r,.next (s' :=.s1 l lo hi l.length ((k+1:Nat):Int)) ?_ h1,?_⟩
   ·have e1:decide (l[k]<lo)=false:=by simp;omega
    have e2:decide (l[k]>hi)=false:=by simp;omega
    simp only[u5,x4,List.length_map,M6 hlt,V3,Bool.and_self,cond_true,Int.toNat_natCast,List.getE hlt,Option.bind_some,ae6,e1,e2,cond_false,wS (show k<9223372036854775807 by omega)]
   ·rw[h2,decide_eq_true h,Bool.true_and]
  ·refine⟨k,.done ?_,?_⟩
   ·have e:ae6 l[k] lo hi=some true:=by
     unfold ae6
     by_cases h1:l[k]<lo
     ·rw[decide_eq_true h1];rfl
     ·have h2:l[k]>hi:=by omega
      rw[decide_eq_false h1,decide_eq_true h2];rfl
    simp only[u5,x4,List.length_map,M6 hlt,V3,Bool.and_self,cond_true,Int.toNat_natCast,List.getE hlt,Option.bind_some,e]
   ·rw[decide_eq_false h,Bool.false_and];simp
theorem cN9 (lo hi:Int) {l:List Int} (hl:l.length<9223372036854775807):C5 lo hi l=some (I9 lo hi l):=by
 obtain⟨r,h1,h2⟩:=cE2 l lo hi hl l.length 0 (by omega)
 have h3:N9 l lo hi=some r:=D7 (.next (s' :=.s1 l lo hi l.length 0) (by simp[u5,G0]) h1)
 simp only[C5,F7,h3,Option.bind_some,h2]
 simp
theorem cj5 (l:List Int) (lo hi:Int) (hl:l.length<9223372036854775807):∀(j k:Nat),k+j=l.length→∃r:Int,Ev r7 (.s1 l lo hi l.length k) r∧decide (r≥0)= !(I9 lo hi (l.drop k)):=by
 intro j
 induction j with
 | zero=>
  intro k hk
  refine⟨-1,.done ?_,?_⟩
  ·simp[r7,u6,show ¬(k:Int)<l.length by omega]
  ·rw[List.drop_eq_nil_of_le (by omega)];rfl
 | succ j ih=>
  intro k hk
  have hlt:k<l.length:=by omega
  rw[List.drop_eq_getElem_cons hlt,be2]
  by_cases h:lo≤l[k]∧l[k]≤hi
  ·obtain⟨r,h1,h2⟩:=ih (k+1) (by omega)
   refine⟨r,.next (s' :=.s1 l lo hi l.length ((k+1:Nat):Int)) ?_ h1,?_⟩
   ·have e1:decide (l[k]<lo)=false:=by simp;omega
    have e2:decide (l[k]>hi)=false:=by simp;omega
    simp only[r7,u6,List.length_map,M6 hlt,V3,Bool.and_self,cond_true,Int.toNat_natCast,List.getE hlt,Option.bind_some,T5,e1,e2,cond_false,wS (show k<9223372036854775807 by omega)]
   ·rw[h2,decide_eq_true h,Bool.true_and]
  ·refine⟨k,.done ?_,?_⟩
   ·have e:T5 l[k] lo hi=some true:=by
     unfold T5
     by_cases h1:l[k]<lo
     ·rw[decide_eq_true h1];rfl
     ·have h2:l[k]>hi:=by omega
      rw[decide_eq_false h1,decide_eq_true h2];rfl
    simp only[r7,u6,List.length_map,M6 hlt,V3,Bool.and_self,cond_true,Int.toNat_natCast,List.getE hlt,Option.bind_some,e]
   ·rw[decide_eq_false h,Bool.false_and];simp
theorem cp9 (lo hi:Int) {l:List Int} (hl:l.length<9223372036854775807):U2 lo hi l=some (I9 lo hi l):=by
 obtain⟨r,h1,h2⟩:=cj5 l lo hi hl l.length 0 (by omega)
 have h3:M1 l lo hi=some r:=D7 (.next (s' :=.s1 l lo hi l.length 0) (by simp[r7,E4]) h1)
 simp only[U2,D8,h3,Option.bind_some,h2]
 simp
def ao3 (c:f0):Bool:=
 I9 0 3 [c.F_]&&(I9 1 4 [c.Deciders,c.Routers]&&(I9 1 16 [c.Targets]&&(I9 1 7 [c.Observers]&&(decide ((c.Tiers.length:Int)=c.Targets)&&(I9 0 15 c.Tiers&&
 (I9 1 1048576 [c.Every,c.Wait,c.Fresh,c.L_,c.Dwell,c.D_,c.W_,c.Half,c.StepTime,c.S_,c.Span,c.Retry]&&(I9 0 1048576 [c.M_]&&(I9 1 100 [c.Rise,c.Fall,c.First,c.Step]&&(I9 1 8 [c.B_]&&(I9 0 1000000 [c.Hit]&&(I9 1 1000000 [c.Suppress]&&
 (I9 0 (IntKind.i64.wrap (c.Suppress-1)) [c.Reuse]&&(I9 1 1000 [c.Cap]&&(I9 1 64 [c.Room]&&I9 1 20 [c.Tries]))))))))))))))
theorem cS5 (x y:Bool):(bif x then some y else some false)=some (x&&y):=by cases x<;>rfl
theorem bx1 {c:f0} (h:c.Tiers.length<9223372036854775807):ae8 c=some (ao3 c):=by
 have a:∀lo hi (l:List Int),l.length<9223372036854775807→C5 lo hi l=some (I9 lo hi l):=fun lo hi l h=>cN9 lo hi h
 have a2:∀lo hi (l:List Int),l.length<9223372036854775807→U2 lo hi l=some (I9 lo hi l):=fun lo hi l h=>cp9 lo hi h
 unfold ae8 ao3
 rw[a 0 3 _ (by simp),a 1 4 _ (by simp),a 1 16 _ (by simp),a 1 7 _ (by simp),a 0 15 _ h,a2 1 1048576 _ (by simp),a2 0 1048576 _ (by simp),a 1 100 _ (by simp),a 1 8 _ (by simp),a 0 1000000 _ (by simp),a 1 1000000 _ (by simp),a 0 _ _ (by simp),a 1 1000 _ (by simp),a 1 64 _ (by simp),a 1 20 _ (by simp)]
 simp only[Option.bind_some,cS5,List.length_map]
 congr 1
theorem cb8 {c:f0} (h:ao3 c=true):(1≤c.Targets∧c.Targets≤16)∧(1≤c.L_∧c.L_≤1048576)∧(0≤c.M_∧c.M_≤1048576)∧(1≤c.S_∧c.S_≤1048576):=by
 simp only[ao3,Bool.and_eq_true,aZ7,List.mem_cons,List.not_mem_nil,or_false,forall_eq_or_imp,forall_eq] at h
 obtain⟨-,-,h3,-,-,-,h7,h8,-⟩:=h
 omega
theorem bI2 {c:f0} (ht:c.Tiers.length<9223372036854775807) (h:ao3 c=true):at2 c=some ⟨0,-1,-1,-1,0,0,0,0,0,0,List.replicate c.Targets.toNat 0,[]⟩:=by
 obtain⟨⟨h1,h2⟩,-⟩:=cb8 h
 have e:(decide ((0:Int)≤c.Targets)&&(decide ((c.Targets:Int)≤c.Targets)&&(decide ((c.Targets:Int)≤9223372036854775807)&&decide (c.Targets.toNat*8≤n4))))=true:=by
  have l:decide (c.Targets.toNat*8≤n4)=true:=P2 (by omega)
  simp only[l,Bool.and_eq_true,decide_eq_true_eq]
  exact⟨by omega,Int.le_refl _,by omega,trivial⟩
 simp only[at2,bx1 ht,h,Option.bind_some,Bool.not_true,cond_false,e,cond_true]
def v8 (c:f0):i0:=⟨0,⟨0,-1,-1,-1,0,0,0,0,0,0,List.replicate c.Targets.toNat 0,[]⟩,0,0,n8,⟨0,0,0⟩,0,0,⟨false,-1,0⟩⟩
def Z5 (c:f0) (rs:List i5):i0:=rs.foldl C7 (v8 c)
theorem aA9 (c:f0) (rs:List i5) (m:i5):Z5 c (rs++ [m])=C7 (Z5 c rs) m:=by simp[Z5]
def cH7 (d9:Int) (k:i0):i0:=⟨k.epoch,k.known,k.promised,k.accepted,k.plan,⟨k.writes.low,k.writes.high,d9⟩,k.wish,k.wishAt,⟨k.lead.is_,k.lead.who,d9⟩⟩
/-- What records tell, and what is had. -/
structure z3 (k r : i0) : Prop where
  epoch : k.epoch = r.epoch
  known : k.known = r.known
  promised : k.promised = r.promised
  accepted : k.accepted = r.accepted
  plan : k.plan = r.plan
  low : k.writes.low = r.writes.low
  high : k.writes.high = r.writes.high
  is_ : k.lead.is_ = r.lead.is_
theorem z3.refl (k:i0):z3 k k:=⟨rfl,rfl,rfl,rfl,rfl,rfl,rfl,rfl⟩
theorem z3.trans {a b c:i0} (h:z3 a b) (g:z3 b c):z3 a c:=⟨h.1.trans g.1,h.2.trans g.2,h.3.trans g.3,h.4.trans g.4,h.5.trans g.5,h.6.trans g.6,h.7.trans g.7,h.8.trans g.8⟩
theorem z3.take {k r:i0} (h:z3 k r) (m:i5):z3 (C7 k m) (C7 r m):=by
 obtain⟨h1,h2,h3,h4,h5,h6,h7,h8⟩:=h
 unfold C7
 split
 ·rw[h1]
  split
  ·exact⟨rfl,rfl,rfl,h4,h5,h6,h7,h8⟩
  ·refine⟨rfl,rfl,rfl,rfl,rfl,?_,?_,h8⟩<;>(unfold bH5;rw[h7];split<;>simp[h6])
 ·split
  ·exact⟨h1,h2,rfl,rfl,rfl,h6,h7,h8⟩
  ·split
   ·split
    ·exact⟨h1,h2,h3,h4,h5,h6,h7,rfl⟩
    ·refine⟨h1,h2,h3,h4,h5,?_,?_,h8⟩<;>(unfold bF1;rw[h6];split<;>simp[h7])
   ·exact⟨h1,h2,h3,h4,h5,h6,h7,h8⟩
def bC0 (k:i0) (m:i5):Prop:=
 (m.Kind=5∧1≤m.Ballot∧1≤m.Epoch∧aJ6 m.Plan∧(k.epoch<m.Epoch∨(m.Epoch=k.epoch∧k.promised<m.Ballot∧m.Plan=k.known)))∨
 (m.Kind=8∧aJ6 m.Plan∧m.Epoch=k.epoch∧m.Ballot=k.promised∧m.Plan.Epoch=k.epoch∧1≤m.Ballot)∨
 (m.Kind=11∧((m.Code=1∧k.epoch≤m.Epoch∧1≤m.Epoch)∨m.Code=2))
structure KOk (k:i0):Prop where
 known:aJ6 k.known
 plan:aJ6 k.plan
 e0:0≤k.epoch
 p0:0≤k.promised
 a0:0≤k.accepted
 ap:k.accepted≤k.promised
 pe:k.accepted≠0→k.plan.Epoch=k.epoch
 lo:0≤k.writes.low
 lh:k.writes.low≤k.writes.high
 le:k.writes.low≠0→k.epoch≤k.writes.low
theorem ce4:aJ6 n8:=⟨by decide,⟨K2.2 (by decide),by decide,by decide,⟨by decide,by decide⟩⟩,H9.2 (by decide),H9.2 (by decide)⟩
theorem bC0.sim {k r:i0} (h:z3 k r) {m:i5} (hm:bC0 k m):bC0 r m:=by
 unfold bC0 at*
 rw[←h.epoch,←h.promised,←h.known];exact hm
theorem KOk.take {k:i0} (h:KOk k) {m:i5} (hm:bC0 k m):KOk (C7 k m):=by
 obtain⟨h1,h2,h3,h4,h5,h6,h7,h8,h9,h10⟩:=h
 rcases hm with⟨a1,a2,a3,a4,a5⟩ | ⟨a1,a2,a3,a4,a5,a6⟩ | ⟨a1,a2⟩
 ·unfold C7
  rw[if_pos a1]
  split
  ·rename_i he
   have:k.promised<m.Ballot:=by rcases a5 with h | h;omega;exact h.2.1
   exact⟨a4,h2,by simp;omega,by simp;omega,h5,by simp;omega,fun hh=>by simp[he];exact h7 hh,h8,h9,fun hh=>by simp[he];exact h10 hh⟩
  ·rename_i he
   have hlt:k.epoch<m.Epoch:=by rcases a5 with h | h;exact h;exact absurd h.1 he
   refine⟨a4,ce4,by simp;omega,by simp;omega,by simp,by simp;omega,fun hh=>absurd rfl hh,?_,?_,?_⟩<;>simp only[bH5]<;>split<;>simp only[C9]<;>(try split)<;>simp_all<;>omega
 ·unfold C7
  rw[if_neg (by omega),if_pos a1]
  exact⟨h1,a2,h3,by simp;omega,by simp;omega,by simp,fun _=>a5,h8,h9,h10⟩
 ·unfold C7
  rw[if_neg (by omega),if_neg (by omega),if_pos a1]
  split
  ·exact⟨h1,h2,h3,h4,h5,h6,h7,h8,h9,h10⟩
  ·rename_i hc
   obtain⟨-,b2,b3⟩:=a2.resolve_right hc
   refine⟨h1,h2,h3,h4,h5,h6,h7,?_,?_,?_⟩<;>simp only[bF1]<;>split<;>simp only[z0,C9]<;>(try split)<;>(try split)<;>simp_all<;>omega
/-- The abstract state: records on the disk; one that is not synced; what is had; is it down? -/
structure AS where
  rs : List i5
  pend : Option i5
  k : i0
  down : Bool
structure db5 (c:f0) (a:AS):Prop where
 k0:aJ6 (v8 c).known
 r:KOk (Z5 c a.rs)
 up:a.down=false→z3 a.k (Z5 c a.rs)
 pd:∀m,a.pend=some m→ar2 m∧bC0 (Z5 c a.rs) m
 pn:a.down=false→a.pend=none
/-- What is on a disk, and not. -/
structure Rep (c : f0) (a : AS) (fuse : Int) (s t : List Int) (n : Nat) : Prop where
  ok : db5 c a
  fu : J2 fuse
  dk : ∃ J, aS5 a.rs J s ∧ (a.down = false → J = []) ∧ (a.pend ≠ none → J = [])
  tl : t = (match a.pend with | some m => log [m] | none => [])
  len : s.length + t.length ≤ n
inductive aM3 (c:f0) (d8:Int) (a:AS) (m:i5) (d9:Int):List i5→AS→Prop
 | off:(a.down=true∨¬hval m d9)→aM3 c d8 a m d9 [] a
 | say {m9:List i5}{k' :i0}:a.down=false→hval m d9→act c d8 a.k m d9=.say m9 k' →aM3 c d8 a m d9 m9 ⟨a.rs,none,k',false⟩
 | lost {r:i5}{m9:i0→List i5}{post:i0→i0} (p:Option i5):a.down=false→hval m d9→act c d8 a.k m d9=.note r m9 post→(p=none∨p=some r)→aM3 c d8 a m d9 [] ⟨a.rs,p,a.k,true⟩
 | kept {r:i5}{m9:i0→List i5}{post:i0→i0}:a.down=false→hval m d9→act c d8 a.k m d9=.note r m9 post→aM3 c d8 a m d9 (m9 (C7 a.k r)) ⟨a.rs++ [r],none,post (C7 a.k r),false⟩
theorem z3.kok {k r:i0} (h:z3 k r) (hk:KOk r):KOk k:=by
 obtain⟨h1,h2,h3,h4,h5,h6,h7,h8⟩:=h
 obtain⟨a1,a2,a3,a4,a5,a6,a7,a8,a9,a10⟩:=hk
 exact⟨h2▸a1,h5▸a2,h1▸a3,h3▸a4,h4▸a5,by rw[h4,h3];exact a6,by rw[h4,h5,h1];exact a7,h6▸a8,by rw[h6,h7];exact a9,by rw[h6,h1];exact a10⟩
theorem cI4 {c:f0}{d8:Int}{k:i0}{m:i5}{d9:Int} (hf:N6 m) (hr:w5 m=true) (hk:KOk k) {r:i5}{m9:i0→List i5}{post:i0→i0} (h:act c d8 k m d9=.note r m9 post):
  ar2 r∧bC0 k r∧z3 (post (C7 k r)) (C7 k r):=by
 have he:=by3 hf
 have hb:=bo2 hf
 unfold act at h
 split at h
 ·unfold aO0 at h
  split at h
  ·cases h
  ·rename_i h1
   simp only[not_or,bH0,Bool.not_eq_false] at h1
   have hp:=bG1 hf hr h1.2.1
   split at h
   ·cases h
   ·rename_i h2
    split at h
    ·rename_i h3
     split at h
     ·cases h
     ·simp only[Act.note.injEq] at h
      obtain⟨rfl,rfl,rfl⟩:=h
      exact⟨bD8 _ _ he hb 5 (.inl rfl) hp,.inl ⟨rfl,by simp[av7];omega,by simp[av7];omega,hp,.inl h3⟩,z3.refl _⟩
    ·rename_i h3
     split at h
     ·cases h
     ·rename_i h4
      simp only[Act.note.injEq] at h
      obtain⟨rfl,rfl,rfl⟩:=h
      exact⟨bD8 _ _ he hb 5 (.inl rfl) hk.known,.inl ⟨rfl,by simp[av7];omega,by simp[av7];omega,hk.known,.inr ⟨by simp[av7];omega,by simp[av7];omega,rfl⟩⟩,z3.refl _⟩
 ·split at h
  ·unfold be0 at h
   split at h
   ·cases h
   ·rename_i h1
    simp only[not_or,bH0,Bool.not_eq_false,ne_eq,Decidable.not_not] at h1
    have hp:=bG1 hf hr h1.2.1
    split at h
    ·cases h
    ·split at h
     ·cases h
     ·split at h
      ·cases h
      ·rename_i h2 h3 h4
       simp only[Act.note.injEq] at h
       obtain⟨rfl,rfl,rfl⟩:=h
       simp only[not_or] at h4
       refine⟨bD8 _ _ he hb 8 (.inr rfl) hp,.inr (.inl ⟨rfl,hp,?_,?_,?_,?_⟩),z3.refl _⟩<;>simp only[bN6]<;>omega
  ·split at h
   ·unfold grA at h
    split at h
    ·rename_i h1
     split at h
     ·cases h
     ·rename_i h2
      split at h
      ·cases h
      ·simp only[Act.note.injEq] at h
       obtain⟨rfl,rfl,rfl⟩:=h
       simp only[not_or,C9] at h2
       refine⟨cq9 hf hr,.inr (.inr ⟨rfl,.inl ⟨h1,?_,?_⟩⟩),⟨rfl,rfl,rfl,rfl,rfl,rfl,rfl,rfl⟩⟩<;>simp only[L3,if_pos h1]<;>split at h2<;>omega
    ·split at h
     ·rename_i h1 h2
      split at h
      ·cases h
      ·split at h
       ·cases h
       ·simp only[Act.note.injEq] at h
        obtain⟨rfl,rfl,rfl⟩:=h
        exact⟨cq9 hf hr,.inr (.inr ⟨rfl,.inr h2⟩),⟨rfl,rfl,rfl,rfl,rfl,rfl,rfl,by simp[toL,C7,L3,h2]⟩⟩
     ·cases h
   ·cases h
theorem cS0 {c:f0}{d8:Int}{k:i0}{m:i5}{d9:Int}{m9:List i5}{k' :i0} (h:act c d8 k m d9=.say m9 k'):z3 k' k:=by
 have key:∀{x y:List i5}{p q:i0},Act.say x p=Act.say y q→q=p:=fun h=>by cases h;rfl
 unfold act at h
 split at h
 ·unfold aO0 at h
  split at h
  ·rw[key h];exact z3.refl _
  ·split at h
   ·rw[key h];exact z3.refl _
   ·split at h
    ·split at h
     ·rw[key h];exact⟨rfl,rfl,rfl,rfl,rfl,rfl,rfl,rfl⟩
     ·cases h
    ·split at h
     ·rw[key h];exact z3.refl _
     ·cases h
 ·split at h
  ·unfold be0 at h
   split at h
   ·rw[key h];exact z3.refl _
   ·split at h
    ·rw[key h];exact z3.refl _
    ·split at h
     ·rw[key h];exact z3.refl _
     ·split at h
      ·rw[key h];exact z3.refl _
      ·cases h
  ·split at h
   ·unfold grA at h
    split at h
    ·split at h
     ·rw[key h];exact z3.refl _
     ·split at h
      ·rw[key h];exact⟨rfl,rfl,rfl,rfl,rfl,rfl,rfl,rfl⟩
      ·cases h
    ·split at h
     ·split at h
      ·rename_i h2
       rw[key h];exact⟨rfl,rfl,rfl,rfl,rfl,rfl,rfl,by simp[toL,h2.1]⟩
      ·split at h
       ·rw[key h];exact z3.refl _
       ·cases h
     ·rw[key h];exact z3.refl _
   ·rw[key h];exact z3.refl _
/-! ### the steps -/
section
variable {c : f0} {d8 : Int} {a : AS} {fuse : Int} {s t : List Int} {n : Nat}
theorem cd3 (h:ao3 c=true):KOk (v8 c):=by
 obtain⟨⟨h1,h2⟩,-⟩:=cb8 h
 have hpl:aJ6 (v8 c).known:=by
  refine⟨ac5.2 ⟨by simp[v8],?_,by simp[v8],?_,by simp[v8],by simp[v8],?_,by simp[v8],?_,by simp[v8],rfl⟩,⟨K2.2 (by simp[v8]),by simp[v8],by simp[v8],⟨?_,by simp[v8]⟩⟩,H9.2 (by simp[v8]),H9.2 (by simp[v8])⟩
  ·intro x hx;simp[v8] at hx;omega
  ·intro x hx;simp[v8] at hx;omega
  ·simp[v8];omega
  ·intro x hx;simp[v8] at hx;omega
  ·simp[v8];omega
 exact⟨hpl,ce4,by simp[v8],by simp[v8],by simp[v8],by simp[v8],fun h=>by simp[v8] at h,by simp[v8],by simp[v8],fun h=>by simp[v8] at h⟩
theorem cS9 (ht:c.Tiers.length<9223372036854775807):H3 c d8=some (if ao3 c=true∧0≤d8∧d8≤255 then .r1 (v8 c) (-1) false [] [] else .r0):=by
 simp only[H3,bx1 ht,Option.bind_some]
 cases h:ao3 c with
 | false=>simp[K1]
 | true=>
  have hz:=bI2 ht h
  by_cases h1:d8<0
  ·have:¬(0≤d8):=by omega
   simp[h1,K1,this]
  ·by_cases h2:d8>255
   ·have:¬(d8≤255):=by omega
    simp[h1,h2,K1,this]
   ·have h3:0≤d8∧d8≤255:=by omega
    simp[h1,h2,K1,aG0,P8,hz,h3,v8,n8]
def a0 (c:f0):AS:=⟨[],none,v8 c,false⟩
theorem bM5 (h:ao3 c=true):Rep c (a0 c) (-1) [] [] 0:=
 ⟨⟨(cd3 h).known,cd3 h,fun _=>z3.refl _,fun m hm=>(by cases hm),fun _=>rfl⟩,by unfold J2;omega,⟨[],aS5.nil,fun _=>rfl,fun _=>rfl⟩,rfl,by simp⟩
theorem cM1 {m:i5} (h:ar2 m):(log [m]).length≤4408:=by
 have h3:=bh7 h.1 h.2
 rw[aY2,aj0];omega
theorem ct0 {m:i5}{d9:Int} (h:Rep c a fuse s t n) (hf:N6 m) (hn:n≤9000000):
  ∃m9 a' fuse' s' t',p5 m d9 a.k c d8 fuse a.down s t=some (m9,a'.k,fuse',a'.down,s',t')∧Rep c a' fuse' s' t' (n+4408)∧aM3 c d8 a m d9 m9 a' :=by
 obtain⟨ok,fu,⟨J,dk,dj,dp⟩,tl,len⟩:=h
 by_cases hoff:a.down=true∨¬hval m d9
 ·exact⟨[],a,fuse,s,t,cr7 hf hoff,⟨ok,fu,⟨J,dk,dj,dp⟩,tl,by omega⟩,.off hoff⟩
 ·simp only[not_or,Bool.not_eq_true,Classical.not_not] at hoff
  obtain⟨hd,hv⟩:=hoff
  have hJ:=dj hd
  subst hJ
  have hp:=ok.pn hd
  have tl:t= []:=by rw[hp] at tl;exact tl
  subst tl
  have hsim:=ok.up hd
  have hk:=hsim.kok ok.r
  have hrun:=cB5 (c:=c) (d8:=d8) (k:=a.k) (fuse:=fuse) (s:=s) hf hv hk.known fu (by simp at len;omega)
  cases hact:act c d8 a.k m d9 with
  | say m9 k' =>
   rw[hact] at hrun
   refine⟨m9,⟨a.rs,none,k',false⟩,fuse,s,[],by rw[hd];exact hrun,⟨⟨ok.k0,ok.r,fun _=> ?_,fun m hm=>(by cases hm),fun _=>rfl⟩,fu,⟨[],dk,fun _=>rfl,fun _=>rfl⟩,rfl,by omega⟩,.say hd hv hact⟩
   exact(cS0 hact).trans hsim
  | note r m9 post=>
   obtain⟨hr,hfit,hpost⟩:=cI4 hf hv.1 hk hact
   have hfr:=hfit.sim hsim
   have hl:=cM1 hr
   rw[hact] at hrun
   simp only[H8] at hrun
   cases he:Z4 fuse false with
   | none=>
    rw[he] at hrun
    exact⟨[],⟨a.rs,none,a.k,true⟩,fd fuse false,s,[],by rw[hd];exact hrun,⟨⟨ok.k0,ok.r,fun h=>(by cases h),fun m hm=>(by cases hm),fun h=>(by cases h)⟩,bL3 fu,⟨[],dk,fun _=>rfl,fun _=>rfl⟩,rfl,by omega⟩,.lost none hd hv hact (.inl rfl)⟩
   | some f=>
    rw[he] at hrun
    have hf1:=bc7 fu he
    cases hg:Z4 f false with
    | none=>
     simp only[hg] at hrun
     refine⟨[],⟨a.rs,some r,a.k,true⟩,fd f false,s,log [r],by rw[hd];exact hrun,⟨⟨ok.k0,ok.r,fun h=>(by cases h),fun m hm=>(by cases hm;exact⟨hr,hfr⟩),fun h=>(by cases h)⟩,bL3 hf1,⟨[],dk,fun _=>rfl,fun _=>rfl⟩,rfl,?_⟩,.lost (some r) hd hv hact (.inr rfl)⟩
     simp at len ⊢;omega
    | some g=>
     simp only[hg] at hrun
     refine⟨m9 (C7 a.k r),⟨a.rs++ [r],none,post (C7 a.k r),false⟩,g,s++log [r],[],by rw[hd];exact hrun,⟨⟨ok.k0,?_,fun _=> ?_,fun m hm=>(by cases hm),fun _=>rfl⟩,bc7 hf1 hg,⟨[],⟨fun x hx=> ?_,?_,dk.cut,dk.jb⟩,fun _=>rfl,fun _=>rfl⟩,rfl,?_⟩,.kept hd hv hact⟩
     ·rw[aA9];exact ok.r.take hfr
     ·rw[aA9];exact hpost.trans (hsim.take r)
     ·rcases List.mem_append.1 hx with hx | hx
      ·exact dk.ok x hx
      ·rw[List.mem_singleton.1 hx];exact hr
     ·rw[dk.eq,co9];simp
     ·simp at len ⊢;omega
/-- A crash: what was not synced is there, or not. -/
inductive bY7 (a : AS) : AS → Prop
  | none : bY7 a ⟨a.rs, none, a.k, true⟩
  | one {m : i5} : a.pend = some m → bY7 a ⟨a.rs ++ [m], none, a.k, true⟩
theorem cw4 {keep:Int} (h:Rep c a fuse s t n) (hn:n≤9000000):∃a' s',z9 keep fuse a.down s t=some (-1,true,s',[])∧a'.down=true∧a'.k=a.k∧Rep c a' (-1) s' [] n∧bY7 a a' :=by
 obtain⟨ok,fu,⟨J,dk,dj,dp⟩,tl,len⟩:=h
 have hc:=cT9 (keep:=keep) (fuse:=fuse) (down:=a.down) (s:=s) (t:=t) (by omega)
 have hkl:(aF2 keep t).length≤t.length:=by unfold aF2;rw[List.length_take];omega
 cases hp:a.pend with
 | none=>
  have tl:t= []:=by rw[hp] at tl;exact tl
  subst tl
  exact⟨⟨a.rs,none,a.k,true⟩,_,hc,rfl,rfl,⟨⟨ok.k0,ok.r,fun h=>(by cases h),fun m hm=>(by cases hm),fun h=>(by cases h)⟩,by unfold J2;omega,⟨J,dk.crash0 keep,fun h=>(by cases h),fun h=>absurd rfl h⟩,rfl,by simp[aF2] at len ⊢;omega⟩,.none⟩
 | some m=>
  obtain⟨hm,hfit⟩:=ok.pd m hp
  have hJ:=dp (by rw[hp];simp)
  subst hJ
  rw[hp] at tl
  rcases dk.crash hm keep with h1 | ⟨J,h1⟩
  ·refine⟨⟨a.rs++ [m],none,a.k,true⟩,_,hc,rfl,rfl,⟨⟨ok.k0,?_,fun h=>(by cases h),fun m hm=>(by cases hm),fun h=>(by cases h)⟩,by unfold J2;omega,⟨[],by rw[tl];exact h1,fun h=>(by cases h),fun h=>absurd rfl h⟩,rfl,by simp;omega⟩,.one hp⟩
   rw[aA9];exact ok.r.take hfit
  ·exact⟨⟨a.rs,none,a.k,true⟩,_,hc,rfl,rfl,⟨⟨ok.k0,ok.r,fun h=>(by cases h),fun m hm=>(by cases hm),fun h=>(by cases h)⟩,by unfold J2;omega,⟨J,by rw[tl];exact h1,fun h=>(by cases h),fun h=>absurd rfl h⟩,rfl,by simp;omega⟩,.none⟩
/-- It comes up again, or does not. -/
inductive bY5 (c : f0) (a : AS) (d9 : Int) : AS → Prop
  | up : bY5 c a d9 ⟨a.rs, none, cH7 d9 (Z5 c a.rs), false⟩
  | fail : bY5 c a d9 ⟨a.rs, none, v8 c, true⟩
theorem cR2 {rs:List i5} (hr:∀m∈rs,ar2 m) (hn:rs.length≤1000000) {d8 fuse:Int}{d:Bool}{s t:List Int} (k0:i0):
  aa0 (rs.map (·.Kind)) (rs.map T7) k0 c d8 fuse d s t=some (rs.foldl C7 k0):=by
 have loop:∀(j i:Nat) (k:i0),i+j=rs.length→Ev (J3 (rs.map (·.Kind)) (rs.map T7) c d8 fuse d s t) (.s1 (rs.length:Int) (i:Int) k) ((rs.drop i).foldl C7 k):=by
  intro j
  induction j with
  | zero=>
   intro i k hi
   rw[List.drop_of_length_le (by omega)]
   refine .done ?_
   have:decide ((i:Int)<(rs.length:Int))=false:=by simp;omega
   simp only[J3,N1,this,cond_false,List.foldl_nil]
  | succ j ih=>
   intro i k hi
   have hlt:i<rs.length:=by omega
   have hm:=hr _ (List.getElem_mem hlt)
   have hof:aQ7 (rs[i]).Kind (T7 rs[i])=some (rs[i],0):=by
    have hb:=bh7 hm.1 hm.2
    have hby:q0 (T7 rs[i]):=hm.fr.2.1
    rw[cZ7 (bQ0 hm.2) hby (by simp only[E1];omega),cP1 hm.1 hm.2]
   rw[List.drop_eq_getElem_cons hlt,List.foldl_cons]
   refine .next (s' :=F1.s1 (rs.length:Int) ((i+1:Nat):Int) (C7 k rs[i])) ?_ (ih (i+1) _ (by omega))
   have g1:(rs.map (·.Kind))[i]? =some (rs[i]).Kind:=by simp[hlt]
   have g2:(rs.map T7)[i]? =some (T7 rs[i]):=by simp[hlt]
   have ix:(decide ((0:Int)≤(i:Int))&&decide ((i:Int)<((rs.length:Nat):Int)))=true:=by simp;omega
   have w:IntKind.i64.wrap ((i:Int)+1)=((i+1:Nat):Int):=by rw[F4 (by omega) (by omega)];norm_cast
   simp only[J3,N1,M6 hlt,cond_true,List.length_map,V3,Bool.and_self,Int.toNat_natCast,g1,g2,Option.bind_some,hof,beq_self_eq_true,cm8,w]
 refine D7 (.next (s' :=F1.s1 (rs.length:Int) 0 k0) ?_ (by have:=loop rs.length 0 k0 (by omega);simpa using this))
 simp only[J3,S1,List.length_map]
theorem cl5 {d9:Int} (h:Rep c a fuse s t n) (hc:ao3 c=true) (ht:c.Tiers.length<9223372036854775807) (hn:n≤8000000):
  ∃e a' fuse' s',x5 d9 a.k c d8 fuse a.down s t=some (e,a'.k,fuse',a'.down,s',[])∧Rep c a' fuse' s' [] n∧bY5 c a d9 a' ∧(a.down=false→a'.down=false∧e=0)∧(e=0→a'.down=false):=by
 obtain⟨ok,fu,⟨J,dk,dj,dp⟩,tl,len⟩:=h
 obtain⟨e0,hcut⟩:=dk.cut
 have hz:=bI2 ht hc
 have hcl:P8 a.k c d8 fuse a.down s t=some (v8 c):=by simp[P8,hz,v8,n8]
 have ho:=da4 (fuse:=fuse) (down:=a.down) (t:=t) (cK1 dk.ok) hcut dk.jb (by have:=dk.eq;unfold log at this;rw[←this];omega) fu
 have hs:D0 (a.rs.map ai7)++J=s:=dk.eq.symm
 rw[hs] at ho
 have m1:(a.rs.map ai7).map (·.1)=a.rs.map (·.Kind):=by simp[ai7]
 have m2:(a.rs.map ai7).map (·.2)=a.rs.map T7:=by simp[ai7]
 rw[m1,m2] at ho
 have hlr:a.rs.length≤1000000:=by
  have:8*a.rs.length≤(D0 (a.rs.map ai7)).length:=by
   generalize a.rs=rs
   induction rs with
   | nil=>simp[D0]
   | cons x l ih=>simp[D0,aj0];omega
  have h2:(D0 (a.rs.map ai7)++J).length=s.length:=by rw[hs]
  rw[List.length_append] at h2
  omega
 have hup:∀f,J2 f→D0 (a.rs.map ai7)++J=s→Rep c ⟨a.rs,none,cH7 d9 (Z5 c a.rs),false⟩ f (D0 (a.rs.map ai7)) [] n:=fun f hf e=>by
  refine⟨⟨ok.k0,ok.r,fun _=>⟨rfl,rfl,rfl,rfl,rfl,rfl,rfl,rfl⟩,fun m hm=>(by cases hm),fun _=>rfl⟩,hf,⟨[],⟨dk.ok,by simp[log],⟨_,rfl⟩,fun c hc=>by simp at hc⟩,fun _=>rfl,fun _=>rfl⟩,rfl,?_⟩
  have h2:(D0 (a.rs.map ai7)++J).length=s.length:=by rw[e]
  rw[List.length_append] at h2
  simp;omega
 have run:∀f,ag2 fuse a.down s t=some (a.rs.map (·.Kind),a.rs.map T7,0,f,false,D0 (a.rs.map ai7),[])→x5 d9 a.k c d8 fuse a.down s t=some (0,cH7 d9 (Z5 c a.rs),f,false,D0 (a.rs.map ai7),[]):=fun f ho=>by
  simp only[x5,hcl,Option.bind_some,ho,bne_self_eq_false,cond_false,cR2 dk.ok hlr]
  rfl
 by_cases hJ:J= []
 ·rw[if_pos hJ] at ho
  exact⟨0,_,_,_,run _ ho,hup fuse fu hs,.up,fun _=>⟨rfl,rfl⟩,fun _=>rfl⟩
 ·rw[if_neg hJ] at ho
  have hd:a.down=true:=by
   cases hd:a.down with
   | true=>rfl
   | false=>exact absurd (dj hd) hJ
  cases he:Z4 fuse false with
  | some f=>
   rw[he] at ho
   exact⟨0,_,_,_,run _ ho,hup f (bc7 fu he) hs,.up,fun h=>(by rw[hd] at h;cases h),fun _=>rfl⟩
  | none=>
   rw[he] at ho
   refine⟨61,⟨a.rs,none,v8 c,true⟩,fd fuse false,s,?_,⟨⟨ok.k0,ok.r,fun h=>(by cases h),fun m hm=>(by cases hm),fun h=>(by cases h)⟩,bL3 fu,⟨J,dk,fun h=>(by cases h),fun h=>absurd rfl h⟩,rfl,by simp;omega⟩,.fail,fun h=>(by rw[hd] at h;cases h),fun h=>(by cases h)⟩
   simp only[x5,hcl,Option.bind_some,ho]
   rfl
end
/-! ### the document's config -/
/-! ### what is answered -/
section
variable {c : f0} {d8 : Int} {a a' : AS} {m : i5} {d9 : Int} {m9 : List i5}
theorem hnil (h:aM3 c d8 a m d9 [] a'):a' =a∨(a.down=false∧a'.down=true∧a'.rs=a.rs∧a'.k=a.k)∨(a.down=false∧a'.down=false∧a'.rs=a.rs∧a'.pend=none∧∃w v,a'.k=⟨a.k.epoch,a.k.known,a.k.promised,a.k.accepted,a.k.plan,a.k.writes,w,v,a.k.lead⟩):=by
 generalize ho:([]:List i5)=o at h
 have eta:∀k:i0,k=⟨k.epoch,k.known,k.promised,k.accepted,k.plan,k.writes,k.wish,k.wishAt,k.lead⟩:=fun k=>rfl
 cases h with
 | off h=>exact .inl rfl
 | lost p hd hv ha hp=>exact .inr (.inl ⟨hd,rfl,rfl,rfl⟩)
 | say hd hv ha=>
  subst ho
  refine .inr (.inr ⟨hd,rfl,rfl,rfl,?_⟩)
  have key:∀{x:List i5}{p q:i0},Act.say x p=Act.say [] q→(x= []→q=p):=fun h _=>by cases h;rfl
  have non:∀{x:i5}{p q:i0},Act.say [x] p=Act.say [] q→False:=fun h=>by cases h
  unfold act at ha
  split at ha
  ·unfold aO0 at ha
   split at ha
   ·rw[key ha rfl];exact⟨_,_,eta _⟩
   ·split at ha
    ·exact(non ha).elim
    ·split at ha
     ·split at ha
      ·rw[key ha rfl];exact⟨_,_,rfl⟩
      ·cases ha
     ·split at ha
      ·exact(non ha).elim
      ·cases ha
  ·split at ha
   ·unfold be0 at ha
    split at ha
    ·rw[key ha rfl];exact⟨_,_,eta _⟩
    ·split at ha
     ·exact(non ha).elim
     ·split at ha
      ·exact(non ha).elim
      ·split at ha
       ·rw[key ha rfl];exact⟨_,_,eta _⟩
       ·cases ha
   ·split at ha
    ·unfold grA at ha
     split at ha
     ·split at ha
      ·rw[key ha rfl];exact⟨_,_,eta _⟩
      ·split at ha
       ·exact(non ha).elim
       ·cases ha
     ·split at ha
      ·split at ha
       ·exact(non ha).elim
       ·split at ha
        ·rw[key ha rfl];exact⟨_,_,eta _⟩
        ·cases ha
      ·rw[key ha rfl];exact⟨_,_,eta _⟩
    ·rw[key ha rfl];exact⟨_,_,eta _⟩
 | @kept r m9 post hd hv ha=>
  exfalso
  unfold act at ha
  split at ha
  ·unfold aO0 at ha
   split at ha
   ·cases ha
   ·split at ha
    ·cases ha
    ·split at ha
     ·split at ha
      ·cases ha
      ·cases ha;cases ho
     ·split at ha
      ·cases ha
      ·cases ha;cases ho
  ·split at ha
   ·unfold be0 at ha
    split at ha
    ·cases ha
    ·split at ha
     ·cases ha
     ·split at ha
      ·cases ha
      ·split at ha
       ·cases ha
       ·cases ha;cases ho
   ·split at ha
    ·unfold grA at ha
     split at ha
     ·split at ha
      ·cases ha
      ·split at ha
       ·cases ha
       ·cases ha;cases ho
     ·split at ha
      ·split at ha
       ·cases ha
       ·split at ha
        ·cases ha
        ·cases ha;cases ho
      ·cases ha
    ·cases ha
/-- Something is. -/
inductive by4 (c : f0) (d8 : Int) (a : AS) (m : i5) (d9 : Int) : i5 → AS → Prop
  | dec : (m.Kind = 4 ∨ m.Kind = 7) → by4 c d8 a m d9 (cb9 d8 a.k m) ⟨a.rs, none, a.k, false⟩
  | nack : (m.Kind = 4 ∨ m.Kind = 7) → m.Epoch = a.k.epoch → by4 c d8 a m d9 (bJ1 d8 a.k m) ⟨a.rs, none, a.k, false⟩
  | prom (p : Plan) : m.Kind = 4 → 1 ≤ m.Epoch → 1 ≤ m.Ballot → m.HasPlan = true → ((a.k.epoch < m.Epoch ∧ p = m.Plan ∧ ¬ (a.k.writes.low ≠ 0 ∧ a.k.writes.low < m.Epoch ∧ ap7 c a.k.writes.at_ d9 = true ∧ m.Code ≠ 1)) ∨ (m.Epoch = a.k.epoch ∧ a.k.promised < m.Ballot ∧ p = a.k.known)) →
      by4 c d8 a m d9 (br1 d8 m (C7 a.k (av7 m p))) ⟨a.rs ++ [av7 m p], none, C7 a.k (av7 m p), false⟩
  | acc : m.Kind = 7 → m.Epoch = a.k.epoch → m.Ballot = a.k.promised → 1 ≤ m.Ballot → m.HasPlan = true → m.Plan.Epoch = m.Epoch → ¬ c.S_ < IntKind.i64.wrap (m.Plan.Stamp - d9) →
      by4 c d8 a m d9 (cs1 d8 m) ⟨a.rs ++ [bN6 m], none, C7 a.k (bN6 m), false⟩
  | write (k' : i0) (rs' : List i5) : m.Kind = 10 → m.Code = 1 → a.k.epoch ≤ m.Epoch → 1 ≤ m.Epoch → ((bg7 a.k.writes m.Epoch ∧ k' = a.k ∧ rs' = a.rs) ∨ (¬ bg7 a.k.writes m.Epoch ∧ k' = C7 a.k (L3 m) ∧ rs' = a.rs ++ [L3 m])) →
      by4 c d8 a m d9 (H1 d8 m) ⟨rs', none, atW d9 k', false⟩
  | lead (k' : i0) (rs' : List i5) : m.Kind = 10 → m.Code = 2 → ((a.k.lead.is_ = true ∧ a.k.lead.who = m.From ∧ k' = a.k ∧ rs' = a.rs) ∨ (¬ (a.k.lead.is_ = true ∧ a.k.lead.who = m.From) ∧ ¬ (a.k.lead.is_ = true ∧ ap7 c a.k.lead.at_ d9 = true) ∧ k' = C7 a.k (L3 m) ∧ rs' = a.rs ++ [L3 m])) →
      by4 c d8 a m d9 (H1 d8 m) ⟨rs', none, toL m.From d9 k', false⟩
theorem cZ3 (h:aM3 c d8 a m d9 m9 a'):(m9= []∧aM3 c d8 a m d9 [] a')∨∃y,m9= [y]∧a.down=false∧hval m d9∧by4 c d8 a m d9 y a' :=by
 have h0:=h
 cases h with
 | off h=>exact .inl ⟨rfl,h0⟩
 | lost p hd hv ha hp=>exact .inl ⟨rfl,h0⟩
 | @say m9 k' hd hv ha=>
  have key:∀{x:List i5}{p:i0},Act.say x p=Act.say m9 k' →m9=x∧k' =p:=fun h=>by cases h;exact⟨rfl,rfl⟩
  unfold act at ha
  split at ha
  ·rename_i h4
   unfold aO0 at ha
   split at ha
   ·obtain⟨rfl,rfl⟩:=key ha;exact .inl ⟨rfl,h0⟩
   ·split at ha
    ·obtain⟨rfl,rfl⟩:=key ha;exact .inr ⟨_,rfl,hd,hv,.dec (.inl h4)⟩
    ·split at ha
     ·split at ha
      ·obtain⟨rfl,rfl⟩:=key ha;exact .inl ⟨rfl,h0⟩
      ·cases ha
     ·split at ha
      ·obtain⟨rfl,rfl⟩:=key ha;exact .inr ⟨_,rfl,hd,hv,.nack (.inl h4) (by omega)⟩
      ·cases ha
  ·split at ha
   ·rename_i h7
    unfold be0 at ha
    split at ha
    ·obtain⟨rfl,rfl⟩:=key ha;exact .inl ⟨rfl,h0⟩
    ·rename_i h1
     split at ha
     ·obtain⟨rfl,rfl⟩:=key ha;exact .inr ⟨_,rfl,hd,hv,.dec (.inr h7)⟩
     ·split at ha
      ·obtain⟨rfl,rfl⟩:=key ha
       simp only[not_or] at h1
       exact .inr ⟨_,rfl,hd,hv,.nack (.inr h7) (by omega)⟩
      ·split at ha
       ·obtain⟨rfl,rfl⟩:=key ha;exact .inl ⟨rfl,h0⟩
       ·cases ha
   ·split at ha
    ·rename_i h10
     unfold grA at ha
     split at ha
     ·rename_i hc
      split at ha
      ·obtain⟨rfl,rfl⟩:=key ha;exact .inl ⟨rfl,h0⟩
      ·rename_i h2
       simp only[not_or,C9] at h2
       split at ha
       ·rename_i hh
        obtain⟨rfl,rfl⟩:=key ha
        exact .inr ⟨_,rfl,hd,hv,.write _ _ h10 hc (by split at h2<;>omega) (by split at h2<;>omega) (.inl ⟨hh,rfl,rfl⟩)⟩
       ·cases ha
     ·split at ha
      ·rename_i hc
       split at ha
       ·rename_i hh
        obtain⟨rfl,rfl⟩:=key ha
        exact .inr ⟨_,rfl,hd,hv,.lead _ _ h10 hc (.inl ⟨hh.1,hh.2,rfl,rfl⟩)⟩
       ·split at ha
        ·obtain⟨rfl,rfl⟩:=key ha;exact .inl ⟨rfl,h0⟩
        ·cases ha
      ·obtain⟨rfl,rfl⟩:=key ha;exact .inl ⟨rfl,h0⟩
    ·obtain⟨rfl,rfl⟩:=key ha;exact .inl ⟨rfl,h0⟩
 | @kept r m9 post hd hv ha=>
  right
  unfold act at ha
  split at ha
  ·rename_i h4
   unfold aO0 at ha
   split at ha
   ·cases ha
   ·rename_i h1
    simp only[not_or,bH0,Bool.not_eq_false] at h1
    split at ha
    ·cases ha
    ·split at ha
     ·rename_i h3
      split at ha
      ·cases ha
      ·rename_i h5
       simp only[Act.note.injEq] at ha
       obtain⟨rfl,rfl,rfl⟩:=ha
       exact⟨_,rfl,hd,hv,.prom _ h4 (by omega) (by omega) h1.2.1 (.inl ⟨h3,rfl,h5⟩)⟩
     ·split at ha
      ·cases ha
      ·simp only[Act.note.injEq] at ha
       obtain⟨rfl,rfl,rfl⟩:=ha
       exact⟨_,rfl,hd,hv,.prom _ h4 (by omega) (by omega) h1.2.1 (.inr ⟨by omega,by omega,rfl⟩)⟩
  ·split at ha
   ·rename_i h7
    unfold be0 at ha
    split at ha
    ·cases ha
    ·rename_i h1
     simp only[not_or,bH0,Bool.not_eq_false,ne_eq,Classical.not_not] at h1
     split at ha
     ·cases ha
     ·split at ha
      ·cases ha
      ·split at ha
       ·cases ha
       ·rename_i h5
        simp only[not_or] at h5
        simp only[Act.note.injEq] at ha
        obtain⟨rfl,rfl,rfl⟩:=ha
        exact⟨_,rfl,hd,hv,.acc h7 (by omega) (by omega) (by omega) h1.2.1 h1.2.2.1 h5.2⟩
   ·split at ha
    ·rename_i h10
     unfold grA at ha
     split at ha
     ·rename_i hc
      split at ha
      ·cases ha
      ·rename_i h2
       simp only[not_or,C9] at h2
       split at ha
       ·cases ha
       ·rename_i hh
        simp only[Act.note.injEq] at ha
        obtain⟨rfl,rfl,rfl⟩:=ha
        exact⟨_,rfl,hd,hv,.write _ _ h10 hc (by split at h2<;>omega) (by split at h2<;>omega) (.inr ⟨hh,rfl,rfl⟩)⟩
     ·split at ha
      ·rename_i hc
       split at ha
       ·cases ha
       ·rename_i hh
        split at ha
        ·cases ha
        ·rename_i hh2
         simp only[Act.note.injEq] at ha
         obtain⟨rfl,rfl,rfl⟩:=ha
         exact⟨_,rfl,hd,hv,.lead _ _ h10 hc (.inr ⟨hh,hh2,rfl,rfl⟩)⟩
      ·cases ha
    ·cases ha
end
/-! ### the live question -/
noncomputable def bX4 (y:f0):D×i4:=(.agg (f0.enc y),[])
noncomputable def aF8:Option f0:=(some (⟨1,2,2,1,3,[1,0],5,3,2,2,20,20,5,10,3,50,3,1000,1500,700,30,20,40,5,10,5,10,4,3,5⟩:f0))
theorem bb4 {r:f0} (h:aF8=some r):l4 E 5 [] [] (Rs bX4 r):=so (fn:=Tryd.f5) (k:=false) (m:=0) h<| by
 intro r h;unfold aF8 at h
 exact zu 15 h
noncomputable def cl4:=r4 (r9 Tryd.f7)
noncomputable def bv3 (y:l6):D×i4:=(.agg (l6.enc y),[])
abbrev ck5 (ah3 d9:Int):=AOk E (Cx.of Tryd.f7 false 0) bv3
noncomputable def ci5 (ah3 d9:Int) (h_2 b1:l6):M:=⟨[.code (cl4 [1,1])],[(1,.int .i64 ah3),(2,.int .i64 d9),(3,.ptr 0 0 0),(6,.ptr 1 0 0)],[some ⟨4,false,[(l6.enc h_2)]⟩,some ⟨4,false,[(l6.enc b1)]⟩]⟩
noncomputable def at8 (ah3 d9:Int) (h_2 b1:l6):Option l6:=(some (⟨ah3,d9,0,h_2.Until⟩:l6))
theorem bb9 {ah3 d9 h_2 b1}:ck5 ah3 d9 (ci5 ah3 d9 h_2 b1) (at8 ah3 d9 h_2 b1):=by
 intro r h;unfold at8 at h
 exact zu 14 h
noncomputable def ah4 (h_:l6) (ah3 d9:Int):Option l6:=(bif (h_.Epoch !=ah3) then (at8 ah3 d9 (⟨h_.Epoch,h_.Nonce,h_.Grants,0⟩:l6) (⟨0,0,0,0⟩:l6)) else (at8 ah3 d9 h_ (⟨0,0,0,0⟩:l6)))
theorem bo1 {h_:l6}{ah3 d9:Int}{r:l6} (h:ah4 h_ ah3 d9=some r):l4 E 7 [.agg (l6.enc h_),.int .i64 ah3,.int .i64 d9] [] (Rs bv3 r):=so (fn:=Tryd.f7) (k:=false) (m:=0) h<| by
 intro r h;unfold ah4 at h
 refine zs 15 h (fun h=> ?_) fun h=> ?_
 ·
  exact zg 6 (bb9 h)
 exact zg 1 (bb9 h)
noncomputable def aT0 (y:Int):D×i4:=(.int .i64 y,[])
noncomputable def N0 (x_:Int):Option Int:=(some (k9 .i64 (IntKind.i64.wrap ((IntKind.u64.wrap ((IntKind.u64.wrap ((IntKind.u64.wrap ((k9 .u64 (IntKind.u64.wrap ((n6 .u64 (IntKind.u64.wrap ((k9 .u64 (n6 .u64 (IntKind.u64.wrap ((k9 .u64 (n6 .u64 x_ 1) 6148914691236517205)+(k9 .u64 x_ 6148914691236517205))) 2) 3689348814741910323)+(k9 .u64 (IntKind.u64.wrap ((k9 .u64 (n6 .u64 x_ 1) 6148914691236517205)+(k9 .u64 x_ 6148914691236517205))) 3689348814741910323))) 4)+(IntKind.u64.wrap ((k9 .u64 (n6 .u64 (IntKind.u64.wrap ((k9 .u64 (n6 .u64 x_ 1) 6148914691236517205)+(k9 .u64 x_ 6148914691236517205))) 2) 3689348814741910323)+(k9 .u64 (IntKind.u64.wrap ((k9 .u64 (n6 .u64 x_ 1) 6148914691236517205)+(k9 .u64 x_ 6148914691236517205))) 3689348814741910323))))) 1085102592571150095)+(n6 .u64 (k9 .u64 (IntKind.u64.wrap ((n6 .u64 (IntKind.u64.wrap ((k9 .u64 (n6 .u64 (IntKind.u64.wrap ((k9 .u64 (n6 .u64 x_ 1) 6148914691236517205)+(k9 .u64 x_ 6148914691236517205))) 2) 3689348814741910323)+(k9 .u64 (IntKind.u64.wrap ((k9 .u64 (n6 .u64 x_ 1) 6148914691236517205)+(k9 .u64 x_ 6148914691236517205))) 3689348814741910323))) 4)+(IntKind.u64.wrap ((k9 .u64 (n6 .u64 (IntKind.u64.wrap ((k9 .u64 (n6 .u64 x_ 1) 6148914691236517205)+(k9 .u64 x_ 6148914691236517205))) 2) 3689348814741910323)+(k9 .u64 (IntKind.u64.wrap ((k9 .u64 (n6 .u64 x_ 1) 6148914691236517205)+(k9 .u64 x_ 6148914691236517205))) 3689348814741910323))))) 1085102592571150095) 8)))+(n6 .u64 (IntKind.u64.wrap ((k9 .u64 (IntKind.u64.wrap ((n6 .u64 (IntKind.u64.wrap ((k9 .u64 (n6 .u64 (IntKind.u64.wrap ((k9 .u64 (n6 .u64 x_ 1) 6148914691236517205)+(k9 .u64 x_ 6148914691236517205))) 2) 3689348814741910323)+(k9 .u64 (IntKind.u64.wrap ((k9 .u64 (n6 .u64 x_ 1) 6148914691236517205)+(k9 .u64 x_ 6148914691236517205))) 3689348814741910323))) 4)+(IntKind.u64.wrap ((k9 .u64 (n6 .u64 (IntKind.u64.wrap ((k9 .u64 (n6 .u64 x_ 1) 6148914691236517205)+(k9 .u64 x_ 6148914691236517205))) 2) 3689348814741910323)+(k9 .u64 (IntKind.u64.wrap ((k9 .u64 (n6 .u64 x_ 1) 6148914691236517205)+(k9 .u64 x_ 6148914691236517205))) 3689348814741910323))))) 1085102592571150095)+(n6 .u64 (k9 .u64 (IntKind.u64.wrap ((n6 .u64 (IntKind.u64.wrap ((k9 .u64 (n6 .u64 (IntKind.u64.wrap ((k9 .u64 (n6 .u64 x_ 1) 6148914691236517205)+(k9 .u64 x_ 6148914691236517205))) 2) 3689348814741910323)+(k9 .u64 (IntKind.u64.wrap ((k9 .u64 (n6 .u64 x_ 1) 6148914691236517205)+(k9 .u64 x_ 6148914691236517205))) 3689348814741910323))) 4)+(IntKind.u64.wrap ((k9 .u64 (n6 .u64 (IntKind.u64.wrap ((k9 .u64 (n6 .u64 x_ 1) 6148914691236517205)+(k9 .u64 x_ 6148914691236517205))) 2) 3689348814741910323)+(k9 .u64 (IntKind.u64.wrap ((k9 .u64 (n6 .u64 x_ 1) 6148914691236517205)+(k9 .u64 x_ 6148914691236517205))) 3689348814741910323))))) 1085102592571150095) 8))) 16)))+(n6 .u64 (IntKind.u64.wrap ((IntKind.u64.wrap ((k9 .u64 (IntKind.u64.wrap ((n6 .u64 (IntKind.u64.wrap ((k9 .u64 (n6 .u64 (IntKind.u64.wrap ((k9 .u64 (n6 .u64 x_ 1) 6148914691236517205)+(k9 .u64 x_ 6148914691236517205))) 2) 3689348814741910323)+(k9 .u64 (IntKind.u64.wrap ((k9 .u64 (n6 .u64 x_ 1) 6148914691236517205)+(k9 .u64 x_ 6148914691236517205))) 3689348814741910323))) 4)+(IntKind.u64.wrap ((k9 .u64 (n6 .u64 (IntKind.u64.wrap ((k9 .u64 (n6 .u64 x_ 1) 6148914691236517205)+(k9 .u64 x_ 6148914691236517205))) 2) 3689348814741910323)+(k9 .u64 (IntKind.u64.wrap ((k9 .u64 (n6 .u64 x_ 1) 6148914691236517205)+(k9 .u64 x_ 6148914691236517205))) 3689348814741910323))))) 1085102592571150095)+(n6 .u64 (k9 .u64 (IntKind.u64.wrap ((n6 .u64 (IntKind.u64.wrap ((k9 .u64 (n6 .u64 (IntKind.u64.wrap ((k9 .u64 (n6 .u64 x_ 1) 6148914691236517205)+(k9 .u64 x_ 6148914691236517205))) 2) 3689348814741910323)+(k9 .u64 (IntKind.u64.wrap ((k9 .u64 (n6 .u64 x_ 1) 6148914691236517205)+(k9 .u64 x_ 6148914691236517205))) 3689348814741910323))) 4)+(IntKind.u64.wrap ((k9 .u64 (n6 .u64 (IntKind.u64.wrap ((k9 .u64 (n6 .u64 x_ 1) 6148914691236517205)+(k9 .u64 x_ 6148914691236517205))) 2) 3689348814741910323)+(k9 .u64 (IntKind.u64.wrap ((k9 .u64 (n6 .u64 x_ 1) 6148914691236517205)+(k9 .u64 x_ 6148914691236517205))) 3689348814741910323))))) 1085102592571150095) 8)))+(n6 .u64 (IntKind.u64.wrap ((k9 .u64 (IntKind.u64.wrap ((n6 .u64 (IntKind.u64.wrap ((k9 .u64 (n6 .u64 (IntKind.u64.wrap ((k9 .u64 (n6 .u64 x_ 1) 6148914691236517205)+(k9 .u64 x_ 6148914691236517205))) 2) 3689348814741910323)+(k9 .u64 (IntKind.u64.wrap ((k9 .u64 (n6 .u64 x_ 1) 6148914691236517205)+(k9 .u64 x_ 6148914691236517205))) 3689348814741910323))) 4)+(IntKind.u64.wrap ((k9 .u64 (n6 .u64 (IntKind.u64.wrap ((k9 .u64 (n6 .u64 x_ 1) 6148914691236517205)+(k9 .u64 x_ 6148914691236517205))) 2) 3689348814741910323)+(k9 .u64 (IntKind.u64.wrap ((k9 .u64 (n6 .u64 x_ 1) 6148914691236517205)+(k9 .u64 x_ 6148914691236517205))) 3689348814741910323))))) 1085102592571150095)+(n6 .u64 (k9 .u64 (IntKind.u64.wrap ((n6 .u64 (IntKind.u64.wrap ((k9 .u64 (n6 .u64 (IntKind.u64.wrap ((k9 .u64 (n6 .u64 x_ 1) 6148914691236517205)+(k9 .u64 x_ 6148914691236517205))) 2) 3689348814741910323)+(k9 .u64 (IntKind.u64.wrap ((k9 .u64 (n6 .u64 x_ 1) 6148914691236517205)+(k9 .u64 x_ 6148914691236517205))) 3689348814741910323))) 4)+(IntKind.u64.wrap ((k9 .u64 (n6 .u64 (IntKind.u64.wrap ((k9 .u64 (n6 .u64 x_ 1) 6148914691236517205)+(k9 .u64 x_ 6148914691236517205))) 2) 3689348814741910323)+(k9 .u64 (IntKind.u64.wrap ((k9 .u64 (n6 .u64 x_ 1) 6148914691236517205)+(k9 .u64 x_ 6148914691236517205))) 3689348814741910323))))) 1085102592571150095) 8))) 16))) 32))))) 127))
theorem aR6 {x_ r:Int} (h:N0 x_=some r):l4 E 44 [.int .u64 x_] [] (Rs aT0 r):=so (fn:=Tryd.f44) (k:=false) (m:=0) h<| by
 intro r h;unfold N0 at h
 exact zu 71 h
noncomputable def bH2 (y:Int):D×i4:=(.int .i64 y,[])
noncomputable def aj9 (c:f0):Option Int:=(some (z0 (C9 c.F_ 0) 3))
theorem aP6 {c:f0}{r:Int} (h:aj9 c=some r):l4 E 45 [.agg (f0.enc c)] [] (Rs bH2 r):=so (fn:=Tryd.f45) (k:=false) (m:=0) h<| by
 intro r h;unfold aj9 at h
 exact zu 15 h
noncomputable def bJ5 (y:Bool):D×i4:=(.bool y,[])
noncomputable def aj8 (c:f0) (bY4:Int):Option Bool:=((aj9 c).bind fun y1=>(bif (!decide (((IntKind.i64.wrap ((IntKind.i64.wrap ((2:Int)*y1))+1)):Int)<0)) then ((N0 (k9 .u64 bY4 (IntKind.u64.wrap ((Y7 .u64 1 (IntKind.i64.wrap ((IntKind.i64.wrap ((2:Int)*y1))+1)))-1)))).bind fun y3=>((aj9 c).bind fun y4=>(some (decide (y3>y4))))) else none))
theorem bA1 {c:f0}{bY4:Int}{r:Bool} (h:aj8 c bY4=some r):l4 E 25 [.agg (f0.enc c),.int .u64 bY4] [] (Rs bJ5 r):=so (fn:=Tryd.f25) (k:=false) (m:=0) h<| by
 intro r h;unfold aj8 at h
 refine zd 8 [] h (fun _=>aP6) fun y1 h=> ?_
 refine zn 0 h fun h=> ?_
 refine zd 0 [] h (fun _=>aR6) fun y3 h=> ?_
 refine zd 1 [] h (fun _=>aP6) fun y4 h=> ?_
 exact zu 1 h
noncomputable def bi1:=r4 (r9 Tryd.f12)
noncomputable def bi7 (y:l6):D×i4:=(.agg (l6.enc y),[])
abbrev bV7 (h_:l6) (c:f0) (m:i5):=AOk E (Cx.of Tryd.f12 false 0) bi7
noncomputable def bO9 (h_:l6) (c:f0) (m:i5) (G7:Bool) (b3:l6):M:=⟨[.code (bi1 [1,1,0,0,1]),.blk 0,.code (bi1 [1,1,1])],[(3,.ptr 0 0 0),(4,.ptr 1 0 0),(5,.ptr 2 0 0),(6,.ptr 3 0 0),(13,.bool G7)],[some ⟨4,false,[(l6.enc h_)]⟩,some ⟨30,false,[(f0.enc c)]⟩,some ⟨26,false,[(i5.enc m)]⟩,some ⟨4,false,[(l6.enc b3)]⟩]⟩
noncomputable def G8 (h_:l6) (c:f0) (m:i5) (G7:Bool) (b3:l6):Option l6:=(bif G7 then (some h_) else (bif (!decide (m.From<0)) then ((aj8 c (orI .u64 h_.Grants (Y7 .u64 1 m.From))).bind fun y3=>(bif y3 then (some (⟨h_.Epoch,h_.Nonce,(orI .u64 h_.Grants (Y7 .u64 1 m.From)),(C9 h_.Until (IntKind.i64.wrap (h_.Nonce+(z0 (C9 c.L_ 0) 1048576))))⟩:l6)) else (some (⟨h_.Epoch,h_.Nonce,(orI .u64 h_.Grants (Y7 .u64 1 m.From)),h_.Until⟩:l6)))) else none))
theorem Q2 {h_ c m G7 b3}:bV7 h_ c m (bO9 h_ c m G7 b3) (G8 h_ c m G7 b3):=by
 intro r h;unfold G8 at h
 refine zs 1 h (fun h=> ?_) fun h=> ?_
 ·
  exact zu 10 h
 refine zn 7 h fun h=> ?_
 refine zc 10 [] h (fun _=>bA1) fun y3 h=> ?_
 refine zs 2 h (fun h=> ?_) fun h=> ?_
 ·
  exact zu 29 h
 exact zu 11 h
noncomputable def Q7 (h_:l6) (c:f0) (m:i5):Option l6:=(bif (m.Kind !=11) then (G8 h_ c m (m.Kind !=11) (⟨0,0,0,0⟩:l6)) else (bif (!((h_.Epoch==m.Epoch)&&((h_.Nonce==m.Nonce)&&true))) then (G8 h_ c m (!((h_.Epoch==m.Epoch)&&((h_.Nonce==m.Nonce)&&true))) (⟨0,0,0,0⟩:l6)) else (bif (decide (m.From<0)) then (G8 h_ c m (decide (m.From<0)) (⟨0,0,0,0⟩:l6)) else (bif (decide (m.From>(IntKind.i64.wrap ((2:Int)*(z0 (C9 c.F_ 0) 3))))) then (G8 h_ c m (decide (m.From>(IntKind.i64.wrap ((2:Int)*(z0 (C9 c.F_ 0) 3))))) (⟨0,0,0,0⟩:l6)) else (bif (decide (h_.Nonce<0)) then (G8 h_ c m (decide (h_.Nonce<0)) (⟨0,0,0,0⟩:l6)) else (G8 h_ c m (decide (h_.Nonce>1099511627776)) (⟨0,0,0,0⟩:l6)))))))
theorem aE1 {h_:l6}{c:f0}{m:i5}{r:l6} (h:Q7 h_ c m=some r):l4 E 12 [.agg (l6.enc h_),.agg (f0.enc c),.agg (i5.enc m)] [] (Rs bi7 r):=so (fn:=Tryd.f12) (k:=false) (m:=0) h<| by
 intro r h;unfold Q7 at h
 refine zs 33 h (fun h=> ?_) fun h=> ?_
 ·
  exact zg 1 (Q2 h)
 refine zs 15 h (fun h=> ?_) fun h=> ?_
 ·
  exact zg 1 (Q2 h)
 refine zs 9 h (fun h=> ?_) fun h=> ?_
 ·
  exact zg 1 (Q2 h)
 refine zs 15 h (fun h=> ?_) fun h=> ?_
 ·
  exact zg 1 (Q2 h)
 refine zs 9 h (fun h=> ?_) fun h=> ?_
 ·
  exact zg 1 (Q2 h)
 exact zg 7 (Q2 h)
noncomputable def cb4 (y:Bool):D×i4:=(.bool y,[])
noncomputable def Q4 (h_:l6) (ah3 d9:Int):Option Bool:=(bif (h_.Epoch==ah3) then (some (decide (d9<h_.Until))) else (some false))
theorem aa6 {h_:l6}{ah3 d9:Int}{r:Bool} (h:Q4 h_ ah3 d9=some r):l4 E 13 [.agg (l6.enc h_),.int .i64 ah3,.int .i64 d9] [] (Rs cb4 r):=so (fn:=Tryd.f13) (k:=false) (m:=0) h<| by
 intro r h;unfold Q4 at h
 refine zs 14 h (fun h=> ?_) fun h=> ?_
 ·
  exact zu 12 h
 exact zu 11 h
def cnt (g:Nat):Nat→Nat
 | 0=>0
 | n+1=>cnt g n+(if g.testBit n then 1 else 0)
theorem cn8 (m k:Nat):∀n,cnt (m%2^k) n=cnt m (min k n)
 | 0=>by simp[cnt]
 | n+1=>by
  unfold cnt
  rw[cn8 m k n,Nat.testBit_mod_two_pow]
  by_cases h:n<k
  ·rw[show min k n=n by omega,show min k (n+1)=n+1 by omega]
   simp[cnt,h]
  ·rw[show min k n=k by omega,show min k (n+1)=k by omega]
   simp[h]
   cases k<;>simp[cnt]
noncomputable def cP4:Bool:=(List.range 128).all fun n=>decide (N0 (n:Int)=some (cnt n 7:Int))
theorem cq4:cP4=true:=by kernel_rfl
theorem cN1 {n:Nat} (h:n<128):N0 (n:Int)=some (cnt n 7:Int):=by
 have:=List.all_eq_true.1 cq4 n (List.mem_range.2 h)
 exact of_decide_eq_true this
def fN (c:f0):Nat:=(z0 (C9 c.F_ 0) 3).toNat
theorem bZ0 (c:f0):fN c≤3:=by unfold fN z0 C9;split<;>split<;>omega
theorem cK5 (c:f0):z0 (C9 c.F_ 0) 3=(fN c:Int):=by unfold fN z0 C9;split<;>split<;>omega
def bs1 (c:f0) (g:Nat):Bool:=decide (fN c<cnt g (2*fN c+1))
theorem cQ5 (c:f0) {g:Nat} (hg:g<18446744073709551616):aj8 c g=some (bs1 c g):=by
 have hf:=bZ0 c
 have p1:(2:Nat)^(2*fN c+1)≤2^7:=Nat.pow_le_pow_right (by decide) (by omega)
 have p0:0<(2:Nat)^(2*fN c+1):=Nat.pow_pos (by decide)
 have e1:IntKind.i64.wrap ((IntKind.i64.wrap ((2:Int)*(fN c:Int)))+1)=((2*fN c+1:Nat):Int):=by
  rw[F4 (n:=2*(fN c:Int)) (by omega) (by omega),F4 (by omega) (by omega)];rfl
 have e2:IntKind.u64.wrap (((2^(2*fN c+1):Nat):Int)-1)=((2^(2*fN c+1)-1:Nat):Int):=by
  rw[cc0 (by omega) (by omega)];omega
 have e3:g&&&(2^(2*fN c+1)-1)=g%2^(2*fN c+1):=Nat.and_two_pow_sub_one_eq_mod g _
 have l3:g%2^(2*fN c+1)<128:=Nat.lt_of_lt_of_le (Nat.mod_lt _ p0) (by omega)
 unfold aj8 aj9
 simp only[Option.bind_some,cK5,e1,nn0,cond_true]
 rw[cv6 (by omega),e2,cv9 hg (by omega),e3,cN1 l3,cn8,show min (2*fN c+1) 7=2*fN c+1 by omega]
 simp[bs1]
def aw2 (h:l6) (e n:Int):l6:=⟨e,n,0,if h.Epoch=e then h.Until else 0⟩
theorem cg7 (h:l6) (e n:Int):ah4 h e n=some (aw2 h e n):=by
 unfold ah4 at8 aw2
 by_cases x:h.Epoch=e
 ·simp[x]
 ·simp[x,bne,beq_eq_false_iff_ne.2 x]
def bg1 (h:l6) (e n:Int):Bool:=decide (h.Epoch=e)&&decide (n<h.Until)
theorem cn3 (h:l6) (e n:Int):Q4 h e n=some (bg1 h e n):=by
 unfold Q4 bg1
 by_cases x:h.Epoch=e
 ·simp[x]
 ·simp[x,bne,beq_eq_false_iff_ne.2 x]
def am2 (h:l6) (c:f0) (m:i5):Bool:=decide (m.Kind=11)&&(decide (h.Epoch=m.Epoch)&&(decide (h.Nonce=m.Nonce)&&(!decide (m.From<0)&&(!decide (m.From>2*(fN c:Int))&&(!decide (h.Nonce<0)&& !decide (h.Nonce>1099511627776))))))
def lP (c:f0):Int:=z0 (C9 c.L_ 0) 1048576
theorem cZ5 (c:f0):0≤lP c∧lP c≤1048576:=by unfold lP z0 C9;split<;>split<;>omega
def ay4 (h:l6) (c:f0) (k:Nat):l6:=⟨h.Epoch,h.Nonce,(h.Grants.toNat ||| 2^k:Nat),bif bs1 c (h.Grants.toNat ||| 2^k) then C9 h.Until (h.Nonce+lP c) else h.Until⟩
def G9 (h:l6) (c:f0) (m:i5):l6:=if am2 h c m then ay4 h c m.From.toNat else h
theorem cK4 {g k:Nat} (hg:g<18446744073709551616) (hk:k≤6):g ||| 2^k<18446744073709551616:=
 Nat.or_lt_two_pow (n:=64) (by omega) (Nat.lt_of_le_of_lt (Nat.pow_le_pow_right (by decide) hk) (by decide))
theorem cG6 (h:l6) (c:f0) (m:i5) (b:l6) (hg:n9 .u64 h.Grants) (hh:am2 h c m=true):G8 h c m false b=some (ay4 h c m.From.toNat):=by
 have hg' :=H9.1 hg
 have hf:=bZ0 c
 have hl:=cZ5 c
 simp only[am2,Bool.and_eq_true,Bool.not_eq_true',decide_eq_true_eq,decide_eq_false_iff_not] at hh
 obtain⟨-,-,-,h1,h2,h3,h4⟩:=hh
 obtain⟨k,hk⟩:=Int.eq_ofNat_of_zero_le (show 0≤m.From by omega)
 obtain⟨g,hgg⟩:=Int.eq_ofNat_of_zero_le hg'.1
 have hgl:g<18446744073709551616:=by omega
 have hp:(2:Nat)^k≤2^6:=Nat.pow_le_pow_right (by decide) (by omega)
 have w:IntKind.i64.wrap (h.Nonce+lP c)=h.Nonce+lP c:=F4 (by omega) (by omega)
 unfold G8
 rw[hk,hgg,cv6 (by omega),cK0 hgl (by omega),cQ5 c (cK4 hgl (by omega))]
 change (bif _ then _ else _)=_
 simp only[cond_false,nn0,cond_true,Option.bind_some]
 rw[show z0 (C9 c.L_ 0) 1048576=lP c from rfl,w]
 unfold ay4
 rw[hgg]
 simp only[Int.toNat_natCast]
 cases bs1 c (g ||| 2^k)<;>rfl
theorem bf1 (h:l6) (c:f0) (m:i5) (hg:n9 .u64 h.Grants):Q7 h c m=some (G9 h c m):=by
 have hf:=bZ0 c
 have e2:IntKind.i64.wrap ((2:Int)*(fN c:Int))=2*(fN c:Int):=F4 (by omega) (by omega)
 have no:∀b,G8 h c m true b=some h:=fun b=>rfl
 unfold Q7
 rw[cK5,e2]
 by_cases h1:m.Kind=11
 ·by_cases h2:h.Epoch=m.Epoch
  ·by_cases h3:h.Nonce=m.Nonce
   ·by_cases h4:m.From<0
    ·simp[G9,am2,h1,h2,h3,h4,no]
    ·by_cases h5:m.From>2*(fN c:Int)
     ·simp[G9,am2,h1,h2,h3,h4,h5,no]
     ·by_cases h6:h.Nonce<0
      ·have h6' :=h6
       rw[h3] at h6'
       simp[G9,am2,h1,h2,h3,h4,h5,h6',no]
      ·by_cases h7:h.Nonce>1099511627776
       ·have h6' :=h6
        have h7' :=h7
        rw[h3] at h6' h7'
        rw[show G9 h c m=h from if_neg (by simp[am2,decide_eq_true h7])]
        simp only[h1,h2,←h3,h4,h5,bne_self_eq_false,beq_self_eq_true,Bool.and_true,Bool.not_true,cond_false,decide_false,h6,decide_eq_true h7,no]
       ·have gd:am2 h c m=true:=by simp only[am2,decide_eq_true h1,decide_eq_true h2,decide_eq_true h3,decide_eq_false h4,decide_eq_false h5,decide_eq_false h6,decide_eq_false h7];rfl
        rw[show G9 h c m=ay4 h c m.From.toNat from if_pos gd]
        simp only[h1,h2,←h3,h4,h5,bne_self_eq_false,beq_self_eq_true,Bool.and_true,Bool.not_true,cond_false,decide_false,h6,h7]
        exact cG6 h c m _ hg gd
   ·simp[G9,am2,h1,h2,h3,no,beq_eq_false_iff_ne.2 h3]
  ·simp[G9,am2,h1,h2,no,beq_eq_false_iff_ne.2 h2]
 ·have hb:(m.Kind !=11)=true:=by simpa using h1
  simp[G9,am2,hb,h1,no]
theorem cD5 (h:l6) (c:f0) {k:Nat} (hg:n9 .u64 h.Grants) (hk:k≤6):n9 .u64 (ay4 h c k).Grants:=by
 have hg' :=H9.1 hg
 have:=cK4 (g:=h.Grants.toNat) (k:=k) (by omega) hk
 exact H9.2 ⟨Int.natCast_nonneg _,by show((h.Grants.toNat ||| 2^k:Nat):Int)≤_;omega⟩
theorem cy9 {h:l6}{c:f0}{m:i5} (hh:am2 h c m=true):0≤m.From∧m.From≤2*(fN c:Int)∧0≤h.Nonce∧h.Nonce≤1099511627776:=by
 simp only[am2,Bool.and_eq_true,Bool.not_eq_true',decide_eq_true_eq,decide_eq_false_iff_not] at hh
 omega
theorem cD6 (h:l6) (c:f0) (m:i5) (hg:n9 .u64 h.Grants):n9 .u64 (G9 h c m).Grants:=by
 unfold G9
 split
 ·rename_i hh
  have:=cy9 hh
  have:=bZ0 c
  exact cD5 h c hg (by omega)
 ·exact hg
def n3:f0:=⟨1,2,2,1,3,[1,0],5,3,2,2,20,20,5,10,3,50,3,1000,1500,700,30,20,40,5,10,5,10,4,3,5⟩
theorem cM7 (k:i0) (m:i5) (h:k.lead.is_=true):(C7 k m).lead.is_=true:=by
 unfold C7
 repeat' split
 all_goals first | rfl | exact h
theorem cY8 (k:i0) (m:i5) (h:k.lead.who= -1):(C7 k m).lead.who= -1:=by
 unfold C7
 repeat' split
 all_goals first | rfl | exact h
theorem cO5 {c:f0}{rs:List i5} (m:i5) (h:(Z5 c rs).lead.is_=true):(Z5 c (rs++ [m])).lead.is_=true:=by
 rw[aA9];exact cM7 _ _ h
theorem cU6 (c:f0) (rs:List i5):(Z5 c rs).lead.who= -1:=by
 have:∀(l:List i5) (k:i0),k.lead.who= -1→(l.foldl C7 k).lead.who= -1:=by
  intro l
  induction l with
  | nil=>intro k h;exact h
  | cons m l ih=>intro k h;exact ih _ (cY8 k m h)
 exact this rs _ rfl
theorem cP0 (k:i0) {m:i5} (h:m.Code=2):(C7 k (L3 m)).lead.is_=true:=by
 unfold C7 L3
 simp[h]
/-- An acceptor, and when it granted each holder last. -/
structure LI (c : f0) (a : AS) (g : Bool → Option Int) (d9 : Int) : Prop where
  gr : ∀ k t, g k = some t → 0 ≤ t ∧ t ≤ d9 ∧ (Z5 c a.rs).lead.is_ = true
  gp : ∀ t0 t1, g false = some t0 → g true = some t1 → t0 + 25 ≤ t1 ∨ t1 + 25 ≤ t0
  up : a.down = false → 0 ≤ a.k.lead.at_ ∧ a.k.lead.at_ ≤ d9 ∧ ∀ k t, g k = some t → a.k.lead.is_ = true ∧ t ≤ a.k.lead.at_
  own : a.down = false → a.k.lead.is_ = true → ∀ k : Bool, a.k.lead.who = (if k then 11 else 10) → ∃ t, g k = some t ∧ ∀ t', g (!k) = some t' → t' + 25 ≤ t
section
variable {c : f0} {a a' : AS} {g : Bool → Option Int} {d9 : Int}
theorem LI.later {n:Int} (h:LI c a g d9) (hn:d9≤n):LI c a g n:=
 ⟨fun k t e=>by have:=h.gr k t e;exact⟨this.1,by omega,this.2.2⟩,h.gp,fun hd=>by have:=h.up hd;exact⟨this.1,by omega,this.2.2⟩,h.own⟩
theorem LI.crash (h:LI c a g d9) (hs:bY7 a a'):LI c a' g d9:=by
 cases hs with
 | none=>exact⟨h.gr,h.gp,fun hd=>(by cases hd),fun hd=>(by cases hd)⟩
 | one hp=>exact⟨fun k t e=>by have:=h.gr k t e;exact⟨this.1,this.2.1,cO5 _ this.2.2⟩,h.gp,fun hd=>(by cases hd),fun hd=>(by cases hd)⟩
theorem LI.restart (h:LI c a g d9) (h0:0≤d9) (hs:bY5 c a d9 a'):LI c a' g d9:=by
 cases hs with
 | up=>exact⟨h.gr,h.gp,fun _=>⟨h0,Int.le_refl _,fun k t e=>⟨(h.gr k t e).2.2,(h.gr k t e).2.1⟩⟩,fun _ _ k hw=>by
  have:(Z5 c a.rs).lead.who=(if k then 11 else 10):=hw
  rw[cU6] at this
  cases k<;>simp at this⟩
 | fail=>exact⟨h.gr,h.gp,fun hd=>(by cases hd),fun hd=>(by cases hd)⟩
def H7 (b:Bool) (to n:Int):i5:=⟨10,if b then 11 else 10,to,0,0,0,n,0,0,2,false,n8,[],[],[]⟩
def az1 (g:Bool→Option Int) (b:Bool) (t:Int):Bool→Option Int:=fun k=>if k=b then some t else g k
theorem LI.grant {b:Bool}{to n d8:Int}{m9:List i5} (hc:c.L_=20∧c.M_=5) (h:LI c a g d9) (h0:0≤d9∧d9≤1099511627776) (hs:aM3 c d8 a (H7 b to n) d9 m9 a'):
  (m9= []∧LI c a' g d9)∨(m9= [H1 d8 (H7 b to n)]∧LI c a' (az1 g b d9) d9):=by
 rcases cZ3 hs with⟨rfl,hs⟩ | ⟨y,rfl,hd,hv,hy⟩
 ·left
  refine⟨rfl,?_⟩
  rcases hnil hs with rfl | ⟨h1,h2,h3,h4⟩ | ⟨h1,h2,h3,h4,w,v,h5⟩
  ·exact h
  ·exact⟨(by rw[h3];exact h.gr),h.gp,fun hd=>(by rw[h2] at hd;cases hd),fun hd=>(by rw[h2] at hd;cases hd)⟩
  ·exact⟨(by rw[h3];exact h.gr),h.gp,fun _=>(by rw[h5];exact h.up h1),fun _=>(by rw[h5];exact h.own h1)⟩
 ·right
  have nk:∀{k:Int},(H7 b to n).Kind=k→k=10:=fun h=>h.symm
  obtain⟨u1,u2,u3⟩:=h.up hd
  cases hy with
  | dec hk=>rcases hk with hk | hk<;>cases hk
  | nack hk _=>rcases hk with hk | hk<;>cases hk
  | prom p hk=>cases hk
  | acc hk=>cases hk
  | write k' rs' hk hcode=>cases hcode
  | lead k' rs' hk hcode hor=>
   refine⟨rfl,?_⟩
   have hfrom:(H7 b to n).From=if b then 11 else 10:=rfl
   --the other holder's last grant is long ago
   have other:∀t',g (!b)=some t' →t' +25≤d9:=fun t' ht' =>by
    rcases hor with⟨o1,o2,-,-⟩ | ⟨-,o2,-,-⟩
    ·obtain⟨t,e1,e2⟩:=h.own hd o1 b (by rw[o2,hfrom])
     have:=(u3 b t e1).2
     have:=e2 t' ht'
     omega
    ·obtain⟨v1,v2⟩:=u3 _ t' ht'
     have:¬ap7 c a.k.lead.at_ d9=true:=fun hh=>o2 ⟨v1,hh⟩
     simp only[ap7,hc.1,hc.2,decide_eq_true_eq] at this
     rw[F4 (n:=d9-a.k.lead.at_) (by omega) (by omega),F4 (by decide) (by decide)] at this
     omega
   have rep:(Z5 c rs').lead.is_=true:=by
    rcases hor with⟨o1,o2,-,rfl⟩ | ⟨-,-,-,rfl⟩
    ·obtain⟨t,e1,-⟩:=h.own hd o1 b (by rw[o2,hfrom])
     exact(h.gr b t e1).2.2
    ·rw[aA9];exact cP0 _ rfl
   have mem:∀k t,az1 g b d9 k=some t→(k=b∧t=d9)∨(k= !b∧g (!b)=some t):=fun k t e=>by
    unfold az1 at e
    by_cases hk:k=b
    ·rw[if_pos hk] at e;exact .inl ⟨hk,(Option.some.inj e).symm⟩
    ·rw[if_neg hk] at e
     have:k= !b:=by cases k<;>cases b<;>simp_all
     subst this
     exact .inr ⟨rfl,e⟩
   refine⟨fun k t e=> ?_,fun t0 t1 e0 e1=> ?_,fun _=>⟨h0.1,Int.le_refl _,fun k t e=>⟨rfl,?_⟩⟩,fun _ _ k hw=> ?_⟩
   ·rcases mem k t e with⟨rfl,rfl⟩ | ⟨rfl,e'⟩
    ·exact⟨h0.1,Int.le_refl _,rep⟩
    ·have:=h.gr _ t e';exact⟨this.1,this.2.1,rep⟩
   ·rcases mem _ t0 e0 with⟨k0,rfl⟩ | ⟨k0,e0'⟩
    ·rcases mem _ t1 e1 with⟨k1,rfl⟩ | ⟨k1,e1'⟩
     ·rw[←k0] at k1;cases k1
     ·exact .inr (other _ e1')
    ·rcases mem _ t1 e1 with⟨k1,rfl⟩ | ⟨k1,e1'⟩
     ·exact .inl (other _ e0')
     ·rw[←k0] at k1;cases k1
   ·rcases mem k t e with⟨-,rfl⟩ | ⟨-,e'⟩
    ·exact Int.le_refl _
    ·exact(h.gr _ t e').2.1
   ·have hw:(if b=true then (11:Int) else 10)=(if k=true then 11 else 10):=hw
    have hk:k=b:=by cases k<;>cases b<;>simp_all
    subst hk
    refine⟨d9,by simp[az1],fun t' e=> ?_⟩
    rcases mem _ t' e with⟨k0,-⟩ | ⟨-,e'⟩
    ·cases k<;>cases k0
    ·exact other t' e'
theorem LI.new:LI c (a0 c) (fun _=>none) 0:=⟨fun k t e=>(by cases e),fun t0 t1 e=>(by cases e),fun _=>⟨by simp[a0,v8],by simp[a0,v8],fun k t e=>(by cases e)⟩,fun _ h=>by cases h⟩
end
abbrev Gh:=Nat→Bool→Option Int
/-- A holder: what it has was granted by whom its bits say. -/
structure HI (G : Gh) (b : Bool) (h : l6) (d9 : Int) : Prop where
  ep : h.Epoch = 0
  nn : 0 ≤ h.Nonce ∧ h.Nonce ≤ d9
  gr : 0 ≤ h.Grants ∧ h.Grants < 8
  bits : ∀ j, j < 3 → h.Grants.toNat.testBit j = true → ∃ t, G j b = some t ∧ h.Nonce ≤ t
  un : h.Until ≤ 0 ∨ ∃ (n : Int) (S : Nat), h.Until ≤ n + 20 ∧ 2 ≤ cnt S 3 ∧ ∀ j, j < 3 → S.testBit j = true → ∃ t, G j b = some t ∧ n ≤ t
def GLe (G G' :Gh):Prop:=∀j k t,G j k=some t→∃t',G' j k=some t' ∧t≤t'
theorem GLe.refl (G:Gh):GLe G G:=fun _ _ t h=>⟨t,h,Int.le_refl _⟩
section
variable {G G' : Gh} {b : Bool} {h : l6} {d9 : Int}
theorem HI.mono {n:Int} (hi:HI G b h d9) (hg:GLe G G') (hn:d9≤n):HI G' b h n:=by
 refine⟨hi.ep,⟨hi.nn.1,by have:=hi.nn.2;omega⟩,hi.gr,fun j hj hb=> ?_,?_⟩
 ·obtain⟨t,h1,h2⟩:=hi.bits j hj hb
  obtain⟨t',h3,h4⟩:=hg j b t h1
  exact⟨t',h3,by omega⟩
 ·rcases hi.un with h1 | ⟨n,S,h1,h2,h3⟩
  ·exact .inl h1
  ·refine .inr ⟨n,S,h1,h2,fun j hj hb=> ?_⟩
   obtain⟨t,h4,h5⟩:=h3 j hj hb
   obtain⟨t',h6,h7⟩:=hg j b t h4
   exact⟨t',h6,by omega⟩
theorem HI.ask (hi:HI G b h d9) (h0:0≤d9):HI G b (aw2 h 0 d9) d9:=by
 refine⟨rfl,⟨h0,Int.le_refl _⟩,⟨by simp[aw2],by simp[aw2]⟩,fun j hj hb=>by simp[aw2] at hb,?_⟩
 have:(aw2 h 0 d9).Until=h.Until:=by unfold aw2;rw[if_pos hi.ep]
 rw[this];exact hi.un
theorem cH2:fN n3=1:=rfl
theorem cH4:lP n3=20:=rfl
theorem HI.grant {j:Nat}{to:Int} (hi:HI G b h d9) (hj:j<3) (ht:∃t,G j b=some t∧h.Nonce≤t):HI G b (G9 h n3 (H1 (j:Int) (H7 b to h.Nonce))) d9:=by
 unfold G9
 split
 rotate_left
 ·exact hi
 ·have hf:(H1 (j:Int) (H7 b to h.Nonce)).From.toNat=j:=rfl
  rw[hf]
  have hg:=hi.gr
  have hlt:h.Grants.toNat ||| 2^j<8:=Nat.or_lt_two_pow (n:=3) (by omega) (by
   have:j=0∨j=1∨j=2:=by omega
   rcases this with rfl | rfl | rfl<;>decide)
  have hb:∀j',j' <3→(h.Grants.toNat ||| 2^j).testBit j' =true→∃t,G j' b=some t∧h.Nonce≤t:=fun j' hj' hb=>by
   rw[Nat.testBit_or,Nat.testBit_two_pow,Bool.or_eq_true,decide_eq_true_eq] at hb
   rcases hb with hb | rfl
   ·exact hi.bits j' hj' hb
   ·exact ht
  refine⟨hi.ep,hi.nn,⟨by simp only[ay4];omega,by simp only[ay4];omega⟩,fun j' hj' hb' =>hb j' hj' (by simpa only[ay4,Int.toNat_natCast] using hb'),?_⟩
  simp only[ay4]
  cases hm:bs1 n3 (h.Grants.toNat ||| 2^j) with
  | false=>exact hi.un
  | true=>
   simp only[cond_true,cH4]
   have h2:2≤cnt (h.Grants.toNat ||| 2^j) 3:=by
    simp only[bs1,cH2] at hm
    exact of_decide_eq_true hm
   by_cases hc:h.Nonce+20≤h.Until
   ·have:C9 h.Until (h.Nonce+20)=h.Until:=by unfold C9;split<;>omega
    rw[this];exact hi.un
   ·have:C9 h.Until (h.Nonce+20)=h.Nonce+20:=by unfold C9;split<;>omega
    rw[this]
    exact .inr ⟨h.Nonce,_,Int.le_refl _,h2,hb⟩
theorem dc3 (S S' :Nat) (h:2≤cnt S 3) (h' :2≤cnt S' 3):∃j,j<3∧S.testBit j=true∧S'.testBit j=true:=by
 simp only[cnt] at h h'
 cases a0:S.testBit 0<;>cases a1:S.testBit 1<;>cases a2:S.testBit 2<;>cases b0:S'.testBit 0<;>cases b1:S'.testBit 1<;>cases b2:S'.testBit 2<;>simp[a0,a1,a2,b0,b1,b2] at h h' <;>first
  | exact⟨0,by decide,a0,b0⟩
  | exact⟨1,by decide,a1,b1⟩
  | exact⟨2,by decide,a2,b2⟩
theorem db7 {h0 h1:l6} (hp:∀j,j<3→∀t0 t1,G j false=some t0→G j true=some t1→t0+25≤t1∨t1+25≤t0) (hn:∀j,j<3→∀k t,G j k=some t→t≤d9) (n0:0≤d9)
  (a:HI G false h0 d9) (b:HI G true h1 d9):¬(bg1 h0 0 d9=true∧bg1 h1 0 d9=true):=by
 rintro ⟨l0,l1⟩
 simp only[bg1,Bool.and_eq_true,decide_eq_true_eq] at l0 l1
 rcases a.un with a1 | ⟨n,S,a1,a2,a3⟩
 ·omega
 rcases b.un with b1 | ⟨n',S',b1,b2,b3⟩
 ·omega
 obtain⟨j,hj,s1,s2⟩:=dc3 S S' a2 b2
 obtain⟨t0,g0,e0⟩:=a3 j hj s1
 obtain⟨t1,g1,e1⟩:=b3 j hj s2
 have m0:=hn j hj _ _ g0
 have m1:=hn j hj _ _ g1
 rcases hp j hj t0 t1 g0 g1 with h | h<;>omega
theorem HI.zero:HI (fun _ _=>none) b ⟨0,0,0,0⟩ 0:=⟨rfl,by decide,by decide,fun j _ h=>by simp at h,.inl (by decide)⟩
end
noncomputable def ch6 (y:Bool):D×i4:=(.bool y,[])
noncomputable def aA0:Option Bool:=((ah4 (⟨0,0,0,0⟩:l6) 1 5).bind fun y2=>((Q7 y2 (⟨1,2,2,1,3,[1,0],5,3,2,2,20,20,5,10,3,50,3,1000,1500,700,30,20,40,5,10,5,10,4,3,5⟩:f0) (⟨11,0,0,1,0,0,5,0,0,0,false,(⟨0,0,0,0,0,0,0,0,0,0,[],[]⟩:Plan),[],[],[]⟩:i5)).bind fun y3=>((Q7 y3 (⟨1,2,2,1,3,[1,0],5,3,2,2,20,20,5,10,3,50,3,1000,1500,700,30,20,40,5,10,5,10,4,3,5⟩:f0) (⟨11,2,0,1,0,0,5,0,0,0,false,(⟨0,0,0,0,0,0,0,0,0,0,[],[]⟩:Plan),[],[],[]⟩:i5)).bind fun y4=>((Q4 y3 1 6).bind fun y5=>(bif (!y5) then ((Q4 y4 1 24).bind fun y7=>(bif y7 then ((Q4 y4 1 25).bind fun y9=>(bif (!y9) then ((Q4 y4 2 6).bind fun y11=>(some (!y11))) else (some false))) else (some false))) else (some false))))))
theorem bY0 {r:Bool} (h:aA0=some r):l4 E 4 [] [] (Rs ch6 r):=so (fn:=Tryd.f4) (k:=false) (m:=0) h<| by
 intro r h;unfold aA0 at h
 refine zlC 7 [] (o:=aF8) (y:=(⟨1,2,2,1,3,[1,0],5,3,2,2,20,20,5,10,3,50,3,1000,1500,700,30,20,40,5,10,5,10,4,3,5⟩:f0)) rfl (fun _=>bb4) ?_
 refine zc 9 [] h (fun _=>bo1) fun y2 h=> ?_
 refine zc 13 [some 1,some 1,some 1,some 1,some 1] h (fun _=>aE1) fun y3 h=> ?_
 refine zc 12 [some 1,some 1,some 1,some 1,some 1] h (fun _=>aE1) fun y4 h=> ?_
 refine zc 10 [] h (fun _=>aa6) fun y5 h=> ?_
 refine zs 3 h (fun h=> ?_) fun h=> ?_
 ·
  refine zc 3 [] h (fun _=>aa6) fun y7 h=> ?_
  refine zs 4 h (fun h=> ?_) fun h=> ?_
  ·
   refine zc 3 [] h (fun _=>aa6) fun y9 h=> ?_
   refine zs 6 h (fun h=> ?_) fun h=> ?_
   ·
    refine zc 3 [] h (fun _=>aa6) fun y11 h=> ?_
    exact zu 7 h
   exact zu 9 h
  exact zu 18 h
 exact zu 25 h
noncomputable def m7:=r4 (r9 Tryd.f3)
noncomputable def aS3 (y:Bool):D×i4:=(.bool y,[])
inductive q8 where
 | s0
 | s1 (up F2:Bool)
 | s2 (up:Bool)
 | s3 (up:Bool) (af2:i0) (c:f0) (d8 ac6:Int) (ad9:Bool) (b4 b5:List Int)
 | s4 (up:Bool) (af2:i0) (c:f0) (d8:Int) (j0:i0) (c2:f0) (n7 ac6:Int) (ad9:Bool) (k8:Int) (k7:Bool) (b6 b7:List Int) (b8 b9:List Int)
 | s5 (up:Bool) (af2:i0) (c:f0) (d8:Int) (j0:i0) (c2:f0) (n7:Int) (p8:i0) (c3:f0) (o9 ac6:Int) (ad9:Bool) (k8:Int) (k7:Bool) (p7:Int) (p6:Bool) (b8 b9:List Int) (v6 v5:List Int) (r3 v7:List Int)
 | s6 (up:Bool) (d9 i:Int) (h_:List l6) (af2:i0) (c:f0) (d8:Int) (j0:i0) (c2:f0) (n7:Int) (p8:i0) (c3:f0) (o9 ac6:Int) (ad9:Bool) (k8:Int) (k7:Bool) (p7:Int) (p6:Bool) (b9 v6:List Int) (v5 r3:List Int) (v7 A8:List Int)
 | s7 (up:Bool) (d9 i:Int) (h_:List l6) (af2:i0) (c:f0) (d8:Int) (j0:i0) (c2:f0) (n7:Int) (p8:i0) (c3:f0) (o9 ac6:Int) (ad9:Bool) (k8:Int) (k7:Bool) (p7:Int) (p6:Bool) (b9 v6:List Int) (v5 r3:List Int) (v7 A8:List Int)
 | s8 (up:Bool) (d9 i to_:Int) (h_:List l6) (af2:i0) (c:f0) (d8:Int) (j0:i0) (c2:f0) (n7:Int) (p8:i0) (c3:f0) (o9 ac6:Int) (ad9:Bool) (k8:Int) (k7:Bool) (p7:Int) (p6:Bool) (b9 v6:List Int) (v5 r3:List Int) (v7 A8:List Int)
 | s10 (up:Bool) (d9 i k:Int) (r_:List i5) (h_:List l6) (af2:i0) (c:f0) (d8:Int) (j0:i0) (c2:f0) (n7:Int) (p8:i0) (c3:f0) (o9 ac6:Int) (ad9:Bool) (k8:Int) (k7:Bool) (p7:Int) (p6:Bool) (b9 v6:List Int) (v5 r3:List Int) (v7 A8:List Int)
 | s9 (up:Bool) (d9 i k:Int) (r_:List i5) (n:Int) (h_:List l6) (af2:i0) (c:f0) (d8:Int) (j0:i0) (c2:f0) (n7:Int) (p8:i0) (c3:f0) (o9 ac6:Int) (ad9:Bool) (k8:Int) (k7:Bool) (p7:Int) (p6:Bool) (b9 v6:List Int) (v5 r3:List Int) (v7 A8:List Int)
noncomputable def aS6 (l_:List q6):q8→M
 | .s0=>J0 Tryd.f3 [.sl false 4 (List.map q6.enc l_)] []
 | .s1 up F2=>⟨[.code (m7 [1,1,1,0,1]),.code (m7 [1,1,1,1])],[(0,.sl false 4 (List.map q6.enc l_)),(3,.bool up),(4,.ptr 0 0 0),(24,.bool F2)],[some ⟨30,false,[[.int .i64 1,.int .i64 2,.int .i64 2,.int .i64 1,.int .i64 3,.sl false 1 (List.map (d7 .i64) ([1,0])),.int .i64 5,.int .i64 3,.int .i64 2,.int .i64 2,.int .i64 20,.int .i64 20,.int .i64 5,.int .i64 10,.int .i64 3,.int .i64 50,.int .i64 3,.int .i64 1000,.int .i64 1500,.int .i64 700,.int .i64 30,.int .i64 20,.int .i64 40,.int .i64 5,.int .i64 10,.int .i64 5,.int .i64 10,.int .i64 4,.int .i64 3,.int .i64 5]]⟩]⟩
 | .s2 up=>⟨[.lpc (m7 [1,1,1,1,1,0,1,0,0]) 121,.blk 0,.code (m7 [1,1,1,1,1,1])],[(0,.sl false 4 (List.map q6.enc l_)),(3,.bool up),(4,.ptr 0 0 0),(5,.sl true 0 []),(6,.int .i64 0)],[some ⟨30,false,[[.int .i64 1,.int .i64 2,.int .i64 2,.int .i64 1,.int .i64 3,.sl false 1 (List.map (d7 .i64) ([1,0])),.int .i64 5,.int .i64 3,.int .i64 2,.int .i64 2,.int .i64 20,.int .i64 20,.int .i64 5,.int .i64 10,.int .i64 3,.int .i64 50,.int .i64 3,.int .i64 1000,.int .i64 1500,.int .i64 700,.int .i64 30,.int .i64 20,.int .i64 40,.int .i64 5,.int .i64 10,.int .i64 5,.int .i64 10,.int .i64 4,.int .i64 3,.int .i64 5]]⟩]⟩
 | .s3 up af2 c d8 ac6 ad9 b4 b5=>⟨[.lpc (m7 [1,1,1,1,1,0,1,0,0]) 121,.blk 0,.code (m7 [1,1,1,1,1,1])],[(0,.sl false 4 (List.map q6.enc l_)),(3,.bool up),(4,.ptr 0 0 0),(5,.msl 1 0 1 1 false),(6,.int .i64 1)],[some ⟨30,false,[[.int .i64 1,.int .i64 2,.int .i64 2,.int .i64 1,.int .i64 3,.sl false 1 (List.map (d7 .i64) ([1,0])),.int .i64 5,.int .i64 3,.int .i64 2,.int .i64 2,.int .i64 20,.int .i64 20,.int .i64 5,.int .i64 10,.int .i64 3,.int .i64 50,.int .i64 3,.int .i64 1000,.int .i64 1500,.int .i64 700,.int .i64 30,.int .i64 20,.int .i64 40,.int .i64 5,.int .i64 10,.int .i64 5,.int .i64 10,.int .i64 4,.int .i64 3,.int .i64 5]]⟩,some ⟨1,true,[[.ptr 2 0 0]]⟩,some ⟨67,true,[(i0.l af2 (f0.l c [.int .i64 d8,.ptr 3 0 0]))]⟩,some ⟨4,true,[[(i9 4 (List.map (d7 .u8) b4)),(i9 5 (List.map (d7 .u8) b5)),.int .i64 ac6,.bool ad9]]⟩,some ⟨1,false,(List.map (d7 .u8) b4)⟩,some ⟨1,false,(List.map (d7 .u8) b5)⟩]⟩
 | .s4 up af2 c d8 j0 c2 n7 ac6 ad9 k8 k7 b6 b7 b8 b9=>⟨[.lpc (m7 [1,1,1,1,1,0,1,0,0]) 121,.blk 0,.code (m7 [1,1,1,1,1,1])],[(0,.sl false 4 (List.map q6.enc l_)),(3,.bool up),(4,.ptr 0 0 0),(5,.msl 1 0 2 2 false),(6,.int .i64 2)],[some ⟨30,false,[[.int .i64 1,.int .i64 2,.int .i64 2,.int .i64 1,.int .i64 3,.sl false 1 (List.map (d7 .i64) ([1,0])),.int .i64 5,.int .i64 3,.int .i64 2,.int .i64 2,.int .i64 20,.int .i64 20,.int .i64 5,.int .i64 10,.int .i64 3,.int .i64 50,.int .i64 3,.int .i64 1000,.int .i64 1500,.int .i64 700,.int .i64 30,.int .i64 20,.int .i64 40,.int .i64 5,.int .i64 10,.int .i64 5,.int .i64 10,.int .i64 4,.int .i64 3,.int .i64 5]]⟩,some ⟨1,true,[[.ptr 2 0 0],[.ptr 3 0 0]]⟩,some ⟨67,true,[(i0.l af2 (f0.l c [.int .i64 d8,.ptr 4 0 0]))]⟩,some ⟨67,true,[(i0.l j0 (f0.l c2 [.int .i64 n7,.ptr 5 0 0]))]⟩,some ⟨4,true,[[(i9 6 (List.map (d7 .u8) b6)),(i9 7 (List.map (d7 .u8) b7)),.int .i64 ac6,.bool ad9]]⟩,some ⟨4,true,[[(i9 8 (List.map (d7 .u8) b8)),(i9 9 (List.map (d7 .u8) b9)),.int .i64 k8,.bool k7]]⟩,some ⟨1,false,(List.map (d7 .u8) b6)⟩,some ⟨1,false,(List.map (d7 .u8) b7)⟩,some ⟨1,false,(List.map (d7 .u8) b8)⟩,some ⟨1,false,(List.map (d7 .u8) b9)⟩]⟩
 | .s5 up af2 c d8 j0 c2 n7 p8 c3 o9 ac6 ad9 k8 k7 p7 p6 b8 b9 v6 v5 r3 v7=>⟨[.lpc (m7 [1,1,1,1,1,0,1,0,0]) 121,.blk 0,.code (m7 [1,1,1,1,1,1])],[(0,.sl false 4 (List.map q6.enc l_)),(3,.bool up),(4,.ptr 0 0 0),(5,.msl 1 0 3 3 false),(6,.int .i64 3)],[some ⟨30,false,[[.int .i64 1,.int .i64 2,.int .i64 2,.int .i64 1,.int .i64 3,.sl false 1 (List.map (d7 .i64) ([1,0])),.int .i64 5,.int .i64 3,.int .i64 2,.int .i64 2,.int .i64 20,.int .i64 20,.int .i64 5,.int .i64 10,.int .i64 3,.int .i64 50,.int .i64 3,.int .i64 1000,.int .i64 1500,.int .i64 700,.int .i64 30,.int .i64 20,.int .i64 40,.int .i64 5,.int .i64 10,.int .i64 5,.int .i64 10,.int .i64 4,.int .i64 3,.int .i64 5]]⟩,some ⟨1,true,[[.ptr 2 0 0],[.ptr 3 0 0],[.ptr 4 0 0]]⟩,some ⟨67,true,[(i0.l af2 (f0.l c [.int .i64 d8,.ptr 5 0 0]))]⟩,some ⟨67,true,[(i0.l j0 (f0.l c2 [.int .i64 n7,.ptr 6 0 0]))]⟩,some ⟨67,true,[(i0.l p8 (f0.l c3 [.int .i64 o9,.ptr 7 0 0]))]⟩,some ⟨4,true,[[(i9 8 (List.map (d7 .u8) b8)),(i9 9 (List.map (d7 .u8) b9)),.int .i64 ac6,.bool ad9]]⟩,some ⟨4,true,[[(i9 10 (List.map (d7 .u8) v6)),(i9 11 (List.map (d7 .u8) v5)),.int .i64 k8,.bool k7]]⟩,some ⟨4,true,[[(i9 12 (List.map (d7 .u8) r3)),(i9 13 (List.map (d7 .u8) v7)),.int .i64 p7,.bool p6]]⟩,some ⟨1,false,(List.map (d7 .u8) b8)⟩,some ⟨1,false,(List.map (d7 .u8) b9)⟩,some ⟨1,false,(List.map (d7 .u8) v6)⟩,some ⟨1,false,(List.map (d7 .u8) v5)⟩,some ⟨1,false,(List.map (d7 .u8) r3)⟩,some ⟨1,false,(List.map (d7 .u8) v7)⟩]⟩
 | .s6 up d9 i h_ af2 c d8 j0 c2 n7 p8 c3 o9 ac6 ad9 k8 k7 p7 p6 b9 v6 v5 r3 v7 A8=>⟨[.lpc (m7 [1,1,1,1,1,1,1,1,0,1,0,0]) 953,.blk 2,.code (m7 [1,1,1,1,1,1,1,1,1])],[(0,.sl false 4 (List.map q6.enc l_)),(3,.bool up),(4,.ptr 0 0 0),(5,.msl 1 0 3 3 false),(7,.ptr 2 0 0),(8,.int .i64 d9),(9,.int .i64 i)],[some ⟨30,false,[[.int .i64 1,.int .i64 2,.int .i64 2,.int .i64 1,.int .i64 3,.sl false 1 (List.map (d7 .i64) ([1,0])),.int .i64 5,.int .i64 3,.int .i64 2,.int .i64 2,.int .i64 20,.int .i64 20,.int .i64 5,.int .i64 10,.int .i64 3,.int .i64 50,.int .i64 3,.int .i64 1000,.int .i64 1500,.int .i64 700,.int .i64 30,.int .i64 20,.int .i64 40,.int .i64 5,.int .i64 10,.int .i64 5,.int .i64 10,.int .i64 4,.int .i64 3,.int .i64 5]]⟩,some ⟨1,true,[[.ptr 3 0 0],[.ptr 4 0 0],[.ptr 5 0 0]]⟩,some ⟨4,false,(List.map l6.enc h_)⟩,some ⟨67,true,[(i0.l af2 (f0.l c [.int .i64 d8,.ptr 6 0 0]))]⟩,some ⟨67,true,[(i0.l j0 (f0.l c2 [.int .i64 n7,.ptr 7 0 0]))]⟩,some ⟨67,true,[(i0.l p8 (f0.l c3 [.int .i64 o9,.ptr 8 0 0]))]⟩,some ⟨4,true,[[(i9 9 (List.map (d7 .u8) b9)),(i9 10 (List.map (d7 .u8) v6)),.int .i64 ac6,.bool ad9]]⟩,some ⟨4,true,[[(i9 11 (List.map (d7 .u8) v5)),(i9 12 (List.map (d7 .u8) r3)),.int .i64 k8,.bool k7]]⟩,some ⟨4,true,[[(i9 13 (List.map (d7 .u8) v7)),(i9 14 (List.map (d7 .u8) A8)),.int .i64 p7,.bool p6]]⟩,some ⟨1,false,(List.map (d7 .u8) b9)⟩,some ⟨1,false,(List.map (d7 .u8) v6)⟩,some ⟨1,false,(List.map (d7 .u8) v5)⟩,some ⟨1,false,(List.map (d7 .u8) r3)⟩,some ⟨1,false,(List.map (d7 .u8) v7)⟩,some ⟨1,false,(List.map (d7 .u8) A8)⟩]⟩
 | .s7 up d9 i h_ af2 c d8 j0 c2 n7 p8 c3 o9 ac6 ad9 k8 k7 p7 p6 b9 v6 v5 r3 v7 A8=>⟨[.code (m7 [1,1,1,1,1,1,1,1,0,1,0,0,1,0,0,1,1,1,1,1]),.blk 3,.code (m7 [1,1,1,1,1,1,1,1,0,1,0,0,1,1]),.lp (m7 [1,1,1,1,1,1,1,1,0,1,0,0]) 953,.blk 2,.code (m7 [1,1,1,1,1,1,1,1,1])],[(0,.sl false 4 (List.map q6.enc l_)),(3,.bool up),(4,.ptr 0 0 0),(5,.msl 1 0 3 3 false),(7,.ptr 2 0 0),(8,.int .i64 d9),(9,.int .i64 i)],[some ⟨30,false,[[.int .i64 1,.int .i64 2,.int .i64 2,.int .i64 1,.int .i64 3,.sl false 1 (List.map (d7 .i64) ([1,0])),.int .i64 5,.int .i64 3,.int .i64 2,.int .i64 2,.int .i64 20,.int .i64 20,.int .i64 5,.int .i64 10,.int .i64 3,.int .i64 50,.int .i64 3,.int .i64 1000,.int .i64 1500,.int .i64 700,.int .i64 30,.int .i64 20,.int .i64 40,.int .i64 5,.int .i64 10,.int .i64 5,.int .i64 10,.int .i64 4,.int .i64 3,.int .i64 5]]⟩,some ⟨1,true,[[.ptr 3 0 0],[.ptr 4 0 0],[.ptr 5 0 0]]⟩,some ⟨4,false,(List.map l6.enc h_)⟩,some ⟨67,true,[(i0.l af2 (f0.l c [.int .i64 d8,.ptr 6 0 0]))]⟩,some ⟨67,true,[(i0.l j0 (f0.l c2 [.int .i64 n7,.ptr 7 0 0]))]⟩,some ⟨67,true,[(i0.l p8 (f0.l c3 [.int .i64 o9,.ptr 8 0 0]))]⟩,some ⟨4,true,[[(i9 9 (List.map (d7 .u8) b9)),(i9 10 (List.map (d7 .u8) v6)),.int .i64 ac6,.bool ad9]]⟩,some ⟨4,true,[[(i9 11 (List.map (d7 .u8) v5)),(i9 12 (List.map (d7 .u8) r3)),.int .i64 k8,.bool k7]]⟩,some ⟨4,true,[[(i9 13 (List.map (d7 .u8) v7)),(i9 14 (List.map (d7 .u8) A8)),.int .i64 p7,.bool p6]]⟩,some ⟨1,false,(List.map (d7 .u8) b9)⟩,some ⟨1,false,(List.map (d7 .u8) v6)⟩,some ⟨1,false,(List.map (d7 .u8) v5)⟩,some ⟨1,false,(List.map (d7 .u8) r3)⟩,some ⟨1,false,(List.map (d7 .u8) v7)⟩,some ⟨1,false,(List.map (d7 .u8) A8)⟩]⟩
 | .s8 up d9 i to_ h_ af2 c d8 j0 c2 n7 p8 c3 o9 ac6 ad9 k8 k7 p7 p6 b9 v6 v5 r3 v7 A8=>⟨[.code (m7 [1,1,1,1,1,1,1,1,0,1,0,0,1,0,0,1,1,1,1,0,1,0,1,1,1,0,1]),.blk 4,.code (m7 [1,1,1,1,1,1,1,1,0,1,0,0,1,0,0,1,1,1,1,1]),.blk 3,.code (m7 [1,1,1,1,1,1,1,1,0,1,0,0,1,1]),.lp (m7 [1,1,1,1,1,1,1,1,0,1,0,0]) 953,.blk 2,.code (m7 [1,1,1,1,1,1,1,1,1])],[(0,.sl false 4 (List.map q6.enc l_)),(3,.bool up),(4,.ptr 0 0 0),(5,.msl 1 0 3 3 false),(7,.ptr 2 0 0),(8,.int .i64 d9),(9,.int .i64 i),(12,.int .i64 to_)],[some ⟨30,false,[[.int .i64 1,.int .i64 2,.int .i64 2,.int .i64 1,.int .i64 3,.sl false 1 (List.map (d7 .i64) ([1,0])),.int .i64 5,.int .i64 3,.int .i64 2,.int .i64 2,.int .i64 20,.int .i64 20,.int .i64 5,.int .i64 10,.int .i64 3,.int .i64 50,.int .i64 3,.int .i64 1000,.int .i64 1500,.int .i64 700,.int .i64 30,.int .i64 20,.int .i64 40,.int .i64 5,.int .i64 10,.int .i64 5,.int .i64 10,.int .i64 4,.int .i64 3,.int .i64 5]]⟩,some ⟨1,true,[[.ptr 3 0 0],[.ptr 4 0 0],[.ptr 5 0 0]]⟩,some ⟨4,false,(List.map l6.enc h_)⟩,some ⟨67,true,[(i0.l af2 (f0.l c [.int .i64 d8,.ptr 6 0 0]))]⟩,some ⟨67,true,[(i0.l j0 (f0.l c2 [.int .i64 n7,.ptr 7 0 0]))]⟩,some ⟨67,true,[(i0.l p8 (f0.l c3 [.int .i64 o9,.ptr 8 0 0]))]⟩,some ⟨4,true,[[(i9 9 (List.map (d7 .u8) b9)),(i9 10 (List.map (d7 .u8) v6)),.int .i64 ac6,.bool ad9]]⟩,some ⟨4,true,[[(i9 11 (List.map (d7 .u8) v5)),(i9 12 (List.map (d7 .u8) r3)),.int .i64 k8,.bool k7]]⟩,some ⟨4,true,[[(i9 13 (List.map (d7 .u8) v7)),(i9 14 (List.map (d7 .u8) A8)),.int .i64 p7,.bool p6]]⟩,some ⟨1,false,(List.map (d7 .u8) b9)⟩,some ⟨1,false,(List.map (d7 .u8) v6)⟩,some ⟨1,false,(List.map (d7 .u8) v5)⟩,some ⟨1,false,(List.map (d7 .u8) r3)⟩,some ⟨1,false,(List.map (d7 .u8) v7)⟩,some ⟨1,false,(List.map (d7 .u8) A8)⟩]⟩
 | .s10 up d9 i k r_ h_ af2 c d8 j0 c2 n7 p8 c3 o9 ac6 ad9 k8 k7 p7 p6 b9 v6 v5 r3 v7 A8=>⟨[.code (m7 [1,1,1,1,1,1,1,1,0,1,0,0,1,0,0,1,1,1,1,0,1,0,1,1,1,1,1]),.blk 4,.code (m7 [1,1,1,1,1,1,1,1,0,1,0,0,1,0,0,1,1,1,1,1]),.blk 3,.code (m7 [1,1,1,1,1,1,1,1,0,1,0,0,1,1]),.lp (m7 [1,1,1,1,1,1,1,1,0,1,0,0]) 953,.blk 2,.code (m7 [1,1,1,1,1,1,1,1,1])],[(0,.sl false 4 (List.map q6.enc l_)),(3,.bool up),(4,.ptr 0 0 0),(5,.msl 1 0 3 3 false),(7,.ptr 2 0 0),(8,.int .i64 d9),(9,.int .i64 i),(11,.int .i64 k),(13,.sl false 26 (List.map i5.enc r_))],[some ⟨30,false,[[.int .i64 1,.int .i64 2,.int .i64 2,.int .i64 1,.int .i64 3,.sl false 1 (List.map (d7 .i64) ([1,0])),.int .i64 5,.int .i64 3,.int .i64 2,.int .i64 2,.int .i64 20,.int .i64 20,.int .i64 5,.int .i64 10,.int .i64 3,.int .i64 50,.int .i64 3,.int .i64 1000,.int .i64 1500,.int .i64 700,.int .i64 30,.int .i64 20,.int .i64 40,.int .i64 5,.int .i64 10,.int .i64 5,.int .i64 10,.int .i64 4,.int .i64 3,.int .i64 5]]⟩,some ⟨1,true,[[.ptr 3 0 0],[.ptr 4 0 0],[.ptr 5 0 0]]⟩,some ⟨4,false,(List.map l6.enc h_)⟩,some ⟨67,true,[(i0.l af2 (f0.l c [.int .i64 d8,.ptr 6 0 0]))]⟩,some ⟨67,true,[(i0.l j0 (f0.l c2 [.int .i64 n7,.ptr 7 0 0]))]⟩,some ⟨67,true,[(i0.l p8 (f0.l c3 [.int .i64 o9,.ptr 8 0 0]))]⟩,some ⟨4,true,[[(i9 9 (List.map (d7 .u8) b9)),(i9 10 (List.map (d7 .u8) v6)),.int .i64 ac6,.bool ad9]]⟩,some ⟨4,true,[[(i9 11 (List.map (d7 .u8) v5)),(i9 12 (List.map (d7 .u8) r3)),.int .i64 k8,.bool k7]]⟩,some ⟨4,true,[[(i9 13 (List.map (d7 .u8) v7)),(i9 14 (List.map (d7 .u8) A8)),.int .i64 p7,.bool p6]]⟩,some ⟨1,false,(List.map (d7 .u8) b9)⟩,some ⟨1,false,(List.map (d7 .u8) v6)⟩,some ⟨1,false,(List.map (d7 .u8) v5)⟩,some ⟨1,false,(List.map (d7 .u8) r3)⟩,some ⟨1,false,(List.map (d7 .u8) v7)⟩,some ⟨1,false,(List.map (d7 .u8) A8)⟩]⟩
 | .s9 up d9 i k r_ n h_ af2 c d8 j0 c2 n7 p8 c3 o9 ac6 ad9 k8 k7 p7 p6 b9 v6 v5 r3 v7 A8=>⟨[.lpc (m7 [1,1,1,1,1,1,1,1,0,1,0,0,1,0,0,1,1,1,1,0,1,0,1,1,1,1,1,1,0,0]) 27577,.blk 5,.blk 4,.code (m7 [1,1,1,1,1,1,1,1,0,1,0,0,1,0,0,1,1,1,1,1]),.blk 3,.code (m7 [1,1,1,1,1,1,1,1,0,1,0,0,1,1]),.lp (m7 [1,1,1,1,1,1,1,1,0,1,0,0]) 953,.blk 2,.code (m7 [1,1,1,1,1,1,1,1,1])],[(0,.sl false 4 (List.map q6.enc l_)),(3,.bool up),(4,.ptr 0 0 0),(5,.msl 1 0 3 3 false),(7,.ptr 2 0 0),(8,.int .i64 d9),(9,.int .i64 i),(11,.int .i64 k),(13,.sl false 26 (List.map i5.enc r_)),(14,.int .i64 n)],[some ⟨30,false,[[.int .i64 1,.int .i64 2,.int .i64 2,.int .i64 1,.int .i64 3,.sl false 1 (List.map (d7 .i64) ([1,0])),.int .i64 5,.int .i64 3,.int .i64 2,.int .i64 2,.int .i64 20,.int .i64 20,.int .i64 5,.int .i64 10,.int .i64 3,.int .i64 50,.int .i64 3,.int .i64 1000,.int .i64 1500,.int .i64 700,.int .i64 30,.int .i64 20,.int .i64 40,.int .i64 5,.int .i64 10,.int .i64 5,.int .i64 10,.int .i64 4,.int .i64 3,.int .i64 5]]⟩,some ⟨1,true,[[.ptr 3 0 0],[.ptr 4 0 0],[.ptr 5 0 0]]⟩,some ⟨4,false,(List.map l6.enc h_)⟩,some ⟨67,true,[(i0.l af2 (f0.l c [.int .i64 d8,.ptr 6 0 0]))]⟩,some ⟨67,true,[(i0.l j0 (f0.l c2 [.int .i64 n7,.ptr 7 0 0]))]⟩,some ⟨67,true,[(i0.l p8 (f0.l c3 [.int .i64 o9,.ptr 8 0 0]))]⟩,some ⟨4,true,[[(i9 9 (List.map (d7 .u8) b9)),(i9 10 (List.map (d7 .u8) v6)),.int .i64 ac6,.bool ad9]]⟩,some ⟨4,true,[[(i9 11 (List.map (d7 .u8) v5)),(i9 12 (List.map (d7 .u8) r3)),.int .i64 k8,.bool k7]]⟩,some ⟨4,true,[[(i9 13 (List.map (d7 .u8) v7)),(i9 14 (List.map (d7 .u8) A8)),.int .i64 p7,.bool p6]]⟩,some ⟨1,false,(List.map (d7 .u8) b9)⟩,some ⟨1,false,(List.map (d7 .u8) v6)⟩,some ⟨1,false,(List.map (d7 .u8) v5)⟩,some ⟨1,false,(List.map (d7 .u8) r3)⟩,some ⟨1,false,(List.map (d7 .u8) v7)⟩,some ⟨1,false,(List.map (d7 .u8) A8)⟩]⟩
abbrev B8 (l_:List q6):=SOk E (Cx.of Tryd.f3 false 0) aS3 (aS6 l_)
noncomputable def ai3 (l_:List q6):Option (q8⊕Bool):=((aA0).bind fun y1=>(bif (decide (((((List.map q6.enc l_).length:Nat):Int):Int)>300)) then (some (.inl (.s1 y1 true))) else ((H3 (⟨1,2,2,1,3,[1,0],5,3,2,2,20,20,5,10,3,50,3,1000,1500,700,30,20,40,5,10,5,10,4,3,5⟩:f0) 0).bind fun y4=>match y4 with | .r0=>none | .r1 y4a0 y4a1 y4a2 y4a3 y4a4=>(some (.inl (.s1 y1 false))))))
noncomputable def av4 (l_:List q6) (up F2:Bool):Option (q8⊕Bool):=(bif F2 then (some (.inr up)) else (some (.inl (.s2 up))))
noncomputable def au9 (l_:List q6) (up:Bool):Option (q8⊕Bool):=((H3 (⟨1,2,2,1,3,[1,0],5,3,2,2,20,20,5,10,3,50,3,1000,1500,700,30,20,40,5,10,5,10,4,3,5⟩:f0) 0).bind fun y1=>match y1 with | .r0=>none | .r1 y1a0 y1a1 y1a2 y1a3 y1a4=>(some (.inl (.s3 up y1a0 (⟨1,2,2,1,3,[1,0],5,3,2,2,20,20,5,10,3,50,3,1000,1500,700,30,20,40,5,10,5,10,4,3,5⟩:f0) 0 y1a1 y1a2 y1a3 y1a4))))
noncomputable def aw7 (l_:List q6) (up:Bool) (af2:i0) (c:f0) (d8 ac6:Int) (ad9:Bool) (b4 b5:List Int):Option (q8⊕Bool):=((H3 (⟨1,2,2,1,3,[1,0],5,3,2,2,20,20,5,10,3,50,3,1000,1500,700,30,20,40,5,10,5,10,4,3,5⟩:f0) 1).bind fun y1=>match y1 with | .r0=>none | .r1 y1a0 y1a1 y1a2 y1a3 y1a4=>(some (.inl (.s4 up af2 c d8 y1a0 (⟨1,2,2,1,3,[1,0],5,3,2,2,20,20,5,10,3,50,3,1000,1500,700,30,20,40,5,10,5,10,4,3,5⟩:f0) 1 ac6 ad9 y1a1 y1a2 b4 b5 y1a3 y1a4))))
noncomputable def av9 (l_:List q6) (up:Bool) (af2:i0) (c:f0) (d8:Int) (j0:i0) (c2:f0) (n7 ac6:Int) (ad9:Bool) (k8:Int) (k7:Bool) (b6 b7:List Int) (b8 b9:List Int):Option (q8⊕Bool):=((H3 (⟨1,2,2,1,3,[1,0],5,3,2,2,20,20,5,10,3,50,3,1000,1500,700,30,20,40,5,10,5,10,4,3,5⟩:f0) 2).bind fun y1=>match y1 with | .r0=>none | .r1 y1a0 y1a1 y1a2 y1a3 y1a4=>(some (.inl (.s5 up af2 c d8 j0 c2 n7 y1a0 (⟨1,2,2,1,3,[1,0],5,3,2,2,20,20,5,10,3,50,3,1000,1500,700,30,20,40,5,10,5,10,4,3,5⟩:f0) 2 ac6 ad9 k8 k7 y1a1 y1a2 b6 b7 b8 b9 y1a3 y1a4))))
noncomputable def av2 (l_:List q6) (up:Bool) (af2:i0) (c:f0) (d8:Int) (j0:i0) (c2:f0) (n7:Int) (p8:i0) (c3:f0) (o9 ac6:Int) (ad9:Bool) (k8:Int) (k7:Bool) (p7:Int) (p6:Bool) (b8 b9:List Int) (v6 v5:List Int) (r3 v7:List Int):Option (q8⊕Bool):=(some (.inl (.s6 up 0 0 ([(⟨0,0,0,0⟩:l6),(⟨0,0,0,0⟩:l6)]) af2 c d8 j0 c2 n7 p8 c3 o9 ac6 ad9 k8 k7 p7 p6 b8 b9 v6 v5 r3 v7)))
noncomputable def u4 (l_:List q6) (up:Bool) (d9 i:Int) (h_:List l6) (af2:i0) (c:f0) (d8:Int) (j0:i0) (c2:f0) (n7:Int) (p8:i0) (c3:f0) (o9 ac6:Int) (ad9:Bool) (k8:Int) (k7:Bool) (p7:Int) (p6:Bool) (b9 v6:List Int) (v5 r3:List Int) (v7 A8:List Int):Option (q8⊕Bool):=(bif (decide (i<(((List.map q6.enc l_).length:Nat):Int))) then (bif ((decide ((0:Int)≤i))&&(decide (i<(((List.map q6.enc l_).length:Nat):Int)))) then (((l_)[i.toNat]?).bind fun y3=>(bif (((k9 .i64 y3.What 3):Int)==0) then (bif ((decide ((0:Int)≤(k9 .i64 y3.Who 1)))&&(decide (((k9 .i64 y3.Who 1):Int)<((2:Nat):Int)))) then (((h_)[(0+(k9 .i64 y3.Who 1).toNat)]?).bind fun y7=>((ah4 y7 0 (IntKind.i64.wrap (d9+(IntKind.i64.wrap (y3.A_))))).bind fun y9=>(bif ((decide ((0:Int)≤(k9 .i64 y3.Who 1)))&&(decide (((k9 .i64 y3.Who 1):Int)<((2:Nat):Int)))) then (((h_)[(0+(k9 .i64 y3.Who 1).toNat)]?).bind fun y11=>(some (.inl (.s7 up (IntKind.i64.wrap (d9+(IntKind.i64.wrap (y3.A_)))) i (List.set h_ (0+(k9 .i64 y3.Who 1).toNat) y9) af2 c d8 j0 c2 n7 p8 c3 o9 ac6 ad9 k8 k7 p7 p6 b9 v6 v5 r3 v7 A8)))) else none))) else none) else (bif (((k9 .i64 y3.What 3):Int)==2) then (bif ((decide ((0:Int)≤(Int.tmod (k9 .i64 y3.To 255) 3)))&&(decide (((Int.tmod (k9 .i64 y3.To 255) 3):Int)<((3:Nat):Int)))) then (pick (0+(Int.tmod (k9 .i64 y3.To 255) 3).toNat) [((Y1 af2 c d8 ac6 ad9 b9 v6).bind fun y16=>((z9 0 ac6 ad9 b9 v6).bind fun y17=>(some (.inl (.s8 up (IntKind.i64.wrap (d9+(IntKind.i64.wrap (y3.A_)))) i (Int.tmod (k9 .i64 y3.To 255) 3) h_ af2 c d8 j0 c2 n7 p8 c3 o9 y17.1 y17.2.1 k8 k7 p7 p6 y17.2.2.1 y17.2.2.2 v5 r3 v7 A8))))),((Y1 j0 c2 n7 k8 k7 v5 r3).bind fun y18=>((z9 0 k8 k7 v5 r3).bind fun y19=>(some (.inl (.s8 up (IntKind.i64.wrap (d9+(IntKind.i64.wrap (y3.A_)))) i (Int.tmod (k9 .i64 y3.To 255) 3) h_ af2 c d8 j0 c2 n7 p8 c3 o9 ac6 ad9 y19.1 y19.2.1 p7 p6 b9 v6 y19.2.2.1 y19.2.2.2 v7 A8))))),((Y1 p8 c3 o9 p7 p6 v7 A8).bind fun y20=>((z9 0 p7 p6 v7 A8).bind fun y21=>(some (.inl (.s8 up (IntKind.i64.wrap (d9+(IntKind.i64.wrap (y3.A_)))) i (Int.tmod (k9 .i64 y3.To 255) 3) h_ af2 c d8 j0 c2 n7 p8 c3 o9 ac6 ad9 k8 k7 y21.1 y21.2.1 b9 v6 v5 r3 y21.2.2.1 y21.2.2.2)))))]) else none) else (bif ((decide ((0:Int)≤(Int.tmod (k9 .i64 y3.To 255) 3)))&&(decide (((Int.tmod (k9 .i64 y3.To 255) 3):Int)<((3:Nat):Int)))) then (pick (0+(Int.tmod (k9 .i64 y3.To 255) 3).toNat) [(bif ((decide ((0:Int)≤(k9 .i64 y3.Who 1)))&&(decide (((k9 .i64 y3.Who 1):Int)<((2:Nat):Int)))) then (((h_)[(0+(k9 .i64 y3.Who 1).toNat)]?).bind fun y25=>((p5 (⟨10,(IntKind.i64.wrap ((10:Int)+(k9 .i64 y3.Who 1))),(Int.tmod (k9 .i64 y3.To 255) 3),0,0,0,y25.Nonce,0,0,2,false,(⟨0,0,0,0,0,0,0,0,0,0,[],[]⟩:Plan),[],[],[]⟩:i5) (IntKind.i64.wrap (d9+(IntKind.i64.wrap (y3.A_)))) af2 c d8 ac6 ad9 b9 v6).bind fun y27=>(some (.inl (.s10 up (IntKind.i64.wrap (d9+(IntKind.i64.wrap (y3.A_)))) i (k9 .i64 y3.Who 1) y27.1 h_ y27.2.1 c d8 j0 c2 n7 p8 c3 o9 y27.2.2.1 y27.2.2.2.1 k8 k7 p7 p6 y27.2.2.2.2.1 y27.2.2.2.2.2 v5 r3 v7 A8))))) else none),(bif ((decide ((0:Int)≤(k9 .i64 y3.Who 1)))&&(decide (((k9 .i64 y3.Who 1):Int)<((2:Nat):Int)))) then (((h_)[(0+(k9 .i64 y3.Who 1).toNat)]?).bind fun y29=>((p5 (⟨10,(IntKind.i64.wrap ((10:Int)+(k9 .i64 y3.Who 1))),(Int.tmod (k9 .i64 y3.To 255) 3),0,0,0,y29.Nonce,0,0,2,false,(⟨0,0,0,0,0,0,0,0,0,0,[],[]⟩:Plan),[],[],[]⟩:i5) (IntKind.i64.wrap (d9+(IntKind.i64.wrap (y3.A_)))) j0 c2 n7 k8 k7 v5 r3).bind fun y31=>(some (.inl (.s10 up (IntKind.i64.wrap (d9+(IntKind.i64.wrap (y3.A_)))) i (k9 .i64 y3.Who 1) y31.1 h_ af2 c d8 y31.2.1 c2 n7 p8 c3 o9 ac6 ad9 y31.2.2.1 y31.2.2.2.1 p7 p6 b9 v6 y31.2.2.2.2.1 y31.2.2.2.2.2 v7 A8))))) else none),(bif ((decide ((0:Int)≤(k9 .i64 y3.Who 1)))&&(decide (((k9 .i64 y3.Who 1):Int)<((2:Nat):Int)))) then (((h_)[(0+(k9 .i64 y3.Who 1).toNat)]?).bind fun y33=>((p5 (⟨10,(IntKind.i64.wrap ((10:Int)+(k9 .i64 y3.Who 1))),(Int.tmod (k9 .i64 y3.To 255) 3),0,0,0,y33.Nonce,0,0,2,false,(⟨0,0,0,0,0,0,0,0,0,0,[],[]⟩:Plan),[],[],[]⟩:i5) (IntKind.i64.wrap (d9+(IntKind.i64.wrap (y3.A_)))) p8 c3 o9 p7 p6 v7 A8).bind fun y35=>(some (.inl (.s10 up (IntKind.i64.wrap (d9+(IntKind.i64.wrap (y3.A_)))) i (k9 .i64 y3.Who 1) y35.1 h_ af2 c d8 j0 c2 n7 y35.2.1 c3 o9 ac6 ad9 k8 k7 y35.2.2.1 y35.2.2.2.1 b9 v6 v5 r3 y35.2.2.2.2.1 y35.2.2.2.2.2))))) else none)]) else none)))) else none) else (some (.inr up)))
noncomputable def ai6 (l_:List q6) (up:Bool) (d9 i:Int) (h_:List l6) (af2:i0) (c:f0) (d8:Int) (j0:i0) (c2:f0) (n7:Int) (p8:i0) (c3:f0) (o9 ac6:Int) (ad9:Bool) (k8:Int) (k7:Bool) (p7:Int) (p6:Bool) (b9 v6:List Int) (v5 r3:List Int) (v7 A8:List Int):Option (q8⊕Bool):=(((h_)[0]?).bind fun y1=>((Q4 y1 0 d9).bind fun y3=>(bif y3 then (((h_)[1]?).bind fun y5=>((Q4 y5 0 d9).bind fun y7=>(bif y7 then (some (.inr false)) else (some (.inl (.s6 up d9 (IntKind.i64.wrap (i+1)) h_ af2 c d8 j0 c2 n7 p8 c3 o9 ac6 ad9 k8 k7 p7 p6 b9 v6 v5 r3 v7 A8)))))) else (some (.inl (.s6 up d9 (IntKind.i64.wrap (i+1)) h_ af2 c d8 j0 c2 n7 p8 c3 o9 ac6 ad9 k8 k7 p7 p6 b9 v6 v5 r3 v7 A8))))))
noncomputable def av6 (l_:List q6) (up:Bool) (d9 i to_:Int) (h_:List l6) (af2:i0) (c:f0) (d8:Int) (j0:i0) (c2:f0) (n7:Int) (p8:i0) (c3:f0) (o9 ac6:Int) (ad9:Bool) (k8:Int) (k7:Bool) (p7:Int) (p6:Bool) (b9 v6:List Int) (v5 r3:List Int) (v7 A8:List Int):Option (q8⊕Bool):=(bif ((decide ((0:Int)≤to_))&&(decide (to_<((3:Nat):Int)))) then (pick (0+to_.toNat) [((x5 d9 af2 c d8 ac6 ad9 b9 v6).bind fun y3=>(some (.inl (.s7 up d9 i h_ y3.2.1 c d8 j0 c2 n7 p8 c3 o9 y3.2.2.1 y3.2.2.2.1 k8 k7 p7 p6 y3.2.2.2.2.1 y3.2.2.2.2.2 v5 r3 v7 A8)))),((x5 d9 j0 c2 n7 k8 k7 v5 r3).bind fun y4=>(some (.inl (.s7 up d9 i h_ af2 c d8 y4.2.1 c2 n7 p8 c3 o9 ac6 ad9 y4.2.2.1 y4.2.2.2.1 p7 p6 b9 v6 y4.2.2.2.2.1 y4.2.2.2.2.2 v7 A8)))),((x5 d9 p8 c3 o9 p7 p6 v7 A8).bind fun y5=>(some (.inl (.s7 up d9 i h_ af2 c d8 j0 c2 n7 y5.2.1 c3 o9 ac6 ad9 k8 k7 y5.2.2.1 y5.2.2.2.1 b9 v6 v5 r3 y5.2.2.2.2.1 y5.2.2.2.2.2))))]) else none)
noncomputable def as7 (l_:List q6) (up:Bool) (d9 i k:Int) (r_:List i5) (h_:List l6) (af2:i0) (c:f0) (d8:Int) (j0:i0) (c2:f0) (n7:Int) (p8:i0) (c3:f0) (o9 ac6:Int) (ad9:Bool) (k8:Int) (k7:Bool) (p7:Int) (p6:Bool) (b9 v6:List Int) (v5 r3:List Int) (v7 A8:List Int):Option (q8⊕Bool):=(some (.inl (.s9 up d9 i k r_ 0 h_ af2 c d8 j0 c2 n7 p8 c3 o9 ac6 ad9 k8 k7 p7 p6 b9 v6 v5 r3 v7 A8)))
noncomputable def aw1 (l_:List q6) (up:Bool) (d9 i k:Int) (r_:List i5) (n:Int) (h_:List l6) (af2:i0) (c:f0) (d8:Int) (j0:i0) (c2:f0) (n7:Int) (p8:i0) (c3:f0) (o9 ac6:Int) (ad9:Bool) (k8:Int) (k7:Bool) (p7:Int) (p6:Bool) (b9 v6:List Int) (v5 r3:List Int) (v7 A8:List Int):Option (q8⊕Bool):=(bif (decide (n<(((List.map i5.enc r_).length:Nat):Int))) then (bif ((decide ((0:Int)≤k))&&(decide (k<((2:Nat):Int)))) then (((h_)[(0+k.toNat)]?).bind fun y3=>(bif ((decide ((0:Int)≤n))&&(decide (n<(((List.map i5.enc r_).length:Nat):Int)))) then (((r_)[n.toNat]?).bind fun y6=>((Q7 y3 (⟨1,2,2,1,3,[1,0],5,3,2,2,20,20,5,10,3,50,3,1000,1500,700,30,20,40,5,10,5,10,4,3,5⟩:f0) y6).bind fun y8=>(bif ((decide ((0:Int)≤k))&&(decide (k<((2:Nat):Int)))) then (((h_)[(0+k.toNat)]?).bind fun y10=>(some (.inl (.s9 up d9 i k r_ (IntKind.i64.wrap (n+1)) (List.set h_ (0+k.toNat) y8) af2 c d8 j0 c2 n7 p8 c3 o9 ac6 ad9 k8 k7 p7 p6 b9 v6 v5 r3 v7 A8)))) else none))) else none)) else none) else (some (.inl (.s7 up d9 i h_ af2 c d8 j0 c2 n7 p8 c3 o9 ac6 ad9 k8 k7 p7 p6 b9 v6 v5 r3 v7 A8))))
noncomputable def i8 (l_:List q6):q8→Option (q8⊕Bool)
 | .s0=>ai3 l_
 | .s1 up F2=>av4 l_ up F2
 | .s2 up=>au9 l_ up
 | .s3 up af2 c d8 ac6 ad9 b4 b5=>aw7 l_ up af2 c d8 ac6 ad9 b4 b5
 | .s4 up af2 c d8 j0 c2 n7 ac6 ad9 k8 k7 b6 b7 b8 b9=>av9 l_ up af2 c d8 j0 c2 n7 ac6 ad9 k8 k7 b6 b7 b8 b9
 | .s5 up af2 c d8 j0 c2 n7 p8 c3 o9 ac6 ad9 k8 k7 p7 p6 b8 b9 v6 v5 r3 v7=>av2 l_ up af2 c d8 j0 c2 n7 p8 c3 o9 ac6 ad9 k8 k7 p7 p6 b8 b9 v6 v5 r3 v7
 | .s6 up d9 i h_ af2 c d8 j0 c2 n7 p8 c3 o9 ac6 ad9 k8 k7 p7 p6 b9 v6 v5 r3 v7 A8=>u4 l_ up d9 i h_ af2 c d8 j0 c2 n7 p8 c3 o9 ac6 ad9 k8 k7 p7 p6 b9 v6 v5 r3 v7 A8
 | .s7 up d9 i h_ af2 c d8 j0 c2 n7 p8 c3 o9 ac6 ad9 k8 k7 p7 p6 b9 v6 v5 r3 v7 A8=>ai6 l_ up d9 i h_ af2 c d8 j0 c2 n7 p8 c3 o9 ac6 ad9 k8 k7 p7 p6 b9 v6 v5 r3 v7 A8
 | .s8 up d9 i to_ h_ af2 c d8 j0 c2 n7 p8 c3 o9 ac6 ad9 k8 k7 p7 p6 b9 v6 v5 r3 v7 A8=>av6 l_ up d9 i to_ h_ af2 c d8 j0 c2 n7 p8 c3 o9 ac6 ad9 k8 k7 p7 p6 b9 v6 v5 r3 v7 A8
 | .s10 up d9 i k r_ h_ af2 c d8 j0 c2 n7 p8 c3 o9 ac6 ad9 k8 k7 p7 p6 b9 v6 v5 r3 v7 A8=>as7 l_ up d9 i k r_ h_ af2 c d8 j0 c2 n7 p8 c3 o9 ac6 ad9 k8 k7 p7 p6 b9 v6 v5 r3 v7 A8
 | .s9 up d9 i k r_ n h_ af2 c d8 j0 c2 n7 p8 c3 o9 ac6 ad9 k8 k7 p7 p6 b9 v6 v5 r3 v7 A8=>aw1 l_ up d9 i k r_ n h_ af2 c d8 j0 c2 n7 p8 c3 o9 ac6 ad9 k8 k7 p7 p6 b9 v6 v5 r3 v7 A8
theorem bi8 {l_}:B8 l_ .s0 (ai3 l_):=by
 intro r x h ha;unfold ai3 at h
 refine zc 7 [] h (fun _=>bY0) fun y1 h=> ?_
 refine zlC 5 [] (o:=aF8) (y:=(⟨1,2,2,1,3,[1,0],5,3,2,2,20,20,5,10,3,50,3,1000,1500,700,30,20,40,5,10,5,10,4,3,5⟩:f0)) rfl (fun _=>bb4) ?_
 refine zs 13 h (fun h=> ?_) fun h=> ?_
 ·
  exact zk 7 h ha
 refine zc 3 [] h (fun _=>am7) fun y4 h=> ?_
 cases y4 with
 | r0=>
  dsimp only at h
  cases h
 | r1 y4a0 y4a1 y4a2 y4a3 y4a4=>
  dsimp only at h
  exact zk 5 h ha
theorem bk0 {l_ up F2}:B8 l_ (.s1 up F2) (av4 l_ up F2):=by
 intro r x h ha;unfold av4 at h
 refine zs 1 h (fun h=> ?_) fun h=> ?_
 ·
  exact zt 6 h ha
 exact zj 13 h ha
theorem bi9 {l_ up}:B8 l_ (.s2 up) (au9 l_ up):=by
 intro r x h ha;unfold au9 at h
 refine zc 22 [] h (fun _=>am7) fun y1 h=> ?_
 cases y1 with
 | r0=>
  dsimp only at h
  cases h
 | r1 y1a0 y1a1 y1a2 y1a3 y1a4=>
  dsimp only at h
  exact zj 14 h ha
theorem bj7 {l_ up af2 c d8 ac6 ad9 b4 b5}:B8 l_ (.s3 up af2 c d8 ac6 ad9 b4 b5) (aw7 l_ up af2 c d8 ac6 ad9 b4 b5):=by
 intro r x h ha;unfold aw7 at h
 refine zc 22 [] h (fun _=>am7) fun y1 h=> ?_
 cases y1 with
 | r0=>
  dsimp only at h
  cases h
 | r1 y1a0 y1a1 y1a2 y1a3 y1a4=>
  dsimp only at h
  exact zj 15 h ha
theorem bk2 {l_ up af2 c d8 j0 c2 n7 ac6 ad9 k8 k7 b6 b7 b8 b9}:B8 l_ (.s4 up af2 c d8 j0 c2 n7 ac6 ad9 k8 k7 b6 b7 b8 b9) (av9 l_ up af2 c d8 j0 c2 n7 ac6 ad9 k8 k7 b6 b7 b8 b9):=by
 intro r x h ha;unfold av9 at h
 refine zc 22 [] h (fun _=>am7) fun y1 h=> ?_
 cases y1 with
 | r0=>
  dsimp only at h
  cases h
 | r1 y1a0 y1a1 y1a2 y1a3 y1a4=>
  dsimp only at h
  exact zj 15 h ha
theorem bj6 {l_ up af2 c d8 j0 c2 n7 p8 c3 o9 ac6 ad9 k8 k7 p7 p6 b8 b9 v6 v5 r3 v7}:B8 l_ (.s5 up af2 c d8 j0 c2 n7 p8 c3 o9 ac6 ad9 k8 k7 p7 p6 b8 b9 v6 v5 r3 v7) (av2 l_ up af2 c d8 j0 c2 n7 p8 c3 o9 ac6 ad9 k8 k7 p7 p6 b8 b9 v6 v5 r3 v7):=by
 intro r x h ha;unfold av2 at h
 exact zj 30 h ha
theorem bk1 {l_ up d9 i h_ af2 c d8 j0 c2 n7 p8 c3 o9 ac6 ad9 k8 k7 p7 p6 b9 v6 v5 r3 v7 A8}:B8 l_ (.s6 up d9 i h_ af2 c d8 j0 c2 n7 p8 c3 o9 ac6 ad9 k8 k7 p7 p6 b9 v6 v5 r3 v7 A8) (u4 l_ up d9 i h_ af2 c d8 j0 c2 n7 p8 c3 o9 ac6 ad9 k8 k7 p7 p6 b9 v6 v5 r3 v7 A8):=by
 intro r x h ha;unfold u4 at h
 refine zs 10 h (fun h=> ?_) fun h=> ?_
 ·
  refine zn 8 h fun h=> ?_
  refine zr 1 q6.enc h fun y3 h=> ?_
  refine zs 50 h (fun h=> ?_) fun h=> ?_
  ·
   refine zn 4 h fun h=> ?_
   refine zr 1 l6.enc h fun y7 h=> ?_
   refine zc 2 [] h (fun _=>bo1) fun y9 h=> ?_
   refine zn 1 h fun h=> ?_
   refine zr 1 l6.enc h fun y11 h=> ?_
   refine zw 0 (a:=(List.set (List.map l6.enc h_) (0+(k9 .i64 y3.Who 1).toNat) (l6.enc y9))) (b:=(List.map l6.enc (List.set h_ (0+(k9 .i64 y3.Who 1).toNat) y9))) (bz7 _ _ _ _) ?_
   exact zk 2 h ha
  refine zs 6 h (fun h=> ?_) fun h=> ?_
  ·
   refine zn 5 h fun h=> ?_
   refine zq3 1 (x0:= [.ptr 3 0 0]) (x1:= [.ptr 4 0 0]) (x2:= [.ptr 5 0 0]) h (fun h=> ?_) (fun h=> ?_) (fun h=> ?_)
   ·
    refine zc 1 [] h (fun _=>al5) fun y16 h=> ?_
    refine zc 1 [] h (fun _=>aw6) fun y17 h=> ?_
    exact zk 1 h ha
   ·
    refine zc 1 [] h (fun _=>al5) fun y18 h=> ?_
    refine zc 1 [] h (fun _=>aw6) fun y19 h=> ?_
    exact zk 1 h ha
   ·
    refine zc 1 [] h (fun _=>al5) fun y20 h=> ?_
    refine zc 1 [] h (fun _=>aw6) fun y21 h=> ?_
    exact zk 1 h ha
  refine zn 2 h fun h=> ?_
  refine zq3 0 (x0:= [.ptr 3 0 0]) (x1:= [.ptr 4 0 0]) (x2:= [.ptr 5 0 0]) h (fun h=> ?_) (fun h=> ?_) (fun h=> ?_)
  ·
   refine zn 0 h fun h=> ?_
   refine zr 0 l6.enc h fun y25 h=> ?_
   refine zc 0 [some 1,some 1,some 1,some 1,some 1] h (fun _=>an8) fun y27 h=> ?_
   exact zk 0 h ha
  ·
   refine zn 0 h fun h=> ?_
   refine zr 0 l6.enc h fun y29 h=> ?_
   refine zc 0 [some 1,some 1,some 1,some 1,some 1] h (fun _=>an8) fun y31 h=> ?_
   exact zk 0 h ha
  ·
   refine zn 0 h fun h=> ?_
   refine zr 0 l6.enc h fun y33 h=> ?_
   refine zc 0 [some 1,some 1,some 1,some 1,some 1] h (fun _=>an8) fun y35 h=> ?_
   exact zk 0 h ha
 exact zt 7 h ha
theorem bj9 {l_ up d9 i h_ af2 c d8 j0 c2 n7 p8 c3 o9 ac6 ad9 k8 k7 p7 p6 b9 v6 v5 r3 v7 A8}:B8 l_ (.s7 up d9 i h_ af2 c d8 j0 c2 n7 p8 c3 o9 ac6 ad9 k8 k7 p7 p6 b9 v6 v5 r3 v7 A8) (ai6 l_ up d9 i h_ af2 c d8 j0 c2 n7 p8 c3 o9 ac6 ad9 k8 k7 p7 p6 b9 v6 v5 r3 v7 A8):=by
 intro r x h ha;unfold ai6 at h
 refine zr 5 l6.enc h fun y1 h=> ?_
 refine zc 2 [] h (fun _=>aa6) fun y3 h=> ?_
 refine zs 2 h (fun h=> ?_) fun h=> ?_
 ·
  refine zr 3 l6.enc h fun y5 h=> ?_
  refine zc 4 [] h (fun _=>aa6) fun y7 h=> ?_
  refine zs 4 h (fun h=> ?_) fun h=> ?_
  ·
   exact zt 5 h ha
  exact zj 8 h ha
 exact zj 19 h ha
theorem bj5 {l_ up d9 i to_ h_ af2 c d8 j0 c2 n7 p8 c3 o9 ac6 ad9 k8 k7 p7 p6 b9 v6 v5 r3 v7 A8}:B8 l_ (.s8 up d9 i to_ h_ af2 c d8 j0 c2 n7 p8 c3 o9 ac6 ad9 k8 k7 p7 p6 b9 v6 v5 r3 v7 A8) (av6 l_ up d9 i to_ h_ af2 c d8 j0 c2 n7 p8 c3 o9 ac6 ad9 k8 k7 p7 p6 b9 v6 v5 r3 v7 A8):=by
 intro r x h ha;unfold av6 at h
 refine zn 4 h fun h=> ?_
 refine zq3 1 (x0:= [.ptr 3 0 0]) (x1:= [.ptr 4 0 0]) (x2:= [.ptr 5 0 0]) h (fun h=> ?_) (fun h=> ?_) (fun h=> ?_)
 ·
  refine zc 2 [] h (fun _=>al3) fun y3 h=> ?_
  exact zk 2 h ha
 ·
  refine zc 2 [] h (fun _=>al3) fun y4 h=> ?_
  exact zk 2 h ha
 ·
  refine zc 2 [] h (fun _=>al3) fun y5 h=> ?_
  exact zk 2 h ha
theorem bh8 {l_ up d9 i k r_ h_ af2 c d8 j0 c2 n7 p8 c3 o9 ac6 ad9 k8 k7 p7 p6 b9 v6 v5 r3 v7 A8}:B8 l_ (.s10 up d9 i k r_ h_ af2 c d8 j0 c2 n7 p8 c3 o9 ac6 ad9 k8 k7 p7 p6 b9 v6 v5 r3 v7 A8) (as7 l_ up d9 i k r_ h_ af2 c d8 j0 c2 n7 p8 c3 o9 ac6 ad9 k8 k7 p7 p6 b9 v6 v5 r3 v7 A8):=by
 intro r x h ha;unfold as7 at h
 exact zj 7 h ha
theorem bj1 {l_ up d9 i k r_ n h_ af2 c d8 j0 c2 n7 p8 c3 o9 ac6 ad9 k8 k7 p7 p6 b9 v6 v5 r3 v7 A8}:B8 l_ (.s9 up d9 i k r_ n h_ af2 c d8 j0 c2 n7 p8 c3 o9 ac6 ad9 k8 k7 p7 p6 b9 v6 v5 r3 v7 A8) (aw1 l_ up d9 i k r_ n h_ af2 c d8 j0 c2 n7 p8 c3 o9 ac6 ad9 k8 k7 p7 p6 b9 v6 v5 r3 v7 A8):=by
 intro r x h ha;unfold aw1 at h
 refine zs 10 h (fun h=> ?_) fun h=> ?_
 ·
  refine zn 4 h fun h=> ?_
  refine zr 0 l6.enc h fun y3 h=> ?_
  refine zn 1 h fun h=> ?_
  refine zr 0 i5.enc h fun y6 h=> ?_
  refine zd 0 [] h (fun _=>aE1) fun y8 h=> ?_
  refine zn 0 h fun h=> ?_
  refine zr 0 l6.enc h fun y10 h=> ?_
  refine zw 0 (a:=(List.set (List.map l6.enc h_) (0+k.toNat) (l6.enc y8))) (b:=(List.map l6.enc (List.set h_ (0+k.toNat) y8))) (bz7 _ _ _ _) ?_
  exact zj 7 h ha
 exact zk 2 h ha
noncomputable def aD8 (l_:List q6):Option Bool:=evf (i8 l_) (.s0)
theorem bt7 {l_:List q6}{r:Bool} (h:aD8 l_=some r):l4 E 3 [.sl false 4 (List.map q6.enc l_)] [] (Rs aS3 r):=sc (fn:=Tryd.f3) (k:=false) (m:=0) (I6:=(aS6 l_)) h fun s=>by
 cases s with
 | s0=>exact bi8
 | s1=>exact bk0
 | s2=>exact bi9
 | s3=>exact bj7
 | s4=>exact bk2
 | s5=>exact bj6
 | s6=>exact bk1
 | s7=>exact bj9
 | s8=>exact bj5
 | s10=>exact bh8
 | s9=>exact bj1
theorem bd0 {n:Nat}{ds:List D} (h:wtF Tryd.prog (n+1) 5 ds):∃x:Int,ds=(d7 .u8) x∧n9 .u8 x:=by
 obtain⟨m,rfl,o⟩:=cx9 (k:=.u8) (by kernel_rfl) h
 exact⟨m,rfl,o⟩
theorem aj6 {n:Nat}{ds:List D} (h:wtF Tryd.prog (n+1) 3 ds):∃x:Int,ds=(d7 .i64) x∧n9 .i64 x:=by
 obtain⟨m,rfl,o⟩:=cx9 (k:=.i64) (by kernel_rfl) h
 exact⟨m,rfl,o⟩
theorem aX8 {n:Nat}{ds:List D} (h:wtF Tryd.prog (n+2) 36 ds):∃x:q6,ds=q6.enc x∧x.Ok:=by
 have h0:=cD2 (n:=n+1) (ts:= [5,3,3,3]) (by kernel_rfl) h
 obtain⟨a0,b0,rfl,w0,h1⟩:=bf4 h0
 obtain⟨x0,rfl,o0⟩:=bd0 (n:=n+0) w0
 obtain⟨a1,b1,rfl,w1,h2⟩:=bf4 h1
 obtain⟨x1,rfl,o1⟩:=aj6 (n:=n+0) w1
 obtain⟨a2,b2,rfl,w2,h3⟩:=bf4 h2
 obtain⟨x2,rfl,o2⟩:=aj6 (n:=n+0) w2
 obtain⟨a3,b3,rfl,w3,h4⟩:=bf4 h3
 obtain⟨x3,rfl,o3⟩:=aj6 (n:=n+0) w3
 obtain rfl:=cS2 h4
 exact⟨⟨x0,x1,x2,x3⟩,rfl,o0,o1,o2,o3⟩
theorem aY7 {n:Nat}{ds:List D} (h:wtF Tryd.prog (n+3) 22 ds):∃x:List q6,ds=(D1 4 q6.enc) x∧(x.length*32≤reachBytes∧∀y∈x,y.Ok):=by
 obtain⟨rows,rfl,o,w⟩:=cG0 (n:=n+2) (e:=36) (sz:=4) (by_:=32) (by kernel_rfl) (by kernel_rfl) (by kernel_rfl) h
 obtain⟨l,rfl,q⟩:=cm0 (en:=q6.enc) (Ok:=fun y=>y.Ok) (fun r hr=>aX8 (n:=n+0) hr) rows w
 exact⟨l,rfl,by simpa using o,q⟩
theorem law17_LeaseOne_sound (H:∀(l_:List q6),(l_.length*32≤reachBytes∧∀y∈l_,y.Ok)→aD8 l_=some true):∀xs,wtA Tryd.prog Tryd.f3.params.toList xs→l4 E 3 xs [] fun d _=>d=.bool true:=by
 intro xs h
 have h0:wtA Tryd.prog [22] xs:=h
 obtain⟨d0,r0,rfl,w0,h1⟩:=cJ1 h0
 have v0:=cE0 (by kernel_rfl) w0
 obtain⟨x0,e0,o0⟩:=aY7 (n:=3) v0
 obtain⟨rfl,-⟩:=List.cons.inj e0
 obtain rfl:=cS1 h1
 exact(bt7 (H x0 o0)).mono fun d s h=>h.1
end Go.RX.L
