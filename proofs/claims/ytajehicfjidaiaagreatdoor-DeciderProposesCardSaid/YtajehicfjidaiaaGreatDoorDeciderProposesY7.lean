/-
  Words and walks for DeciderProposes. No condition.
-/
import Derived.Test.YtajehicfjidaiaaGreatDoorDeciderProposesY6
set_option linter.unusedSectionVars false
set_option linter.unnecessarySimpa false
set_option linter.unusedSimpArgs false
set_option linter.unusedVariables false
set_option maxRecDepth 100000
set_option maxHeartbeats 4000000
namespace Go.RX.L
open Go Go.RX Go.Proofs
attribute [local irreducible] i4
noncomputable def cA2 (b0 y:List Int):D×i0:=((i5 1 (List.map (d8 .u8) y)),[some ⟨1,false,(List.map (d8 .u8) b0)⟩,some ⟨1,false,(List.map (d8 .u8) y)⟩])
noncomputable def ax8 (ar6 cG7:Nat) (b0:List Int):Option (List Int):=(bif (Nat.beq ((List.take ar6 (List.drop 0 (List.map (d8 .u8) b0))).length) ar6) then (bif (decide ((0+(List.take ar6 (List.drop 0 (List.map (d8 .u8) b0))).length)*1≤l6)) then (some ([]++(List.take ar6 (List.drop 0 b0)))) else none) else none)
theorem co2 {ar6 cG7:Nat}{b0 r:List Int} (h:ax8 ar6 cG7 b0=some r):i7 E 88 [.msl 0 0 ar6 cG7 false] [some ⟨1,false,(List.map (d8 .u8) b0)⟩] (Rs (cA2 b0) r):=so (fn:=Tryz.f88) (k:=true) (m:=1) h<| by
 intro r h;unfold ax8 at h
 refine n8 hm 9 _ ?_
 refine cQ8 (Nat.beq ar6 0) (by kernel_rfl) ?_ (fun h1=> ?_)
 ·--it is not nil
  refine zn 9 h fun h=> ?_
  refine zn 0 h fun h=> ?_
  refine zw 1 (a:=((List.map (d8 .u8) ([]))++(List.take ar6 (List.drop 0 (List.map (d8 .u8) b0))))) (b:=(List.map (d8 .u8) ([]++(List.take ar6 (List.drop 0 b0))))) (by simp only[C0,E8,List.map_append,List.map_take,List.map_drop]) ?_
  exact zu 3 h
 ·--nil
  obtain rfl:ar6=0:=Nat.eq_of_beq_eq_true h1
  simp[l6] at h
  first | subst h | (obtain⟨_,h⟩:=h;subst h)
  refine n8 hm 8 _ ?_
  exact aY9 [.mat 0 1] (d:=.msl 1 0 0 0 false) (s:= [some ⟨1,false,(List.map (d8 .u8) b0)⟩,some ⟨1,false,[]⟩]) (by kernel_rfl) Cx.fin_of ⟨rfl,rfl⟩
noncomputable def dH3 (b0:List Int) (y:Unit):D×i0:=(.fn 146 [] [.ptr 1 0 0],[some ⟨1,false,(List.map (d8 .u8) b0)⟩,some ⟨1,true,[[(i5 0 (List.map (d8 .u8) b0))]]⟩])
noncomputable def bF0 (b0:List Int):Option Unit:=(some ())
theorem dn3 {b0:List Int}{r:Unit} (h:bF0 b0=some r):i7 E 117 [(i5 0 (List.map (d8 .u8) b0))] [some ⟨1,false,(List.map (d8 .u8) b0)⟩] (Rs (dH3 b0) r):=so (fn:=Tryz.f117) (k:=true) (m:=1) h<| by
 intro r h;unfold bF0 at h
 exact zu 11 h
noncomputable def bX8:=u5 (u6 Tryz.f159)
noncomputable def bY1 (y:Int):D×i0:=(.int .i64 y,[])
inductive aE8 where
 | s0 (b:List Int)
 | s1 (n:Int) (t6:List Int) (t7 t8:Int)
noncomputable def bU3:aE8→M
 | .s0 b=>C3 Tryz.f159 [.sl false 1 (List.map (d8 .u8) b)] []
 | .s1 n t6 t7 t8=>⟨[.lpc (bX8 [1,1,0,1,0,0]) 456,.blk 0,.code (bX8 [1,1,1])],[(3,.int .i64 n),(6,.sl false 1 (List.map (d8 .u8) t6)),(7,.int .i64 t7),(8,.int .i64 t8)],[]⟩
abbrev bZ3:=SOk E (Cx.of Tryz.f159 false 0) bY1 bU3
noncomputable def aT7 (b:List Int):Option (aE8⊕Int):=(some (.inl (.s1 0 b (((List.map (d8 .u8) b).length:Nat):Int) 0)))
noncomputable def aE2 (n:Int) (t6:List Int) (t7 t8:Int):Option (aE8⊕Int):=(bif (decide (t8<t7)) then (bif ((decide ((0:Int)≤t8))&&(decide (t8<(((List.map (d8 .u8) t6).length:Nat):Int)))) then (((t6)[t8.toNat]?).bind fun y3=>(some (.inl (.s1 (IntKind.i64.wrap ((D3 .i64 n 8)+(IntKind.i64.wrap (y3)))) t6 t7 (IntKind.i64.wrap (t8+1)))))) else none) else (some (.inr n)))
noncomputable def ac1:aE8→Option (aE8⊕Int)
 | .s0 b=>aT7 b
 | .s1 n t6 t7 t8=>aE2 n t6 t7 t8
theorem cy4 {b}:bZ3 (.s0 b) (aT7 b):=by
 intro r x h ha;unfold aT7 at h
 exact zj 18 h ha
theorem cz3 {n t6 t7 t8}:bZ3 (.s1 n t6 t7 t8) (aE2 n t6 t7 t8):=by
 intro r x h ha;unfold aE2 at h
 refine zs 7 h (fun h=> ?_) fun h=> ?_
 ·
  refine zn 6 h fun h=> ?_
  refine zr 1 (d8 .u8) h fun y3 h=> ?_
  exact zj 17 h ha
 exact zt 7 h ha
noncomputable def aS4 (b:List Int):Option Int:=T3 ac1 (.s0 b)
theorem bR4 {b:List Int}{r:Int} (h:aS4 b=some r):i7 E 159 [.sl false 1 (List.map (d8 .u8) b)] [] (Rs bY1 r):=sc (fn:=Tryz.f159) (k:=false) (m:=0) (H9:=bU3) h fun s=>by
 cases s with
 | s0=>exact cy4
 | s1=>exact cz3
noncomputable def aY6:=u5 (u6 Tryz.f147)
noncomputable def cD6 (b0:List Int) (y:Int×(List Int)×Int×Int):D×i0:=(.tup [.int .u8 y.1,.sl false 1 (List.map (d8 .u8) y.2.1),.int .i64 y.2.2.1,.int .i64 y.2.2.2],[some ⟨1,false,(List.map (d8 .u8) b0)⟩])
abbrev bS1 (at_:Int) (b0:List Int):=AOk E (Cx.of Tryz.f147 false 1) (cD6 b0)
noncomputable def dB0 (at_:Int) (b0:List Int) (e n:Int) (L0 Z2 T8:Nat):M:=⟨[.code (aY6 [1,1,1,1,1])],[(1,.int .i64 at_),(8,.int .i64 e),(9,.int .i64 n),(10,.msl 0 L0 Z2 T8 false)],[some ⟨1,false,(List.map (d8 .u8) b0)⟩]⟩
noncomputable def W6 (at_:Int) (b0:List Int) (e n:Int) (L0 Z2 T8:Nat):Option (Int×(List Int)×Int×Int):=(bif (e !=0) then (some (0,[],0,e)) else (bif (decide ((1:Int)<((Z2:Nat):Int))) then (((b0)[(L0+1)]?).bind fun y3=>(bif ((decide (((0:Nat):Int)≤(IntKind.i64.wrap ((4:Int)+n))))&&(decide (((IntKind.i64.wrap ((4:Int)+n)):Int)≤((T8:Nat):Int)))) then (bif (decide ((4:Int)≤(((IntKind.i64.wrap ((4:Int)+n)).toNat:Nat):Int))) then ((aP4 (L0+4) ((IntKind.i64.wrap ((4:Int)+n)).toNat-4) (T8-4) b0).bind fun y7=>(some (y3,y7,(IntKind.i64.wrap ((IntKind.i64.wrap ((IntKind.i64.wrap (at_+4))+n))+4)),0))) else none) else none)) else none))
theorem aq4 {at_ b0 e n L0 Z2 T8}:bS1 at_ b0 (dB0 at_ b0 e n L0 Z2 T8) (W6 at_ b0 e n L0 Z2 T8):=by
 intro r h;unfold W6 at h
 refine zs 7 h (fun h=> ?_) fun h=> ?_
 ·
  exact zu 9 h [.slot 0 [some 1]]
 refine zn 3 h fun h=> ?_
 refine zr 0 (d8 .u8) h fun y3 h=> ?_
 refine zn 0 h fun h=> ?_
 refine zn 0 h fun h=> ?_
 refine zdR 0 [] h (fun _=>cN0) fun y7 h=> ?_
 refine zm 1 (b:=(Nat.ble (0+(List.map (d8 .u8) y7).length) ((List.map (d8 .u8) y7).length))) (A7 _) ?_
 obtain rfl:=Option.some.inj h
 exact as6 [] (d1:=.tup [.int .u8 y3,.sl false 1 (List.take ((List.map (d8 .u8) y7).length) (List.drop 0 (List.map (d8 .u8) y7))),.int .i64 (IntKind.i64.wrap ((IntKind.i64.wrap ((IntKind.i64.wrap (at_+4))+n))+4)),.int .i64 0]) (d:=.tup [.int .u8 y3,.sl false 1 (List.map (d8 .u8) y7),.int .i64 (IntKind.i64.wrap ((IntKind.i64.wrap ((IntKind.i64.wrap (at_+4))+n))+4)),.int .i64 0]) (s1:= [some ⟨1,false,(List.map (d8 .u8) b0)⟩]) (s:= [some ⟨1,false,(List.map (d8 .u8) b0)⟩]) (by kernel_rfl) ⟨by simp[d9.enc,d9.l,l7.enc,l7.l,u4.enc,u4.l,v6.enc,v6.l,f5.enc,f5.l,Op.enc,Op.l,Plan.enc,Plan.l,E6.enc,E6.l,i8.enc,i8.l,u9.enc,u9.l,p6.enc,p6.l,f3.enc,f3.l,List.take_of_length_le,List.map_take,List.map_drop],rfl⟩ ⟨rfl,rfl⟩ Cx.fin_of
noncomputable def dx0 (at_:Int) (b0:List Int) (L0 Z2 T8:Nat) (t48:Bool):M:=⟨[.code (aY6 [1,1,1,1,0,0,1]),.blk 0,.code (aY6 [1,1,1,1,1])],[(1,.int .i64 at_),(8,.int .i64 0),(9,.int .i64 0),(10,.msl 0 L0 Z2 T8 false),(48,.bool t48)],[some ⟨1,false,(List.map (d8 .u8) b0)⟩]⟩
noncomputable def ap9 (at_:Int) (b0:List Int) (L0 Z2 T8:Nat) (t48:Bool):Option (Int×(List Int)×Int×Int):=(bif t48 then (W6 at_ b0 32 0 L0 Z2 T8) else (bif (decide ((((Z2:Nat):Int):Int)<8)) then (W6 at_ b0 31 0 L0 Z2 T8) else (bif (decide ((4:Int)≤((T8:Nat):Int))) then (bif (Nat.ble ((L0+2)+2) ((List.map (d8 .u8) b0).length)) then ((aS4 (List.take 2 (List.drop (L0+2) b0))).bind fun y5=>(bif (decide (y5>8192)) then (W6 at_ b0 2 y5 L0 Z2 T8) else (bif (decide (y5>(IntKind.i64.wrap ((IntKind.i64.wrap (((Z2:Nat):Int)-4))-4)))) then (W6 at_ b0 31 y5 L0 Z2 T8) else (bif ((decide (((0:Nat):Int)≤(IntKind.i64.wrap ((4:Int)+y5))))&&(decide (((IntKind.i64.wrap ((4:Int)+y5)):Int)≤((T8:Nat):Int)))) then (bif (decide ((1:Int)≤(((IntKind.i64.wrap ((4:Int)+y5)).toNat:Nat):Int))) then (bif (Nat.ble ((L0+1)+((IntKind.i64.wrap ((4:Int)+y5)).toNat-1)) ((List.map (d8 .u8) b0).length)) then ((bH4 (List.take ((IntKind.i64.wrap ((4:Int)+y5)).toNat-1) (List.drop (L0+1) b0))).bind fun y11=>(bif ((decide (((0:Nat):Int)≤(IntKind.i64.wrap ((IntKind.i64.wrap ((4:Int)+y5))+4))))&&(decide (((IntKind.i64.wrap ((IntKind.i64.wrap ((4:Int)+y5))+4)):Int)≤((T8:Nat):Int)))) then (bif ((decide (((0:Nat):Int)≤(IntKind.i64.wrap ((4:Int)+y5))))&&(decide (((IntKind.i64.wrap ((4:Int)+y5)):Int)≤(((IntKind.i64.wrap ((IntKind.i64.wrap ((4:Int)+y5))+4)).toNat:Nat):Int)))) then (bif (Nat.ble ((L0+(IntKind.i64.wrap ((4:Int)+y5)).toNat)+((IntKind.i64.wrap ((IntKind.i64.wrap ((4:Int)+y5))+4)).toNat-(IntKind.i64.wrap ((4:Int)+y5)).toNat)) ((List.map (d8 .u8) b0).length)) then ((aS4 (List.take ((IntKind.i64.wrap ((IntKind.i64.wrap ((4:Int)+y5))+4)).toNat-(IntKind.i64.wrap ((4:Int)+y5)).toNat) (List.drop (L0+(IntKind.i64.wrap ((4:Int)+y5)).toNat) b0))).bind fun y15=>(bif (((IntKind.i64.wrap (y11)):Int) !=y15) then (W6 at_ b0 33 y5 L0 Z2 T8) else (W6 at_ b0 0 y5 L0 Z2 T8))) else none) else none) else none)) else none) else none) else none)))) else none) else none)))
theorem bW7 {at_ b0 L0 Z2 T8 t48}:bS1 at_ b0 (dx0 at_ b0 L0 Z2 T8 t48) (ap9 at_ b0 L0 Z2 T8 t48):=by
 intro r h;unfold ap9 at h
 refine zs 1 h (fun h=> ?_) fun h=> ?_
 ·
  exact zg 4 (aq4 h)
 refine zs 8 h (fun h=> ?_) fun h=> ?_
 ·
  exact zg 4 (aq4 h)
 refine zn 4 h fun h=> ?_
 refine zn 2 h fun h=> ?_
 refine zcE 0 [] (args1:= [.sl false 1 (List.take 2 (List.drop (L0+2) (List.map (d8 .u8) b0)))]) h (fun _=>bR4) ⟨by simp[d9.enc,d9.l,l7.enc,l7.l,u4.enc,u4.l,v6.enc,v6.l,f5.enc,f5.l,Op.enc,Op.l,Plan.enc,Plan.l,E6.enc,E6.l,i8.enc,i8.l,u9.enc,u9.l,p6.enc,p6.l,f3.enc,f3.l,List.take_of_length_le,List.map_take,List.map_drop],rfl⟩ fun y5 h=> ?_
 refine zs 8 h (fun h=> ?_) fun h=> ?_
 ·
  exact zg 4 (aq4 h)
 refine zs 10 h (fun h=> ?_) fun h=> ?_
 ·
  exact zg 4 (aq4 h)
 refine zn 2 h fun h=> ?_
 refine zn 0 h fun h=> ?_
 refine zn 0 h fun h=> ?_
 refine zdE 0 [] (args1:= [.sl false 1 (List.take ((IntKind.i64.wrap ((4:Int)+y5)).toNat-1) (List.drop (L0+1) (List.map (d8 .u8) b0)))]) h (fun _=>cW0) (by simp[d9.enc,d9.l,l7.enc,l7.l,u4.enc,u4.l,v6.enc,v6.l,f5.enc,f5.l,Op.enc,Op.l,Plan.enc,Plan.l,E6.enc,E6.l,i8.enc,i8.l,u9.enc,u9.l,p6.enc,p6.l,f3.enc,f3.l,List.take_of_length_le,List.map_take,List.map_drop]) fun y11 h=> ?_
 refine zn 0 h fun h=> ?_
 refine zn 0 h fun h=> ?_
 refine zn 0 h fun h=> ?_
 refine zdE 0 [] (args1:= [.sl false 1 (List.take ((IntKind.i64.wrap ((IntKind.i64.wrap ((4:Int)+y5))+4)).toNat-(IntKind.i64.wrap ((4:Int)+y5)).toNat) (List.drop (L0+(IntKind.i64.wrap ((4:Int)+y5)).toNat) (List.map (d8 .u8) b0)))]) h (fun _=>bR4) (by simp[d9.enc,d9.l,l7.enc,l7.l,u4.enc,u4.l,v6.enc,v6.l,f5.enc,f5.l,Op.enc,Op.l,Plan.enc,Plan.l,E6.enc,E6.l,i8.enc,i8.l,u9.enc,u9.l,p6.enc,p6.l,f3.enc,f3.l,List.take_of_length_le,List.map_take,List.map_drop]) fun y15 h=> ?_
 refine zs 1 h (fun h=> ?_) fun h=> ?_
 ·
  exact zg 4 (aq4 h)
 exact zg 2 (aq4 h)
noncomputable def dC7 (at_:Int) (b0:List Int) (t18:Bool):M:=⟨[.code (aY6 [1,0,1]),.code (aY6 [1,1])],[(0,(i5 0 (List.map (d8 .u8) b0))),(1,.int .i64 at_),(18,.bool t18)],[some ⟨1,false,(List.map (d8 .u8) b0)⟩]⟩
noncomputable def aX3 (at_:Int) (b0:List Int) (t18:Bool):Option (Int×(List Int)×Int×Int):=(bif t18 then (some (0,[],0,1)) else (bif ((decide (((0:Nat):Int)≤at_))&&(decide (at_≤(((List.map (d8 .u8) b0).length:Nat):Int)))) then (bif (decide ((((((List.map (d8 .u8) b0).length-at_.toNat):Nat):Int):Int)>0)) then (bif (decide ((0:Int)<((((List.map (d8 .u8) b0).length-at_.toNat):Nat):Int))) then (((b0)[(0+at_.toNat)]?).bind fun y5=>(ap9 at_ b0 (0+at_.toNat) ((List.map (d8 .u8) b0).length-at_.toNat) ((List.map (d8 .u8) b0).length-at_.toNat) (y5 !=247))) else none) else (ap9 at_ b0 (0+at_.toNat) ((List.map (d8 .u8) b0).length-at_.toNat) ((List.map (d8 .u8) b0).length-at_.toNat) false)) else none))
theorem bZ6 {at_ b0 t18}:bS1 at_ b0 (dC7 at_ b0 t18) (aX3 at_ b0 t18):=by
 intro r h;unfold aX3 at h
 refine zs 1 h (fun h=> ?_) fun h=> ?_
 ·
  exact zu 8 h [.slot 0 [some 1]]
 refine zn 11 h fun h=> ?_
 refine zs 11 h (fun h=> ?_) fun h=> ?_
 ·
  refine zn 2 h fun h=> ?_
  refine zr 2 (d8 .u8) h fun y5 h=> ?_
  exact zg 6 (bW7 h)
 exact zg 10 (bW7 h)
noncomputable def bv9 (at_:Int) (b0:List Int):Option (Int×(List Int)×Int×Int):=(bif (decide (at_<0)) then (aX3 at_ b0 true) else (aX3 at_ b0 (decide (at_>(((List.map (d8 .u8) b0).length:Nat):Int)))))
theorem dC6 {at_:Int}{b0:List Int}{r:Int×(List Int)×Int×Int} (h:bv9 at_ b0=some r):i7 E 147 [(i5 0 (List.map (d8 .u8) b0)),.int .i64 at_] [some ⟨1,false,(List.map (d8 .u8) b0)⟩] (Rs (cD6 b0) r):=so (fn:=Tryz.f147) (k:=false) (m:=1) h<| by
 intro r h;unfold bv9 at h
 refine zs 14 h (fun h=> ?_) fun h=> ?_
 ·
  exact zg 9 (bZ6 h)
 exact zg 9 (bZ6 h)
noncomputable def dh2:=u5 (u6 Tryz.f146)
def V3 (y:Int×ap2):List D:= [D.int .i64 y.1,D.agg [D.int .u8 y.2.kind,D.sl false 1 (List.map (d8 .u8) y.2.body)]]
inductive P7 where
 | s0 (b1:List Int)
 | s1 (at_:Int) (b12:List Int)
noncomputable def af6 (l:Nat):P7→M
 | .s0 b1=>⟨[.code (u6 Tryz.f146)],[(0,D.yld l),(1,D.ptr 0 0 0)],[some ⟨1,true,[[(i5 1 (List.map (d8 .u8) b1))]]⟩,some ⟨1,false,(List.map (d8 .u8) b1)⟩]⟩
 | .s1 at_ b12=>⟨[.lpc (dh2 [1,0,0]) 11,.blk 0],[(0,D.yld l),(1,D.ptr 0 0 0),(3,D.int .i64 at_)],[some ⟨1,true,[[(i5 1 (List.map (d8 .u8) b12))]]⟩,some ⟨1,false,(List.map (d8 .u8) b12)⟩]⟩
noncomputable def aU6 (b1:List Int):Option (List (Int×ap2)×Option P7):=(some ([],some (.s1 0 b1)))
noncomputable def aD9 (at_:Int) (b12:List Int):Option (List (Int×ap2)×Option P7):=((bv9 at_ b12).bind fun y1=>(bif ((y1.2.2.2:Int) !=0) then (some ([],none)) else (Option.map (fun p=>((y1.2.2.1,(⟨y1.1,y1.2.1⟩:ap2))::p.1,p.2)) (some ([],some (.s1 y1.2.2.1 b12))))))
noncomputable def ay3:P7→i0
 | .s0 b1=> [some ⟨1,true,[[(i5 1 (List.map (d8 .u8) b1))]]⟩,some ⟨1,false,(List.map (d8 .u8) b1)⟩]
 | .s1 at_ b12=> [some ⟨1,true,[[(i5 1 (List.map (d8 .u8) b12))]]⟩,some ⟨1,false,(List.map (d8 .u8) b12)⟩]
noncomputable def ab7:P7→Option (List (Int×ap2)×Option P7)
 | .s0 b1=>aU6 b1
 | .s1 at_ b12=>aD9 at_ b12
theorem cA4 {l:Nat}{ln:i0}{φ0:y0}{J:Option (List (List D))→World→(Nat→Prop)→(Nat→Prop)→Prop}{b1:List Int}{x:List (Int×ap2)×Option P7}{Y:List (List D)} (hl:ay3 (.s0 b1)=ln) (h:aU6 b1=some x) (ha:ai2 E ln (Cx.seq Tryz.f146 2 ln l φ0 J) V3 (af6 l) ay3 x Y):i4 E (Cx.seq Tryz.f146 2 ln l φ0 J (some Y)) (fun _ s=>U7 ln s) (.go (af6 l (.s0 b1))):=by
 subst hl
 unfold aU6 at h
 refine n8 hm 7 _ ?_
 obtain rfl:=Option.some.inj h
 exact bc4 (q' :=.go (af6 l (.s1 0 b1))) (by kernel_rfl) (P8 (by kernel_rfl) ha)
theorem cy2 {l:Nat}{ln:i0}{φ0:y0}{J:Option (List (List D))→World→(Nat→Prop)→(Nat→Prop)→Prop}{at_:Int}{b12:List Int}{x:List (Int×ap2)×Option P7}{Y:List (List D)} (hl:ay3 (.s1 at_ b12)=ln) (h:aD9 at_ b12=some x) (ha:ai2 E ln (Cx.seq Tryz.f146 2 ln l φ0 J) V3 (af6 l) ay3 x Y):i4 E (Cx.seq Tryz.f146 2 ln l φ0 J (some Y)) (fun _ s=>U7 ln s) (.go (af6 l (.s1 at_ b12))):=by
 subst hl
 unfold aD9 at h
 refine zc 8 [] h (fun _=>dC6) fun y1 h=> ?_
 refine zs 17 h (fun h=> ?_) fun h=> ?_
 ·
  refine n8 hm 18 _ ?_
  obtain rfl:=Option.some.inj h
  exact bZ5 (d:=D.tup []) (s:= [some ⟨1,true,[[(i5 1 (List.map (d8 .u8) b12))]]⟩,some ⟨1,false,(List.map (d8 .u8) b12)⟩]) (by kernel_rfl) (by kernel_rfl) ha
 refine n8 hm 10 _ ?_
 refine ca3 (x:=(y1.2.2.1,(⟨y1.1,y1.2.1⟩:ap2))) (s:= [some ⟨1,true,[[(i5 1 (List.map (d8 .u8) b12))]]⟩,some ⟨1,false,(List.map (d8 .u8) b12)⟩]) h ha (by kernel_rfl) (by kernel_rfl) ?_ (fun p Y h ha=> ?_)
 · --it is stopped
   refine n8 hm 8 _ ?_
   exact bK9 (d:=D.tup []) (s:= [some ⟨1,true,[[(i5 1 (List.map (d8 .u8) b12))]]⟩,some ⟨1,false,(List.map (d8 .u8) b12)⟩]) (by kernel_rfl) (by kernel_rfl)
 · --it goes on
   refine n8 hm 14 _ ?_
   obtain rfl:=Option.some.inj h
   exact bc4 (q' :=.go (af6 l (.s1 y1.2.2.1 b12))) (by kernel_rfl) (P8 (by kernel_rfl) ha)
noncomputable def bl8 (b1:List Int):Option (List (Int×ap2)):=evl ab7 (.s0 b1)
theorem cU4 {b1:List Int}{r:List (Int×ap2)} (h:bl8 b1=some r):as3 E 146 [D.ptr 0 0 0] [some ⟨1,true,[[(i5 1 (List.map (d8 .u8) b1))]]⟩,some ⟨1,false,(List.map (d8 .u8) b1)⟩] [some ⟨1,true,[[(i5 1 (List.map (d8 .u8) b1))]]⟩,some ⟨1,false,(List.map (d8 .u8) b1)⟩] (List.map V3 r):=
 bX7 (m:=fun l=>af6 l (.s0 b1)) (fn:=Tryz.f146) (by kernel_rfl) (fun l=>by kernel_rfl) (show List.take _ _=_ by kernel_rfl) (show F5 _ _=_ by kernel_rfl) (fun l φ0 J=>bH3 (step:=ab7) (lnS:=ay3) (fun s x Y hl hs ha=>by
  cases s with
  | s0=>exact cA4 hl hs ha
  | s1=>exact cy2 hl hs ha) (by kernel_rfl) (bT9 h))
end Go.RX.L

namespace Go.RX
open Go
/-! ### one K1 of a check sum -/
def bE6 (r:Nat):Nat:=if r%2=1 then r/2^^^3988292384 else r/2
def Y2:Nat→Nat→Nat
 | 0,r=>r
 | n+1,r=>Y2 n (bE6 r)
theorem ek1 {r:Nat} (h:r<4294967296):bE6 r<4294967296:=by
 unfold bE6
 split
 ·exact Nat.xor_lt_two_pow (n:=32) (by omega) (by decide)
 ·omega
theorem cf0:∀(n:Nat) {r:Nat},r<4294967296→Y2 n r<4294967296
 | 0,_,h=>h
 | n+1,_,h=>cf0 n (ek1 h)
theorem eb7 (a b:Nat):bE6 (a^^^b)=bE6 a^^^bE6 b:=by
 have h1:(a^^^b)/2=a/2^^^b/2:=Nat.xor_div_two
 have h2:(a^^^b)%2=(a+b)%2:=by
  have h:=Nat.xor_mod_two_pow (a:=a) (b:=b) (n:=1)
  rw[show 2^1=2 from rfl] at h
  rw[h]
  rcases Nat.mod_two_eq_zero_or_one a with ha | ha<;>rcases Nat.mod_two_eq_zero_or_one b with hb | hb<;>rw[ha,hb]
  ·show 0=_;omega
  ·show 1=_;omega
  ·show 1=_;omega
  ·show 0=_;omega
 unfold bE6
 rw[h1,h2]
 rcases Nat.mod_two_eq_zero_or_one a with ha | ha<;>rcases Nat.mod_two_eq_zero_or_one b with hb | hb
 ·rw[if_neg (by omega),if_neg (by omega),if_neg (by omega)]
 ·rw[if_pos (by omega),if_neg (by omega),if_pos hb,Nat.xor_assoc]
 ·rw[if_pos (by omega),if_pos ha,if_neg (by omega),Nat.xor_assoc,Nat.xor_assoc,Nat.xor_comm (b/2)]
 ·rw[if_neg (by omega),if_pos ha,if_pos hb,Nat.xor_assoc,Nat.xor_comm (b/2) 3988292384,←Nat.xor_assoc 3988292384,Nat.xor_self,Nat.zero_xor]
theorem dm6:∀(n a b:Nat),Y2 n (a^^^b)=Y2 n a^^^Y2 n b
 | 0,_,_=>rfl
 | n+1,a,b=>by simp only[Y2,eb7,dm6 n]
theorem cC4:∀(n a:Nat),Y2 n (2^n*a)=a
 | 0,a=>by simp[Y2]
 | n+1,a=>by
  have:bE6 (2^(n+1)*a)=2^n*a:=by
   rw[Nat.pow_succ,Nat.mul_comm (2^n) 2,Nat.mul_assoc]
   unfold bE6
   rw[if_neg (by omega)]
   omega
  simp only[Y2,this,cC4 n a]
theorem dZ9 (r:Nat):r=16*(r/16)^^^r%16:=by
 have h:=Nat.two_pow_add_eq_or_of_lt (i:=4) (b:=r%16) (by omega) (r/16)
 have e:2^4*(r/16)^^^r%16=2^4*(r/16) ||| r%16:=by
  refine Nat.eq_of_testBit_eq fun j=> ?_
  rw[Nat.testBit_xor,Nat.testBit_or]
  by_cases hj:j<4
  ·have:(2^4*(r/16)).testBit j=false:=by rw[Nat.testBit_two_pow_mul];simp;omega
   rw[this];simp
  ·have:(r%16).testBit j=false:=Nat.testBit_lt_two_pow (Nat.lt_of_lt_of_le (show r%16<2^4 by omega) (Nat.pow_le_pow_right (by decide) (by omega)))
   rw[this];simp
 rw[show(16:Nat)=2^4 from rfl] at*
 omega
theorem dS9 (r:Nat):Y2 4 r=r/16^^^Y2 4 (r%16):=by
 conv=>lhs;rw[dZ9 r]
 rw[dm6,show(16:Nat)=2^4 from rfl,cC4]
theorem dj2:∀(m n r:Nat),Y2 (m+n) r=Y2 n (Y2 m r)
 | 0,n,r=>by simp[Y2]
 | m+1,n,r=>by rw[show m+1+n=(m+n)+1 by omega];simp only[Y2,dj2 m n]
/-! ### a byte, bytes -/
def em7 (r:Nat) (c:Int):Nat:=Y2 8 (r^^^c.toNat)
def ce8:Nat→List Int→Nat
 | r,[]=>r
 | r,c::l=>ce8 (em7 r c) l
def dH6 (s:Nat) (l:List Int):Nat:=4294967295-ce8 (4294967295-s) l
def crc (l:List Int):Nat:=dH6 0 l
theorem dD1 (l:List Int):crc l<4294967296:=by unfold crc dH6;omega
/-! ### four bytes of a number -/
def be4 (s:Nat):List Int:= [((s/16777216%256:Nat):Int),((s/65536%256:Nat):Int),((s/256%256:Nat):Int),((s%256:Nat):Int)]
def W3:Nat→List Int→Nat
 | n,[]=>n
 | n,c::l=>W3 (n*256+c.toNat) l
theorem dW3 (s:Nat):A1 (be4 s):=fun c hc=>by
 simp only[be4,List.mem_cons,List.not_mem_nil,or_false] at hc
 rcases hc with rfl | rfl | rfl | rfl<;>omega
theorem eg5 {s:Nat} (h:s<4294967296):W3 0 (be4 s)=s:=by
 simp only[be4,W3,Int.toNat_natCast]
 omega
theorem ev1 {a b c d:Int} (ha:0≤a∧a≤255) (hb:0≤b∧b≤255) (hc:0≤c∧c≤255) (hd:0≤d∧d≤255):be4 (W3 0 [a,b,c,d])= [a,b,c,d]:=by
 simp only[W3,be4,List.cons.injEq,and_true]
 omega
/-! ### frames -/
def Y1 (k:Int) (body:List Int):List Int:=k::((body.length/256:Nat):Int)::((body.length%256:Nat):Int)::body
def L1 (k:Int) (body:List Int):List Int:=247::(Y1 k body++be4 (crc (Y1 k body)))
def pF (l:List Int):Int⊕(Int×List Int×Nat):=match l with
 | []=> .inl 31
 | m::_=>if m≠247 then .inl 32 else if l.length<8 then .inl 31 else
  if 8192<W3 0 [l.getD 2 0,l.getD 3 0] then .inl 2 else
  if l.length<W3 0 [l.getD 2 0,l.getD 3 0]+8 then .inl 31 else
  if crc ((l.drop 1).take (W3 0 [l.getD 2 0,l.getD 3 0]+3))≠W3 0 ((l.drop (W3 0 [l.getD 2 0,l.getD 3 0]+4)).take 4) then .inl 33 else
  .inr (l.getD 1 0,(l.drop 4).take (W3 0 [l.getD 2 0,l.getD 3 0]),W3 0 [l.getD 2 0,l.getD 3 0]+8)
theorem be3 (k:Int) (body:List Int):(Y1 k body).length=body.length+3:=by simp[Y1]
theorem bd4 (k:Int) (body:List Int):(L1 k body).length=body.length+8:=by simp[L1,be3,be4]
theorem cC3 {k:Int}{body:List Int} (hk:0≤k∧k≤255) (hb:A1 body) (hl:body.length≤65535):A1 (Y1 k body):=fun c hc=>by
 simp only[Y1,List.mem_cons] at hc
 rcases hc with rfl | rfl | rfl | hc
 ·exact hk
 ·omega
 ·omega
 ·exact hb c hc
theorem cd9 {k:Int}{body:List Int} (hk:0≤k∧k≤255) (hb:A1 body) (hl:body.length≤65535):A1 (L1 k body):=fun c hc=>by
 simp only[L1,List.mem_cons,List.mem_append] at hc
 rcases hc with rfl | hc | hc
 ·omega
 ·exact cC3 hk hb hl c hc
 ·exact dW3 _ c hc
theorem dF4 {k:Int}{body:List Int} (hk:0≤k∧k≤255) (hb:A1 body) (hl:body.length≤8192) (rest:List Int):pF (L1 k body++rest)=.inr (k,body,body.length+8):=by
 have hn:W3 0 [((body.length/256:Nat):Int),((body.length%256:Nat):Int)]=body.length:=by
  simp only[W3,Int.toNat_natCast];omega
 have e2:(L1 k body++rest).getD 2 0=((body.length/256:Nat):Int):=rfl
 have e3:(L1 k body++rest).getD 3 0=((body.length%256:Nat):Int):=rfl
 have e1:(L1 k body++rest).getD 1 0=k:=rfl
 have hlen:(L1 k body++rest).length=body.length+8+rest.length:=by rw[List.length_append,bd4]
 have d1:((L1 k body++rest).drop 1).take (body.length+3)=Y1 k body:=by
  show((Y1 k body++be4 _)++rest).take (body.length+3)=Y1 k body
  rw[List.append_assoc,←be3 k body,List.take_left]
 have d2:((L1 k body++rest).drop (body.length+4)).take 4=be4 (crc (Y1 k body)):=by
  show(((Y1 k body++be4 _)++rest).drop (body.length+3)).take 4=_
  rw[List.append_assoc,←be3 k body,List.drop_left]
  rfl
 have d3:((L1 k body++rest).drop 4).take body.length=body:=by
  show(((body++be4 _)++rest)).take body.length=body
  rw[List.append_assoc,List.take_left]
 have hx:∃x,L1 k body++rest=247::x:=⟨_,rfl⟩
 obtain⟨x,hx⟩:=hx
 have key:pF (247::x)=.inr (k,body,body.length+8):=by
  rw[hx] at e1 e2 e3 hlen d1 d2 d3
  simp only[pF,e1,e2,e3,hn,hlen,d1,d2,d3]
  rw[if_neg (by simp),if_neg (by omega),if_neg (by omega),if_neg (by omega),if_neg (by rw[eg5 (dD1 _)];simp)]
 rw[hx];exact key
theorem eG9:∀{l:List Int},3≤l.length→∃a b c r,l=a::b::c::r
 | a::b::c::r,_=>⟨a,b,c,r,rfl⟩
 | [],h=>by simp at h
 | [_],h=>by simp at h
 | [_,_],h=>by simp at h
theorem eH7:∀{l:List Int},l.length=4→∃a b c d,l= [a,b,c,d]
 | [a,b,c,d],_=>⟨a,b,c,d,rfl⟩
theorem eD9 {l:List Int}{k:Int}{body:List Int}{m:Nat} (hb:A1 l) (h:pF l=.inr (k,body,m)):l.take m=L1 k body∧m≤l.length∧m=body.length+8∧body.length≤8192∧(0≤k∧k≤255)∧A1 body:=by
 unfold pF at h
 split at h
 ·cases h
 ·rename_i m0 l0
  split at h
  ·cases h
  ·rename_i h1
   split at h
   ·cases h
   ·rename_i h2
    split at h
    ·cases h
    ·rename_i h3
     split at h
     ·cases h
     ·rename_i h4
      split at h
      ·cases h
      ·rename_i h5
       simp only[Sum.inr.injEq,Prod.mk.injEq] at h
       obtain⟨rfl,rfl,rfl⟩:=h
       simp only[ne_eq,Decidable.not_not] at h1 h5
       subst h1
       obtain⟨k,a,b,r,rfl⟩:=eG9 (l:=l0) (by simp only[List.length_cons] at h2;omega)
       have ha:=hb a (by simp)
       have hbb:=hb b (by simp)
       have hk:=hb k (by simp)
       simp only[List.getD_cons_succ,List.getD_cons_zero,List.length_cons,List.drop_succ_cons,List.drop_zero] at h2 h3 h4 h5 ⊢
       generalize hn:W3 0 [a,b]=n at*
       have hn' :n=a.toNat*256+b.toNat:=by rw[←hn];simp[W3]
       have hlen:(r.take n).length=n:=by rw[List.length_take];omega
       have e1:((n/256:Nat):Int)=a:=by omega
       have e2:((n%256:Nat):Int)=b:=by omega
       have hin:Y1 k (r.take n)=(k::a::b::r).take (n+3):=by
        simp only[Y1,hlen,e1,e2,List.take_succ_cons]
       have h4b:∃x y z u,(r.drop n).take 4= [x,y,z,u]:=by
        exact eH7 (by rw[List.length_take,List.length_drop];omega)
       obtain⟨x,y,z,u,hxyz⟩:=h4b
       have hmem:∀c∈ [x,y,z,u],0≤c∧c≤255:=fun c hc=>hb c (by
        rw[←hxyz] at hc
        simp only[List.mem_cons]
        exact .inr (.inr (.inr (.inr (List.mem_of_mem_drop (List.mem_of_mem_take hc))))))
       refine⟨?_,by omega,by omega,by omega,hk,fun c hc=>hb c (by simp only[List.mem_cons];exact .inr (.inr (.inr (.inr (List.mem_of_mem_take hc)))))⟩
       unfold L1
       rw[hin,h5,hxyz,ev1 (hmem x (by simp)) (hmem y (by simp)) (hmem z (by simp)) (hmem u (by simp)),←hxyz]
       rw[show n+8=(n+7)+1 from rfl,List.take_succ_cons,show n+7=(n+3)+4 from rfl,List.take_add]
       rfl
theorem eC1 {l:List Int}{e:Int} (h:pF l=.inl e):e=31∨e=32∨e=2∨e=33:=by
 unfold pF at h
 split at h
 ·simp at h;omega
 ·split at h
  ·simp at h;omega
  ·split at h
   ·simp at h;omega
   ·split at h
    ·simp at h;omega
    ·split at h
     ·simp at h;omega
     ·split at h
      ·simp at h;omega
      ·cases h
theorem eA1 {k:Int}{body:List Int} (hk:0≤k∧k≤255) (hb:A1 body) (hl:body.length≤8192) {j:Nat} (hj:j<body.length+8):∃e,pF ((L1 k body).take j)=.inl e:=by
 cases h:pF ((L1 k body).take j) with
 | inl e=>exact⟨e,rfl⟩
 | inr x=>
  exfalso
  obtain⟨k',body',m⟩:=x
  have hbb:A1 ((L1 k body).take j):=fun c hc=>cd9 hk hb (by omega) c (List.mem_of_mem_take hc)
  obtain⟨a1,a2,a3,a4,a5,a6⟩:=eD9 hbb h
  have h1:=dF4 hk hb hl []
  rw[List.append_nil] at h1
  have hs:L1 k body=L1 k' body' ++(L1 k body).drop m:=by
   rw[←a1,List.take_take,Nat.min_eq_left (by rw[List.length_take] at a2;omega),List.take_append_drop]
  rw[hs,dF4 a5 a6 a4] at h1
  simp only[Sum.inr.injEq,Prod.mk.injEq] at h1
  rw[List.length_take,bd4] at a2
  omega
end Go.RX

namespace Go.RX.L
open Go Go.RX
theorem bU2 {n:Nat} (h:n<4294967296):(BitVec.ofInt IntKind.u32.bits (n:Int)).toNat=n:=by
 rw[BitVec.ofInt_natCast,show IntKind.u32.bits=32 from rfl,BitVec.toNat_ofNat,Nat.mod_eq_of_lt (by omega)]
theorem cw8 {n:Nat} (h:n<4294967296):IntKind.u32.wrap (n:Int)=n:=eJ3 (by omega) (by omega)
theorem eb5 {a b:Nat} (ha:a<4294967296) (hb:b<4294967296):U0 .u32 a b=((a^^^b:Nat):Int):=by
 unfold U0
 rw[BitVec.toNat_xor,bU2 ha,bU2 hb,cw8 (Nat.xor_lt_two_pow (n:=32) ha hb)]
theorem dm8 {a:Nat} (ha:a<4294967296):m9 .u32 a 15=((a%16:Nat):Int):=by
 unfold m9
 rw[show(15:Int)=((15:Nat):Int) from rfl,BitVec.toNat_and,bU2 ha,bU2 (by omega),show(15:Nat)=2^4-1 from rfl,Nat.and_two_pow_sub_one_eq_mod,cw8 (by omega)]
theorem cn8 {a k:Nat} (hk:k≤32):r5 .u32 a k=((a/2^k:Nat):Int):=by
 unfold r5
 have e:min (k:Int).toNat IntKind.u32.bits=k:=by simp[IntKind.bits];omega
 rw[e,Int.fdiv_eq_ediv_of_nonneg _ (by exact Int.le_of_lt (Int.pow_pos (by decide)))]
 norm_cast
theorem dP3 {n:Nat} (h:n<4294967296):U0 .u32 4294967295 n=((4294967295-n:Nat):Int):=by
 unfold U0
 have e:BitVec.ofInt IntKind.u32.bits 4294967295=BitVec.allOnes IntKind.u32.bits:=by decide
 rw[BitVec.xor_comm,e,BitVec.xor_allOnes,BitVec.toNat_not,bU2 h,show IntKind.u32.bits=32 from rfl,show 2^32-1-n=4294967295-n by omega,cw8 (by omega)]
/-! ### the program's: four bits at once -/
theorem dB6:∀i,i<16→gl_four[i]? =some ((Y2 4 i:Nat):Int):=by decide+kernel
theorem nib {r:Nat} (h:r<4294967296):U0 .u32 (r5 .u32 r 4) ((Y2 4 (r%16):Nat):Int)=((Y2 4 r:Nat):Int):=by
 have e:r5 .u32 r 4=((r/16:Nat):Int):=cn8 (a:=r) (k:=4) (by decide)
 rw[e,eb5 (by omega) (cf0 4 (by omega)),dS9 r]
theorem eC3 (r:Nat):decide (((r%16:Nat):Int)<((16:Nat):Int))=true:=G4 (by omega)
theorem ej0 {b:List Int} (hb:A1 b) (hm:b.length<9223372036854775807):∀(j k r:Nat),k+j=b.length→r<4294967296→Ev aP6 (.s1 r b b.length k) ((4294967295-ce8 r (b.drop k):Nat):Int):=by
 intro j
 induction j with
 | zero=>
  intro k r hk hr
  have e:ce8 r (b.drop k)=r:=by rw[List.drop_of_length_le (by omega)];rfl
  rw[e]
  refine .done ?_
  simp only[aP6,bv3,geB (show b.length≤k by omega),cond_false,dP3 hr]
 | succ j ih=>
  intro k r hk hr
  have hlt:k<b.length:=by omega
  obtain⟨c,hc⟩:∃c:Nat,b[k]=(c:Int):=⟨_,(Int.toNat_of_nonneg (hb _ (List.getElem_mem hlt)).1).symm⟩
  have hc' :=hb _ (List.getElem_mem hlt)
  rw[hc] at hc'
  have h1:r^^^c<4294967296:=Nat.xor_lt_two_pow (n:=32) hr (by omega)
  have h2:=cf0 4 h1
  have e1:U0 .u32 r (IntKind.u32.wrap (c:Int))=((r^^^c:Nat):Int):=by rw[cw8 (by omega),eb5 hr (by omega)]
  have hd:b.drop k=(c:Int)::b.drop (k+1):=by rw[←hc,List.drop_eq_getElem_cons hlt]
  have hs:ce8 r (b.drop k)=ce8 (Y2 4 (Y2 4 (r^^^c))) (b.drop (k+1)):=by
   rw[hd]
   show ce8 (em7 r c) _=_
   rw[em7,Int.toNat_natCast,show 8=4+4 from rfl,dj2]
  rw[hs]
  refine .next (s' :=.s1 ((Y2 4 (Y2 4 (r^^^c)):Nat):Int) b b.length ((k+1:Nat):Int)) ?_ (ih (k+1) _ (by omega) (cf0 4 h2))
  simp only[aP6,bv3,G4 hlt,cond_true,List.length_map,ixB hlt,O9,Bool.and_self,Int.toNat_natCast,List.getE hlt,Option.bind_some,hc,e1,dm8 h1,eC3]
  simp only[Nat.zero_add,dB6 _ (Nat.mod_lt (r^^^c) (by decide:0<16)),Option.bind_some,nib h1,dm8 h2,eC3,O9,Bool.and_self,cond_true,Int.toNat_natCast]
  simp only[dB6 _ (Nat.mod_lt (Y2 4 (r^^^c)) (by decide:0<16)),Option.bind_some,nib h2,wS (show k<9223372036854775807 by omega)]
theorem dY6 {b:List Int} (hb:A1 b) (hm:b.length<9223372036854775807):bH4 b=some (crc b:Int):=by
 have h:da0 0 b=some (crc b:Int):=by
  refine z7 (.next (s' :=.s1 ((4294967295:Nat):Int) b b.length ((0:Nat):Int)) ?_ ?_)
  ·have:=dP3 (n:=0) (by decide)
   simp only[aP6,bR3,List.length_map]
   rw[show(0:Int)=((0:Nat):Int) from rfl,this]
  ·have:=ej0 hb hm b.length 0 4294967295 (by omega) (by decide)
   simpa[crc,dH6] using this
 simp only[bH4,h,Option.bind_some]
/-! ### the document's: one K1 after the other -/
theorem eG8 {a:Nat} (h:a<36028797018963968):D3 .i64 a 8=((a*256:Nat):Int):=by
 unfold D3
 rw[show min (8:Int).toNat IntKind.i64.bits=8 from rfl,show((a:Int)*(2:Int)^8)=((a*256:Nat):Int) by norm_cast,v9 (by omega) (by omega)]
/-! ### writing -/
def em4 (k:Int) (body:List Int):List Int×Int:=if body.length≤8192 then (L1 k body,0) else ([],2)
theorem eK1 {n:Nat}:r5 .i64 n 8=((n/256:Nat):Int):=by
 unfold r5
 rw[show min (8:Int).toNat IntKind.i64.bits=8 from rfl,Int.fdiv_eq_ediv_of_nonneg _ (by decide)]
 norm_cast
theorem eH5 (k:Int) {body:List Int} (h:body.length≤8192): [247,k,(IntKind.u8.wrap ((r5 .i64 ((body.length:Nat):Int) 8))),(IntKind.u8.wrap (((body.length:Nat):Int)))]++body=247::Y1 k body:=by
 rw[eK1,aI1,aI1,Nat.mod_eq_of_lt (a:=body.length/256) (by omega)]
 rfl
theorem eJ9 {k:Int}{body:List Int} (h:body.length≤8192):List.take ((247::Y1 k body).length-1) (List.drop 1 (247::Y1 k body))=Y1 k body:=by
 simp
theorem dS0 {s:Nat} (hs:s<4294967296) {b:List Int} (hb:b.length≤8300):Ev Z5 (.s1 s 24 b) (b++be4 s,0):=by
 have e24:r5 .u32 s 24=((s/16777216:Nat):Int):=cn8 (a:=s) (k:=24) (by decide)
 have e16:r5 .u32 s 16=((s/65536:Nat):Int):=cn8 (a:=s) (k:=16) (by decide)
 have e8:r5 .u32 s 8=((s/256:Nat):Int):=cn8 (a:=s) (k:=8) (by decide)
 have e0:r5 .u32 s 0=(s:Int):=by have:=cn8 (a:=s) (k:=0) (by decide);simpa using this
 have lim:∀n,n≤8310→decide ((n+1)*1≤l6)=true:=fun n hn=>E0 (by omega)
 refine .next (s' :=.s1 s 16 (b++ [((s/16777216%256:Nat):Int)])) ?_ (.next (s' :=.s1 s 8 (b++ [((s/16777216%256:Nat):Int),((s/65536%256:Nat):Int)])) ?_ (.next (s' :=.s1 s 0 (b++ [((s/16777216%256:Nat):Int),((s/65536%256:Nat):Int),((s/256%256:Nat):Int)])) ?_ (.next (s' :=.s1 s (-8) (b++be4 s)) ?_ (.done ?_))))
 ·simp only[Z5,az5,e24,aI1,List.length_map,lim b.length (by omega)]
  rfl
 ·simp only[Z5,az5,e16,aI1,List.length_map,List.length_append,List.length_cons,List.length_nil,lim (b.length+(0+1)) (by omega),List.append_assoc,List.cons_append,List.nil_append]
  rfl
 ·simp only[Z5,az5,e8,aI1,List.length_map,List.length_append,List.length_cons,List.length_nil,lim (b.length+(0+1+1)) (by omega),List.append_assoc,List.cons_append,List.nil_append]
  rfl
 ·simp only[Z5,az5,e0,aI1,List.length_map,List.length_append,List.length_cons,List.length_nil,lim (b.length+(0+1+1+1)) (by omega),List.append_assoc,List.cons_append,List.nil_append]
  rfl
 ·rfl
theorem dL2 {k:Int}{body:List Int} (hk:0≤k∧k≤255) (hb:A1 body) (hm:body.length≤K3):bQ1 k body=some (em4 k body):=by
 unfold em4
 by_cases h:body.length≤8192
 ·rw[if_pos h]
  have hs:=dY6 (cC3 hk hb (by omega)) (by rw[be3];omega)
  refine z7 (.next (s' :=.s1 (crc (Y1 k body):Int) 24 (247::Y1 k body)) ?_ ?_)
  ·have c1:decide (((body.length:Nat):Int)>8192)=false:=by simp;omega
   have c2:decide ((4+body.length)*1≤l6)=true:=E0 (by omega)
   have c3:decide ((1:Int)≤(((247::Y1 k body).length:Nat):Int))=true:=by simp[be3];omega
   have c4:Nat.ble (1+((247::Y1 k body).length-1)) (247::Y1 k body).length=true:=by simp;omega
   simp only[Z5,aY2,List.length_map,c1,c2,eH5 k h,c3,c4,cond_false,cond_true,eJ9 h,hs,Option.bind_some]
  ·exact dS0 (dD1 _) (by simp[be3];omega)
 ·rw[if_neg h]
  refine z7 (.done ?_)
  have c1:decide (((body.length:Nat):Int)>8192)=true:=by simp;omega
  simp only[Z5,aY2,List.length_map,c1,cond_true]
def rF (at_:Nat) (x:Int⊕(Int×List Int×Nat)):Int×List Int×Int×Int:=match x with
 | .inl e=>(0,[],0,e)
 | .inr (k,body,m)=>(k,body,((at_+m:Nat):Int),0)
theorem eh2 {m:Int}{l:List Int} (h:m≠247):pF (m::l)=.inl 32:=by simp only[pF,if_pos h]
theorem ei6 {l:List Int} (h:l.length<7):pF (247::l)=.inl 31:=by
 simp only[pF,if_neg (show ¬((247:Int)≠247) by simp),if_pos (show(247::l).length<8 by simp;omega)]
theorem ey7 {k:Int}{a c:Nat}{r:List Int} (h:4≤r.length) (hn:8192<a*256+c):pF (247::k::(a:Int)::(c:Int)::r)=.inl 2:=by
 have hl:¬(247::k::(a:Int)::(c:Int)::r).length<8:=by simp;omega
 have hn' :W3 0 [(a:Int),(c:Int)]=a*256+c:=by simp[W3]
 simp only[pF,if_neg (show ¬((247:Int)≠247) by simp),if_neg hl,List.getD_cons_succ,List.getD_cons_zero,hn',if_pos hn]
theorem ew9 {k:Int}{a c:Nat}{r:List Int} (h:4≤r.length) (hn:a*256+c≤8192) (hc:r.length<a*256+c+4):pF (247::k::(a:Int)::(c:Int)::r)=.inl 31:=by
 have hl:¬(247::k::(a:Int)::(c:Int)::r).length<8:=by simp;omega
 have hn' :W3 0 [(a:Int),(c:Int)]=a*256+c:=by simp[W3]
 have h2:(247::k::(a:Int)::(c:Int)::r).length<a*256+c+8:=by simp;omega
 simp only[pF,if_neg (show ¬((247:Int)≠247) by simp),if_neg hl,List.getD_cons_succ,List.getD_cons_zero,hn',if_neg (show ¬8192<a*256+c by omega),if_pos h2]
theorem eh6 {k:Int}{a c:Nat}{r:List Int} (h:4≤r.length) (hn:a*256+c≤8192) (hc:a*256+c+4≤r.length):pF (247::k::(a:Int)::(c:Int)::r)=
  if crc ((k::(a:Int)::(c:Int)::r).take (a*256+c+3))≠W3 0 ((r.drop (a*256+c)).take 4) then .inl 33 else .inr (k,r.take (a*256+c),a*256+c+8):=by
 have hl:¬(247::k::(a:Int)::(c:Int)::r).length<8:=by simp;omega
 have hn' :W3 0 [(a:Int),(c:Int)]=a*256+c:=by simp[W3]
 have h2:¬(247::k::(a:Int)::(c:Int)::r).length<a*256+c+8:=by simp;omega
 simp only[pF,if_neg (show ¬((247:Int)≠247) by simp),if_neg hl,List.getD_cons_succ,List.getD_cons_zero,hn',if_neg (show ¬8192<a*256+c by omega),if_neg h2,List.drop_succ_cons,List.drop_zero]
theorem dK6 {b:List Int} (hb:A1 b) (h4:b.length≤4):∀(j k n:Nat),k+j=b.length→n<256^k→Ev ac1 (.s1 n b b.length k) ((W3 n (b.drop k):Nat):Int):=by
 intro j
 induction j with
 | zero=>
  intro k n hk hn
  refine .done ?_
  rw[List.drop_of_length_le (by omega)]
  simp only[ac1,aE2,geB (show b.length≤k by omega),cond_false,W3]
 | succ j ih=>
  intro k n hk hn
  have hlt:k<b.length:=by omega
  have hc:=hb _ (List.getElem_mem hlt)
  obtain⟨c,hc'⟩:∃c:Nat,b[k]=(c:Int):=⟨_,(Int.toNat_of_nonneg hc.1).symm⟩
  rw[hc'] at hc
  have hk4:256^k≤256^3:=Nat.pow_le_pow_right (by decide) (by omega)
  have hd:b.drop k=(c:Int)::b.drop (k+1):=by rw[←hc',List.drop_eq_getElem_cons hlt]
  have e1:IntKind.i64.wrap (D3 .i64 (n:Int) 8+IntKind.i64.wrap (c:Int))=((n*256+c:Nat):Int):=by
   rw[eG8 (by omega),v9 (n:=(c:Int)) (by omega) (by omega),v9 (by omega) (by omega)];norm_cast
  rw[hd]
  refine .next (s' :=.s1 ((n*256+c:Nat):Int) b b.length ((k+1:Nat):Int)) ?_ (by
   show Ev ac1 _ ((W3 (n*256+(c:Int).toNat) (b.drop (k+1)):Nat):Int)
   rw[Int.toNat_natCast]
   exact ih (k+1) _ (by omega) (by rw[Nat.pow_succ];omega))
  simp only[ac1,aE2,G4 hlt,cond_true,List.length_map,ixB hlt,O9,Bool.and_self,Int.toNat_natCast,List.getE hlt,Option.bind_some,hc',e1,wS (show k<9223372036854775807 by omega)]
theorem dj3 {b:List Int} (hb:A1 b) (h4:b.length≤4):aS4 b=some ((W3 0 b:Nat):Int):=by
 refine z7 (.next (s' :=.s1 ((0:Nat):Int) b b.length ((0:Nat):Int)) ?_ ?_)
 ·simp only[ac1,aT7,List.length_map];rfl
 ·have:=dK6 hb h4 b.length 0 0 (by omega) (by decide)
  simpa using this
theorem cZ6 {l:List Int} (hb:A1 l) (n:Nat):A1 (l.take n):=fun c hc=>hb c (List.mem_of_mem_take hc)
theorem bn5 {l:List Int} (hb:A1 l) (n:Nat):A1 (l.drop n):=fun c hc=>hb c (List.mem_of_mem_drop hc)
/-! ### the document's reader -/
open Go.Proofs
attribute [local irreducible] i4
noncomputable def E7:=u5 (u6 Tryz.f85)
noncomputable def aa5 (b0:List Int) (y:(List Int)×(List (List Int))×Int):D×i0:=(.tup [.sl false 1 (List.map (d8 .u8) y.1),.sl false 1 (List.map (I0 1 (d8 .u8)) y.2.1),.int .i64 y.2.2],[some ⟨1,false,(List.map (d8 .u8) b0)⟩])
inductive H0 where
 | s0
 | s1 (D9:Int) (b5:List Int) (b6:List (List Int))
 | s2 (D9:Int) (b5:List Int) (b6:List (List Int)) (Y:List (Int×ap2))
noncomputable def aZ1 (b0:List Int):H0→M
 | .s0=>C3 Tryz.f85 [(i5 0 (List.map (d8 .u8) b0))] [some ⟨1,false,(List.map (d8 .u8) b0)⟩]
 | .s1 D9 b5 b6=>⟨[.code (E7 [1,1,1,1,0,1,0]),.blk 0,.code (E7 [1,1,1,1,1])],[(5,.ptr 1 0 0),(6,.ptr 2 0 0),(7,.ptr 3 0 0),(11,.fn 146 [] [.ptr 4 0 0])],[some ⟨1,false,(List.map (d8 .u8) b0)⟩,some ⟨1,true,[[(i5 5 (List.map (d8 .u8) b5))]]⟩,some ⟨1,true,[[(i5 6 (List.map (I0 1 (d8 .u8)) b6))]]⟩,some ⟨1,false,[[.int .i64 D9]]⟩,some ⟨1,true,[[(i5 0 (List.map (d8 .u8) b0))]]⟩,some ⟨1,false,(List.map (d8 .u8) b5)⟩,some ⟨1,false,(List.map (I0 1 (d8 .u8)) b6)⟩]⟩
 | .s2 D9 b5 b6 Y=>⟨[.blk 0,.code (E7 [1,1,1,1,1])],[(5,.ptr 1 0 0),(6,.ptr 2 0 0),(7,.ptr 3 0 0),(11,.fn 146 [] [.ptr 4 0 0])],[some ⟨1,false,(List.map (d8 .u8) b0)⟩,some ⟨1,true,[[(i5 5 (List.map (d8 .u8) b5))]]⟩,some ⟨1,true,[[(i5 6 (List.map (I0 1 (d8 .u8)) b6))]]⟩,some ⟨1,false,[[.int .i64 D9]]⟩,some ⟨1,true,[[(i5 0 (List.map (d8 .u8) b0))]]⟩,some ⟨1,false,(List.map (d8 .u8) b5)⟩,some ⟨1,false,(List.map (I0 1 (d8 .u8)) b6)⟩]⟩
noncomputable def aF7 (b0:List Int):H0→((List Int)×(List (List Int))×Int)→Prop
 | .s0,r_=>i4 E (Cx.of Tryz.f85 false 1) (QW (Rs (aa5 b0) r_)) (.go ((aZ1 b0) (.s0)))
 | .s1 D9 b5 b6,r_=>i4 E (Cx.of Tryz.f85 false 1) (QW (Rs (aa5 b0) r_)) (.go ((aZ1 b0) (.s1 D9 b5 b6)))
 | .s2 D9 b5 b6 Y,r_=>Q8 E (Cx.of Tryz.f85 false 1) (QW (Rs (aa5 b0) r_)) 5 (E7 [1,1,1,1,0,1,0]) [.blk 0,.code (E7 [1,1,1,1,1])] [(5,.ptr 1 0 0),(6,.ptr 2 0 0),(7,.ptr 3 0 0),(11,.fn 146 [] [.ptr 4 0 0])] [4,0] [some ⟨1,true,[[(i5 0 (List.map (d8 .u8) b0))]]⟩,some ⟨1,false,(List.map (d8 .u8) b0)⟩] (List.map V3 Y) [some ⟨1,false,(List.map (d8 .u8) b0)⟩,some ⟨1,true,[[(i5 5 (List.map (d8 .u8) b5))]]⟩,some ⟨1,true,[[(i5 6 (List.map (I0 1 (d8 .u8)) b6))]]⟩,some ⟨1,false,[[.int .i64 D9]]⟩,some ⟨1,true,[[(i5 0 (List.map (d8 .u8) b0))]]⟩,some ⟨1,false,(List.map (d8 .u8) b5)⟩,some ⟨1,false,(List.map (I0 1 (d8 .u8)) b6)⟩]
noncomputable def bt0 (b0:List Int):Option (H0⊕((List Int)×(List (List Int))×Int)):=((bF0 b0).bind fun y1=>(some (.inl (.s1 0 ([]) ([])))))
noncomputable def bs4 (b0:List Int) (D9:Int) (b5:List Int) (b6:List (List Int)):Option (H0⊕((List Int)×(List (List Int))×Int)):=((bl8 b0).bind fun y1=>(some (.inl (.s2 D9 b5 b6 y1))))
noncomputable def bk1 (b0:List Int) (D9:Int) (b5:List Int) (b6:List (List Int)):Option (H0⊕((List Int)×(List (List Int))×Int)):=(some (.inr (b5,b6,D9)))
noncomputable def bk7 (b0:List Int) (D9:Int) (b5:List Int) (b6:List (List Int)) (y:Int×ap2) (Y:List (Int×ap2)):Option (H0⊕((List Int)×(List (List Int))×Int)):=(bif (decide (((List.map (d8 .u8) b5).length+1)*1≤l6)) then (bif (decide (((List.map (I0 1 (d8 .u8)) b6).length+1)*24≤l6)) then (some (.inl (.s2 y.1 (b5++ [y.2.kind]) (b6++ [y.2.body]) Y))) else none) else none)
noncomputable def bt5 (b0:List Int) (D9:Int) (b5:List Int) (b6:List (List Int)):List (Int×ap2)→Option (H0⊕((List Int)×(List (List Int))×Int))
 | []=>bk1 b0 D9 b5 b6
 | y::Y=>bk7 b0 D9 b5 b6 y Y
noncomputable def af7 (b0:List Int):H0→Option (H0⊕((List Int)×(List (List Int))×Int))
 | .s0=>bt0 b0
 | .s1 D9 b5 b6=>bs4 b0 D9 b5 b6
 | .s2 D9 b5 b6 Y=>bt5 b0 D9 b5 b6 Y
theorem da6 {b0:List Int}{r:(List Int)×(List (List Int))×Int}{x:H0⊕((List Int)×(List (List Int))×Int)} (h:bt0 b0=some x) (ha:D2 (aF7 b0) r x):i4 E (Cx.of Tryz.f85 false 1) (QW (Rs (aa5 b0) r)) (.go ((aZ1 b0) (.s0))):=by
 unfold bt0 at h
 refine zc 26 [] h (fun _=>dn3) fun y1 h=> ?_
 refine n8 hm 2 _ ?_
 obtain rfl:=Option.some.inj h
 refine ay5 14560 [.matc 1 0 0 1,.matc 2 0 0 1] (m' :=⟨[.code (E7 [1,1,1,1,0,1,0]),.blk 0,.code (E7 [1,1,1,1,1])],[(5,.ptr 1 0 0),(6,.ptr 2 0 0),(7,.ptr 3 0 0),(11,.fn 146 [] [.ptr 4 0 0])],[some ⟨1,false,(List.map (d8 .u8) b0)⟩,some ⟨1,true,[[.msl 5 0 0 0 false]]⟩,some ⟨1,true,[[.msl 6 0 0 0 false]]⟩,some ⟨1,false,[[.int .i64 0]]⟩,some ⟨1,true,[[(i5 0 (List.map (d8 .u8) b0))]]⟩,some ⟨1,false,[]⟩,some ⟨1,false,[]⟩]⟩) (by kernel_rfl) ?_
 refine ah4 (n1:=0) (n2:=(List.map (d8 .u8) ([])).length) (fun n_len=> .go ⟨[.code (E7 [1,1,1,1,0,1,0]),.blk 0,.code (E7 [1,1,1,1,1])],[(5,.ptr 1 0 0),(6,.ptr 2 0 0),(7,.ptr 3 0 0),(11,.fn 146 [] [.ptr 4 0 0])],[some ⟨1,false,(List.map (d8 .u8) b0)⟩,some ⟨1,true,[[.msl 5 0 n_len n_len false]]⟩,some ⟨1,true,[[.msl 6 0 0 0 false]]⟩,some ⟨1,false,[[.int .i64 0]]⟩,some ⟨1,true,[[(i5 0 (List.map (d8 .u8) b0))]]⟩,some ⟨1,false,[]⟩,some ⟨1,false,[]⟩]⟩) (by simp) ?_
 refine ah4 (n1:=0) (n2:=(List.map (I0 1 (d8 .u8)) ([])).length) (fun n_len=> .go ⟨[.code (E7 [1,1,1,1,0,1,0]),.blk 0,.code (E7 [1,1,1,1,1])],[(5,.ptr 1 0 0),(6,.ptr 2 0 0),(7,.ptr 3 0 0),(11,.fn 146 [] [.ptr 4 0 0])],[some ⟨1,false,(List.map (d8 .u8) b0)⟩,some ⟨1,true,[[.msl 5 0 ((List.map (d8 .u8) ([])).length) ((List.map (d8 .u8) ([])).length) false]]⟩,some ⟨1,true,[[.msl 6 0 n_len n_len false]]⟩,some ⟨1,false,[[.int .i64 0]]⟩,some ⟨1,true,[[(i5 0 (List.map (d8 .u8) b0))]]⟩,some ⟨1,false,[]⟩,some ⟨1,false,[]⟩]⟩) (by simp) ?_
 exact ha
theorem dc9 {b0:List Int}{D9:Int}{b5:List Int}{b6:List (List Int)}{r:(List Int)×(List (List Int))×Int}{x:H0⊕((List Int)×(List (List Int))×Int)} (h:bs4 b0 D9 b5 b6=some x) (ha:D2 (aF7 b0) r x):i4 E (Cx.of Tryz.f85 false 1) (QW (Rs (aa5 b0) r)) (.go ((aZ1 b0) (.s1 D9 b5 b6))):=by
 unfold bs4 at h
 refine n8 hm 1 _ ?_
 have ok1:=fun(y:List (Int×ap2)) (hy:bl8 b0=some y)=>cU4 hy
 refine dE6 (m:=5) (c:=E7 [1,1,1,1,0,1,0]) (t:= [.blk 0,.code (E7 [1,1,1,1,1])]) (fr:= [(5,.ptr 1 0 0),(6,.ptr 2 0 0),(7,.ptr 3 0 0),(11,.fn 146 [] [.ptr 4 0 0])]) (σ:= [some ⟨1,false,(List.map (d8 .u8) b0)⟩,some ⟨1,true,[[(i5 5 (List.map (d8 .u8) b5))]]⟩,some ⟨1,true,[[(i5 6 (List.map (I0 1 (d8 .u8)) b6))]]⟩,some ⟨1,false,[[.int .i64 D9]]⟩,some ⟨1,true,[[(i5 0 (List.map (d8 .u8) b0))]]⟩,some ⟨1,false,(List.map (d8 .u8) b5)⟩,some ⟨1,false,(List.map (I0 1 (d8 .u8)) b6)⟩]) (ids:= [4,0]) (bs:= [some ⟨1,true,[[(i5 0 (List.map (d8 .u8) b0))]]⟩,some ⟨1,false,(List.map (d8 .u8) b0)⟩]) (caps1:= [.ptr 0 0 0]) (caps:= [.ptr 0 0 0]) (sub1:= [some ⟨1,true,[[(i5 1 (List.map (d8 .u8) b0))]]⟩,some ⟨1,false,(List.map (d8 .u8) b0)⟩]) (sub:= [some ⟨1,true,[[(i5 1 (List.map (d8 .u8) b0))]]⟩,some ⟨1,false,(List.map (d8 .u8) b0)⟩]) V3 h (by kernel_rfl) ⟨rfl,rfl⟩ (by kernel_rfl) (by kernel_rfl) (by kernel_rfl) (by kernel_rfl) (by kernel_rfl) ok1 (fun y1 h1 h=> ?_)
 obtain rfl:=Option.some.inj h
 exact ha
theorem cO9 {b0:List Int}{D9:Int}{b5:List Int}{b6:List (List Int)}{r:(List Int)×(List (List Int))×Int}{x:H0⊕((List Int)×(List (List Int))×Int)} (h:bk1 b0 D9 b5 b6=some x) (ha:D2 (aF7 b0) r x):Q8 E (Cx.of Tryz.f85 false 1) (QW (Rs (aa5 b0) r)) 5 (E7 [1,1,1,1,0,1,0]) [.blk 0,.code (E7 [1,1,1,1,1])] [(5,.ptr 1 0 0),(6,.ptr 2 0 0),(7,.ptr 3 0 0),(11,.fn 146 [] [.ptr 4 0 0])] [4,0] [some ⟨1,true,[[(i5 0 (List.map (d8 .u8) b0))]]⟩,some ⟨1,false,(List.map (d8 .u8) b0)⟩] ([]) [some ⟨1,false,(List.map (d8 .u8) b0)⟩,some ⟨1,true,[[(i5 5 (List.map (d8 .u8) b5))]]⟩,some ⟨1,true,[[(i5 6 (List.map (I0 1 (d8 .u8)) b6))]]⟩,some ⟨1,false,[[.int .i64 D9]]⟩,some ⟨1,true,[[(i5 0 (List.map (d8 .u8) b0))]]⟩,some ⟨1,false,(List.map (d8 .u8) b5)⟩,some ⟨1,false,(List.map (I0 1 (d8 .u8)) b6)⟩]:=by
 unfold bk1 at h
 refine bo0 ?_
 refine zm 7 (b:=(Nat.ble (0+(List.map (d8 .u8) b5).length) ((List.map (d8 .u8) b5).length))) (A7 _) ?_
 refine zm 0 (b:=(Nat.ble (0+(List.map (I0 1 (d8 .u8)) b6).length) ((List.map (I0 1 (d8 .u8)) b6).length))) (A7 _) ?_
 obtain rfl:=Option.some.inj h
 have hv:=ha
 simp only[D2] at hv
 subst hv
 exact as6 [] (d1:=.tup [.sl false 1 (List.take ((List.map (d8 .u8) b5).length) (List.drop 0 (List.map (d8 .u8) b5))),.sl false 1 (List.take ((List.map (I0 1 (d8 .u8)) b6).length) (List.drop 0 (List.map (I0 1 (d8 .u8)) b6))),.int .i64 D9]) (d:=.tup [.sl false 1 (List.map (d8 .u8) b5),.sl false 1 (List.map (I0 1 (d8 .u8)) b6),.int .i64 D9]) (s1:= [some ⟨1,false,(List.map (d8 .u8) b0)⟩]) (s:= [some ⟨1,false,(List.map (d8 .u8) b0)⟩]) (by kernel_rfl) ⟨by simp[d9.enc,d9.l,l7.enc,l7.l,u4.enc,u4.l,v6.enc,v6.l,f5.enc,f5.l,Op.enc,Op.l,Plan.enc,Plan.l,E6.enc,E6.l,i8.enc,i8.l,u9.enc,u9.l,p6.enc,p6.l,f3.enc,f3.l,List.take_of_length_le,List.map_take,List.map_drop],rfl⟩ ⟨rfl,rfl⟩ Cx.fin_of
theorem cX3 {b0:List Int}{D9:Int}{b5:List Int}{b6:List (List Int)}{y:Int×ap2}{Y:List (Int×ap2)}{r:(List Int)×(List (List Int))×Int}{x:H0⊕((List Int)×(List (List Int))×Int)} (h:bk7 b0 D9 b5 b6 y Y=some x) (ha:D2 (aF7 b0) r x):Q8 E (Cx.of Tryz.f85 false 1) (QW (Rs (aa5 b0) r)) 5 (E7 [1,1,1,1,0,1,0]) [.blk 0,.code (E7 [1,1,1,1,1])] [(5,.ptr 1 0 0),(6,.ptr 2 0 0),(7,.ptr 3 0 0),(11,.fn 146 [] [.ptr 4 0 0])] [4,0] [some ⟨1,true,[[(i5 0 (List.map (d8 .u8) b0))]]⟩,some ⟨1,false,(List.map (d8 .u8) b0)⟩] (V3 y::List.map V3 Y) [some ⟨1,false,(List.map (d8 .u8) b0)⟩,some ⟨1,true,[[(i5 5 (List.map (d8 .u8) b5))]]⟩,some ⟨1,true,[[(i5 6 (List.map (I0 1 (d8 .u8)) b6))]]⟩,some ⟨1,false,[[.int .i64 D9]]⟩,some ⟨1,true,[[(i5 0 (List.map (d8 .u8) b0))]]⟩,some ⟨1,false,(List.map (d8 .u8) b5)⟩,some ⟨1,false,(List.map (I0 1 (d8 .u8)) b6)⟩]:=by
 unfold bk7 at h
 refine bc3 ?_
 refine zn 4 h fun h=> ?_
 refine za 0 (d8 .u8) b5 ([y.2.kind]) ?_
 refine zn 2 h fun h=> ?_
 refine za 0 (I0 1 (d8 .u8)) b6 ([y.2.body]) ?_
 refine n8 hm 8 _ ?_
 obtain rfl:=Option.some.inj h
 exact aT6 [] (s1:= [some ⟨1,false,(List.map (d8 .u8) b0)⟩,some ⟨1,true,[[.msl 5 0 ((List.map (d8 .u8) (b5++ [y.2.kind])).length) ((List.map (d8 .u8) (b5++ [y.2.kind])).length) false]]⟩,some ⟨1,true,[[.msl 6 0 ((List.map (I0 1 (d8 .u8)) (b6++ [y.2.body])).length) ((List.map (I0 1 (d8 .u8)) (b6++ [y.2.body])).length) false]]⟩,some ⟨1,false,[[.int .i64 y.1]]⟩,some ⟨1,true,[[(i5 0 (List.map (d8 .u8) b0))]]⟩,some ⟨1,false,(List.map (d8 .u8) (b5++ [y.2.kind]))⟩,some ⟨1,false,(List.map (I0 1 (d8 .u8)) (b6++ [y.2.body]))⟩]) (s:= [some ⟨1,false,(List.map (d8 .u8) b0)⟩,some ⟨1,true,[[.msl 5 0 ((List.map (d8 .u8) (b5++ [y.2.kind])).length) ((List.map (d8 .u8) (b5++ [y.2.kind])).length) false]]⟩,some ⟨1,true,[[.msl 6 0 ((List.map (I0 1 (d8 .u8)) (b6++ [y.2.body])).length) ((List.map (I0 1 (d8 .u8)) (b6++ [y.2.body])).length) false]]⟩,some ⟨1,false,[[.int .i64 y.1]]⟩,some ⟨1,true,[[(i5 0 (List.map (d8 .u8) b0))]]⟩,some ⟨1,false,(List.map (d8 .u8) (b5++ [y.2.kind]))⟩,some ⟨1,false,(List.map (I0 1 (d8 .u8)) (b6++ [y.2.body]))⟩]) (by kernel_rfl) (rfl) (by kernel_rfl) ha
theorem cX9 {b0:List Int}{D9:Int}{b5:List Int}{b6:List (List Int)}{Y:List (Int×ap2)}{r:(List Int)×(List (List Int))×Int}{x:H0⊕((List Int)×(List (List Int))×Int)} (h:bt5 b0 D9 b5 b6 Y=some x) (ha:D2 (aF7 b0) r x):Q8 E (Cx.of Tryz.f85 false 1) (QW (Rs (aa5 b0) r)) 5 (E7 [1,1,1,1,0,1,0]) [.blk 0,.code (E7 [1,1,1,1,1])] [(5,.ptr 1 0 0),(6,.ptr 2 0 0),(7,.ptr 3 0 0),(11,.fn 146 [] [.ptr 4 0 0])] [4,0] [some ⟨1,true,[[(i5 0 (List.map (d8 .u8) b0))]]⟩,some ⟨1,false,(List.map (d8 .u8) b0)⟩] (List.map V3 Y) [some ⟨1,false,(List.map (d8 .u8) b0)⟩,some ⟨1,true,[[(i5 5 (List.map (d8 .u8) b5))]]⟩,some ⟨1,true,[[(i5 6 (List.map (I0 1 (d8 .u8)) b6))]]⟩,some ⟨1,false,[[.int .i64 D9]]⟩,some ⟨1,true,[[(i5 0 (List.map (d8 .u8) b0))]]⟩,some ⟨1,false,(List.map (d8 .u8) b5)⟩,some ⟨1,false,(List.map (I0 1 (d8 .u8)) b6)⟩]:=by
 cases Y with
 | nil=>exact cO9 h ha
 | cons y Y=>exact cX3 h ha
noncomputable def cp0 (b0:List Int):Option ((List Int)×(List (List Int))×Int):=T3 (af7 b0) (.s0)
theorem dx4 {b0:List Int}{r:(List Int)×(List (List Int))×Int} (h:Ev (af7 b0) (.s0) r):i7 E 85 [(i5 0 (List.map (d8 .u8) b0))] [some ⟨1,false,(List.map (d8 .u8) b0)⟩] (Rs (aa5 b0) r):=
 ay0 (m:=(aZ1 b0) (.s0)) (fn:=Tryz.f85) (by kernel_rfl) (by kernel_rfl) (bo5 (Pd:=(aF7 b0)) (fun s x r hs ha=>by
  cases s with
  | s0=>exact da6 hs ha
  | s1=>exact dc9 hs ha
  | s2=>exact cX9 hs ha) h)
theorem dA7 {b0:List Int}{r:(List Int)×(List (List Int))×Int} (h:cp0 b0=some r):i7 E 85 [(i5 0 (List.map (d8 .u8) b0))] [some ⟨1,false,(List.map (d8 .u8) b0)⟩] (Rs (aa5 b0) r):=dx4 (bu5 h)
noncomputable def cF5 (b1 ae5:Int) (ad1:Bool) (b3 b4 y:List Int):D×i0:=(.tup [],[some ⟨1,true,[[.ptr 2 0 0]]⟩,some ⟨1,false,[[.int .i64 b1]]⟩,some ⟨4,true,[[(i5 5 (List.map (d8 .u8) y)),.msl 4 0 0 0 false,.int .i64 ae5,.bool ad1]]⟩,some ⟨1,false,(List.map (d8 .u8) b3)⟩,some ⟨1,false,(List.map (d8 .u8) b4)⟩,some ⟨1,false,(List.map (d8 .u8) y)⟩])
noncomputable def aq2 (b1 ae5:Int) (ad1:Bool) (b3 b4:List Int):Option (List Int):=(bif ((decide (((0:Nat):Int)≤b1))&&(decide (b1≤(((List.map (d8 .u8) b3).length:Nat):Int)))) then ((ax8 b1.toNat ((List.map (d8 .u8) b3).length) b3).bind fun y2=>(some y2)) else none)
theorem bB5 {b1 ae5:Int}{ad1:Bool}{b3 b4 r:List Int} (h:aq2 b1 ae5 ad1 b3 b4=some r):i7 E 87 [.ptr 0 0 0,.ptr 1 0 0] [some ⟨1,true,[[.ptr 2 0 0]]⟩,some ⟨1,false,[[.int .i64 b1]]⟩,some ⟨4,true,[[(i5 3 (List.map (d8 .u8) b3)),.msl 4 0 0 0 false,.int .i64 ae5,.bool ad1]]⟩,some ⟨1,false,(List.map (d8 .u8) b3)⟩,some ⟨1,false,(List.map (d8 .u8) b4)⟩] (Rs (cF5 b1 ae5 ad1 b3 b4) r):=so (fn:=Tryz.f87) (k:=true) (m:=5) h<| by
 intro r h;unfold aq2 at h
 refine zn 5 h fun h=> ?_
 refine zdR 0 [] h (fun _=>co2) fun y2 h=> ?_
 exact zu 3 h
noncomputable def as7:=u5 (u6 Tryz.f86)
noncomputable def aR2 (b2:Int) (b4:List Int) (y:Int×Int×Bool×(List Int)):D×i0:=(.int .i64 y.1,[some ⟨4,true,[[(i5 5 (List.map (d8 .u8) y.2.2.2)),.msl 6 0 0 0 false,.int .i64 y.2.1,.bool y.2.2.1]]⟩,some ⟨1,true,[[.ptr 0 0 0]]⟩,some ⟨1,false,[[.int .i64 b2]]⟩,none,none,some ⟨1,false,(List.map (d8 .u8) y.2.2.2)⟩,some ⟨1,false,(List.map (d8 .u8) b4)⟩])
abbrev aR5 (ae5:Int) (ad1:Bool) (b2:Int) (b3 b4:List Int):=AOk E (Cx.of Tryz.f86 true 5) (aR2 b2 b4)
noncomputable def bG3 (ae5:Int) (ad1:Bool) (b2:Int) (b3 b4:List Int) (q0:Int) (p8:Bool):M:=⟨[.code (as7 [1,1])],[(0,.ptr 0 0 0),(1,.fn 87 [] [.ptr 1 0 0,.ptr 2 0 0])],[some ⟨4,true,[[(i5 3 (List.map (d8 .u8) b3)),.msl 4 0 0 0 false,.int .i64 q0,.bool p8]]⟩,some ⟨1,true,[[.ptr 0 0 0]]⟩,some ⟨1,false,[[.int .i64 b2]]⟩,some ⟨1,false,(List.map (d8 .u8) b3)⟩,some ⟨1,false,(List.map (d8 .u8) b4)⟩]⟩
noncomputable def M8 (ae5:Int) (ad1:Bool) (b2:Int) (b3 b4:List Int) (q0:Int) (p8:Bool):Option (Int×Int×Bool×(List Int)):=(bif p8 then (some (61,q0,p8,b3)) else (bif (decide (q0>0)) then ((aq2 b2 (IntKind.i64.wrap (q0-1)) p8 b3 b4).bind fun y3=>(some (0,(IntKind.i64.wrap (q0-1)),p8,y3))) else ((aq2 b2 q0 p8 b3 b4).bind fun y4=>(some (0,q0,p8,y4)))))
theorem aG1 {ae5 ad1 b2 b3 b4 q0 p8}:aR5 ae5 ad1 b2 b3 b4 (bG3 ae5 ad1 b2 b3 b4 q0 p8) (M8 ae5 ad1 b2 b3 b4 q0 p8):=by
 intro r h;unfold M8 at h
 refine zs 10 h (fun h=> ?_) fun h=> ?_
 ·
  refine zf 4 [.mv 3,.mv 4] ?_
  exact zu 1 h
 refine zs 12 h (fun h=> ?_) fun h=> ?_
 ·
  refine zc 17 [] h (fun _=>bB5) fun y3 h=> ?_
  refine zf 5 [.mv 3,.mv 4] ?_
  exact zu 1 h
 refine zc 5 [] h (fun _=>bB5) fun y4 h=> ?_
 refine zf 5 [.mv 3,.mv 4] ?_
 exact zu 1 h
noncomputable def bG6 (ae5:Int) (ad1:Bool) (b2:Int) (b3 b4:List Int) (t16:Bool):M:=⟨[.code (as7 [1,0,1]),.code (as7 [1,1])],[(0,.ptr 0 0 0),(1,.fn 87 [] [.ptr 1 0 0,.ptr 2 0 0]),(16,.bool t16)],[some ⟨4,true,[[(i5 3 (List.map (d8 .u8) b3)),.msl 4 0 0 0 false,.int .i64 ae5,.bool ad1]]⟩,some ⟨1,true,[[.ptr 0 0 0]]⟩,some ⟨1,false,[[.int .i64 b2]]⟩,some ⟨1,false,(List.map (d8 .u8) b3)⟩,some ⟨1,false,(List.map (d8 .u8) b4)⟩]⟩
noncomputable def M6 (ae5:Int) (ad1:Bool) (b2:Int) (b3 b4:List Int) (t16:Bool):Option (Int×Int×Bool×(List Int)):=(bif t16 then (M8 ae5 ad1 b2 b3 b4 (-1) true) else (M8 ae5 ad1 b2 b3 b4 ae5 ad1))
theorem aG3 {ae5 ad1 b2 b3 b4 t16}:aR5 ae5 ad1 b2 b3 b4 (bG6 ae5 ad1 b2 b3 b4 t16) (M6 ae5 ad1 b2 b3 b4 t16):=by
 intro r h;unfold M6 at h
 refine zs 1 h (fun h=> ?_) fun h=> ?_
 ·
  exact zg 14 (aG1 h)
 exact zg 1 (aG1 h)
noncomputable def ag2 (ae5:Int) (ad1:Bool) (b2:Int) (b3 b4:List Int):Option (Int×Int×Bool×(List Int)):=(bif (!ad1) then (M6 ae5 ad1 b2 b3 b4 (ae5==0)) else (M6 ae5 ad1 b2 b3 b4 false))
theorem bE2 {ae5:Int}{ad1:Bool}{b2:Int}{b3 b4:List Int}{r:Int×Int×Bool×(List Int)} (h:ag2 ae5 ad1 b2 b3 b4=some r):i7 E 86 [.ptr 0 0 0,.fn 87 [] [.ptr 1 0 0,.ptr 2 0 0]] [some ⟨4,true,[[(i5 3 (List.map (d8 .u8) b3)),.msl 4 0 0 0 false,.int .i64 ae5,.bool ad1]]⟩,some ⟨1,true,[[.ptr 0 0 0]]⟩,some ⟨1,false,[[.int .i64 b2]]⟩,some ⟨1,false,(List.map (d8 .u8) b3)⟩,some ⟨1,false,(List.map (d8 .u8) b4)⟩] (Rs (aR2 b2 b4) r):=so (fn:=Tryz.f86) (k:=true) (m:=5) h<| by
 intro r h;unfold ag2 at h
 refine zs 15 h (fun h=> ?_) fun h=> ?_
 ·
  exact zg 12 (aG3 h)
 exact zg 11 (aG3 h)
noncomputable def cY3 (y:(List Int)×(List (List Int))×Int×Int×Bool×(List Int)×(List Int)):D×i0:=(.tup [.sl false 1 (List.map (d8 .u8) y.1),.sl false 1 (List.map (I0 1 (d8 .u8)) y.2.1),.int .i64 y.2.2.1],[some ⟨4,true,[[(i5 3 (List.map (d8 .u8) y.2.2.2.2.2.1)),(i5 4 (List.map (d8 .u8) y.2.2.2.2.2.2)),.int .i64 y.2.2.2.1,.bool y.2.2.2.2.1]]⟩,none,none,some ⟨1,false,(List.map (d8 .u8) y.2.2.2.2.2.1)⟩,some ⟨1,false,(List.map (d8 .u8) y.2.2.2.2.2.2)⟩])
noncomputable def ai7 (ae5:Int) (ad1:Bool) (b1 b2:List Int):Option ((List Int)×(List (List Int))×Int×Int×Bool×(List Int)×(List Int)):=((cp0 b1).bind fun y1=>(bif (decide ((y1.2.2:Int)<(((List.map (d8 .u8) b1).length:Nat):Int))) then ((ag2 ae5 false y1.2.2 b1 ([])).bind fun y3=>(bif ((y3.1:Int) !=0) then (some ([],[],y3.1,y3.2.1,y3.2.2.1,y3.2.2.2,([]))) else (some (y1.1,y1.2.1,0,y3.2.1,y3.2.2.1,y3.2.2.2,([]))))) else (some (y1.1,y1.2.1,0,ae5,false,b1,[]))))
theorem bO0 {ae5:Int}{ad1:Bool}{b1 b2:List Int}{r:(List Int)×(List (List Int))×Int×Int×Bool×(List Int)×(List Int)} (h:ai7 ae5 ad1 b1 b2=some r):i7 E 53 [.ptr 0 0 0] [some ⟨4,true,[[(i5 1 (List.map (d8 .u8) b1)),(i5 2 (List.map (d8 .u8) b2)),.int .i64 ae5,.bool ad1]]⟩,some ⟨1,false,(List.map (d8 .u8) b1)⟩,some ⟨1,false,(List.map (d8 .u8) b2)⟩] (Rs cY3 r):=so (fn:=Tryz.f53) (k:=true) (m:=3) h<| by
 intro r h;unfold ai7 at h
 refine zc 24 [] h (fun _=>dA7) fun y1 h=> ?_
 refine zs 18 h (fun h=> ?_) fun h=> ?_
 ·
  refine zcx 6 [] [.matc 0 0 1 1] h (fun _=>bE2) (fun y3 h=> ?_)
  refine zs 8 h (fun h=> ?_) fun h=> ?_
  ·
   refine zf 7 [.mv 2] ?_
   exact zu 1 h [.slot 0 [some 1,some 1]]
  refine zf 9 [.mv 2] ?_
  exact zu 1 h
 refine zf 9 [.matc 0 0 1 1,.mv 1,.mv 2] ?_
 exact zu 1 h
theorem dv6 (P r:List Int) (k:Nat):List.drop (P.length+k) (P++r)=r.drop k:=by
 rw[List.drop_append,List.drop_of_length_le (by omega),List.nil_append];congr 1;omega
theorem eJ0 (P r:List Int) (k:Nat):(P++r)[P.length+k]? =r[k]? :=by
 rw[List.getElem?_append_right (by omega)];congr 1;omega
theorem eC7 {b:List Int}{at_ ln cp:Nat} (h:at_+ln≤b.length) (hm:b.length≤K3):aP4 at_ ln cp b=some ((b.drop at_).take ln):=by
 have e:(List.take ln (List.drop at_ (List.map (d8 .u8) b))).length=ln:=by simp;omega
 have c:decide ((0+ln)*1≤l6)=true:=E0 (by simp only[K3] at hm;omega)
 simp only[aP4,e,show Nat.beq ln ln=true from Nat.beq_refl ln,cond_true,c,List.nil_append]
theorem ew5 {b:List Int}{ln cp:Nat} (h:ln≤b.length) (hm:b.length≤K3):ax8 ln cp b=some (b.take ln):=by
 have e:(List.take ln (List.drop 0 (List.map (d8 .u8) b))).length=ln:=by simp;omega
 have c:decide ((0+ln)*1≤l6)=true:=E0 (by simp only[K3] at hm;omega)
 unfold ax8
 rw[e]
 simp only[show Nat.beq ln ln=true from Nat.beq_refl ln,cond_true,c,List.nil_append,List.drop_zero]
theorem bw9 (at_:Int) (b:List Int) (e n:Int) (x y z:Nat) (h:e≠0):W6 at_ b e n x y z=some (0,[],0,e):=by
 have:(e !=0)=true:=by simp[h]
 simp only[W6,this,cond_true]
theorem ep0 {P rest:List Int} (hb:A1 rest) (hm:P.length+rest.length≤K3) (h0:rest= []∨rest.head? =some 247):ap9 P.length (P++rest) P.length rest.length rest.length false=some (rF P.length (pF rest)):=by
 have hm0:=hm
 simp only[K3] at hm
 have w1:IntKind.i64.wrap (IntKind.i64.wrap (((rest.length:Nat):Int)-4)-4)=(rest.length:Int)-8:=by
  rw[v9 (n:=((rest.length:Nat):Int)-4) (by omega) (by omega),v9 (by omega) (by omega)];omega
 by_cases h8:rest.length<8
 ·have c1:decide (((rest.length:Nat):Int)<8)=true:=by simp;omega
  have e:pF rest=.inl 31:=by
   rcases h0 with rfl | h0
   ·rfl
   ·cases rest with
    | nil=>rfl
    | cons m l=>
     obtain rfl:=Option.some.inj h0
     exact ei6 (by simp at h8;omega)
  simp only[ap9,cond_false,c1,cond_true,bw9 _ _ _ _ _ _ _ (by decide:(31:Int)≠0),e,rF]
 ·have c1:decide (((rest.length:Nat):Int)<8)=false:=by simp;omega
  have c2:decide ((4:Int)≤((rest.length:Nat):Int))=true:=by simp;omega
  have hx:∃k a c r,rest=247::k::a::c::r:=by
   match rest,h8,h0 with
   | m::k::a::c::r,_,h0=>
    rcases h0 with h0 | h0
    ·cases h0
    ·obtain rfl:=Option.some.inj h0;exact⟨k,a,c,r,rfl⟩
   | [],h,_=>simp at h
   | [_],h,_=>simp at h
   | [_,_],h,_=>simp at h
   | [_,_,_],h,_=>simp at h
  obtain⟨k,a',c',r,hrest⟩:=hx
  have ha:=hb a' (by simp[hrest])
  have hc:=hb c' (by simp[hrest])
  obtain⟨a,rfl⟩:=Int.eq_ofNat_of_zero_le ha.1
  obtain⟨c,rfl⟩:=Int.eq_ofNat_of_zero_le hc.1
  have hbr:A1 r:=fun x hx=>hb x (by simp[hrest,hx])
  have hk:=hb k (by simp[hrest])
  have hlr:rest.length=r.length+4:=by rw[hrest];simp
  have hr4:4≤r.length:=by omega
  have n1:aS4 [(a:Int),(c:Int)]=some ((a*256+c:Nat):Int):=by
   have:=dj3 (b:= [(a:Int),(c:Int)]) (fun x hx=>by simp only[List.mem_cons,List.not_mem_nil,or_false] at hx;rcases hx with rfl | rfl<;>assumption) (by simp)
   rw[this];simp[W3]
  have d1:List.take 2 (List.drop (P.length+2) (P++rest))= [(a:Int),(c:Int)]:=by rw[dv6,hrest];simp
  have b1:Nat.ble (P.length+2+2) (List.map (d8 .u8) (P++rest)).length=true:=by simp;omega
  generalize hn:a*256+c=n at*
  simp only[ap9,cond_false,c1,c2,cond_true,b1,d1,n1,Option.bind_some,w1]
  by_cases hbig:8192<n
  ·have c3:decide ((n:Int)>8192)=true:=by simp;omega
   rw[hrest,ey7 hr4 (by omega)]
   simp only[c3,cond_true,bw9 _ _ _ _ _ _ _ (by decide:(2:Int)≠0),rF]
  ·have c3:decide ((n:Int)>8192)=false:=by simp;omega
   by_cases hs:r.length<n+4
   ·have c4:decide ((n:Int)>(rest.length:Int)-8)=true:=by simp;omega
    have e:pF rest=.inl 31:=by rw[hrest];exact ew9 hr4 (by omega) (by omega)
    rw[e]
    simp only[c3,c4,cond_true,cond_false,bw9 _ _ _ _ _ _ _ (by decide:(31:Int)≠0),rF]
   ·have c4:decide ((n:Int)>(rest.length:Int)-8)=false:=by simp;omega
    have w2:IntKind.i64.wrap ((4:Int)+(n:Int))=((n+4:Nat):Int):=by rw[v9 (by omega) (by omega)];omega
    have w3:IntKind.i64.wrap (((n+4:Nat):Int)+4)=((n+8:Nat):Int):=by rw[v9 (by omega) (by omega)];omega
    have c5:(decide (((0:Nat):Int)≤((n+4:Nat):Int))&&decide (((n+4:Nat):Int)≤(rest.length:Int)))=true:=by simp;omega
    have c6:decide ((1:Int)≤(((n+4:Nat):Nat):Int))=true:=by simp;omega
    have c6' :decide ((4:Int)≤(((n+4:Nat):Nat):Int))=true:=by simp;omega
    have c7:(decide (((0:Nat):Int)≤((n+8:Nat):Int))&&decide (((n+8:Nat):Int)≤(rest.length:Int)))=true:=by simp;omega
    have c8:(decide (((0:Nat):Int)≤((n+4:Nat):Int))&&decide (((n+4:Nat):Int)≤((n+8:Nat):Int)))=true:=by simp;omega
    have b2:Nat.ble (P.length+1+(n+4-1)) (List.map (d8 .u8) (P++rest)).length=true:=by simp;omega
    have b3:Nat.ble (P.length+(n+4)+(n+8-(n+4))) (List.map (d8 .u8) (P++rest)).length=true:=by simp;omega
    have d2:List.take (n+4-1) (List.drop (P.length+1) (P++rest))=(k::(a:Int)::(c:Int)::r).take (n+3):=by rw[dv6,hrest];simp
    have d3:List.take (n+8-(n+4)) (List.drop (P.length+(n+4)) (P++rest))=(r.drop n).take 4:=by
     rw[dv6,hrest,show n+8-(n+4)=4 by omega];rfl
    have d4:List.take (n+4-4) (List.drop (P.length+4) (P++rest))=r.take n:=by rw[dv6,hrest];simp
    have hs1:=dY6 (b:=(k::(a:Int)::(c:Int)::r).take (n+3)) (cZ6 (fun x hx=>hb x (by rw[hrest];exact List.mem_cons_of_mem _ hx)) _) (by rw[List.length_take];omega)
    have hs2:=dj3 (b:=(r.drop n).take 4) (cZ6 (bn5 hbr _) _) (by rw[List.length_take];omega)
    have hcl:=dD1 ((k::(a:Int)::(c:Int)::r).take (n+3))
    have ew:pF rest=if crc ((k::(a:Int)::(c:Int)::r).take (n+3))≠W3 0 ((r.drop n).take 4) then .inl 33 else .inr (k,r.take n,n+8):=by
     rw[hrest,eh6 hr4 (by omega) (by omega),hn]
    rw[ew]
    simp only[c3,c4,cond_true,cond_false,w2,w3,c5,c6,c7,c8,b2,b3,Int.toNat_natCast,d2,d3,hs1,hs2,Option.bind_some,v9 (n:=((crc ((k::(a:Int)::(c:Int)::r).take (n+3)):Nat):Int)) (by omega) (by omega)]
    by_cases hq:crc ((k::(a:Int)::(c:Int)::r).take (n+3))=W3 0 ((r.drop n).take 4)
    ·have q1:((((crc ((k::(a:Int)::(c:Int)::r).take (n+3)):Nat):Int)) !=((W3 0 ((r.drop n).take 4):Nat):Int))=false:=by rw[hq];simp
     rw[q1,if_neg (by simpa using hq)]
     have c9:decide ((1:Int)<(rest.length:Int))=true:=by simp;omega
     have w4:IntKind.i64.wrap (IntKind.i64.wrap (IntKind.i64.wrap ((P.length:Int)+4)+(n:Int))+4)=((P.length+(n+8):Nat):Int):=by
      rw[v9 (n:=(P.length:Int)+4) (by omega) (by omega),v9 (n:=(P.length:Int)+4+(n:Int)) (by omega) (by omega),v9 (by omega) (by omega)];omega
     have cl:=eC7 (b:=P++rest) (at_:=P.length+4) (ln:=n+4-4) (cp:=rest.length-4) (by simp;omega) (by simp;omega)
     have g1:(P++rest)[P.length+1]? =some k:=by rw[eJ0,hrest];rfl
     simp only[cond_false,W6,bne_self_eq_false,c9,cond_true,g1,Option.bind_some,w2,c5,c6',Int.toNat_natCast,cl,d4,w4,rF]
    ·have q1:((((crc ((k::(a:Int)::(c:Int)::r).take (n+3)):Nat):Int)) !=((W3 0 ((r.drop n).take 4):Nat):Int))=true:=bne_iff_ne.2 fun h=>hq (Int.ofNat.inj h)
     rw[q1,if_pos (by simpa using hq)]
     simp only[cond_true,bw9 _ _ _ _ _ _ _ (by decide:(33:Int)≠0),rF]
theorem eB2 {P rest:List Int} (hb:A1 rest) (hm:P.length+rest.length≤K3):bv9 P.length (P++rest)=some (rF P.length (pF rest)):=by
 have hm' :=hm
 simp only[K3] at hm'
 have c1:decide ((P.length:Int)<0)=false:=by simp
 have c2:decide ((P.length:Int)>(((P++rest).length:Nat):Int))=false:=by simp;omega
 have c3:(decide (((0:Nat):Int)≤(P.length:Int))&&decide ((P.length:Int)≤(((P++rest).length:Nat):Int)))=true:=by simp;omega
 have e1:(P++rest).length-P.length=rest.length:=by simp
 simp only[bv9,c1,cond_false,List.length_map,c2,aX3,c3,cond_true,Int.toNat_natCast,e1,Nat.zero_add]
 cases rest with
 | nil=>
  have:=ep0 (P:=P) (rest:= []) hb hm (.inl rfl)
  exact this
 | cons m l=>
  have c4:decide ((((m::l).length:Nat):Int)>0)=true:=by simp
  have c5:decide ((0:Int)<(((m::l).length:Nat):Int))=true:=by simp
  have g0:(P++m::l)[P.length]? =some m:=by simp
  simp only[c4,c5,cond_true,g0,Option.bind_some]
  by_cases hq:m=247
  ·subst hq
   exact ep0 hb hm (.inr rfl)
  ·have:(m !=247)=true:=by simp[hq]
   rw[this,eh2 hq]
   simp only[ap9,cond_true,bw9 _ _ _ _ _ _ _ (by decide:(32:Int)≠0),rF]
/-! ### frames, one D9 the other -/
/-- A frame: its kind, its body. -/
abbrev Fr1 := Int × List Int
def cm5 (x:Fr1):Prop:=(0≤x.1∧x.1≤255)∧A1 x.2∧x.2.length≤8192
def P2:List Fr1→List Int
 | []=> []
 | x::l=>L1 x.1 x.2++P2 l
theorem es2 (a b:List Fr1):P2 (a++b)=P2 a++P2 b:=by
 induction a with
 | nil=>rfl
 | cons x a ih=>simp[P2,ih]
theorem dk3 {l:List Fr1} (h:∀x∈l,cm5 x):A1 (P2 l):=by
 induction l with
 | nil=>intro c hc;simp[P2] at hc
 | cons x l ih=>
  intro c hc
  simp only[P2,List.mem_append] at hc
  obtain⟨h1,h2,h3⟩:=h x (by simp)
  rcases hc with hc | hc
  ·exact cd9 h1 h2 (by omega) c hc
  ·exact ih (fun y hy=>h y (by simp[hy])) c hc
def bF6:List Int→List Fr1→List (Int×ap2)
 | _,[]=> []
 | P,x::l=>(((P++L1 x.1 x.2).length:Int),⟨x.1,x.2⟩)::bF6 (P++L1 x.1 x.2) l
theorem eq1 {J:List Int}{e:Int} (hJ:pF J=.inl e) (hJb:A1 J):∀(l:List Fr1) (P:List Int),(∀x∈l,cm5 x)→P.length+(P2 l++J).length≤K3→EvL ab7 (.s1 P.length (P++(P2 l++J))) (bF6 P l)
 | [],P,hl,hm=>by
  refine .done ?_
  have:=eB2 (P:=P) (rest:=J) hJb (by simpa[P2] using hm)
  have he:(e !=0)=true:=by
   have:=eC1 hJ
   rcases this with rfl | rfl | rfl | rfl<;>rfl
  simp only[ab7,aD9,P2,List.nil_append,this,hJ,rF,Option.bind_some,he,cond_true,bF6]
 | x::l,P,hl,hm=>by
  obtain⟨h1,h2,h3⟩:=hl x (by simp)
  have hl' :∀y∈l,cm5 y:=fun y hy=>hl y (by simp[hy])
  have hb:A1 (P2 (x::l)++J):=fun c hc=>by
   rcases List.mem_append.1 hc with hc | hc
   ·exact dk3 hl c hc
   ·exact hJb c hc
  have hg:=eB2 (P:=P) hb hm
  have hpf:pF (P2 (x::l)++J)=.inr (x.1,x.2,x.2.length+8):=by
   simp only[P2,List.append_assoc]
   exact dF4 h1 h2 h3 _
  rw[hpf] at hg
  have hlen:((P++L1 x.1 x.2).length:Int)=((P.length+(x.2.length+8):Nat):Int):=by simp[bd4]
  have ih:=eq1 hJ hJb l (P++L1 x.1 x.2) hl' (by simp[P2] at hm ⊢;omega)
  refine EvL.next (l:= [(((P++L1 x.1 x.2).length:Int),(⟨x.1,x.2⟩:ap2))]) (s' :=P7.s1 (P++L1 x.1 x.2).length (P++(P2 (x::l)++J))) ?_ ?_
  ·simp only[ab7,aD9,hg,rF,Option.bind_some,bne_self_eq_false,cond_false,Option.map_some,List.nil_append,hlen]
  ·rw[show P++(P2 (x::l)++J)=P++L1 x.1 x.2++(P2 l++J) by simp[P2]]
   exact ih
theorem di9 {b:List Int}:∀(l:List Fr1) (P:List Int) (ks:List Int) (bs:List (List Int)),(∀x∈l,cm5 x)→ks.length=bs.length→bs.length+l.length≤1000000000→
  Ev (af7 b) (.s2 (P.length:Int) ks bs (bF6 P l)) (ks++l.map (·.1),bs++l.map (·.2),((P++P2 l).length:Int))
 | [],P,ks,bs,hl,h1,h2=> .done (by simp[af7,bt5,bk1,bF6,P2])
 | x::l,P,ks,bs,hl,h1,h2=>by
  have ih:=di9 (b:=b) l (P++L1 x.1 x.2) (ks++ [x.1]) (bs++ [x.2]) (fun y hy=>hl y (by simp[hy])) (by simp[h1]) (by simp at h2 ⊢;omega)
  simp only[List.length_cons] at h2
  have l1:decide ((ks.length+1)*1≤l6)=true:=E0 (by omega)
  have l2:decide ((bs.length+1)*24≤l6)=true:=E0 (by omega)
  refine .next (s' :=H0.s2 ((P++L1 x.1 x.2).length:Int) (ks++ [x.1]) (bs++ [x.2]) (bF6 (P++L1 x.1 x.2) l)) ?_ ?_
  ·simp only[af7,bt5,bF6,bk7,List.length_map,l1,l2,cond_true]
  ·simpa[P2] using ih
theorem eJ2 {l:List Fr1}{J:List Int}{e:Int} (hl:∀x∈l,cm5 x) (hJ:pF J=.inl e) (hJb:A1 J) (hm:(P2 l++J).length≤10000000):cp0 (P2 l++J)=some (l.map (·.1),l.map (·.2),((P2 l).length:Int)):=by
 have hn:l.length≤(P2 l).length:=by
  clear hm hl
  induction l with
  | nil=>simp[P2]
  | cons x l ih=>simp[P2,bd4];omega
 have h1:=eq1 hJ hJb l [] hl (by simp only[K3];simp at hm ⊢;omega)
 have h2:=di9 (b:=P2 l++J) l [] [] [] hl rfl (by simp at hm ⊢;omega)
 have e1:bl8 (P2 l++J)=some (bF6 [] l):=bX3 (EvL.next (l:= []) (s' :=P7.s1 0 (P2 l++J)) (by simp[ab7,aU6]) (by simpa using h1))
 refine z7 (.next (s' :=H0.s1 0 [] []) ?_ (.next (s' :=H0.s2 0 [] [] (bF6 [] l)) ?_ ?_))
 ·simp only[af7,bt0,bF0,Option.bind_some]
 ·simp only[af7,bs4,e1,Option.bind_some]
 ·simpa using h2
noncomputable def cz1 (y:(List Int)×p6):D×i0:=(.sl false 1 (List.map (d8 .i64) y.1),[some ⟨3,false,[(p6.enc y.2)]⟩])
noncomputable def aj3 (b0:p6):Option ((List Int)×p6):=(bif (b0.place.e !=0) then (some ([],b0)) else ((be9 b0.b b0.place.at_).bind fun y2=>(some (y2.1,(⟨(⟨y2.2.1,y2.2.2⟩:bu3),b0.b⟩:p6)))))
theorem bv2 {b0:p6}{r:(List Int)×p6} (h:aj3 b0=some r):i7 E 89 [.ptr 0 0 0] [some ⟨3,false,[(p6.enc b0)]⟩] (Rs cz1 r):=so (fn:=Tryz.f89) (k:=false) (m:=1) h<| by
 intro r h;unfold aj3 at h
 refine zs 16 h (fun h=> ?_) fun h=> ?_
 ·
  exact zu 5 h [.slot 0 [some 1]]
 refine zd 9 [] h (fun _=>ct6) fun y2 h=> ?_
 exact zu 10 h
noncomputable def dJ8 (y:(List Int)×Int×Int):D×i0:=(.tup [.sl false 1 (List.map (d8 .u8) y.1),.int .i64 y.2.1,.int .i64 y.2.2],[])
noncomputable def ax6 (b:List Int) (at_:Int):Option ((List Int)×Int×Int):=((O2 b at_ 4096).bind fun y1=>(bif ((y1.2.2:Int) !=0) then (some ([],0,y1.2.2)) else (bif (decide ((y1.1:Int)>(IntKind.i64.wrap ((((List.map (d8 .u8) b).length:Nat):Int)-y1.2.1)))) then (some ([],0,11)) else (bif ((decide (((0:Nat):Int)≤(IntKind.i64.wrap (y1.2.1+y1.1))))&&(decide (((IntKind.i64.wrap (y1.2.1+y1.1)):Int)≤(((List.map (d8 .u8) b).length:Nat):Int)))) then (bif ((decide (((0:Nat):Int)≤y1.2.1))&&(decide ((y1.2.1:Int)≤(((IntKind.i64.wrap (y1.2.1+y1.1)).toNat:Nat):Int)))) then (bif (decide (((List.map (d8 .u8) (List.drop y1.2.1.toNat (List.take ((IntKind.i64.wrap (y1.2.1+y1.1)).toNat) b))).length)*1≤l6)) then (some ((List.drop y1.2.1.toNat (List.take ((IntKind.i64.wrap (y1.2.1+y1.1)).toNat) b)),(IntKind.i64.wrap (y1.2.1+y1.1)),0)) else none) else none) else none))))
theorem dG2 {b:List Int}{at_:Int}{r:(List Int)×Int×Int} (h:ax6 b at_=some r):i7 E 120 [.sl false 1 (List.map (d8 .u8) b),.int .i64 at_] [] (Rs dJ8 r):=so (fn:=Tryz.f120) (k:=false) (m:=0) h<| by
 intro r h;unfold ax6 at h
 refine zc 11 [] h (fun _=>ck3) fun y1 h=> ?_
 refine zs 17 h (fun h=> ?_) fun h=> ?_
 ·
  exact zu 8 h [.slot 0 [some 1]]
 refine zs 11 h (fun h=> ?_) fun h=> ?_
 ·
  exact zu 7 h [.slot 0 [some 1]]
 refine zn 10 h fun h=> ?_
 refine zn 0 h fun h=> ?_
 refine zw 0 (a:=(List.drop y1.2.1.toNat (List.take ((IntKind.i64.wrap (y1.2.1+y1.1)).toNat) (List.map (d8 .u8) b)))) (b:=(List.map (d8 .u8) (List.drop y1.2.1.toNat (List.take ((IntKind.i64.wrap (y1.2.1+y1.1)).toNat) b)))) (cK2 _ _ _ _) ?_
 refine zn 1 h fun h=> ?_
 refine zm 9 (b:=(Nat.ble (0+(List.map (d8 .u8) (List.drop y1.2.1.toNat (List.take ((IntKind.i64.wrap (y1.2.1+y1.1)).toNat) b))).length) ((List.map (d8 .u8) (List.drop y1.2.1.toNat (List.take ((IntKind.i64.wrap (y1.2.1+y1.1)).toNat) b))).length))) (A7 _) ?_
 obtain rfl:=Option.some.inj h
 exact as6 [] (d1:=.tup [.sl false 1 (List.take ((List.map (d8 .u8) (List.drop y1.2.1.toNat (List.take ((IntKind.i64.wrap (y1.2.1+y1.1)).toNat) b))).length) (List.drop 0 (List.map (d8 .u8) (List.drop y1.2.1.toNat (List.take ((IntKind.i64.wrap (y1.2.1+y1.1)).toNat) b))))),.int .i64 (IntKind.i64.wrap (y1.2.1+y1.1)),.int .i64 0]) (d:=.tup [.sl false 1 (List.map (d8 .u8) (List.drop y1.2.1.toNat (List.take ((IntKind.i64.wrap (y1.2.1+y1.1)).toNat) b))),.int .i64 (IntKind.i64.wrap (y1.2.1+y1.1)),.int .i64 0]) (s1:= []) (s:= []) (by kernel_rfl) ⟨by simp[d9.enc,d9.l,l7.enc,l7.l,u4.enc,u4.l,v6.enc,v6.l,f5.enc,f5.l,Op.enc,Op.l,Plan.enc,Plan.l,E6.enc,E6.l,i8.enc,i8.l,u9.enc,u9.l,p6.enc,p6.l,f3.enc,f3.l,List.take_of_length_le,List.map_take,List.map_drop],rfl⟩ ⟨rfl,rfl⟩ Cx.fin_of
noncomputable def cx8 (y:(List Int)×p6):D×i0:=(.sl false 1 (List.map (d8 .u8) y.1),[some ⟨3,false,[(p6.enc y.2)]⟩])
noncomputable def M9 (b0:p6):Option ((List Int)×p6):=(bif (b0.place.e !=0) then (some ([],b0)) else ((ax6 b0.b b0.place.at_).bind fun y2=>(some (y2.1,(⟨(⟨y2.2.1,y2.2.2⟩:bu3),b0.b⟩:p6)))))
theorem aQ2 {b0:p6}{r:(List Int)×p6} (h:M9 b0=some r):i7 E 91 [.ptr 0 0 0] [some ⟨3,false,[(p6.enc b0)]⟩] (Rs cx8 r):=so (fn:=Tryz.f91) (k:=false) (m:=1) h<| by
 intro r h;unfold M9 at h
 refine zs 16 h (fun h=> ?_) fun h=> ?_
 ·
  exact zu 5 h [.slot 0 [some 1]]
 refine zd 9 [] h (fun _=>dG2) fun y2 h=> ?_
 exact zu 10 h
noncomputable def ay9:=u5 (u6 Tryz.f58)
noncomputable def cB3 (y:Bool):D×i0:=(.bool y,[])
abbrev bT6:=AOk E (Cx.of Tryz.f58 false 0) cB3
noncomputable def dG3 (L2:Bool) (m:f5):M:=⟨[.code (ay9 [1,0,0,1,1,1]),.blk 0,.code (ay9 [1,1])],[(1,.ptr 0 0 0),(30,.bool L2)],[some ⟨26,false,[(f5.enc m)]⟩]⟩
noncomputable def ap5 (L2:Bool) (m:f5):Option Bool:=(bif L2 then (some false) else (bif m.HasPlan then ((ap4 m.Plan).bind fun y3=>(some y3)) else ((be2 m.Plan (⟨0,0,0,0,0,0,0,0,0,0,[],[]⟩:Plan)).bind fun y4=>(some y4))))
theorem bq1 {L2 m}:bT6 (dG3 L2 m) (ap5 L2 m):=by
 intro r h;unfold ap5 at h
 refine zs 1 h (fun h=> ?_) fun h=> ?_
 ·
  exact zu 5 h
 refine zs 8 h (fun h=> ?_) fun h=> ?_
 ·
  refine zc 6 [] h (fun _=>aK0) fun y3 h=> ?_
  exact zu 3 h
 refine zc 9 [some 1,some 1] h (fun _=>dF8) fun y4 h=> ?_
 exact zu 3 h
noncomputable def dz1 (L2:Bool) (m:f5):M:=⟨[.code (ay9 [1,0,0,1,1,0,1]),.code (ay9 [1,0,0,1,1,1]),.blk 0,.code (ay9 [1,1])],[(1,.ptr 0 0 0),(30,.bool L2)],[some ⟨26,false,[(f5.enc m)]⟩]⟩
noncomputable def aA2 (L2:Bool) (m:f5):Option Bool:=(bif L2 then (ap5 L2 m) else (bif (decide (((((List.map (d8 .u8) m.Session).length:Nat):Int):Int)>64)) then (ap5 (decide (((((List.map (d8 .u8) m.Session).length:Nat):Int):Int)>64)) m) else (ap5 (decide (((((List.map (d8 .u8) m.Payload).length:Nat):Int):Int)>1024)) m)))
theorem bW8 {L2 m}:bT6 (dz1 L2 m) (aA2 L2 m):=by
 intro r h;unfold aA2 at h
 refine zs 1 h (fun h=> ?_) fun h=> ?_
 ·
  exact zg 1 (bq1 h)
 refine zs 10 h (fun h=> ?_) fun h=> ?_
 ·
  exact zg 1 (bq1 h)
 exact zg 8 (bq1 h)
noncomputable def dw3 (t3:Bool) (m:f5):M:=⟨[.code (ay9 [1,0,0,1]),.blk 0,.code (ay9 [1,1])],[(1,.ptr 0 0 0),(3,.bool t3)],[some ⟨26,false,[(f5.enc m)]⟩]⟩
noncomputable def W8 (t3:Bool) (m:f5):Option Bool:=(bif t3 then (some false) else (bif (decide (((((List.map (d8 .i64) m.ID).length:Nat):Int):Int)>0)) then (aA2 (((((List.map (d8 .i64) m.ID).length:Nat):Int):Int) !=3) m) else (aA2 false m)))
theorem aq6 {t3 m}:bT6 (dw3 t3 m) (W8 t3 m):=by
 intro r h;unfold W8 at h
 refine zs 1 h (fun h=> ?_) fun h=> ?_
 ·
  exact zu 5 h
 refine zs 10 h (fun h=> ?_) fun h=> ?_
 ·
  exact zg 11 (bW8 h)
 exact zg 10 (bW8 h)
noncomputable def aw7 (m:f5):Option Bool:=(bif (decide (m.Kind<1)) then (W8 (decide (m.Kind<1)) m) else (bif (decide (m.Kind>19)) then (W8 (decide (m.Kind>19)) m) else (bif (decide (((B7 (B7 m.From m.To) m.Code):Int)<0)) then (W8 (decide (((B7 (B7 m.From m.To) m.Code):Int)<0)) m) else (bif (decide (((A0 m.From m.To):Int)>255)) then (W8 (decide (((A0 m.From m.To):Int)>255)) m) else (bif (decide (m.Code>1000)) then (W8 (decide (m.Code>1000)) m) else (W8 (decide (m.Up≥65536)) m))))))
theorem bI8 {m:f5}{r:Bool} (h:aw7 m=some r):i7 E 58 [.agg (f5.enc m)] [] (Rs cB3 r):=so (fn:=Tryz.f58) (k:=false) (m:=0) h<| by
 intro r h;unfold aw7 at h
 refine zs 17 h (fun h=> ?_) fun h=> ?_
 ·
  exact zg 1 (aq6 h)
 refine zs 9 h (fun h=> ?_) fun h=> ?_
 ·
  exact zg 1 (aq6 h)
 refine zs 16 h (fun h=> ?_) fun h=> ?_
 ·
  exact zg 1 (aq6 h)
 refine zs 13 h (fun h=> ?_) fun h=> ?_
 ·
  exact zg 1 (aq6 h)
 refine zs 9 h (fun h=> ?_) fun h=> ?_
 ·
  exact zg 1 (aq6 h)
 exact zg 7 (aq6 h)
noncomputable def bI4:=u5 (u6 Tryz.f54)
noncomputable def dx3 (y:f5×Int):D×i0:=(.tup [.agg (f5.enc y.1),.int .i64 y.2],[])
abbrev cK5:=AOk E (Cx.of Tryz.f54 false 0) dx3
noncomputable def ed7 (dg6:Bool) (b0 m:f5):M:=⟨[.code (bI4 [1,1,1,1,1,1,1,1,1,0,1]),.code (bI4 [1,1,1,1,1,1,1,1,1,1])],[(4,.ptr 0 0 0),(8,.ptr 1 0 0),(149,.bool dg6)],[some ⟨26,false,[(f5.enc b0)]⟩,some ⟨26,false,[(f5.enc m)]⟩]⟩
noncomputable def bc2 (dg6:Bool) (b0 m:f5):Option (f5×Int):=(bif dg6 then (some ((⟨0,0,0,0,0,0,0,0,0,0,false,(⟨0,0,0,0,0,0,0,0,0,0,[],[]⟩:Plan),[],[],[]⟩:f5),51)) else (some (m,0)))
theorem bS3 {dg6 b0 m}:cK5 (ed7 dg6 b0 m) (bc2 dg6 b0 m):=by
 intro r h;unfold bc2 at h
 refine zs 1 h (fun h=> ?_) fun h=> ?_
 ·
  exact zu 10 h [.slot 0 [some 1,some 1,some 1,some 1,some 1]]
 exact zu 12 h
noncomputable def ef1 (aj5:List Int) (b0:f5) (r_:p6) (m:f5):M:=⟨[.code (bI4 [1,1,1,1,1,1])],[(1,.sl false 1 (List.map (d8 .u8) aj5)),(4,.ptr 0 0 0),(6,.ptr 1 0 0),(8,.ptr 2 0 0)],[some ⟨26,false,[(f5.enc b0)]⟩,some ⟨3,false,[(p6.enc r_)]⟩,some ⟨26,false,[(f5.enc m)]⟩]⟩
noncomputable def aS1 (aj5:List Int) (b0:f5) (r_:p6) (m:f5):Option (f5×Int):=((aj3 r_).bind fun y1=>((M9 y1.2).bind fun y2=>((M9 y2.2).bind fun y3=>(bif ((y3.2.place.e:Int) !=0) then (bc2 true b0 (⟨m.Kind,m.From,m.To,m.Epoch,m.Ballot,m.Accepted,m.Nonce,m.Time,m.Up,m.Code,m.HasPlan,m.Plan,y1.1,y2.1,y3.1⟩:f5)) else (bif ((y3.2.place.at_:Int) !=(((List.map (d8 .u8) aj5).length:Nat):Int)) then (bc2 true b0 (⟨m.Kind,m.From,m.To,m.Epoch,m.Ballot,m.Accepted,m.Nonce,m.Time,m.Up,m.Code,m.HasPlan,m.Plan,y1.1,y2.1,y3.1⟩:f5)) else ((aw7 (⟨m.Kind,m.From,m.To,m.Epoch,m.Ballot,m.Accepted,m.Nonce,m.Time,m.Up,m.Code,m.HasPlan,m.Plan,y1.1,y2.1,y3.1⟩:f5)).bind fun y6=>(bc2 (!y6) b0 (⟨m.Kind,m.From,m.To,m.Epoch,m.Ballot,m.Accepted,m.Nonce,m.Time,m.Up,m.Code,m.HasPlan,m.Plan,y1.1,y2.1,y3.1⟩:f5))))))))
theorem cD2 {aj5 b0 r_ m}:cK5 (ef1 aj5 b0 r_ m) (aS1 aj5 b0 r_ m):=by
 intro r h;unfold aS1 at h
 refine zc 4 [] h (fun _=>bv2) fun y1 h=> ?_
 refine zc 9 [] h (fun _=>aQ2) fun y2 h=> ?_
 refine zc 9 [] h (fun _=>aQ2) fun y3 h=> ?_
 refine zs 17 h (fun h=> ?_) fun h=> ?_
 ·
  exact zg 26 (bS3 h)
 refine zs 19 h (fun h=> ?_) fun h=> ?_
 ·
  exact zg 7 (bS3 h)
 refine zc 3 [] h (fun _=>bI8) fun y6 h=> ?_
 exact zg 5 (bS3 h)
noncomputable def dV2 (ao0:Int) (aj5 l_:List Int) (t70:Bool) (b0:f5) (r_:p6):M:=⟨[.code (bI4 [1,1,1,0,1]),.code (bI4 [1,1,1,1])],[(0,.int .u8 ao0),(1,.sl false 1 (List.map (d8 .u8) aj5)),(4,.ptr 0 0 0),(6,.ptr 1 0 0),(7,.sl false 1 (List.map (d8 .i64) l_)),(70,.bool t70)],[some ⟨26,false,[(f5.enc b0)]⟩,some ⟨3,false,[(p6.enc r_)]⟩]⟩
noncomputable def U1 (ao0:Int) (aj5 l_:List Int) (t70:Bool) (b0:f5) (r_:p6):Option (f5×Int):=(bif t70 then (some ((⟨0,0,0,0,0,0,0,0,0,0,false,(⟨0,0,0,0,0,0,0,0,0,0,[],[]⟩:Plan),[],[],[]⟩:f5),51)) else (bif (decide ((0:Int)<(((List.map (d8 .i64) l_).length:Nat):Int))) then (((l_)[0]?).bind fun y3=>(bif (decide ((1:Int)<(((List.map (d8 .i64) l_).length:Nat):Int))) then (((l_)[1]?).bind fun y6=>(bif (decide ((2:Int)<(((List.map (d8 .i64) l_).length:Nat):Int))) then (((l_)[2]?).bind fun y9=>(bif (decide ((3:Int)<(((List.map (d8 .i64) l_).length:Nat):Int))) then (((l_)[3]?).bind fun y12=>(bif (decide ((4:Int)<(((List.map (d8 .i64) l_).length:Nat):Int))) then (((l_)[4]?).bind fun y15=>(bif (decide ((5:Int)<(((List.map (d8 .i64) l_).length:Nat):Int))) then (((l_)[5]?).bind fun y18=>(bif (decide ((6:Int)<(((List.map (d8 .i64) l_).length:Nat):Int))) then (((l_)[6]?).bind fun y21=>(bif (decide ((7:Int)<(((List.map (d8 .i64) l_).length:Nat):Int))) then (((l_)[7]?).bind fun y24=>(bif (decide ((8:Int)<(((List.map (d8 .i64) l_).length:Nat):Int))) then (((l_)[8]?).bind fun y27=>(bif (decide ((9:Int)<(((List.map (d8 .i64) l_).length:Nat):Int))) then (((l_)[9]?).bind fun y30=>(bif (y30==1) then ((M9 r_).bind fun y33=>((cd1 y33.1).bind fun y34=>(bif ((y34.2:Int) !=0) then (some ((⟨0,0,0,0,0,0,0,0,0,0,false,(⟨0,0,0,0,0,0,0,0,0,0,[],[]⟩:Plan),[],[],[]⟩:f5),51)) else (aS1 aj5 b0 y33.2 (⟨(IntKind.i64.wrap (ao0)),y3,y6,y9,y12,y15,y18,y21,(IntKind.u64.wrap (y24)),y27,(y30==1),y34.1,[],[],[]⟩:f5))))) else (aS1 aj5 b0 r_ (⟨(IntKind.i64.wrap (ao0)),y3,y6,y9,y12,y15,y18,y21,(IntKind.u64.wrap (y24)),y27,(y30==1),(⟨0,0,0,0,0,0,0,0,0,0,[],[]⟩:Plan),[],[],[]⟩:f5)))) else none)) else none)) else none)) else none)) else none)) else none)) else none)) else none)) else none)) else none))
theorem aL7 {ao0 aj5 l_ t70 b0 r_}:cK5 (dV2 ao0 aj5 l_ t70 b0 r_) (U1 ao0 aj5 l_ t70 b0 r_):=by
 intro r h;unfold U1 at h
 refine zs 1 h (fun h=> ?_) fun h=> ?_
 ·
  exact zu 10 h [.slot 0 [some 1,some 1,some 1,some 1,some 1]]
 refine zn 3 h fun h=> ?_
 refine zr 0 (d8 .i64) h fun y3 h=> ?_
 refine zn 0 h fun h=> ?_
 refine zr 0 (d8 .i64) h fun y6 h=> ?_
 refine zn 0 h fun h=> ?_
 refine zr 0 (d8 .i64) h fun y9 h=> ?_
 refine zn 0 h fun h=> ?_
 refine zr 0 (d8 .i64) h fun y12 h=> ?_
 refine zn 0 h fun h=> ?_
 refine zr 0 (d8 .i64) h fun y15 h=> ?_
 refine zn 0 h fun h=> ?_
 refine zr 0 (d8 .i64) h fun y18 h=> ?_
 refine zn 0 h fun h=> ?_
 refine zr 0 (d8 .i64) h fun y21 h=> ?_
 refine zn 0 h fun h=> ?_
 refine zr 0 (d8 .i64) h fun y24 h=> ?_
 refine zn 0 h fun h=> ?_
 refine zr 0 (d8 .i64) h fun y27 h=> ?_
 refine zn 7 h fun h=> ?_
 refine zr 1 (d8 .i64) h fun y30 h=> ?_
 refine zs 13 h (fun h=> ?_) fun h=> ?_
 ·
  refine zc 8 [] h (fun _=>aQ2) fun y33 h=> ?_
  refine zc 1 [] h (fun _=>dL3) fun y34 h=> ?_
  refine zs 15 h (fun h=> ?_) fun h=> ?_
  ·
   exact zu 10 h [.slot 0 [some 1,some 1,some 1,some 1,some 1]]
  exact zg 1 (cD2 h) [.blk 2 [some 1,some 1,some 1]]
 exact zg 1 (cD2 h) [.blk 2 [some 1,some 1,some 1,some 1,some 1]]
noncomputable def bw0 (ao0:Int) (aj5:List Int):Option (f5×Int):=((aj3 (⟨(⟨0,0⟩:bu3),aj5⟩:p6)).bind fun y1=>(bif ((y1.2.place.e:Int) !=0) then (U1 ao0 aj5 y1.1 true (⟨0,0,0,0,0,0,0,0,0,0,false,(⟨0,0,0,0,0,0,0,0,0,0,[],[]⟩:Plan),[],[],[]⟩:f5) y1.2) else (bif (((((List.map (d8 .i64) y1.1).length:Nat):Int):Int) !=10) then (U1 ao0 aj5 y1.1 true (⟨0,0,0,0,0,0,0,0,0,0,false,(⟨0,0,0,0,0,0,0,0,0,0,[],[]⟩:Plan),[],[],[]⟩:f5) y1.2) else (bif (decide ((0:Int)<(((List.map (d8 .i64) y1.1).length:Nat):Int))) then (((y1.1)[0]?).bind fun y5=>(bif (decide ((1:Int)<(((List.map (d8 .i64) y1.1).length:Nat):Int))) then (((y1.1)[1]?).bind fun y8=>(bif (decide ((7:Int)<(((List.map (d8 .i64) y1.1).length:Nat):Int))) then (((y1.1)[7]?).bind fun y11=>(bif (decide ((8:Int)<(((List.map (d8 .i64) y1.1).length:Nat):Int))) then (((y1.1)[8]?).bind fun y14=>(bif (decide ((9:Int)<(((List.map (d8 .i64) y1.1).length:Nat):Int))) then (((y1.1)[9]?).bind fun y17=>(bif (decide (((B7 (B7 (B7 (B7 y5 y8) y11) y14) y17):Int)<0)) then (U1 ao0 aj5 y1.1 true (⟨0,0,0,0,0,0,0,0,0,0,false,(⟨0,0,0,0,0,0,0,0,0,0,[],[]⟩:Plan),[],[],[]⟩:f5) y1.2) else (bif (decide ((0:Int)<(((List.map (d8 .i64) y1.1).length:Nat):Int))) then (((y1.1)[0]?).bind fun y21=>(bif (decide ((1:Int)<(((List.map (d8 .i64) y1.1).length:Nat):Int))) then (((y1.1)[1]?).bind fun y24=>(bif (decide (((A0 y21 y24):Int)>255)) then (U1 ao0 aj5 y1.1 true (⟨0,0,0,0,0,0,0,0,0,0,false,(⟨0,0,0,0,0,0,0,0,0,0,[],[]⟩:Plan),[],[],[]⟩:f5) y1.2) else (bif (decide ((7:Int)<(((List.map (d8 .i64) y1.1).length:Nat):Int))) then (((y1.1)[7]?).bind fun y28=>(bif (decide ((8:Int)<(((List.map (d8 .i64) y1.1).length:Nat):Int))) then (((y1.1)[8]?).bind fun y31=>(bif (decide (((A0 y28 y31):Int)≥65536)) then (U1 ao0 aj5 y1.1 true (⟨0,0,0,0,0,0,0,0,0,0,false,(⟨0,0,0,0,0,0,0,0,0,0,[],[]⟩:Plan),[],[],[]⟩:f5) y1.2) else (bif (decide ((9:Int)<(((List.map (d8 .i64) y1.1).length:Nat):Int))) then (((y1.1)[9]?).bind fun y35=>(U1 ao0 aj5 y1.1 (decide (y35>1)) (⟨0,0,0,0,0,0,0,0,0,0,false,(⟨0,0,0,0,0,0,0,0,0,0,[],[]⟩:Plan),[],[],[]⟩:f5) y1.2)) else none))) else none)) else none))) else none)) else none))) else none)) else none)) else none)) else none)) else none))))
theorem dk0 {ao0:Int}{aj5:List Int}{r:f5×Int} (h:bw0 ao0 aj5=some r):i7 E 54 [.int .u8 ao0,.sl false 1 (List.map (d8 .u8) aj5)] [] (Rs dx3 r):=so (fn:=Tryz.f54) (k:=false) (m:=0) h<| by
 intro r h;unfold bw0 at h
 refine zc 16 [] h (fun _=>bv2) fun y1 h=> ?_
 refine zs 6 h (fun h=> ?_) fun h=> ?_
 ·
  exact zg 44 (aL7 h) [.blk 0 [some 1,some 1,some 1,some 1,some 1]]
 refine zs 3 h (fun h=> ?_) fun h=> ?_
 ·
  exact zg 40 (aL7 h) [.blk 0 [some 1,some 1,some 1,some 1,some 1]]
 refine zn 1 h fun h=> ?_
 refine zr 1 (d8 .i64) h fun y5 h=> ?_
 refine zn 2 h fun h=> ?_
 refine zr 1 (d8 .i64) h fun y8 h=> ?_
 refine zn 2 h fun h=> ?_
 refine zr 1 (d8 .i64) h fun y11 h=> ?_
 refine zn 2 h fun h=> ?_
 refine zr 1 (d8 .i64) h fun y14 h=> ?_
 refine zn 2 h fun h=> ?_
 refine zr 1 (d8 .i64) h fun y17 h=> ?_
 refine zs 3 h (fun h=> ?_) fun h=> ?_
 ·
  exact zg 22 (aL7 h) [.blk 0 [some 1,some 1,some 1,some 1,some 1]]
 refine zn 1 h fun h=> ?_
 refine zr 1 (d8 .i64) h fun y21 h=> ?_
 refine zn 2 h fun h=> ?_
 refine zr 1 (d8 .i64) h fun y24 h=> ?_
 refine zs 3 h (fun h=> ?_) fun h=> ?_
 ·
  exact zg 13 (aL7 h) [.blk 0 [some 1,some 1,some 1,some 1,some 1]]
 refine zn 1 h fun h=> ?_
 refine zr 1 (d8 .i64) h fun y28 h=> ?_
 refine zn 2 h fun h=> ?_
 refine zr 1 (d8 .i64) h fun y31 h=> ?_
 refine zs 3 h (fun h=> ?_) fun h=> ?_
 ·
  exact zg 4 (aL7 h) [.blk 0 [some 1,some 1,some 1,some 1,some 1]]
 refine zn 1 h fun h=> ?_
 refine zr 1 (d8 .i64) h fun y35 h=> ?_
 exact zg 2 (aL7 h) [.blk 0 [some 1,some 1,some 1,some 1,some 1]]
noncomputable def dc6 (y:Int×(List Int)):D×i0:=(.tup [(i5 0 (List.map (d8 .u8) y.2)),.int .i64 y.1],[some ⟨1,false,(List.map (d8 .u8) y.2)⟩])
noncomputable def ai8 (s_:List Int):Option (Int×(List Int)):=(bif (decide (((((List.map (d8 .u8) s_).length:Nat):Int):Int)>4096)) then (some (2,[])) else ((aM5 (((List.map (d8 .u8) s_).length:Nat):Int)).bind fun y2=>(bif (decide (((List.map (d8 .u8) y2).length+(List.map (d8 .u8) s_).length)*1≤l6)) then (some (0,(y2++s_))) else none)))
theorem bP6 {s_:List Int}{r:Int×(List Int)} (h:ai8 s_=some r):i7 E 123 [.sl false 1 (List.map (d8 .u8) s_)] [] (Rs dc6 r):=so (fn:=Tryz.f123) (k:=true) (m:=0) h<| by
 intro r h;unfold ai8 at h
 refine zs 13 h (fun h=> ?_) fun h=> ?_
 ·
  exact zu 6 h [.matt 0 0 1]
 refine zc 6 [] h (fun _=>bZ1) fun y2 h=> ?_
 refine zn 2 h fun h=> ?_
 refine za 0 (d8 .u8) y2 s_ ?_
 exact zu 4 h
noncomputable def Y0:=u5 (u6 Tryz.f92)
noncomputable def cR8 (y:Int×(List Int)×Int):D×i0:=(.tup [.int .u8 y.1,.sl false 1 (List.map (d8 .u8) y.2.1),.int .i64 y.2.2],[])
inductive aG8 where
 | s0 (m:f5)
 | s3 (m:f5) (l_:List Int)
 | s2 (m:f5) (b:List Int)
 | s1 (t81:Int) (m:f5) (b:List Int) (b2:List (List Int))
noncomputable def cS1:aG8→M
 | .s0 m=>C3 Tryz.f92 [.agg (f5.enc m)] []
 | .s3 m l_=>⟨[.code (Y0 [1,1,1,1])],[(1,.ptr 0 0 0),(5,.msl 1 0 ((List.map (d8 .i64) l_).length) ((List.map (d8 .i64) l_).length) true)],[some ⟨26,false,[(f5.enc m)]⟩,some ⟨1,false,(List.map (d8 .i64) l_)⟩]⟩
 | .s2 m b=>⟨[.code (Y0 [1,1,1,1,1,1])],[(1,.ptr 0 0 0),(6,(i5 1 (List.map (d8 .u8) b)))],[some ⟨26,false,[(f5.enc m)]⟩,some ⟨1,false,(List.map (d8 .u8) b)⟩]⟩
 | .s1 t81 m b b2=>⟨[.lpc (Y0 [1,1,1,1,1,1,1,1,0,1,0,0]) 4231240368651202111471682,.blk 0,.code (Y0 [1,1,1,1,1,1,1,1,1])],[(1,.ptr 0 0 0),(6,(i5 1 (List.map (d8 .u8) b))),(79,.msl 2 0 ((List.map (I0 1 (d8 .u8)) b2).length) ((List.map (I0 1 (d8 .u8)) b2).length) true),(80,.int .i64 2),(81,.int .i64 t81)],[some ⟨26,false,[(f5.enc m)]⟩,some ⟨1,false,(List.map (d8 .u8) b)⟩,some ⟨1,false,(List.map (I0 1 (d8 .u8)) b2)⟩]⟩
abbrev bF1:=SOk E (Cx.of Tryz.f92 false 0) cR8 cS1
noncomputable def bl1 (m:f5):Option (aG8⊕(Int×(List Int)×Int)):=((aw7 m).bind fun y1=>(bif (!y1) then (some (.inr (0,[],51))) else (bif m.HasPlan then (some (.inl (.s3 m ([m.From,m.To,m.Epoch,m.Ballot,m.Accepted,m.Nonce,m.Time,(IntKind.i64.wrap (m.Up)),m.Code,1])))) else (some (.inl (.s3 m ([m.From,m.To,m.Epoch,m.Ballot,m.Accepted,m.Nonce,m.Time,(IntKind.i64.wrap (m.Up)),m.Code,0])))))))
noncomputable def bE5 (m:f5) (l_:List Int):Option (aG8⊕(Int×(List Int)×Int)):=((aS7 l_).bind fun y1=>(bif m.HasPlan then ((cb3 m.Plan).bind fun y3=>((ai8 y3.1).bind fun y4=>(bif (decide (((List.map (d8 .u8) y1.2).length+(List.take ((List.map (d8 .u8) y4.2).length) (List.drop 0 (List.map (d8 .u8) y4.2))).length)*1≤l6)) then (some (.inl (.s2 m (y1.2++y4.2)))) else none))) else (some (.inl (.s2 m y1.2)))))
noncomputable def bE3 (m:f5) (b:List Int):Option (aG8⊕(Int×(List Int)×Int)):=((aS7 m.ID).bind fun y1=>(bif (decide (((List.map (d8 .u8) b).length+(List.take ((List.map (d8 .u8) y1.2).length) (List.drop 0 (List.map (d8 .u8) y1.2))).length)*1≤l6)) then (some (.inl (.s1 0 m (b++y1.2) ([m.Session,m.Payload])))) else none))
noncomputable def aT9 (t81:Int) (m:f5) (b:List Int) (b2:List (List Int)):Option (aG8⊕(Int×(List Int)×Int)):=(bif (decide (t81<2)) then (bif ((decide ((0:Int)≤t81))&&(decide (t81<(((List.map (I0 1 (d8 .u8)) b2).length:Nat):Int)))) then (((b2)[(0+t81.toNat)]?).bind fun y3=>((ai8 y3).bind fun y5=>(bif (decide (((List.map (d8 .u8) b).length+(List.take ((List.map (d8 .u8) y5.2).length) (List.drop 0 (List.map (d8 .u8) y5.2))).length)*1≤l6)) then (some (.inl (.s1 (IntKind.i64.wrap (t81+1)) m (b++y5.2) b2))) else none))) else none) else (some (.inr ((IntKind.u8.wrap (m.Kind)),b,0))))
noncomputable def S1:aG8→Option (aG8⊕(Int×(List Int)×Int))
 | .s0 m=>bl1 m
 | .s3 m l_=>bE5 m l_
 | .s2 m b=>bE3 m b
 | .s1 t81 m b b2=>aT9 t81 m b b2
theorem dq8 {m}:bF1 (.s0 m) (bl1 m):=by
 intro r x h ha;unfold bl1 at h
 refine zc 13 [] h (fun _=>bI8) fun y1 h=> ?_
 refine zs 3 h (fun h=> ?_) fun h=> ?_
 ·
  exact zt 7 h ha [.slot 0 [some 1]]
 refine zs 42 h (fun h=> ?_) fun h=> ?_
 ·
  refine n8 hm 8 _ ?_
  obtain rfl:=Option.some.inj h
  refine ay5 34 [] (m' :=⟨[.code (Y0 [1,1,1,1])],[(1,.ptr 0 0 0),(5,.msl 1 0 10 10 true)],[some ⟨26,false,[(f5.enc m)]⟩,some ⟨1,false,[[.int .i64 m.From],[.int .i64 m.To],[.int .i64 m.Epoch],[.int .i64 m.Ballot],[.int .i64 m.Accepted],[.int .i64 m.Nonce],[.int .i64 m.Time],[.int .i64 (IntKind.i64.wrap (m.Up))],[.int .i64 m.Code],[.int .i64 1]]⟩]⟩) (by kernel_rfl) ?_
  refine ah4 (n1:=10) (n2:=(List.map (d8 .i64) ([m.From,m.To,m.Epoch,m.Ballot,m.Accepted,m.Nonce,m.Time,(IntKind.i64.wrap (m.Up)),m.Code,1])).length) (fun n_len=> .go ⟨[.code (Y0 [1,1,1,1])],[(1,.ptr 0 0 0),(5,.msl 1 0 n_len n_len true)],[some ⟨26,false,[(f5.enc m)]⟩,some ⟨1,false,[[.int .i64 m.From],[.int .i64 m.To],[.int .i64 m.Epoch],[.int .i64 m.Ballot],[.int .i64 m.Accepted],[.int .i64 m.Nonce],[.int .i64 m.Time],[.int .i64 (IntKind.i64.wrap (m.Up))],[.int .i64 m.Code],[.int .i64 1]]⟩]⟩) (by simp) ?_
  exact ha
 refine n8 hm 1 _ ?_
 obtain rfl:=Option.some.inj h
 refine ay5 34 [] (m' :=⟨[.code (Y0 [1,1,1,1])],[(1,.ptr 0 0 0),(5,.msl 1 0 10 10 true)],[some ⟨26,false,[(f5.enc m)]⟩,some ⟨1,false,[[.int .i64 m.From],[.int .i64 m.To],[.int .i64 m.Epoch],[.int .i64 m.Ballot],[.int .i64 m.Accepted],[.int .i64 m.Nonce],[.int .i64 m.Time],[.int .i64 (IntKind.i64.wrap (m.Up))],[.int .i64 m.Code],[.int .i64 0]]⟩]⟩) (by kernel_rfl) ?_
 refine ah4 (n1:=10) (n2:=(List.map (d8 .i64) ([m.From,m.To,m.Epoch,m.Ballot,m.Accepted,m.Nonce,m.Time,(IntKind.i64.wrap (m.Up)),m.Code,0])).length) (fun n_len=> .go ⟨[.code (Y0 [1,1,1,1])],[(1,.ptr 0 0 0),(5,.msl 1 0 n_len n_len true)],[some ⟨26,false,[(f5.enc m)]⟩,some ⟨1,false,[[.int .i64 m.From],[.int .i64 m.To],[.int .i64 m.Epoch],[.int .i64 m.Ballot],[.int .i64 m.Accepted],[.int .i64 m.Nonce],[.int .i64 m.Time],[.int .i64 (IntKind.i64.wrap (m.Up))],[.int .i64 m.Code],[.int .i64 0]]⟩]⟩) (by simp) ?_
 exact ha
theorem dp0 {m l_}:bF1 (.s3 m l_) (bE5 m l_):=by
 intro r x h ha;unfold bE5 at h
 refine zm 4 (b:=(Nat.ble (0+(List.map (d8 .i64) l_).length) ((List.map (d8 .i64) l_).length))) (A7 _) ?_
 refine zcE 0 [] (args1:= [.sl false 1 (List.take ((List.map (d8 .i64) l_).length) (List.drop 0 (List.map (d8 .i64) l_)))]) h (fun _=>bj8) ⟨by simp[d9.enc,d9.l,l7.enc,l7.l,u4.enc,u4.l,v6.enc,v6.l,f5.enc,f5.l,Op.enc,Op.l,Plan.enc,Plan.l,E6.enc,E6.l,i8.enc,i8.l,u9.enc,u9.l,p6.enc,p6.l,f3.enc,f3.l,List.take_of_length_le,List.map_take,List.map_drop],rfl⟩ fun y1 h=> ?_
 refine zs 14 h (fun h=> ?_) fun h=> ?_
 ·
  refine zc 6 [] h (fun _=>dJ3) fun y3 h=> ?_
  refine zc 10 [] h (fun _=>bP6) fun y4 h=> ?_
  refine zm 10 (b:=(Nat.beq ((List.take ((List.map (d8 .u8) y4.2).length) (List.drop 0 (List.map (d8 .u8) y4.2))).length) ((List.map (d8 .u8) y4.2).length))) (by simp) ?_
  refine zn 0 h fun h=> ?_
  refine zm 0 (b:=(Nat.ble (0+(List.map (d8 .u8) y1.2).length) ((List.map (d8 .u8) y1.2).length))) (A7 _) ?_
  refine zw 0 (a:=(List.take ((List.map (d8 .u8) y1.2).length) (List.drop 0 (List.map (d8 .u8) y1.2))++(List.take ((List.map (d8 .u8) y4.2).length) (List.drop 0 (List.map (d8 .u8) y4.2))))) (b:=(List.map (d8 .u8) (y1.2++y4.2))) (by simp only[C0,E8,List.map_append,List.map_take,List.map_drop]) ?_
  exact zk 2 h ha
 exact zk 1 h ha
theorem ds2 {m b}:bF1 (.s2 m b) (bE3 m b):=by
 intro r x h ha;unfold bE3 at h
 refine zc 6 [] h (fun _=>bj8) fun y1 h=> ?_
 refine zm 11 (b:=(Nat.beq ((List.take ((List.map (d8 .u8) y1.2).length) (List.drop 0 (List.map (d8 .u8) y1.2))).length) ((List.map (d8 .u8) y1.2).length))) (by simp) ?_
 refine zn 0 h fun h=> ?_
 refine zm 0 (b:=(Nat.ble (0+(List.map (d8 .u8) b).length) ((List.map (d8 .u8) b).length))) (A7 _) ?_
 refine zw 0 (a:=(List.take ((List.map (d8 .u8) b).length) (List.drop 0 (List.map (d8 .u8) b))++(List.take ((List.map (d8 .u8) y1.2).length) (List.drop 0 (List.map (d8 .u8) y1.2))))) (b:=(List.map (d8 .u8) (b++y1.2))) (by simp only[C0,E8,List.map_append,List.map_take,List.map_drop]) ?_
 refine n8 hm 18 _ ?_
 obtain rfl:=Option.some.inj h
 refine bc4 (q' :=.go ⟨[.lpc (Y0 [1,1,1,1,1,1,1,1,0,1,0,0]) 4231240368651202111471682,.blk 0,.code (Y0 [1,1,1,1,1,1,1,1,1])],[(1,.ptr 0 0 0),(6,.msl 1 0 ((List.map (d8 .u8) (b++y1.2)).length) ((List.map (d8 .u8) (b++y1.2)).length) false),(79,.msl 2 0 2 2 true),(80,.int .i64 2),(81,.int .i64 0)],[some ⟨26,false,[(f5.enc m)]⟩,some ⟨1,false,(List.map (d8 .u8) (b++y1.2))⟩,some ⟨1,false,[[.sl false 1 (List.map (d8 .u8) m.Session)],[.sl false 1 (List.map (d8 .u8) m.Payload)]]⟩]⟩) (by kernel_rfl) ?_
 refine ah4 (n1:=2) (n2:=(List.map (I0 1 (d8 .u8)) ([m.Session,m.Payload])).length) (fun n_len=> .go ⟨[.lpc (Y0 [1,1,1,1,1,1,1,1,0,1,0,0]) 4231240368651202111471682,.blk 0,.code (Y0 [1,1,1,1,1,1,1,1,1])],[(1,.ptr 0 0 0),(6,.msl 1 0 ((List.map (d8 .u8) (b++y1.2)).length) ((List.map (d8 .u8) (b++y1.2)).length) false),(79,.msl 2 0 n_len n_len true),(80,.int .i64 2),(81,.int .i64 0)],[some ⟨26,false,[(f5.enc m)]⟩,some ⟨1,false,(List.map (d8 .u8) (b++y1.2))⟩,some ⟨1,false,[[.sl false 1 (List.map (d8 .u8) m.Session)],[.sl false 1 (List.map (d8 .u8) m.Payload)]]⟩]⟩) (by simp) ?_
 exact ha
theorem dr1 {t81 m b b2}:bF1 (.s1 t81 m b b2) (aT9 t81 m b b2):=by
 intro r x h ha;unfold aT9 at h
 refine zs 7 h (fun h=> ?_) fun h=> ?_
 ·
  refine zn 6 h fun h=> ?_
  refine zr 1 (I0 1 (d8 .u8)) h fun y3 h=> ?_
  refine zc 6 [] h (fun _=>bP6) fun y5 h=> ?_
  refine zm 10 (b:=(Nat.beq ((List.take ((List.map (d8 .u8) y5.2).length) (List.drop 0 (List.map (d8 .u8) y5.2))).length) ((List.map (d8 .u8) y5.2).length))) (by simp) ?_
  refine zn 0 h fun h=> ?_
  refine zm 0 (b:=(Nat.ble (0+(List.map (d8 .u8) b).length) ((List.map (d8 .u8) b).length))) (A7 _) ?_
  refine zw 0 (a:=(List.take ((List.map (d8 .u8) b).length) (List.drop 0 (List.map (d8 .u8) b))++(List.take ((List.map (d8 .u8) y5.2).length) (List.drop 0 (List.map (d8 .u8) y5.2))))) (b:=(List.map (d8 .u8) (b++y5.2))) (by simp only[C0,E8,List.map_append,List.map_take,List.map_drop]) ?_
  exact zj 8 h ha
 refine zm 13 (b:=(Nat.ble (0+(List.map (d8 .u8) b).length) ((List.map (d8 .u8) b).length))) (A7 _) ?_
 obtain rfl:=Option.some.inj h
 have hv:=ha
 simp only[aZ6] at hv
 subst hv
 exact as6 [] (d1:=.tup [.int .u8 (IntKind.u8.wrap (m.Kind)),.sl false 1 (List.take ((List.map (d8 .u8) b).length) (List.drop 0 (List.map (d8 .u8) b))),.int .i64 0]) (d:=.tup [.int .u8 (IntKind.u8.wrap (m.Kind)),.sl false 1 (List.map (d8 .u8) b),.int .i64 0]) (s1:= []) (s:= []) (by kernel_rfl) ⟨by simp[d9.enc,d9.l,l7.enc,l7.l,u4.enc,u4.l,v6.enc,v6.l,f5.enc,f5.l,Op.enc,Op.l,Plan.enc,Plan.l,E6.enc,E6.l,i8.enc,i8.l,u9.enc,u9.l,p6.enc,p6.l,f3.enc,f3.l,List.take_of_length_le,List.map_take,List.map_drop],rfl⟩ ⟨rfl,rfl⟩ Cx.fin_of
noncomputable def cg4 (m:f5):Option (Int×(List Int)×Int):=T3 S1 (.s0 m)
theorem dK7 {m:f5}{r:Int×(List Int)×Int} (h:cg4 m=some r):i7 E 92 [.agg (f5.enc m)] [] (Rs cR8 r):=sc (fn:=Tryz.f92) (k:=false) (m:=0) (H9:=cS1) h fun s=>by
 cases s with
 | s0=>exact dq8
 | s3=>exact dp0
 | s2=>exact ds2
 | s1=>exact dr1
noncomputable def dn8 (y:Bool):D×i0:=(.bool y,[])
abbrev ez3:=AOk E (Cx.of Tryz.f16 false 0) dn8
def O3 (s:List Int):List Int:=ap1 (s.length:Int)++s
def en1 (s:List Int):Int×List Int:=if s.length≤4096 then (0,O3 s) else (2,[])
def pT (l:List Int):Int⊕(List Int×Nat):=match pI l with
 | .inl e=> .inl e
 | .inr (n,k)=>if n<0∨n>4096 then .inl 2 else if n>(l.length:Int)-k then .inl 11 else .inr ((l.drop k).take n.toNat,k+n.toNat)
theorem dE5 {l:List Int}{e:Int} (h:pI l=.inl e):pT l=.inl e:=by simp only[pT,h]
theorem dA4 {l:List Int}{n:Int}{k:Nat} (h:pI l=.inr (n,k)) (hn:n<0∨n>4096):pT l=.inl 2:=by simp only[pT,h,if_pos hn]
theorem dC5 {l:List Int}{n:Int}{k:Nat} (h:pI l=.inr (n,k)) (hn:¬(n<0∨n>4096)) (h2:n>(l.length:Int)-k):pT l=.inl 11:=by simp only[pT,h,if_neg hn,if_pos h2]
theorem cO6 {l:List Int}{n:Int}{k:Nat} (h:pI l=.inr (n,k)) (hn:¬(n<0∨n>4096)) (h2:¬n>(l.length:Int)-k):pT l=.inr ((l.drop k).take n.toNat,k+n.toNat):=by simp only[pT,h,if_neg hn,if_neg h2]
theorem ca6 {s:List Int} (h:A1 s):A1 (O3 s):=fun c hc=>(List.mem_append.1 hc).elim (cc9 _ c) (h c)
theorem bo3 {s:List Int} (h:s.length≤4096):(O3 s).length≤s.length+10:=by
 have:=bc5 (cw6 (n:=s.length) (by omega))
 simp only[O3,List.length_append];omega
theorem dw2 {s:List Int} (h:s.length≤4096) (rest:List Int):pT (O3 s++rest)=.inr (s,(O3 s).length):=by
 have h1:=dA5 (cw6 (n:=s.length) (by omega)) (s++rest)
 have e:O3 s++rest=ap1 (s.length:Int)++(s++rest):=by simp[O3]
 rw[e,cO6 h1 (by omega) (by simp only[List.length_append];omega),List.drop_left,Int.toNat_natCast,List.take_left]
 simp only[O3,List.length_append]
theorem cV3 {l s:List Int}{k:Nat} (hb:A1 l) (h:pT l=.inr (s,k)):l.take k=O3 s∧k≤l.length∧k=(O3 s).length∧s.length≤4096∧A1 s:=by
 cases hp:pI l with
 | inl e=>rw[dE5 hp] at h;cases h
 | inr x=>
  obtain⟨n,j⟩:=x
  by_cases hn:n<0∨n>4096
  ·rw[dA4 hp hn] at h;cases h
  by_cases h2:n>(l.length:Int)-j
  ·rw[dC5 hp hn h2] at h;cases h
  rw[cO6 hp hn h2] at h
  simp only[Sum.inr.injEq,Prod.mk.injEq] at h
  obtain⟨rfl,rfl⟩:=h
  obtain⟨a1,a2,a3,a4⟩:=co6 hb hp
  obtain⟨m,rfl⟩:=Int.eq_ofNat_of_zero_le (show 0≤n by omega)
  simp only[Int.toNat_natCast]
  have hl:((l.drop j).take m).length=m:=by rw[List.length_take,List.length_drop];omega
  refine⟨?_,by omega,?_,by rw[hl];omega,cZ6 (bn5 hb _) _⟩
  ·rw[List.take_add,a1,O3,hl]
  ·rw[O3,List.length_append,hl,←a3]
theorem eB8 {l:List Int}{e:Int} (h:pT l=.inl e):e≠0:=by
 cases hp:pI l with
 | inl e' =>rw[dE5 hp] at h;obtain rfl:=Sum.inl.inj h;rcases dZ7 hp with rfl | rfl<;>decide
 | inr x=>
  obtain⟨n,j⟩:=x
  by_cases hn:n<0∨n>4096
  ·rw[dA4 hp hn] at h;obtain rfl:=Sum.inl.inj h;decide
  by_cases h2:n>(l.length:Int)-j
  ·rw[dC5 hp hn h2] at h;obtain rfl:=Sum.inl.inj h;decide
  ·rw[cO6 hp hn h2] at h;cases h
theorem cf5 {s:List Int} (hm:s.length≤K3):ai8 s=some (en1 s):=by
 unfold en1
 by_cases h:s.length≤4096
 ·rw[if_pos h]
  have hn:=cw6 (n:=s.length) (by omega)
  have hl:=bc5 hn
  have c1:decide (((s.length:Nat):Int)>4096)=false:=by simp;omega
  have c2:decide (((ap1 (s.length:Int)).length+s.length)*1≤l6)=true:=E0 (by omega)
  simp only[ai8,List.length_map,c1,cond_false,dk2 hn,Option.bind_some,c2,cond_true,O3]
 ·rw[if_neg h]
  have c1:decide (((s.length:Nat):Int)>4096)=true:=by simp;omega
  simp only[ai8,List.length_map,c1,cond_true]
theorem er9 {b:List Int} (hb:A1 b) (hm:b.length≤K3) {at_:Nat} (h:at_≤b.length):ax6 b at_=some (rL at_ (pT (b.drop at_))):=by
 have hi:=bV9 hb hm h
 simp only[K3] at hm
 cases hp:pI (b.drop at_) with
 | inl e=>
  rw[hp] at hi
  have he:=bK5 hp
  rw[dE5 hp]
  simp only[ax6,O2,hi,rI,Option.bind_some,he,cond_true,rL]
 | inr x=>
  obtain⟨n,k⟩:=x
  rw[hp] at hi
  obtain⟨a1,a2,a3,a4⟩:=co6 (bn5 hb at_) hp
  rw[List.length_drop] at a2
  have a4' :=aj2.1 a4
  have z:((0:Int) !=0)=false:=rfl
  have tw:((2:Int) !=0)=true:=rfl
  by_cases hn:n<0∨n>4096
  ·rw[dA4 hp hn]
   rcases hn with hn | hn
   ·have c1:decide (n<0)=true:=decide_eq_true hn
    simp only[ax6,O2,R6,hi,rI,Option.bind_some,z,cond_false,c1,cond_true,tw,rL]
   ·have c1:decide (n<0)=false:=decide_eq_false (by omega)
    have c2:decide (n>4096)=true:=decide_eq_true hn
    simp only[ax6,O2,R6,hi,rI,Option.bind_some,z,cond_false,c1,c2,cond_true,tw,rL]
  ·have c1:decide (n<0)=false:=decide_eq_false (by omega)
   have c2:decide (n>4096)=false:=decide_eq_false (by omega)
   have w1:IntKind.i64.wrap (((b.length:Nat):Int)-((at_+k:Nat):Int))=(b.length:Int)-((at_+k:Nat):Int):=v9 (by omega) (by omega)
   by_cases h2:n>((b.drop at_).length:Int)-k
   ·rw[dC5 hp hn h2]
    rw[List.length_drop] at h2
    have c3:decide (n>(b.length:Int)-((at_+k:Nat):Int))=true:=decide_eq_true (by omega)
    simp only[ax6,O2,R6,hi,rI,Option.bind_some,z,cond_false,c1,c2,List.length_map,w1,c3,cond_true,rL]
   ·rw[cO6 hp hn h2]
    rw[List.length_drop] at h2
    obtain⟨m,rfl⟩:=Int.eq_ofNat_of_zero_le (show 0≤n by omega)
    have c3:decide ((m:Int)>(b.length:Int)-((at_+k:Nat):Int))=false:=decide_eq_false (by omega)
    have w2:IntKind.i64.wrap (((at_+k:Nat):Int)+(m:Int))=((at_+k+m:Nat):Int):=by rw[v9 (by omega) (by omega)];omega
    have c4:(decide (((0:Nat):Int)≤((at_+k+m:Nat):Int))&&decide (((at_+k+m:Nat):Int)≤((b.length:Nat):Int)))=true:=by simp;omega
    have c5:(decide (((0:Nat):Int)≤((at_+k:Nat):Int))&&decide (((at_+k:Nat):Int)≤((at_+k+m:Nat):Int)))=true:=by simp;omega
    have d:List.drop (at_+k) (List.take (at_+k+m) b)=((b.drop at_).drop k).take m:=by
     rw[List.drop_take,List.drop_drop,show at_+k+m-(at_+k)=m by omega]
    have c6:decide ((((b.drop at_).drop k).take m).length*1≤l6)=true:=E0 (by rw[List.length_take];omega)
    simp only[ax6,O2,R6,hi,rI,Option.bind_some,z,cond_false,c1,c2,List.length_map,w1,c3,cond_true,w2,c4,c5,Int.toNat_natCast,d,c6,rL]
    rw[Nat.add_assoc]
/-! ### alike -/
theorem dU0 (a b:List Int) (hl:a.length<9223372036854775807) (hab:a.length=b.length):∀(j k:Nat),k+j=a.length→Ev ab0 (.s1 a b k) (decide (a.drop k=b.drop k)):=by
 intro j
 induction j with
 | zero=>
  intro k hk
  refine .done ?_
  rw[List.drop_eq_nil_of_le (by omega),List.drop_eq_nil_of_le (by omega)]
  simp[ab0,aD5,show ¬(k:Int)<a.length by omega]
 | succ j ih=>
  intro k hk
  have h1:k<a.length:=by omega
  have h2:k<b.length:=by omega
  rw[List.drop_eq_getElem_cons h1,List.drop_eq_getElem_cons h2]
  by_cases h:a[k]=b[k]
  ·refine .next (s' :=.s1 a b ((k+1:Nat):Int)) ?_ ?_
   ·have e:(a[k] !=b[k])=false:=by simp[h]
    simp only[ab0,aD5,List.length_map,G4 h1,G4 h2,O9,Bool.and_self,cond_true,Int.toNat_natCast,List.getE h1,List.getE h2,Option.bind_some,e,cond_false,wS (show k<9223372036854775807 by omega)]
   ·rw[show(decide (a[k]::a.drop (k+1)=b[k]::b.drop (k+1)))=decide (a.drop (k+1)=b.drop (k+1)) by simp only[h,List.cons.injEq,true_and]]
    exact ih (k+1) (by omega)
  ·refine .done ?_
   have e:(a[k] !=b[k])=true:=by simp[h]
   simp only[ab0,aD5,List.length_map,G4 h1,G4 h2,O9,Bool.and_self,cond_true,Int.toNat_natCast,List.getE h1,List.getE h2,Option.bind_some,e]
   rw[show(decide (a[k]::a.drop (k+1)=b[k]::b.drop (k+1)))=false by simp only[h,List.cons.injEq,false_and,decide_false]]
theorem dV6 {a b:List Int} (hl:a.length<9223372036854775807):cc5 a b=some (decide (a=b)):=by
 by_cases hab:a.length=b.length
 ·refine z7 (.next (s' :=.s1 a b 0) (by simp[ab0,aO8,hab]) ?_)
  simpa using dU0 a b hl hab a.length 0 (by omega)
 ·refine z7 (.done ?_)
  have e:(((a.length:Nat):Int) !=((b.length:Nat):Int))=true:=by simp;omega
  have hne:a≠b:=fun h=>hab (by rw[h])
  simp[ab0,aO8,e,hne]
theorem dI5 (a b:Plan) (hs:aP8 a) (hab:a.Pen.length=b.Pen.length):∀(j k:Nat),k+j=a.Pen.length→Ev V8 (.s2 k a b) (decide (a.Pen.drop k=b.Pen.drop k)&&decide (a.Changes=b.Changes)):=by
 intro j
 have hl:=hs.pen
 induction j with
 | zero=>
  intro k hk
  refine .done ?_
  rw[List.drop_eq_nil_of_le (by omega),List.drop_eq_nil_of_le (by omega)]
  simp only[V8,aC8,List.length_map,geB (show a.Pen.length≤k by omega),cond_false,dV6 hs.ch,Option.bind_some]
  simp
 | succ j ih=>
  intro k hk
  have h1:k<a.Pen.length:=by omega
  have h2:k<b.Pen.length:=by omega
  rw[List.drop_eq_getElem_cons h1,List.drop_eq_getElem_cons h2]
  by_cases h:a.Pen[k]=b.Pen[k]
  ·refine .next (s' :=.s2 ((k+1:Nat):Int) a b) ?_ ?_
   ·have e:(a.Pen[k] !=b.Pen[k])=false:=by simp[h]
    simp only[V8,aC8,List.length_map,G4 h1,G4 h2,O9,Bool.and_self,cond_true,Int.toNat_natCast,List.getE h1,List.getE h2,Option.bind_some,e,cond_false,wS (show k<9223372036854775807 by omega)]
   ·rw[show(decide (a.Pen[k]::a.Pen.drop (k+1)=b.Pen[k]::b.Pen.drop (k+1)))=decide (a.Pen.drop (k+1)=b.Pen.drop (k+1)) by simp only[h,List.cons.injEq,true_and]]
    exact ih (k+1) (by omega)
  ·refine .done ?_
   have e:(a.Pen[k] !=b.Pen[k])=true:=by simp[h]
   simp only[V8,aC8,List.length_map,G4 h1,G4 h2,O9,Bool.and_self,cond_true,Int.toNat_natCast,List.getE h1,List.getE h2,Option.bind_some,e]
   rw[show(decide (a.Pen[k]::a.Pen.drop (k+1)=b.Pen[k]::b.Pen.drop (k+1)))=false by simp only[h,List.cons.injEq,false_and,decide_false]]
   rfl
def cc7 (a b:Plan):Bool:=decide (a.Epoch=b.Epoch)&&(decide (a.Target=b.Target)&&(decide (a.Prev=b.Prev)&&(decide (a.Spill=b.Spill)&&(decide (a.Percent=b.Percent)&&(decide (a.Stamp=b.Stamp)&&(decide (a.Since=b.Since)&&(decide (a.Ramped=b.Ramped)&&(decide (a.Up=b.Up)&&decide (a.Sup=b.Sup)))))))))
def cb7 (a b:Plan):Bool:=cc7 a b&&(decide (a.Pen=b.Pen)&&decide (a.Changes=b.Changes))
theorem be7 {a b:Plan}:cb7 a b=true↔a=b:=by
 cases a;cases b
 simp only[cb7,cc7,Bool.and_eq_true,decide_eq_true_eq,Plan.mk.injEq,and_assoc]
theorem cg9 {a b:Plan} (hs:aP8 a):aU2 a b=some (cb7 a b):=by
 have bad:Ev V8 (.s1 true a b) false:=.done rfl
 have hstep:V8 (.s0 a b)=some (.inl (.s1 (!(cc7 a b) || !(decide (a.Pen.length=b.Pen.length))) a b)):=by
  have hb:∀x y:Int,(x !=y)= !(decide (x=y)):=fun x y=>by by_cases h:x=y<;>simp[h]
  simp only[V8,bj1,hb,cc7,List.length_map]
  cases decide (a.Epoch=b.Epoch)<;>cases decide (a.Target=b.Target)<;>cases decide (a.Prev=b.Prev)<;>cases decide (a.Spill=b.Spill)<;>cases decide (a.Percent=b.Percent)<;>cases decide (a.Stamp=b.Stamp)<;>cases decide (a.Since=b.Since)<;>cases decide (a.Ramped=b.Ramped)<;>cases decide (a.Up=b.Up)<;>cases decide (a.Sup=b.Sup)<;>first | rfl | (simp;done) | (simp;omega)
 refine z7 (.next hstep ?_)
 unfold cb7
 cases hn:cc7 a b with
 | false=>exact bad
 | true=>
  by_cases hab:a.Pen.length=b.Pen.length
  ·rw[decide_eq_true hab]
   refine .next (s' :=.s2 0 a b) rfl ?_
   simpa using dI5 a b hs hab a.Pen.length 0 (by omega)
  ·have hne:a.Pen≠b.Pen:=fun h=>hab (by rw[h])
   rw[decide_eq_false hab,decide_eq_false hne]
   exact bad
theorem ee7 {x y:Int} (hx:u0 .u64 x) (hy:u0 .u64 y):(IntKind.i64.wrap x==IntKind.i64.wrap y)=decide (x=y):=by
 obtain⟨n,rfl⟩:=Int.eq_ofNat_of_zero_le (O4.1 hx).1
 obtain⟨m,rfl⟩:=Int.eq_ofNat_of_zero_le (O4.1 hy).1
 have h1:=(O4.1 hx).2
 have h2:=(O4.1 hy).2
 rw[bt9 n (by omega),bt9 m (by omega)]
 rw[Bool.eq_iff_iff]
 simp only[beq_iff_eq,decide_eq_true_eq]
 split<;>split<;>omega
theorem cR7 {x y:Int} (hx:u0 .u64 x) (hy:u0 .u64 y):decide (IntKind.i64.wrap x=IntKind.i64.wrap y)=decide (x=y):=by
 rw[←ee7 hx hy,Bool.eq_iff_iff];simp
theorem ew6 {a b:Plan} (hs:aP8 a) (h1:u0 .u64 a.Up) (h2:u0 .u64 b.Up) (h3:u0 .u64 a.Sup) (h4:u0 .u64 b.Sup):be2 a b=some (cb7 a b):=by
 have hb:∀x y:Int,(x==y)=decide (x=y):=fun x y=>by by_cases h:x=y<;>simp[h]
 simp only[be2,ar7,Option.bind_some,cR7 h1 h2,cR7 h3 h4,hb,Bool.and_true,en7 hs.pen,dI8 hs.ch]
 rw[show(decide (a.Epoch=b.Epoch)&&(decide (a.Target=b.Target)&&(decide (a.Prev=b.Prev)&&(decide (a.Spill=b.Spill)&&(decide (a.Percent=b.Percent)&&(decide (a.Stamp=b.Stamp)&&(decide (a.Since=b.Since)&&(decide (a.Ramped=b.Ramped)&&(decide (a.Up=b.Up)&&decide (a.Sup=b.Sup))))))))))=cc7 a b from rfl]
 unfold cb7
 cases cc7 a b with
 | false=>rfl
 | true=>cases decide (a.Pen=b.Pen)<;>rfl
/-! ### the head -/
theorem bytesOf {b:List Int} (h:b.length*1≤reachBytes∧∀y∈b,u0 .u8 y):A1 b∧b.length≤K3:=by
 refine⟨fun c hc=>eg8.1 (h.2 c hc),?_⟩
 have:reachBytes≤K3:=by decide
 omega
/-! ### may it be? -/
def hdM (m:f5):Prop:=1≤m.Kind∧m.Kind≤19∧0≤m.From∧m.From≤255∧0≤m.To∧m.To≤255∧m.Up≤65535∧0≤m.Code∧m.Code≤1000
instance (m:f5):Decidable (hdM m):=by unfold hdM;infer_instance
def txM (m:f5):Prop:=(m.ID.length=0∨m.ID.length=3)∧m.Session.length≤64∧m.Payload.length≤1024
instance (m:f5):Decidable (txM m):=by unfold txM;infer_instance
def bG2 (m:f5):Bool:=bif m.HasPlan then aa7 m.Plan else cb7 m.Plan B9
def G8 (m:f5):Bool:=decide (hdM m)&&(decide (txM m)&&bG2 m)
structure Shm (m:f5):Prop where
 s:aP8 m.Plan
 up:u0 .u64 m.Plan.Up
 sup:u0 .u64 m.Plan.Sup
theorem cv0 (a b c:Int):(B7 (B7 a b) c<0)↔a<0∨b<0∨c<0:=by unfold B7;split<;>split<;>omega
theorem dv2 (a b n:Int):(A0 a b>n)↔a>n∨b>n:=by unfold A0;split<;>omega
theorem eq9 (a b n:Int):(A0 a b≥n)↔a≥n∨b≥n:=by unfold A0;split<;>omega
theorem dX9:u0 .u64 (0:Int):=O4.2 (by omega)
theorem ec7 {m:f5} (h:Shm m):ap5 false m=some (bG2 m):=by
 have hu:=O4.1 h.up
 have hv:=O4.1 h.sup
 unfold ap5 bG2
 cases m.HasPlan
 ·have:=ew6 (a:=m.Plan) (b:=B9) h.s h.up dX9 h.sup dX9
  simp only[cond_false]
  show(be2 m.Plan B9).bind _=_
  rw[this];rfl
 ·simp only[cond_false,cond_true,bq3 h.s hu.1 hv.1,Option.bind_some]
theorem ec1 {m:f5} (h:Shm m):W8 false m=some (decide (txM m)&&bG2 m):=by
 have h1:=ec7 h
 have t1:ap5 true m=some false:=rfl
 have t2:aA2 true m=some false:=rfl
 have h2:aA2 false m=some (decide (m.Session.length≤64∧m.Payload.length≤1024)&&bG2 m):=by
  simp only[aA2,cond_false,List.length_map]
  by_cases a:m.Session.length≤64
  ·rw[show decide (((m.Session.length:Nat):Int)>64)=false from decide_eq_false (by omega)]
   by_cases b:m.Payload.length≤1024
   ·rw[show decide (((m.Payload.length:Nat):Int)>1024)=false from decide_eq_false (by omega),show decide (m.Session.length≤64∧m.Payload.length≤1024)=true from decide_eq_true ⟨a,b⟩,Bool.true_and];exact h1
   ·rw[show decide (((m.Payload.length:Nat):Int)>1024)=true from decide_eq_true (by omega),show decide (m.Session.length≤64∧m.Payload.length≤1024)=false from decide_eq_false (fun h=>b h.2)];rfl
  ·rw[show decide (((m.Session.length:Nat):Int)>64)=true from decide_eq_true (by omega),show decide (m.Session.length≤64∧m.Payload.length≤1024)=false from decide_eq_false (fun h=>a h.1)];rfl
 simp only[W8,cond_false,List.length_map]
 by_cases a:m.ID.length=0
 ·rw[show decide (((m.ID.length:Nat):Int)>0)=false from decide_eq_false (by omega)]
  rw[show decide (txM m)=decide (m.Session.length≤64∧m.Payload.length≤1024) from decide_eq_decide.2 (by unfold txM;omega)]
  exact h2
 ·rw[show decide (((m.ID.length:Nat):Int)>0)=true from decide_eq_true (by omega)]
  by_cases b:m.ID.length=3
  ·rw[show(((m.ID.length:Nat):Int) !=3)=false from by rw[b];rfl,show decide (txM m)=decide (m.Session.length≤64∧m.Payload.length≤1024) from decide_eq_decide.2 (by unfold txM;omega)]
   exact h2
  ·rw[show(((m.ID.length:Nat):Int) !=3)=true from bne_iff_ne.2 (by omega),show decide (txM m)=false from decide_eq_false (by unfold txM;omega)]
   rfl
theorem bP0 {m:f5} (h:Shm m):aw7 m=some (G8 m):=by
 have t3:W8 true m=some false:=rfl
 by_cases hh:hdM m
 ·have h' :=hh
  unfold hdM at h'
  rw[G8,decide_eq_true hh,Bool.true_and,←ec1 h]
  simp only[aw7]
  rw[show decide (m.Kind<1)=false from decide_eq_false (by omega),show decide (m.Kind>19)=false from decide_eq_false (by omega),
   show decide (B7 (B7 m.From m.To) m.Code<0)=false from decide_eq_false (by rw[cv0];omega),show decide (A0 m.From m.To>255)=false from decide_eq_false (by rw[dv2];omega),
   show decide (m.Code>1000)=false from decide_eq_false (by omega),show decide (m.Up≥65536)=false from decide_eq_false (by omega)]
  rfl
 ·rw[G8,decide_eq_false hh,Bool.false_and]
  unfold hdM at hh
  simp only[aw7]
  cases h1:decide (m.Kind<1)
  ·cases h2:decide (m.Kind>19)
   ·cases h3:decide (B7 (B7 m.From m.To) m.Code<0)
    ·cases h4:decide (A0 m.From m.To>255)
     ·cases h5:decide (m.Code>1000)
      ·rw[decide_eq_false_iff_not] at h1 h2 h3 h4 h5
       rw[cv0] at h3
       rw[dv2] at h4
       rw[show decide (m.Up≥65536)=true from decide_eq_true (by omega)]
       rfl
      ·rfl
     ·rfl
    ·rfl
   ·rfl
  ·rfl
/-! ### bytes -/
/-- A message of words. -/
structure at7 (m : f5) : Prop where
  sh : Shm m
  pl : bA4 m.Plan
  w : aB9 [m.Epoch, m.Ballot, m.Accepted, m.Nonce, m.Time]
  up : 0 ≤ m.Up
  id : aB9 m.ID
  ses : A1 m.Session
  pay : A1 m.Payload
theorem f5.Ok.fine {m:f5} (h:m.Ok):at7 m:=by
 obtain⟨h1,h2,h3,h4,h5,h6,h7,h8,h9,h10,-,hp,hid,hs,hq⟩:=h
 have hp' :=hp
 obtain⟨-,-,-,-,-,-,-,-,u1,u2,-,-⟩:=hp
 refine⟨⟨hp'.shrt,u1,u2⟩,hp'.fine,?_,(O4.1 h9).1,fun x hx=>hid.2 x hx,fun x hx=>eg8.1 (hs.2 x hx),fun x hx=>eg8.1 (hq.2 x hx)⟩
 intro x hx
 simp only[List.mem_cons,List.not_mem_nil,or_false] at hx
 rcases hx with rfl | rfl | rfl | rfl | rfl<;>assumption
def ak4 (m:f5):List Int:= [m.From,m.To,m.Epoch,m.Ballot,m.Accepted,m.Nonce,m.Time,m.Up,m.Code,bif m.HasPlan then 1 else 0]
def bT5 (m:f5):List Int:=bif m.HasPlan then O3 (aS9 m.Plan) else []
def as2 (m:f5):List Int:=encL (ak4 m)++(bT5 m++(encL m.ID++(O3 m.Session++O3 m.Payload)))
theorem ay1 {m:f5} (h:G8 m=true):hdM m∧txM m∧bG2 m=true:=by
 simpa only[G8,Bool.and_eq_true,decide_eq_true_eq] using h
theorem bG7 {m:f5} (h:G8 m=true) (hp:m.HasPlan=true):Rt m.Plan:=by
 have:=(ay1 h).2.2
 rw[bG2,hp] at this
 exact ag6.1 this
theorem dR0 {m:f5} (h:G8 m=true) (hp:m.HasPlan=false):m.Plan=B9:=by
 have:=(ay1 h).2.2
 rw[bG2,hp] at this
 exact be7.1 this
theorem cF4 {m:f5} (hf:at7 m) (h:G8 m=true):aB9 (ak4 m):=by
 obtain⟨h1,h2,h3⟩:=ay1 h
 unfold hdM at h1
 have hu:=hf.up
 have e1:=aj2.2 (show-9223372036854775808≤m.From∧m.From≤9223372036854775807 by omega)
 have e2:=aj2.2 (show-9223372036854775808≤m.To∧m.To≤9223372036854775807 by omega)
 have e3:=aj2.2 (show-9223372036854775808≤m.Up∧m.Up≤9223372036854775807 by omega)
 have e4:=aj2.2 (show-9223372036854775808≤m.Code∧m.Code≤9223372036854775807 by omega)
 have e5:u0 .i64 (bif m.HasPlan then 1 else 0):=by cases m.HasPlan<;>exact aj2.2 (by decide)
 have hw:=hf.w
 intro x hx
 simp only[ak4,List.mem_cons,List.not_mem_nil,or_false] at hx
 rcases hx with rfl | rfl | rfl | rfl | rfl | rfl | rfl | rfl | rfl | rfl
 ·exact e1
 ·exact e2
 ·exact hw _ (by simp)
 ·exact hw _ (by simp)
 ·exact hw _ (by simp)
 ·exact hw _ (by simp)
 ·exact hw _ (by simp)
 ·exact e3
 ·exact e4
 ·exact e5
theorem dR1 (m:f5):A1 (bT5 m):=by
 unfold bT5
 cases m.HasPlan
 ·intro c hc;cases hc
 ·exact ca6 (dR4 _)
theorem dQ9 {m:f5} (hf:at7 m):A1 (as2 m):=fun c hc=>by
 simp only[as2,List.mem_append] at hc
 rcases hc with hc | hc | hc | hc | hc
 ·exact bE0 _ c hc
 ·exact dR1 m c hc
 ·exact bE0 _ c hc
 ·exact ca6 hf.ses c hc
 ·exact ca6 hf.pay c hc
theorem dB1 {m:f5} (hf:at7 m) (h:G8 m=true):(bT5 m).length≤1960:=by
 unfold bT5
 cases hp:m.HasPlan
 ·simp
 ·have h1:=cH9 hf.pl (bG7 h hp)
  have:=bo3 (s:=aS9 m.Plan) (by omega)
  simp only[cond_true];omega
theorem dF9 {m:f5} (h:G8 m=true):m.ID.length≤3∧m.Session.length≤64∧m.Payload.length≤1024:=by
 have:=(ay1 h).2.1
 unfold txM at this
 omega
theorem cL1 {m:f5} (hf:at7 m) (h:G8 m=true):(as2 m).length≤4400:=by
 have a:=az7 (cF4 hf h) (by simp[ak4])
 have b:=dB1 hf h
 have hi:=dF9 h
 have c:=az7 hf.id (by omega)
 have d:=bo3 (s:=m.Session) (by omega)
 have e:=bo3 (s:=m.Payload) (by omega)
 simp only[as2,List.length_append]
 omega
def dS2 (m:f5):Int×List Int×Int:=if G8 m=true then (m.Kind,as2 m,0) else (0,[],51)
theorem dY7 {s:List Int} (h:s.length≤4096):en1 s=(0,O3 s):=if_pos h
theorem er6 {m:f5} (hs:m.Session.length≤64) (hq:m.Payload.length≤1024) (hk:0≤m.Kind∧m.Kind≤255) {b:List Int} (hb:b.length≤8000):
  Ev S1 (.s1 0 m b [m.Session,m.Payload]) (m.Kind,b++(O3 m.Session++O3 m.Payload),0):=by
 have n1:=bo3 (s:=m.Session) (by omega)
 have n2:=bo3 (s:=m.Payload) (by omega)
 have k1:=cf5 (s:=m.Session) (by simp only[K3];omega)
 have k2:=cf5 (s:=m.Payload) (by simp only[K3];omega)
 rw[dY7 (by omega)] at k1 k2
 refine .next (s' :=.s1 1 m (b++O3 m.Session) [m.Session,m.Payload]) ?_ (.next (s' :=.s1 2 m (b++O3 m.Session++O3 m.Payload) [m.Session,m.Payload]) ?_ (.done ?_))
 ·have hl:decide (((List.map (d8 .u8) b).length+(List.map (d8 .u8) (O3 m.Session)).length)*1≤l6)=true:=E0 (by simp only[List.length_map];omega)
  simp only[S1,aT9,C0]
  simp only[show(0+(0:Int).toNat)=0 from rfl,List.getElem?_cons_zero,Option.bind_some,k1,hl]
  rfl
 ·have hl:decide (((List.map (d8 .u8) (b++O3 m.Session)).length+(List.map (d8 .u8) (O3 m.Payload)).length)*1≤l6)=true:=E0 (by simp only[List.length_map,List.length_append];omega)
  simp only[S1,aT9,C0]
  simp only[show(0+(1:Int).toNat)=1 from rfl,List.getElem?_cons_succ,List.getElem?_cons_zero,Option.bind_some,k2,hl]
  rfl
 ·rw[←List.append_assoc]
  simp only[S1,aT9,wU8 hk.1 hk.2]
  rfl
theorem er4 {m:f5} (hf:at7 m) (h:G8 m=true) {b:List Int} (hb:b.length≤7000):
  Ev S1 (.s2 m b) (m.Kind,b++(encL m.ID++(O3 m.Session++O3 m.Payload)),0):=by
 have hi:=dF9 h
 have hh:=(ay1 h).1
 unfold hdM at hh
 have c:=az7 hf.id (by omega)
 have hl:decide (((List.map (d8 .u8) b).length+(List.map (d8 .u8) (encL m.ID)).length)*1≤l6)=true:=E0 (by simp only[List.length_map];omega)
 refine .next (s' :=.s1 0 m (b++encL m.ID) [m.Session,m.Payload]) ?_ ?_
 ·simp only[S1,bE3,C0,bl4 hf.id (by omega),Option.bind_some,hl,cond_true]
 ·have:=er6 (m:=m) (b:=b++encL m.ID) hi.2.1 hi.2.2 (by omega) (by simp only[List.length_append];omega)
  rw[List.append_assoc] at this
  exact this
theorem eu5 {m:f5} (hf:at7 m):cg4 m=some (dS2 m):=by
 unfold dS2
 by_cases h:G8 m=true
 ·rw[if_pos h]
  have hi:=cF4 hf h
  have hu:=hf.up
  have hh:=(ay1 h).1
  unfold hdM at hh
  have hw:IntKind.i64.wrap m.Up=m.Up:=v9 (by omega) (by omega)
  have nl:=az7 hi (by simp[ak4])
  refine z7 (.next (s' :=.s3 m (ak4 m)) ?_ ?_)
  ·simp only[S1,bl1,bP0 hf.sh,h,Option.bind_some,Bool.not_true,cond_false,hw,ak4]
   cases m.HasPlan<;>rfl
  ·refine .next (s' :=.s2 m (encL (ak4 m)++bT5 m)) ?_ ?_
   ·simp only[S1,bE5,bl4 hi (by simp[ak4]),Option.bind_some,C0]
    unfold bT5
    cases hp:m.HasPlan
    ·simp only[cond_false,List.append_nil]
    ·have rp:=bG7 h hp
     have pl:=cH9 hf.pl rp
     have tl:=bo3 (s:=aS9 m.Plan) (by omega)
     have e1:cb3 m.Plan=some (aS9 m.Plan,0):=by rw[eD3 hf.pl,eo4,if_pos (ag6.2 rp)]
     have e2:ai8 (aS9 m.Plan)=some (0,O3 (aS9 m.Plan)):=by rw[cf5 (by simp only[K3];omega),dY7 (by omega)]
     have hl:decide (((List.map (d8 .u8) (encL (ak4 m))).length+(List.map (d8 .u8) (O3 (aS9 m.Plan))).length)*1≤l6)=true:=E0 (by simp only[List.length_map];omega)
     simp only[cond_true,e1,e2,Option.bind_some,hl]
   ·have q:=dB1 hf h
    have:=er4 hf h (b:=encL (ak4 m)++bT5 m) (by simp only[List.length_append];omega)
    rw[List.append_assoc] at this
    exact this
 ·rw[if_neg h]
  refine z7 (.done ?_)
  simp only[S1,bl1,bP0 hf.sh,Bool.eq_false_iff.2 h,Option.bind_some,Bool.not_false,cond_true]
def bi9:f5:=⟨0,0,0,0,0,0,0,0,0,0,false,B9,[],[],[]⟩
def withT (m:f5) (id s py:List Int):f5:=⟨m.Kind,m.From,m.To,m.Epoch,m.Ballot,m.Accepted,m.Nonce,m.Time,m.Up,m.Code,m.HasPlan,m.Plan,id,s,py⟩
def bt2 (l:List Int):Option (List Int×List Int×List Int):=match pL l with
 | .inl _=>none
 | .inr (id,k1)=>(match pT (l.drop k1) with
  | .inl _=>none
  | .inr (s,k2)=>(match pT (l.drop (k1+k2)) with
   | .inl _=>none
   | .inr (py,k3)=>if k1+k2+k3=l.length then some (id,s,py) else none))
def bZ7 (m:f5) (l:List Int):f5×Int:=match bt2 l with
 | none=>(bi9,51)
 | some (id,s,py)=>if G8 (withT m id s py)=true then (withT m id s py,0) else (bi9,51)
theorem ex8 {l:List Int}{e:Int} (h:pL l=.inl e):bt2 l=none:=by simp only[bt2,h]
theorem ev4 {l id:List Int}{k1:Nat}{e:Int} (h:pL l=.inr (id,k1)) (h2:pT (l.drop k1)=.inl e):bt2 l=none:=by simp only[bt2,h,h2]
theorem es9 {l id s:List Int}{k1 k2:Nat}{e:Int} (h:pL l=.inr (id,k1)) (h2:pT (l.drop k1)=.inr (s,k2)) (h3:pT (l.drop (k1+k2))=.inl e):bt2 l=none:=by simp only[bt2,h,h2,h3]
theorem dL7 {l id s py:List Int}{k1 k2 k3:Nat} (h:pL l=.inr (id,k1)) (h2:pT (l.drop k1)=.inr (s,k2)) (h3:pT (l.drop (k1+k2))=.inr (py,k3)):bt2 l=if k1+k2+k3=l.length then some (id,s,py) else none:=by simp only[bt2,h,h2,h3]
theorem di7 (x e:Int) (b:List Int) (h:(e !=0)=true):M9 ⟨⟨x,e⟩,b⟩=some ([],⟨⟨x,e⟩,b⟩):=by simp only[M9,h,cond_true]
theorem cv5 {b:List Int} (hb:A1 b) (hm:b.length≤K3) {at_:Nat} (h:at_≤b.length):aj3 ⟨⟨at_,0⟩,b⟩=some ((rL at_ (pL (b.drop at_))).1,⟨⟨(rL at_ (pL (b.drop at_))).2.1,(rL at_ (pL (b.drop at_))).2.2⟩,b⟩):=by
 simp only[aj3,bne_self_eq_false,cond_false,cx6 hb hm h,Option.bind_some]
theorem da1 {b:List Int} (hb:A1 b) (hm:b.length≤K3) {at_:Nat} (h:at_≤b.length):M9 ⟨⟨at_,0⟩,b⟩=some ((rL at_ (pT (b.drop at_))).1,⟨⟨(rL at_ (pT (b.drop at_))).2.1,(rL at_ (pT (b.drop at_))).2.2⟩,b⟩):=by
 simp only[M9,bne_self_eq_false,cond_false,er9 hb hm h,Option.bind_some]
theorem Shm.withT {m:f5} (h:Shm m) (id s py:List Int):Shm (withT m id s py):=⟨h.s,h.up,h.sup⟩
theorem pTe {l:List Int}{e:Int} (h:pT l=.inl e):(e !=0)=true:=bne_iff_ne.2 (eB8 h)
theorem dZ6 {b:List Int} (hb:A1 b) (hm:b.length≤K3) {at_:Nat} (h:at_≤b.length) (b0:f5) {m:f5} (hs:Shm m):aS1 b b0 ⟨⟨at_,0⟩,b⟩ m=some (bZ7 m (b.drop at_)):=by
 have bad:∀(z:f5),bc2 true b0 z=some (bi9,51):=fun z=>rfl
 simp only[aS1,cv5 hb hm h,Option.bind_some]
 unfold bZ7
 cases h1:pL (b.drop at_) with
 | inl e=>
  have he:=cn3 h1
  rw[ex8 h1]
  simp only[rL,di7 _ _ _ he,Option.bind_some,he,cond_true,bad]
 | inr x=>
  obtain⟨id,k1⟩:=x
  have l1:=dw1 hb h1
  have a1:at_+k1≤b.length:=by omega
  simp only[rL,da1 hb hm a1,Option.bind_some]
  cases h2:pT (b.drop (at_+k1)) with
  | inl e=>
   have he:=pTe h2
   rw[ev4 h1 (by rw[List.drop_drop];exact h2)]
   simp only[rL,di7 _ _ _ he,Option.bind_some,he,cond_true,bad]
  | inr x=>
   obtain⟨s,k2⟩:=x
   have l2:=(cV3 (bn5 hb _) h2).2.1
   rw[List.length_drop] at l2
   have a2:at_+k1+k2≤b.length:=by omega
   simp only[rL,da1 hb hm a2,Option.bind_some]
   cases h3:pT (b.drop (at_+k1+k2)) with
   | inl e=>
    have he:=pTe h3
    rw[es9 h1 (by rw[List.drop_drop];exact h2) (by rw[List.drop_drop,←Nat.add_assoc];exact h3)]
    simp only[rL,he,cond_true,bad]
   | inr x=>
    obtain⟨py,k3⟩:=x
    have l3:=(cV3 (bn5 hb _) h3).2.1
    rw[List.length_drop] at l3
    rw[dL7 h1 (by rw[List.drop_drop];exact h2) (by rw[List.drop_drop,←Nat.add_assoc];exact h3)]
    simp only[rL,bne_self_eq_false,cond_false,List.length_map,List.length_drop]
    by_cases hq:k1+k2+k3=b.length-at_
    ·have c1:(((at_+k1+k2+k3:Nat):Int) !=((b.length:Nat):Int))=false:=by rw[show at_+k1+k2+k3=b.length by omega];simp
     have hr:=bP0 (hs.withT id s py)
     rw[c1,if_pos hq]
     show(Option.bind (aw7 (withT m id s py)) fun y6=>bc2 (!y6) b0 (withT m id s py))=_
     rw[hr]
     simp only[Option.bind_some]
     cases hh:G8 (withT m id s py)<;>rfl
    ·have c1:(((at_+k1+k2+k3:Nat):Int) !=((b.length:Nat):Int))=true:=bne_iff_ne.2 (by omega)
     rw[c1,if_neg hq]
     exact bad (withT m id s py)
def aU3 (k:Int) (l:List Int) (p:Plan):f5:=⟨k,l.getD 0 0,l.getD 1 0,l.getD 2 0,l.getD 3 0,l.getD 4 0,l.getD 5 0,l.getD 6 0,l.getD 7 0,l.getD 8 0,l.getD 9 0==1,p,[],[],[]⟩
def bP2 (l:List Int):Prop:=l.length=10∧0≤l.getD 0 0∧l.getD 0 0≤255∧0≤l.getD 1 0∧l.getD 1 0≤255∧0≤l.getD 7 0∧l.getD 7 0≤65535∧0≤l.getD 8 0∧l.getD 8 0≤65535∧0≤l.getD 9 0∧l.getD 9 0≤1
instance (l:List Int):Decidable (bP2 l):=by unfold bP2;infer_instance
def cn7 (k:Int) (l b:List Int):f5×Int:=if l.getD 9 0=1 then (match pT b with
  | .inl _=>(bi9,51)
  | .inr (t,j)=>if (al8 t).2=0 then bZ7 (aU3 k l (al8 t).1) (b.drop j) else (bi9,51))
 else bZ7 (aU3 k l B9) b
def ofM (k:Int) (b:List Int):f5×Int:=match pL b with
 | .inl _=>(bi9,51)
 | .inr (l,n)=>if bP2 l then cn7 k l (b.drop n) else (bi9,51)
theorem en0 (k:Int) (l:List Int):Shm (aU3 k l B9):=⟨⟨by simp[aU3,B9],by simp[aU3,B9]⟩,O4.2 (by simp[aU3,B9]),O4.2 (by simp[aU3,B9])⟩
theorem eu2 {t:List Int} (ht:A1 t) (h:(al8 t).2=0) (k:Int) (l:List Int):Shm (aU3 k l (al8 t).1):=by
 obtain⟨h1,h2,h3⟩:=eh7 ht (p:=(al8 t).1) (by rw[←h])
 have hr:=ag6.1 h1
 have a1:=h2.up
 have a2:=h2.sup
 have a3:=hr.up
 have a4:=hr.sup
 exact⟨h2.s,(O4.2 (by omega):u0 .u64 (al8 t).1.Up),(O4.2 (by omega):u0 .u64 (al8 t).1.Sup)⟩
theorem eA3 {t l:List Int}{j:Nat} (hb:A1 l) (h:pT l=.inr (t,j)):t.length≤K3:=by
 have:=(cV3 hb h).2.2.2.1
 simp only[K3];omega
theorem eF1 {k:Int} (hk:0≤k∧k≤255) {b:List Int} (hb:A1 b) (hm:b.length≤K3) {at_:Nat} (h:at_≤b.length) {l:List Int} (hl:bP2 l) (b0:f5):U1 k b l false b0 ⟨⟨at_,0⟩,b⟩=some (cn7 k l (b.drop at_)):=by
 obtain⟨hlen,hw⟩:=hl
 match l,hlen,hw with
 | [a0,a1,a2,a3,a4,a5,a6,a7,a8,a9],_,hw=>
  simp only[List.getD_cons_zero,List.getD_cons_succ] at hw
  have wk:IntKind.i64.wrap k=k:=v9 (by omega) (by omega)
  have wu:IntKind.u64.wrap a7=a7:=db2 (by omega) (by omega)
  have e:U1 k b [a0,a1,a2,a3,a4,a5,a6,a7,a8,a9] false b0 ⟨⟨at_,0⟩,b⟩=(bif (a9==1) then ((M9 ⟨⟨at_,0⟩,b⟩).bind fun y33=>((cd1 y33.1).bind fun y34=>(bif ((y34.2:Int) !=0) then some (bi9,51) else
    aS1 b b0 y33.2 ⟨IntKind.i64.wrap k,a0,a1,a2,a3,a4,a5,a6,IntKind.u64.wrap a7,a8,a9==1,y34.1,[],[],[]⟩))) else aS1 b b0 ⟨⟨at_,0⟩,b⟩ ⟨IntKind.i64.wrap k,a0,a1,a2,a3,a4,a5,a6,IntKind.u64.wrap a7,a8,a9==1,B9,[],[],[]⟩):=rfl
  rw[e,wk,wu]
  unfold cn7
  simp only[List.getD_cons_zero,List.getD_cons_succ]
  by_cases h9:a9=1
  ·have c9:(a9==1)=true:=beq_iff_eq.2 h9
   rw[if_pos h9]
   have hd:∀p,(⟨k,a0,a1,a2,a3,a4,a5,a6,a7,a8,a9==1,p,[],[],[]⟩:f5)=aU3 k [a0,a1,a2,a3,a4,a5,a6,a7,a8,a9] p:=fun p=>rfl
   simp only[hd]
   rw[c9,cond_true,da1 hb hm h]
   simp only[Option.bind_some]
   cases h2:pT (b.drop at_) with
   | inl e=>
    have he:=pTe h2
    have g:=ef5 (b:= []) (fun c hc=>by cases hc) (by simp)
    have g0:al8 []=(B9,41):=by
     have:aZ3 []=none:=by decide
     simp only[al8,this]
    simp only[rL,g,g0,Option.bind_some]
    rfl
   | inr x=>
    obtain⟨s,j⟩:=x
    obtain⟨d1,d2,d3,d4,d5⟩:=cV3 (bn5 hb at_) h2
    rw[List.length_drop] at d2
    have g:=ef5 d5 (eA3 (bn5 hb at_) h2)
    simp only[rL,g,Option.bind_some]
    by_cases hq:(al8 s).2=0
    ·rw[if_pos hq,show((al8 s).2 !=0)=false by rw[hq];rfl,cond_false,dZ6 hb hm (by omega) b0 (eu2 d5 hq k _),List.drop_drop]
    ·rw[if_neg hq,show((al8 s).2 !=0)=true from bne_iff_ne.2 hq,cond_true]
  ·have c9:(a9==1)=false:=beq_eq_false_iff_ne.2 h9
   rw[if_neg h9]
   have hd:∀p,(⟨k,a0,a1,a2,a3,a4,a5,a6,a7,a8,a9==1,p,[],[],[]⟩:f5)=aU3 k [a0,a1,a2,a3,a4,a5,a6,a7,a8,a9] p:=fun p=>rfl
   simp only[hd]
   rw[c9,cond_false,dZ6 hb hm h b0 (en0 k _)]
theorem eG4 {k:Int} (hk:0≤k∧k≤255) {b:List Int} (hb:A1 b) (hm:b.length≤K3):bw0 k b=some (ofM k b):=by
 have bad:∀l b0 r,U1 k b l true b0 r=some (bi9,51):=fun _ _ _=>rfl
 have hr:=cv5 hb hm (Nat.zero_le b.length)
 simp only[Int.natCast_zero,List.drop_zero] at hr
 unfold ofM
 cases h1:pL b with
 | inl e=>
  have he:=cn3 h1
  rw[h1] at hr
  simp only[bw0]
  rw[show(⟨⟨0,0⟩,b⟩:p6)=⟨⟨((0:Nat):Int),0⟩,b⟩ from rfl]
  rw[cv5 hb hm (Nat.zero_le b.length),List.drop_zero,h1]
  simp only[rL,Option.bind_some,he,cond_true,bad]
 | inr x=>
  obtain⟨l,n⟩:=x
  have hl:=dw1 hb (at_:=0) (b:=b) h1
  simp only[bw0]
  rw[show(⟨⟨0,0⟩,b⟩:p6)=⟨⟨((0:Nat):Int),0⟩,b⟩ from rfl]
  rw[cv5 hb hm (Nat.zero_le b.length),List.drop_zero,h1]
  simp only[rL,Option.bind_some,bne_self_eq_false,cond_false,List.length_map,Nat.zero_add]
  by_cases h10:l.length=10
  ·rw[show(((l.length:Nat):Int) !=10)=false by rw[h10];rfl]
   have o1:∀b0,bP2 l→U1 k b l false b0 ⟨⟨((n:Nat):Int),0⟩,b⟩=some (cn7 k l (b.drop n)):=fun b0 hw=>eF1 hk hb hm (by omega) hw b0
   match l,h10,o1 with
   | [a0,a1,a2,a3,a4,a5,a6,a7,a8,a9],_,o1=>
    have ew:bP2 [a0,a1,a2,a3,a4,a5,a6,a7,a8,a9]↔0≤a0∧a0≤255∧0≤a1∧a1≤255∧0≤a7∧a7≤65535∧0≤a8∧a8≤65535∧0≤a9∧a9≤1:=⟨fun h=>h.2,fun h=>⟨rfl,h⟩⟩
    show(bif decide (B7 (B7 (B7 (B7 a0 a1) a7) a8) a9<0) then U1 k b [a0,a1,a2,a3,a4,a5,a6,a7,a8,a9] true _ _ else bif decide (A0 a0 a1>255) then U1 k b [a0,a1,a2,a3,a4,a5,a6,a7,a8,a9] true _ _ else
     bif decide (A0 a7 a8≥65536) then U1 k b [a0,a1,a2,a3,a4,a5,a6,a7,a8,a9] true _ _ else U1 k b [a0,a1,a2,a3,a4,a5,a6,a7,a8,a9] (decide (a9>1)) _ _)=_
    have mn:B7 (B7 (B7 (B7 a0 a1) a7) a8) a9<0↔a0<0∨a1<0∨a7<0∨a8<0∨a9<0:=by
     rw[show B7 (B7 (B7 (B7 a0 a1) a7) a8) a9=B7 (B7 (B7 (B7 a0 a1) a7) a8) a9 from rfl,cv0]
     constructor
     ·rintro (h | h | h)
      ·rw[cv0] at h;omega
      ·omega
      ·omega
     ·intro h
      rw[cv0];omega
    by_cases q1:B7 (B7 (B7 (B7 a0 a1) a7) a8) a9<0
    ·rw[decide_eq_true q1,cond_true,bad,if_neg (by rw[ew];rw[mn] at q1;omega)]
    ·rw[decide_eq_false q1,cond_false]
     by_cases q2:A0 a0 a1>255
     ·rw[decide_eq_true q2,cond_true,bad,if_neg (by rw[ew];rw[dv2] at q2;omega)]
     ·rw[decide_eq_false q2,cond_false]
      by_cases q3:A0 a7 a8≥65536
      ·rw[decide_eq_true q3,cond_true,bad,if_neg (by rw[ew];rw[eq9] at q3;omega)]
      ·rw[decide_eq_false q3,cond_false]
       by_cases q4:a9>1
       ·rw[decide_eq_true q4,bad,if_neg (by rw[ew];omega)]
       ·have hw:bP2 [a0,a1,a2,a3,a4,a5,a6,a7,a8,a9]:=by
         rw[ew];rw[mn] at q1;rw[dv2] at q2;rw[eq9] at q3;omega
        rw[decide_eq_false q4,o1 _ hw,if_pos hw]
  ·rw[show(((l.length:Nat):Int) !=10)=true from bne_iff_ne.2 (by omega),cond_true,bad,if_neg (fun h=>h10 h.1)]
/-! ### the document's reader -/
/-! ### frames -/
/-! ### what is written is read -/
theorem ee0 {m:f5} (hf:at7 m) (h:G8 m=true) (rest:List Int):bt2 (encL m.ID++(O3 m.Session++(O3 m.Payload++rest)))=if rest= [] then some (m.ID,m.Session,m.Payload) else none:=by
 have hi:=dF9 h
 have h1:=cs0 hf.id (by omega) (O3 m.Session++(O3 m.Payload++rest))
 have h2:=dw2 (s:=m.Session) (by omega) (O3 m.Payload++rest)
 have h3:=dw2 (s:=m.Payload) (by omega) rest
 rw[dL7 h1 (by rw[List.drop_left];exact h2) (by rw[←List.drop_drop,List.drop_left,List.drop_left];exact h3)]
 simp only[List.length_append]
 cases rest with
 | nil=>rw[if_pos (by simp;omega),if_pos rfl]
 | cons x r=>rw[if_neg (by simp;omega),if_neg (by simp)]
theorem dZ1 {m:f5} (hf:at7 m) (h:G8 m=true):bP2 (ak4 m):=by
 have hh:=(ay1 h).1
 unfold hdM at hh
 have hu:=hf.up
 refine⟨rfl,?_⟩
 show 0≤m.From∧m.From≤255∧0≤m.To∧m.To≤255∧0≤m.Up∧m.Up≤65535∧0≤m.Code∧m.Code≤65535∧0≤(bif m.HasPlan then (1:Int) else 0)∧(bif m.HasPlan then (1:Int) else 0)≤1
 cases m.HasPlan<;>simp only[cond_true,cond_false]<;>omega
theorem em6 {m:f5} (hf:at7 m) (h:G8 m=true) (k:Int) (rest:List Int):ofM k (as2 m++rest)=if rest= []∧G8 ⟨k,m.From,m.To,m.Epoch,m.Ballot,m.Accepted,m.Nonce,m.Time,m.Up,m.Code,m.HasPlan,m.Plan,m.ID,m.Session,m.Payload⟩=true then (⟨k,m.From,m.To,m.Epoch,m.Ballot,m.Accepted,m.Nonce,m.Time,m.Up,m.Code,m.HasPlan,m.Plan,m.ID,m.Session,m.Payload⟩,0) else (bi9,51):=by
 have e0:as2 m++rest=encL (ak4 m)++(bT5 m++(encL m.ID++(O3 m.Session++(O3 m.Payload++rest)))):=by simp[as2]
 rw[e0]
 unfold ofM
 rw[cs0 (cF4 hf h) (by simp[ak4])]
 simp only[if_pos (dZ1 hf h),List.drop_left]
 unfold cn7
 have fin:∀p,p=m.Plan→(ak4 m).getD 9 0=(bif m.HasPlan then (1:Int) else 0)→bZ7 (aU3 k (ak4 m) p) (encL m.ID++(O3 m.Session++(O3 m.Payload++rest)))=if rest= []∧G8 ⟨k,m.From,m.To,m.Epoch,m.Ballot,m.Accepted,m.Nonce,m.Time,m.Up,m.Code,m.HasPlan,m.Plan,m.ID,m.Session,m.Payload⟩=true then (⟨k,m.From,m.To,m.Epoch,m.Ballot,m.Accepted,m.Nonce,m.Time,m.Up,m.Code,m.HasPlan,m.Plan,m.ID,m.Session,m.Payload⟩,0) else (bi9,51):=by
  intro p hp h9
  have hb:withT (aU3 k (ak4 m) p) m.ID m.Session m.Payload=⟨k,m.From,m.To,m.Epoch,m.Ballot,m.Accepted,m.Nonce,m.Time,m.Up,m.Code,m.HasPlan,m.Plan,m.ID,m.Session,m.Payload⟩:=by
   subst hp
   have:((ak4 m).getD 9 0==1)=m.HasPlan:=by rw[h9];cases m.HasPlan<;>rfl
   simp only[withT,aU3,this]
   rfl
  unfold bZ7
  rw[ee0 hf h]
  by_cases hr:rest= []
  ·rw[if_pos hr]
   simp only[hb,hr,true_and]
  ·rw[if_neg hr]
   simp only[hr,false_and,if_false]
 unfold bT5
 cases hp:m.HasPlan with
 | false=>
  have h9:(ak4 m).getD 9 0=0:=by show(bif m.HasPlan then (1:Int) else 0)=0;rw[hp];rfl
  rw[if_neg (by rw[h9];decide)]
  have:=fin B9 (dR0 h hp).symm rfl
  rw[hp] at this
  exact this
 | true=>
  have h9:(ak4 m).getD 9 0=1:=by show(bif m.HasPlan then (1:Int) else 0)=1;rw[hp];rfl
  have rp:=bG7 h hp
  have pl:=cH9 hf.pl rp
  rw[if_pos h9,cond_true,dw2 (by omega)]
  have g:=ej5 hf.pl (ag6.2 rp)
  simp only[g,if_true,List.drop_left]
  have:=fin m.Plan rfl rfl
  rw[hp] at this
  exact this
theorem ev6 {m:f5} (hf:at7 m) (h:G8 m=true):ofM m.Kind (as2 m)=(m,0):=by
 have:=em6 hf h m.Kind []
 rw[List.append_nil] at this
 rw[this,if_pos ⟨rfl,h⟩]
/-! ### alike? -/
theorem dO4 {m:f5} (h:G8 m=true):0≤m.Kind∧m.Kind≤255:=by
 have hh:=(ay1 h).1
 unfold hdM at hh
 omega
/-! ### the head -/
theorem dL0 {m:f5} (hf:at7 m) (h:G8 m=true):A1 (L1 m.Kind (as2 m)):=by
 have hl:=cL1 hf h
 exact cd9 (dO4 h) (dQ9 hf) (by omega)
noncomputable def ct8 (b1:List Int) (ae5:Int) (ad1:Bool) (b3 y:List Int):D×i0:=(.tup [],[some ⟨1,true,[[.ptr 2 0 0]]⟩,some ⟨1,false,[[.sl false 1 (List.map (d8 .u8) b1)]]⟩,some ⟨4,true,[[(i5 3 (List.map (d8 .u8) b3)),(i5 5 (List.map (d8 .u8) y)),.int .i64 ae5,.bool ad1]]⟩,some ⟨1,false,(List.map (d8 .u8) b3)⟩,none,some ⟨1,false,(List.map (d8 .u8) y)⟩])
noncomputable def af8 (b1:List Int) (ae5:Int) (ad1:Bool) (b3 b4:List Int):Option (List Int):=(bif (decide (((List.map (d8 .u8) b4).length+(List.map (d8 .u8) b1).length)*1≤l6)) then (some (b4++b1)) else none)
theorem bm3 {b1:List Int}{ae5:Int}{ad1:Bool}{b3 b4 r:List Int} (h:af8 b1 ae5 ad1 b3 b4=some r):i7 E 125 [.ptr 0 0 0,.ptr 1 0 0] [some ⟨1,true,[[.ptr 2 0 0]]⟩,some ⟨1,false,[[.sl false 1 (List.map (d8 .u8) b1)]]⟩,some ⟨4,true,[[(i5 3 (List.map (d8 .u8) b3)),(i5 4 (List.map (d8 .u8) b4)),.int .i64 ae5,.bool ad1]]⟩,some ⟨1,false,(List.map (d8 .u8) b3)⟩,some ⟨1,false,(List.map (d8 .u8) b4)⟩] (Rs (ct8 b1 ae5 ad1 b3) r):=so (fn:=Tryz.f125) (k:=true) (m:=5) h<| by
 intro r h;unfold af8 at h
 refine zn 5 h fun h=> ?_
 refine za 0 (d8 .u8) b4 b1 ?_
 exact zu 3 h
noncomputable def al6:=u5 (u6 Tryz.f86)
noncomputable def aK2 (b2 b3:List Int) (y:Int×Int×Bool×(List Int)):D×i0:=(.int .i64 y.1,[some ⟨4,true,[[(i5 5 (List.map (d8 .u8) b3)),(i5 6 (List.map (d8 .u8) y.2.2.2)),.int .i64 y.2.1,.bool y.2.2.1]]⟩,some ⟨1,true,[[.ptr 0 0 0]]⟩,some ⟨1,false,[[.sl false 1 (List.map (d8 .u8) b2)]]⟩,none,none,some ⟨1,false,(List.map (d8 .u8) b3)⟩,some ⟨1,false,(List.map (d8 .u8) y.2.2.2)⟩])
abbrev aJ7 (ae5:Int) (ad1:Bool) (b2 b3 b4:List Int):=AOk E (Cx.of Tryz.f86 true 5) (aK2 b2 b3)
noncomputable def bx0 (ae5:Int) (ad1:Bool) (b2 b3 b4:List Int) (q0:Int) (p8:Bool):M:=⟨[.code (al6 [1,1])],[(0,.ptr 0 0 0),(1,.fn 125 [] [.ptr 1 0 0,.ptr 2 0 0])],[some ⟨4,true,[[(i5 3 (List.map (d8 .u8) b3)),(i5 4 (List.map (d8 .u8) b4)),.int .i64 q0,.bool p8]]⟩,some ⟨1,true,[[.ptr 0 0 0]]⟩,some ⟨1,false,[[.sl false 1 (List.map (d8 .u8) b2)]]⟩,some ⟨1,false,(List.map (d8 .u8) b3)⟩,some ⟨1,false,(List.map (d8 .u8) b4)⟩]⟩
noncomputable def G1 (ae5:Int) (ad1:Bool) (b2 b3 b4:List Int) (q0:Int) (p8:Bool):Option (Int×Int×Bool×(List Int)):=(bif p8 then (some (61,q0,p8,b4)) else (bif (decide (q0>0)) then ((af8 b2 (IntKind.i64.wrap (q0-1)) p8 b3 b4).bind fun y3=>(some (0,(IntKind.i64.wrap (q0-1)),p8,y3))) else ((af8 b2 q0 p8 b3 b4).bind fun y4=>(some (0,q0,p8,y4)))))
theorem aA5 {ae5 ad1 b2 b3 b4 q0 p8}:aJ7 ae5 ad1 b2 b3 b4 (bx0 ae5 ad1 b2 b3 b4 q0 p8) (G1 ae5 ad1 b2 b3 b4 q0 p8):=by
 intro r h;unfold G1 at h
 refine zs 10 h (fun h=> ?_) fun h=> ?_
 ·
  refine zf 4 [.mv 3,.mv 4] ?_
  exact zu 1 h
 refine zs 12 h (fun h=> ?_) fun h=> ?_
 ·
  refine zc 17 [] h (fun _=>bm3) fun y3 h=> ?_
  refine zf 5 [.mv 3] ?_
  exact zu 1 h
 refine zc 5 [] h (fun _=>bm3) fun y4 h=> ?_
 refine zf 5 [.mv 3] ?_
 exact zu 1 h
noncomputable def bw4 (ae5:Int) (ad1:Bool) (b2 b3 b4:List Int) (t16:Bool):M:=⟨[.code (al6 [1,0,1]),.code (al6 [1,1])],[(0,.ptr 0 0 0),(1,.fn 125 [] [.ptr 1 0 0,.ptr 2 0 0]),(16,.bool t16)],[some ⟨4,true,[[(i5 3 (List.map (d8 .u8) b3)),(i5 4 (List.map (d8 .u8) b4)),.int .i64 ae5,.bool ad1]]⟩,some ⟨1,true,[[.ptr 0 0 0]]⟩,some ⟨1,false,[[.sl false 1 (List.map (d8 .u8) b2)]]⟩,some ⟨1,false,(List.map (d8 .u8) b3)⟩,some ⟨1,false,(List.map (d8 .u8) b4)⟩]⟩
noncomputable def F9 (ae5:Int) (ad1:Bool) (b2 b3 b4:List Int) (t16:Bool):Option (Int×Int×Bool×(List Int)):=(bif t16 then (G1 ae5 ad1 b2 b3 b4 (-1) true) else (G1 ae5 ad1 b2 b3 b4 ae5 ad1))
theorem aA6 {ae5 ad1 b2 b3 b4 t16}:aJ7 ae5 ad1 b2 b3 b4 (bw4 ae5 ad1 b2 b3 b4 t16) (F9 ae5 ad1 b2 b3 b4 t16):=by
 intro r h;unfold F9 at h
 refine zs 1 h (fun h=> ?_) fun h=> ?_
 ·
  exact zg 14 (aA5 h)
 exact zg 1 (aA5 h)
noncomputable def ab5 (ae5:Int) (ad1:Bool) (b2 b3 b4:List Int):Option (Int×Int×Bool×(List Int)):=(bif (!ad1) then (F9 ae5 ad1 b2 b3 b4 (ae5==0)) else (F9 ae5 ad1 b2 b3 b4 false))
theorem bw3 {ae5:Int}{ad1:Bool}{b2 b3 b4:List Int}{r:Int×Int×Bool×(List Int)} (h:ab5 ae5 ad1 b2 b3 b4=some r):i7 E 86 [.ptr 0 0 0,.fn 125 [] [.ptr 1 0 0,.ptr 2 0 0]] [some ⟨4,true,[[(i5 3 (List.map (d8 .u8) b3)),(i5 4 (List.map (d8 .u8) b4)),.int .i64 ae5,.bool ad1]]⟩,some ⟨1,true,[[.ptr 0 0 0]]⟩,some ⟨1,false,[[.sl false 1 (List.map (d8 .u8) b2)]]⟩,some ⟨1,false,(List.map (d8 .u8) b3)⟩,some ⟨1,false,(List.map (d8 .u8) b4)⟩] (Rs (aK2 b2 b3) r):=so (fn:=Tryz.f86) (k:=true) (m:=5) h<| by
 intro r h;unfold ab5 at h
 refine zs 15 h (fun h=> ?_) fun h=> ?_
 ·
  exact zg 12 (aA6 h)
 exact zg 11 (aA6 h)
noncomputable def cJ1 (b1:List Int) (y:Int×Int×Bool×(List Int)):D×i0:=(.int .i64 y.1,[some ⟨4,true,[[(i5 3 (List.map (d8 .u8) b1)),(i5 4 (List.map (d8 .u8) y.2.2.2)),.int .i64 y.2.1,.bool y.2.2.1]]⟩,none,none,some ⟨1,false,(List.map (d8 .u8) b1)⟩,some ⟨1,false,(List.map (d8 .u8) y.2.2.2)⟩])
noncomputable def aE1 (ao0:Int) (aj5:List Int) (ae5:Int) (ad1:Bool) (b1 b2:List Int):Option (Int×Int×Bool×(List Int)):=((bQ1 ao0 aj5).bind fun y1=>(bif ((y1.2:Int) !=0) then (some (y1.2,ae5,ad1,b2)) else ((ab5 ae5 ad1 y1.1 b1 b2).bind fun y3=>(some (y3.1,y3.2.1,y3.2.2.1,y3.2.2.2)))))
theorem cA6 {ao0:Int}{aj5:List Int}{ae5:Int}{ad1:Bool}{b1 b2:List Int}{r:Int×Int×Bool×(List Int)} (h:aE1 ao0 aj5 ae5 ad1 b1 b2=some r):i7 E 93 [.ptr 0 0 0,.int .u8 ao0,.sl false 1 (List.map (d8 .u8) aj5)] [some ⟨4,true,[[(i5 1 (List.map (d8 .u8) b1)),(i5 2 (List.map (d8 .u8) b2)),.int .i64 ae5,.bool ad1]]⟩,some ⟨1,false,(List.map (d8 .u8) b1)⟩,some ⟨1,false,(List.map (d8 .u8) b2)⟩] (Rs (cJ1 b1) r):=so (fn:=Tryz.f93) (k:=true) (m:=3) h<| by
 intro r h;unfold aE1 at h
 refine zc 10 [] h (fun _=>dA6) fun y1 h=> ?_
 refine zs 16 h (fun h=> ?_) fun h=> ?_
 ·
  refine zf 5 [.mv 1,.mv 2] ?_
  exact zu 1 h
 refine zc 7 [] h (fun _=>bw3) fun y3 h=> ?_
 exact zu 3 h
noncomputable def cJ2 (ae5:Int) (ad1:Bool) (b3:List Int) (y:(List Int)×(List Int)):D×i0:=(.tup [],[some ⟨1,true,[[.ptr 1 0 0]]⟩,some ⟨4,true,[[(i5 4 (List.map (d8 .u8) y.1)),(i5 5 (List.map (d8 .u8) y.2)),.int .i64 ae5,.bool ad1]]⟩,none,some ⟨1,false,(List.map (d8 .u8) b3)⟩,some ⟨1,false,(List.map (d8 .u8) y.1)⟩,some ⟨1,false,(List.map (d8 .u8) y.2)⟩])
noncomputable def aq3 (ae5:Int) (ad1:Bool) (b2 b3:List Int):Option ((List Int)×(List Int)):=(bif (decide (((List.map (d8 .u8) b2).length+(List.take ((List.map (d8 .u8) b3).length) (List.drop 0 (List.map (d8 .u8) b3))).length)*1≤l6)) then (some ((b2++b3),[])) else none)
theorem bC3 {ae5:Int}{ad1:Bool}{b2 b3:List Int}{r:(List Int)×(List Int)} (h:aq3 ae5 ad1 b2 b3=some r):i7 E 126 [.ptr 0 0 0] [some ⟨1,true,[[.ptr 1 0 0]]⟩,some ⟨4,true,[[(i5 2 (List.map (d8 .u8) b2)),(i5 3 (List.map (d8 .u8) b3)),.int .i64 ae5,.bool ad1]]⟩,some ⟨1,false,(List.map (d8 .u8) b2)⟩,some ⟨1,false,(List.map (d8 .u8) b3)⟩] (Rs (cJ2 ae5 ad1 b3) r):=so (fn:=Tryz.f126) (k:=true) (m:=4) h<| by
 intro r h;unfold aq3 at h
 refine zm 7 (b:=(Nat.beq ((List.take ((List.map (d8 .u8) b3).length) (List.drop 0 (List.map (d8 .u8) b3))).length) ((List.map (d8 .u8) b3).length))) (by simp) ?_
 refine zn 0 h fun h=> ?_
 refine zm 0 (b:=(Nat.ble (0+(List.map (d8 .u8) b2).length) ((List.map (d8 .u8) b2).length))) (A7 _) ?_
 refine zw 0 (a:=(List.take ((List.map (d8 .u8) b2).length) (List.drop 0 (List.map (d8 .u8) b2))++(List.take ((List.map (d8 .u8) b3).length) (List.drop 0 (List.map (d8 .u8) b3))))) (b:=(List.map (d8 .u8) (b2++b3))) (by simp only[C0,E8,List.map_append,List.map_take,List.map_drop]) ?_
 refine zf 4 [.matc 1 0 1 1] ?_
 exact zu 1 h
noncomputable def ar3:=u5 (u6 Tryz.f86)
noncomputable def aR4 (y:Int×Int×Bool×(List Int)×(List Int)):D×i0:=(.int .i64 y.1,[some ⟨4,true,[[(i5 4 (List.map (d8 .u8) y.2.2.2.1)),(i5 5 (List.map (d8 .u8) y.2.2.2.2)),.int .i64 y.2.1,.bool y.2.2.1]]⟩,some ⟨1,true,[[.ptr 0 0 0]]⟩,none,none,some ⟨1,false,(List.map (d8 .u8) y.2.2.2.1)⟩,some ⟨1,false,(List.map (d8 .u8) y.2.2.2.2)⟩])
abbrev aR0 (ae5:Int) (ad1:Bool) (b2 b3:List Int):=AOk E (Cx.of Tryz.f86 true 4) aR4
noncomputable def bG4 (ae5:Int) (ad1:Bool) (b2 b3:List Int) (q0:Int) (p8:Bool):M:=⟨[.code (ar3 [1,1])],[(0,.ptr 0 0 0),(1,.fn 126 [] [.ptr 1 0 0])],[some ⟨4,true,[[(i5 2 (List.map (d8 .u8) b2)),(i5 3 (List.map (d8 .u8) b3)),.int .i64 q0,.bool p8]]⟩,some ⟨1,true,[[.ptr 0 0 0]]⟩,some ⟨1,false,(List.map (d8 .u8) b2)⟩,some ⟨1,false,(List.map (d8 .u8) b3)⟩]⟩
noncomputable def I7 (ae5:Int) (ad1:Bool) (b2 b3:List Int) (q0:Int) (p8:Bool):Option (Int×Int×Bool×(List Int)×(List Int)):=(bif p8 then (some (61,q0,p8,b2,b3)) else (bif (decide (q0>0)) then ((aq3 (IntKind.i64.wrap (q0-1)) p8 b2 b3).bind fun y3=>(some (0,(IntKind.i64.wrap (q0-1)),p8,y3.1,y3.2))) else ((aq3 q0 p8 b2 b3).bind fun y4=>(some (0,q0,p8,y4.1,y4.2)))))
theorem aG5 {ae5 ad1 b2 b3 q0 p8}:aR0 ae5 ad1 b2 b3 (bG4 ae5 ad1 b2 b3 q0 p8) (I7 ae5 ad1 b2 b3 q0 p8):=by
 intro r h;unfold I7 at h
 refine zs 10 h (fun h=> ?_) fun h=> ?_
 ·
  refine zf 4 [.mv 2,.mv 3] ?_
  exact zu 1 h
 refine zs 12 h (fun h=> ?_) fun h=> ?_
 ·
  refine zc 17 [] h (fun _=>bC3) fun y3 h=> ?_
  refine zf 5 [.mv 3] ?_
  exact zu 1 h
 refine zc 5 [] h (fun _=>bC3) fun y4 h=> ?_
 refine zf 5 [.mv 3] ?_
 exact zu 1 h
noncomputable def bF2 (ae5:Int) (ad1:Bool) (b2 b3:List Int) (t16:Bool):M:=⟨[.code (ar3 [1,0,1]),.code (ar3 [1,1])],[(0,.ptr 0 0 0),(1,.fn 126 [] [.ptr 1 0 0]),(16,.bool t16)],[some ⟨4,true,[[(i5 2 (List.map (d8 .u8) b2)),(i5 3 (List.map (d8 .u8) b3)),.int .i64 ae5,.bool ad1]]⟩,some ⟨1,true,[[.ptr 0 0 0]]⟩,some ⟨1,false,(List.map (d8 .u8) b2)⟩,some ⟨1,false,(List.map (d8 .u8) b3)⟩]⟩
noncomputable def I4 (ae5:Int) (ad1:Bool) (b2 b3:List Int) (t16:Bool):Option (Int×Int×Bool×(List Int)×(List Int)):=(bif t16 then (I7 ae5 ad1 b2 b3 (-1) true) else (I7 ae5 ad1 b2 b3 ae5 ad1))
theorem aG0 {ae5 ad1 b2 b3 t16}:aR0 ae5 ad1 b2 b3 (bF2 ae5 ad1 b2 b3 t16) (I4 ae5 ad1 b2 b3 t16):=by
 intro r h;unfold I4 at h
 refine zs 1 h (fun h=> ?_) fun h=> ?_
 ·
  exact zg 14 (aG5 h)
 exact zg 1 (aG5 h)
noncomputable def ag4 (ae5:Int) (ad1:Bool) (b2 b3:List Int):Option (Int×Int×Bool×(List Int)×(List Int)):=(bif (!ad1) then (I4 ae5 ad1 b2 b3 (ae5==0)) else (I4 ae5 ad1 b2 b3 false))
theorem bE1 {ae5:Int}{ad1:Bool}{b2 b3:List Int}{r:Int×Int×Bool×(List Int)×(List Int)} (h:ag4 ae5 ad1 b2 b3=some r):i7 E 86 [.ptr 0 0 0,.fn 126 [] [.ptr 1 0 0]] [some ⟨4,true,[[(i5 2 (List.map (d8 .u8) b2)),(i5 3 (List.map (d8 .u8) b3)),.int .i64 ae5,.bool ad1]]⟩,some ⟨1,true,[[.ptr 0 0 0]]⟩,some ⟨1,false,(List.map (d8 .u8) b2)⟩,some ⟨1,false,(List.map (d8 .u8) b3)⟩] (Rs aR4 r):=so (fn:=Tryz.f86) (k:=true) (m:=4) h<| by
 intro r h;unfold ag4 at h
 refine zs 15 h (fun h=> ?_) fun h=> ?_
 ·
  exact zg 12 (aG0 h)
 exact zg 11 (aG0 h)
noncomputable def cY9 (y:Int×Int×Bool×(List Int)×(List Int)):D×i0:=(.int .i64 y.1,[some ⟨4,true,[[(i5 3 (List.map (d8 .u8) y.2.2.2.1)),(i5 4 (List.map (d8 .u8) y.2.2.2.2)),.int .i64 y.2.1,.bool y.2.2.1]]⟩,none,none,some ⟨1,false,(List.map (d8 .u8) y.2.2.2.1)⟩,some ⟨1,false,(List.map (d8 .u8) y.2.2.2.2)⟩])
noncomputable def aT2 (ae5:Int) (ad1:Bool) (b1 b2:List Int):Option (Int×Int×Bool×(List Int)×(List Int)):=((ag4 ae5 ad1 b1 b2).bind fun y1=>(some (y1.1,y1.2.1,y1.2.2.1,y1.2.2.2.1,y1.2.2.2.2)))
theorem cN4 {ae5:Int}{ad1:Bool}{b1 b2:List Int}{r:Int×Int×Bool×(List Int)×(List Int)} (h:aT2 ae5 ad1 b1 b2=some r):i7 E 94 [.ptr 0 0 0] [some ⟨4,true,[[(i5 1 (List.map (d8 .u8) b1)),(i5 2 (List.map (d8 .u8) b2)),.int .i64 ae5,.bool ad1]]⟩,some ⟨1,false,(List.map (d8 .u8) b1)⟩,some ⟨1,false,(List.map (d8 .u8) b2)⟩] (Rs cY9 r):=so (fn:=Tryz.f94) (k:=true) (m:=3) h<| by
 intro r h;unfold aT2 at h
 refine zc 11 [] h (fun _=>bE1) fun y1 h=> ?_
 exact zu 3 h
noncomputable def cU8 (b2:List Int) (y:Int×Bool×(List Int)×(List Int)):D×i0:=(.tup [],[some ⟨4,true,[[(i5 3 (List.map (d8 .u8) y.2.2.1)),(i5 4 (List.map (d8 .u8) y.2.2.2)),.int .i64 y.1,.bool y.2.1]]⟩,none,some ⟨1,false,(List.map (d8 .u8) b2)⟩,some ⟨1,false,(List.map (d8 .u8) y.2.2.1)⟩,some ⟨1,false,(List.map (d8 .u8) y.2.2.2)⟩])
noncomputable def av4 (bB2 ae5:Int) (ad1:Bool) (b1 b2:List Int):Option (Int×Bool×(List Int)×(List Int)):=(bif ((decide (((0:Nat):Int)≤(B7 (A0 bB2 0) (((List.map (d8 .u8) b2).length:Nat):Int))))&&(decide (((B7 (A0 bB2 0) (((List.map (d8 .u8) b2).length:Nat):Int)):Int)≤(((List.map (d8 .u8) b2).length:Nat):Int)))) then (bif (Nat.beq ((List.take ((B7 (A0 bB2 0) (((List.map (d8 .u8) b2).length:Nat):Int)).toNat) (List.drop 0 (List.map (d8 .u8) b2))).length) ((B7 (A0 bB2 0) (((List.map (d8 .u8) b2).length:Nat):Int)).toNat)) then (bif (decide (((List.map (d8 .u8) b1).length+(List.take ((B7 (A0 bB2 0) (((List.map (d8 .u8) b2).length:Nat):Int)).toNat) (List.drop 0 (List.map (d8 .u8) b2))).length)*1≤l6)) then (some ((-1),true,(b1++(List.take ((B7 (A0 bB2 0) (((List.map (d8 .u8) b2).length:Nat):Int)).toNat) (List.drop 0 b2))),[])) else none) else none) else none)
theorem cL0 {bB2 ae5:Int}{ad1:Bool}{b1 b2:List Int}{r:Int×Bool×(List Int)×(List Int)} (h:av4 bB2 ae5 ad1 b1 b2=some r):i7 E 30 [.ptr 0 0 0,.int .i64 bB2] [some ⟨4,true,[[(i5 1 (List.map (d8 .u8) b1)),(i5 2 (List.map (d8 .u8) b2)),.int .i64 ae5,.bool ad1]]⟩,some ⟨1,false,(List.map (d8 .u8) b1)⟩,some ⟨1,false,(List.map (d8 .u8) b2)⟩] (Rs (cU8 b2) r):=so (fn:=Tryz.f30) (k:=true) (m:=3) h<| by
 intro r h;unfold av4 at h
 refine zn 17 h fun h=> ?_
 refine zn 0 h fun h=> ?_
 refine zn 0 h fun h=> ?_
 refine zm 0 (b:=(Nat.ble (0+(List.map (d8 .u8) b1).length) ((List.map (d8 .u8) b1).length))) (A7 _) ?_
 refine zw 0 (a:=(List.take ((List.map (d8 .u8) b1).length) (List.drop 0 (List.map (d8 .u8) b1))++(List.take ((B7 (A0 bB2 0) (((List.map (d8 .u8) b2).length:Nat):Int)).toNat) (List.drop 0 (List.map (d8 .u8) b2))))) (b:=(List.map (d8 .u8) (b1++(List.take ((B7 (A0 bB2 0) (((List.map (d8 .u8) b2).length:Nat):Int)).toNat) (List.drop 0 b2))))) (by simp only[C0,E8,List.map_append,List.map_take,List.map_drop]) ?_
 refine zf 22 [.matc 0 0 1 1] ?_
 exact zu 1 h
noncomputable def cZ3 (ad1:Bool) (b1 b2:List Int) (y:Int):D×i0:=(.tup [],[some ⟨4,true,[[(i5 1 (List.map (d8 .u8) b1)),(i5 2 (List.map (d8 .u8) b2)),.int .i64 y,.bool ad1]]⟩,some ⟨1,false,(List.map (d8 .u8) b1)⟩,some ⟨1,false,(List.map (d8 .u8) b2)⟩])
noncomputable def bj0 (n ae5:Int) (ad1:Bool) (b1 b2:List Int):Option Int:=(some (A0 n (-1)))
theorem cU5 {n ae5:Int}{ad1:Bool}{b1 b2:List Int}{r:Int} (h:bj0 n ae5 ad1 b1 b2=some r):i7 E 29 [.ptr 0 0 0,.int .i64 n] [some ⟨4,true,[[(i5 1 (List.map (d8 .u8) b1)),(i5 2 (List.map (d8 .u8) b2)),.int .i64 ae5,.bool ad1]]⟩,some ⟨1,false,(List.map (d8 .u8) b1)⟩,some ⟨1,false,(List.map (d8 .u8) b2)⟩] (Rs (cZ3 ad1 b1 b2) r):=so (fn:=Tryz.f29) (k:=false) (m:=3) h<| by
 intro r h;unfold bj0 at h
 exact zu 11 h
def eff (fuse:Int) (down:Bool):Option Int:=if down=true∨fuse=0 then none else some (if 0<fuse then fuse-1 else fuse)
def fd (fuse:Int) (down:Bool):Int:=bif down then fuse else-1
def ae6 (f:Int):Prop:= -1≤f∧f≤9223372036854775807
theorem eD7 {f g:Int}{d:Bool} (h:eff f d=some g):d=false∧f≠0∧g=if 0<f then f-1 else f:=by
 unfold eff at h
 split at h
 ·cases h
 ·rename_i hn
  simp only[not_or,Bool.not_eq_true] at hn
  exact⟨hn.1,hn.2,(Option.some.inj h).symm⟩
theorem cE9 {f g:Int}{d:Bool} (hf:ae6 f) (h:eff f d=some g):ae6 g:=by
 obtain⟨-,h1,rfl⟩:=eD7 h
 unfold ae6 at*
 split<;>omega
theorem dg2 {f:Int}{d:Bool} (hf:ae6 f):ae6 (fd f d):=by
 cases d<;>simp[fd,ae6] at* <;>omega
theorem el4 {n:Nat} (h:n≤20000000):decide (n*1≤l6)=true:=E0 (by omega)
theorem ey8 {k:Int}{body:List Int} (hk:0≤k∧k≤255) (hb:A1 body) (hl:body.length≤8192) {fuse:Int} (hf:ae6 fuse) {down:Bool}{s t:List Int} (ht:t.length≤10000000):
  aE1 k body fuse down s t=some (match eff fuse down with | some f=>(0,f,false,t++L1 k body) | none=>(61,fd fuse down,true,t)):=by
 have hp:bQ1 k body=some (L1 k body,0):=by rw[dL2 hk hb (by simp only[K3];omega),em4,if_pos hl]
 have hlen:=bd4 k body
 have app:∀f d,af8 (L1 k body) f d s t=some (t++L1 k body):=fun f d=>by
  simp only[af8,List.length_map,el4 (show t.length+(L1 k body).length≤20000000 by omega),cond_true]
 unfold ae6 at hf
 simp only[aE1,hp,Option.bind_some,bne_self_eq_false,cond_false,ab5]
 cases down with
 | true=>simp only[Bool.not_true,cond_false,F9,G1,cond_true,Option.bind_some,eff,fd,true_or,if_true]
 | false=>
  simp only[Bool.not_false,cond_true]
  by_cases h0:fuse=0
  ·subst h0
   simp only[beq_self_eq_true,F9,cond_true,G1,Option.bind_some,eff,fd,or_true,if_true,cond_false]
  ·have e0:((fuse:Int)==0)=false:=by simpa using h0
   simp only[e0,F9,cond_false,G1,app,Option.bind_some,eff,fd,h0,Bool.false_eq_true,or_self,if_false]
   by_cases hp:0<fuse
   ·have:decide (fuse>0)=true:=decide_eq_true hp
    rw[v9 (n:=fuse-1) (by omega) (by omega)]
    simp only[this,cond_true,Option.bind_some,if_pos hp]
   ·have:decide (fuse>0)=false:=decide_eq_false (by omega)
    simp only[this,cond_false,Option.bind_some,if_neg hp]
theorem eH8 {fuse:Int} (hf:ae6 fuse) {down:Bool}{s t:List Int} (ht:s.length+t.length≤20000000):
  aT2 fuse down s t=some (match eff fuse down with | some f=>(0,f,false,s++t,[]) | none=>(61,fd fuse down,true,s,t)):=by
 have app:∀f d,aq3 f d s t=some (s++t,[]):=fun f d=>by
  have e:(List.take t.length (List.drop 0 (List.map (d8 .u8) t))).length=t.length:=by simp
  simp only[aq3,List.length_map]
  rw[e,el4 ht];rfl
 unfold ae6 at hf
 simp only[aT2,ag4]
 cases down with
 | true=>simp only[Bool.not_true,cond_false,I4,I7,cond_true,Option.bind_some,eff,fd,true_or,if_true]
 | false=>
  simp only[Bool.not_false,cond_true]
  by_cases h0:fuse=0
  ·subst h0
   simp only[beq_self_eq_true,I4,cond_true,I7,Option.bind_some,eff,fd,or_true,if_true,cond_false]
  ·have e0:((fuse:Int)==0)=false:=by simpa using h0
   simp only[e0,I4,cond_false,I7,app,Option.bind_some,eff,fd,h0,Bool.false_eq_true,or_self,if_false]
   by_cases hp:0<fuse
   ·have:decide (fuse>0)=true:=decide_eq_true hp
    rw[v9 (n:=fuse-1) (by omega) (by omega)]
    simp only[this,cond_true,Option.bind_some,if_pos hp]
   ·have:decide (fuse>0)=false:=decide_eq_false (by omega)
    simp only[this,cond_false,Option.bind_some,if_neg hp]
def bu0 (keep:Int) (t:List Int):List Int:=t.take (min (max keep 0) (t.length:Int)).toNat
theorem eA6 {keep fuse:Int}{down:Bool}{s t:List Int} (ht:s.length+t.length≤20000000):av4 keep fuse down s t=some (-1,true,s++bu0 keep t,[]):=by
 have e:B7 (A0 keep 0) ((t.length:Nat):Int)=((min (max keep 0) (t.length:Int)).toNat:Int):=by
  unfold B7 A0
  split<;>split<;>omega
 generalize hk:(min (max keep 0) (t.length:Int)).toNat=n at e
 have hn:n≤t.length:=by omega
 have c1:(decide (((0:Nat):Int)≤(n:Int))&&decide ((n:Int)≤((t.length:Nat):Int)))=true:=by simp;omega
 have c2:(List.take n (List.drop 0 (List.map (d8 .u8) t))).length=n:=by simp;omega
 simp only[av4,List.length_map,e,c1,cond_true,Int.toNat_natCast]
 rw[c2]
 simp only[show Nat.beq n n=true from Nat.beq_refl n,el4 (show s.length+n≤20000000 by omega),List.drop_zero,bu0,hk,cond_true]
theorem eF9 {l:List Fr1}{J:List Int}{e:Int} (hl:∀x∈l,cm5 x) (hJ:pF J=.inl e) (hJb:A1 J) (hm:(P2 l++J).length≤10000000) {fuse:Int} (hf:ae6 fuse) {down:Bool}{t:List Int}:
  ai7 fuse down (P2 l++J) t=some (if J= [] then (l.map (·.1),l.map (·.2),(0:Int),fuse,false,P2 l,([]:List Int)) else (match eff fuse false with | some f=>(l.map (·.1),l.map (·.2),0,f,false,P2 l,[]) | none=>([],[],61,fd fuse false,true,P2 l++J,[]))):=by
 have ha:=eJ2 hl hJ hJb hm
 have cut:∀f d (u:List Int),aq2 ((P2 l).length:Int) f d (P2 l++J) u=some (P2 l):=fun f d u=>by
  have c1:(decide (((0:Nat):Int)≤((P2 l).length:Int))&&decide (((P2 l).length:Int)≤(((P2 l++J).length:Nat):Int)))=true:=by simp;omega
  have:=ew5 (b:=P2 l++J) (ln:=(P2 l).length) (cp:=(P2 l++J).length) (by simp) (by simp only[K3];omega)
  simp only[aq2,List.length_map,c1,cond_true,Int.toNat_natCast,this,Option.bind_some,List.take_left]
 simp only[ai7,ha,Option.bind_some,List.length_map]
 by_cases hJ0:J= []
 ·subst hJ0
  simp only[List.append_nil,Int.lt_irrefl,decide_false,cond_false,if_true]
 ·have hpos:0<J.length:=List.length_pos_iff.2 hJ0
  have:decide (((P2 l).length:Int)<(((P2 l++J).length:Nat):Int))=true:=by simp;omega
  unfold ae6 at hf
  simp only[this,cond_true,if_neg hJ0,ag2,Bool.not_false]
  by_cases h0:fuse=0
  ·subst h0
   simp[M6,M8,eff,fd]
  ·have e0:((fuse:Int)==0)=false:=by simpa using h0
   simp only[e0,M6,cond_false,M8,cut,Option.bind_some,eff,fd,h0,Bool.false_eq_true,or_self,if_false]
   by_cases hp:0<fuse
   ·have:decide (fuse>0)=true:=decide_eq_true hp
    rw[v9 (n:=fuse-1) (by omega) (by omega)]
    simp only[this,cond_true,Option.bind_some,if_pos hp,bne_self_eq_false,cond_false]
   ·have:decide (fuse>0)=false:=decide_eq_false (by omega)
    simp only[this,cond_false,Option.bind_some,if_neg hp,bne_self_eq_false]
/-! ### records -/
def bR0 (m:f5):Prop:=at7 m∧G8 m=true
def by4 (m:f5):Fr1:=(m.Kind,as2 m)
theorem bR0.fr {m:f5} (h:bR0 m):cm5 (by4 m):=by
 refine⟨dO4 h.2,fun c hc=> ?_,by have:=cL1 h.1 h.2;simp only[by4];omega⟩
 have:=dL0 h.1 h.2
 have hc' :c∈as2 m:=hc
 exact this c (by simp only[L1,Y1];simp[hc'])
def log (rs:List f5):List Int:=P2 (rs.map by4)
theorem dO0 (a b:List f5):log (a++b)=log a++log b:=by simp[log,es2]
theorem de0 (m:f5):log [m]=L1 m.Kind (as2 m):=by simp[log,P2,by4]
theorem ep4 {rs:List f5} (h:∀m∈rs,bR0 m):∀x∈rs.map by4,cm5 x:=fun x hx=>by
 obtain⟨m,hm,rfl⟩:=List.mem_map.1 hx
 exact(h m hm).fr
theorem dX2 {rs:List f5} (h:∀m∈rs,bR0 m):A1 (log rs):=dk3 (ep4 h)
/-- A disk: its records; what is cut; what is not synced. -/
structure bI6 (rs : List f5) (J : List Int) (s : List Int) : Prop where
  ok : ∀ m ∈ rs, bR0 m
  eq : s = log rs ++ J
  cut : ∃ e, pF J = .inl e
  jb : A1 J
theorem bI6.nil:bI6 [] [] []:=⟨fun m h=>by simp at h,rfl,⟨_,rfl⟩,fun c hc=>by simp at hc⟩
theorem bI6.crash {rs:List f5}{s:List Int} (h:bI6 rs [] s) {m:f5} (hm:bR0 m) (keep:Int):(bI6 (rs++ [m]) [] (s++bu0 keep (log [m])))∨(∃J,bI6 rs J (s++bu0 keep (log [m]))):=by
 have hl:(log [m]).length=(as2 m).length+8:=by rw[de0,bd4]
 obtain⟨h1,h2,h3⟩:=hm.fr
 unfold bu0
 generalize hn:(min (max keep 0) ((log [m]).length:Int)).toNat=n
 by_cases hf:n=(log [m]).length
 ·left
  refine⟨fun x hx=> ?_,?_,⟨_,rfl⟩,fun c hc=>by simp at hc⟩
  ·rcases List.mem_append.1 hx with hx | hx
   ·exact h.ok x hx
   ·rw[List.mem_singleton.1 hx];exact hm
  ·rw[hf,List.take_length,h.eq,dO0];simp
 ·right
  refine⟨(log [m]).take n,h.ok,by rw[h.eq];simp,?_,fun c hc=>dX2 (rs:= [m]) (fun x hx=>by rw[List.mem_singleton.1 hx];exact hm) c (List.mem_of_mem_take hc)⟩
  have:=eA1 h1 h2 h3 (j:=n) (by simp only[by4];omega)
  rw[de0]
  simpa only[by4] using this
theorem bI6.crash0 {rs:List f5}{J s:List Int} (h:bI6 rs J s) (keep:Int):bI6 rs J (s++bu0 keep []):=by
 simpa[bu0] using h
noncomputable def au8:=u5 (u6 Tryz.f55)
noncomputable def ck7 (y:Int×Int×Int×Bool×(List Int)×(List Int)):D×i0:=(.tup [.int .i64 y.1,.int .i64 y.2.1],[some ⟨4,true,[[(i5 3 (List.map (d8 .u8) y.2.2.2.2.1)),(i5 4 (List.map (d8 .u8) y.2.2.2.2.2)),.int .i64 y.2.2.1,.bool y.2.2.2.1]]⟩,none,none,some ⟨1,false,(List.map (d8 .u8) y.2.2.2.2.1)⟩,some ⟨1,false,(List.map (d8 .u8) y.2.2.2.2.2)⟩])
inductive au7 where
 | s0 (ae5:Int) (ad1:Bool) (b1 b2:List Int)
 | s1 (D8:List (List Int)) (aO3:Int) (D6:List Int) (t25 t26 q0:Int) (p8:Bool) (b3 b4:List Int)
 | s2 (D8:List (List Int)) (aO3:Int) (D6:List Int) (t25 t26:Int) (t46:Bool) (q0:Int) (p8:Bool) (m:f5) (b4 b5:List Int)
noncomputable def ck0:au7→M
 | .s0 ae5 ad1 b1 b2=>C3 Tryz.f55 [.ptr 0 0 0] [some ⟨4,true,[[(i5 1 (List.map (d8 .u8) b1)),(i5 2 (List.map (d8 .u8) b2)),.int .i64 ae5,.bool ad1]]⟩,some ⟨1,false,(List.map (d8 .u8) b1)⟩,some ⟨1,false,(List.map (d8 .u8) b2)⟩]
 | .s1 D8 aO3 D6 t25 t26 q0 p8 b3 b4=>⟨[.lpc (au8 [1,1,1,1,0,1,0,0]) 117440673,.blk 0,.code (au8 [1,1,1,1,1])],[(0,.ptr 0 0 0),(5,.sl false 1 (List.map (I0 1 (d8 .u8)) D8)),(7,.int .i64 aO3),(24,.sl false 1 (List.map (d8 .u8) D6)),(25,.int .i64 t25),(26,.int .i64 t26)],[some ⟨4,true,[[(i5 3 (List.map (d8 .u8) b3)),(i5 4 (List.map (d8 .u8) b4)),.int .i64 q0,.bool p8]]⟩,none,none,some ⟨1,false,(List.map (d8 .u8) b3)⟩,some ⟨1,false,(List.map (d8 .u8) b4)⟩]⟩
 | .s2 D8 aO3 D6 t25 t26 t46 q0 p8 m b4 b5=>⟨[.code (au8 [1,1,1,1,0,1,0,0,1,1,0,0,1,1,1]),.blk 1,.code (au8 [1,1,1,1,0,1,0,0,1,1,1]),.lp (au8 [1,1,1,1,0,1,0,0]) 117440673,.blk 0,.code (au8 [1,1,1,1,1])],[(0,.ptr 0 0 0),(5,.sl false 1 (List.map (I0 1 (d8 .u8)) D8)),(7,.int .i64 aO3),(10,.ptr 3 0 0),(24,.sl false 1 (List.map (d8 .u8) D6)),(25,.int .i64 t25),(26,.int .i64 t26),(46,.bool t46)],[some ⟨4,true,[[(i5 4 (List.map (d8 .u8) b4)),(i5 5 (List.map (d8 .u8) b5)),.int .i64 q0,.bool p8]]⟩,none,none,some ⟨26,false,[(f5.enc m)]⟩,some ⟨1,false,(List.map (d8 .u8) b4)⟩,some ⟨1,false,(List.map (d8 .u8) b5)⟩]⟩
abbrev bx9:=SOk E (Cx.of Tryz.f55 true 3) ck7 ck0
noncomputable def aK4 (ae5:Int) (ad1:Bool) (b1 b2:List Int):Option (au7⊕(Int×Int×Int×Bool×(List Int)×(List Int))):=((ai7 ae5 ad1 b1 b2).bind fun y1=>(bif ((y1.2.2.1:Int) !=0) then (some (.inr (0,y1.2.2.1,y1.2.2.2.1,y1.2.2.2.2.1,y1.2.2.2.2.2.1,y1.2.2.2.2.2.2))) else (some (.inl (.s1 y1.2.1 0 y1.1 (((List.map (d8 .u8) y1.1).length:Nat):Int) 0 y1.2.2.2.1 y1.2.2.2.2.1 y1.2.2.2.2.2.1 y1.2.2.2.2.2.2)))))
noncomputable def ad4 (D8:List (List Int)) (aO3:Int) (D6:List Int) (t25 t26 q0:Int) (p8:Bool) (b3 b4:List Int):Option (au7⊕(Int×Int×Int×Bool×(List Int)×(List Int))):=(bif (decide (t26<t25)) then (bif ((decide ((0:Int)≤t26))&&(decide (t26<(((List.map (d8 .u8) D6).length:Nat):Int)))) then (((D6)[t26.toNat]?).bind fun y3=>(bif ((decide ((0:Int)≤t26))&&(decide (t26<(((List.map (I0 1 (d8 .u8)) D8).length:Nat):Int)))) then (((D8)[t26.toNat]?).bind fun y6=>((bw0 y3 y6).bind fun y8=>(bif ((y8.2:Int)==0) then (some (.inl (.s2 D8 aO3 D6 t25 t26 ((y8.1.Kind:Int)==17) q0 p8 y8.1 b3 b4))) else (some (.inl (.s2 D8 aO3 D6 t25 t26 false q0 p8 y8.1 b3 b4)))))) else none)) else none) else (bif (decide (aO3≥1099511627776)) then (some (.inr (0,2,q0,p8,b3,b4))) else ((cg4 (⟨17,0,0,0,0,0,(IntKind.i64.wrap (aO3+1)),0,0,0,false,(⟨0,0,0,0,0,0,0,0,0,0,[],[]⟩:Plan),[],[],[]⟩:f5)).bind fun y11=>((aE1 y11.1 y11.2.1 q0 p8 b3 b4).bind fun y12=>(bif ((y12.1:Int) !=0) then (some (.inr (0,y12.1,y12.2.1,y12.2.2.1,b3,y12.2.2.2))) else ((aT2 y12.2.1 y12.2.2.1 b3 y12.2.2.2).bind fun y14=>(bif ((y14.1:Int) !=0) then (some (.inr (0,y14.1,y14.2.1,y14.2.2.1,y14.2.2.2.1,y14.2.2.2.2))) else (some (.inr ((IntKind.i64.wrap (aO3+1)),0,y14.2.1,y14.2.2.1,y14.2.2.2.1,y14.2.2.2.2))))))))))
noncomputable def aZ9 (D8:List (List Int)) (aO3:Int) (D6:List Int) (t25 t26:Int) (t46:Bool) (q0:Int) (p8:Bool) (m:f5) (b4 b5:List Int):Option (au7⊕(Int×Int×Int×Bool×(List Int)×(List Int))):=(bif t46 then (some (.inl (.s1 D8 (A0 aO3 m.Nonce) D6 t25 (IntKind.i64.wrap (t26+1)) q0 p8 b4 b5))) else (some (.inl (.s1 D8 aO3 D6 t25 (IntKind.i64.wrap (t26+1)) q0 p8 b4 b5))))
noncomputable def R2:au7→Option (au7⊕(Int×Int×Int×Bool×(List Int)×(List Int)))
 | .s0 ae5 ad1 b1 b2=>aK4 ae5 ad1 b1 b2
 | .s1 D8 aO3 D6 t25 t26 q0 p8 b3 b4=>ad4 D8 aO3 D6 t25 t26 q0 p8 b3 b4
 | .s2 D8 aO3 D6 t25 t26 t46 q0 p8 m b4 b5=>aZ9 D8 aO3 D6 t25 t26 t46 q0 p8 m b4 b5
theorem cG8 {ae5 ad1 b1 b2}:bx9 (.s0 ae5 ad1 b1 b2) (aK4 ae5 ad1 b1 b2):=by
 intro r x h ha;unfold aK4 at h
 refine zc 9 [] h (fun _=>bO0) fun y1 h=> ?_
 refine zs 15 h (fun h=> ?_) fun h=> ?_
 ·
  exact zt 7 h ha
 exact zj 15 h ha
theorem cL2 {D8 aO3 D6 t25 t26 q0 p8 b3 b4}:bx9 (.s1 D8 aO3 D6 t25 t26 q0 p8 b3 b4) (ad4 D8 aO3 D6 t25 t26 q0 p8 b3 b4):=by
 intro r x h ha;unfold ad4 at h
 refine zs 7 h (fun h=> ?_) fun h=> ?_
 ·
  refine zn 7 h fun h=> ?_
  refine zr 1 (d8 .u8) h fun y3 h=> ?_
  refine zn 9 h fun h=> ?_
  refine zr 1 (I0 1 (d8 .u8)) h fun y6 h=> ?_
  refine zc 1 [] h (fun _=>dk0) fun y8 h=> ?_
  refine zs 15 h (fun h=> ?_) fun h=> ?_
  ·
   exact zk 8 h ha
  exact zk 7 h ha
 refine zs 8 h (fun h=> ?_) fun h=> ?_
 ·
  exact zt 6 h ha
 refine zc 7 [some 1,some 1,some 1,some 1,some 1] h (fun _=>dK7) fun y11 h=> ?_
 refine zc 15 [] h (fun _=>cA6) fun y12 h=> ?_
 refine zs 8 h (fun h=> ?_) fun h=> ?_
 ·
  exact zt 7 h ha
 refine zc 6 [] h (fun _=>cN4) fun y14 h=> ?_
 refine zs 8 h (fun h=> ?_) fun h=> ?_
 ·
  exact zt 7 h ha
 exact zt 9 h ha
theorem cH6 {D8 aO3 D6 t25 t26 t46 q0 p8 m b4 b5}:bx9 (.s2 D8 aO3 D6 t25 t26 t46 q0 p8 m b4 b5) (aZ9 D8 aO3 D6 t25 t26 t46 q0 p8 m b4 b5):=by
 intro r x h ha;unfold aZ9 at h
 refine zs 1 h (fun h=> ?_) fun h=> ?_
 ·
  exact zj 14 h ha
 exact zj 7 h ha
noncomputable def bt8 (ae5:Int) (ad1:Bool) (b1 b2:List Int):Option (Int×Int×Int×Bool×(List Int)×(List Int)):=T3 R2 (.s0 ae5 ad1 b1 b2)
theorem dh3 {ae5:Int}{ad1:Bool}{b1 b2:List Int}{r:Int×Int×Int×Bool×(List Int)×(List Int)} (h:bt8 ae5 ad1 b1 b2=some r):i7 E 55 [.ptr 0 0 0] [some ⟨4,true,[[(i5 1 (List.map (d8 .u8) b1)),(i5 2 (List.map (d8 .u8) b2)),.int .i64 ae5,.bool ad1]]⟩,some ⟨1,false,(List.map (d8 .u8) b1)⟩,some ⟨1,false,(List.map (d8 .u8) b2)⟩] (Rs ck7 r):=sc (fn:=Tryz.f55) (k:=true) (m:=3) (H9:=ck0) h fun s=>by
 cases s with
 | s0=>exact cG8
 | s1=>exact cL2
 | s2=>exact cH6
noncomputable def bB1:=u5 (u6 Tryz.f25)
noncomputable def bC5 (c:d9) (ac9:Int) (y:Int×f3×Int×Bool×(List Int)×(List Int)):D×i0:=(.int .i64 y.1,[some ⟨88,true,[(f3.l y.2.1 (d9.l c [.int .i64 ac9,.ptr 1 0 0]))]⟩,some ⟨4,true,[[(i5 4 (List.map (d8 .u8) y.2.2.2.2.1)),(i5 5 (List.map (d8 .u8) y.2.2.2.2.2)),.int .i64 y.2.2.1,.bool y.2.2.2.1]]⟩,none,none,some ⟨1,false,(List.map (d8 .u8) y.2.2.2.2.1)⟩,some ⟨1,false,(List.map (d8 .u8) y.2.2.2.2.2)⟩])
inductive an3 where
 | s0 (aa4:f3) (ae5:Int) (ad1:Bool) (b2 b3:List Int)
 | s1 (D8:List (List Int)) (t34:List Int) (t35 N4:Int) (e9:f3) (q0:Int) (p8:Bool) (b4 b5:List Int)
noncomputable def bB8 (f4:Int) (c:d9) (ac9:Int):an3→M
 | .s0 aa4 ae5 ad1 b2 b3=>C3 Tryz.f25 [.ptr 0 0 0,.int .i64 f4] [some ⟨88,true,[(f3.l aa4 (d9.l c [.int .i64 ac9,.ptr 1 0 0]))]⟩,some ⟨4,true,[[(i5 2 (List.map (d8 .u8) b2)),(i5 3 (List.map (d8 .u8) b3)),.int .i64 ae5,.bool ad1]]⟩,some ⟨1,false,(List.map (d8 .u8) b2)⟩,some ⟨1,false,(List.map (d8 .u8) b3)⟩]
 | .s1 D8 t34 t35 N4 e9 q0 p8 b4 b5=>⟨[.lpc (bB1 [1,1,1,1,0,1,0,0]) 120259084355,.blk 0,.code (bB1 [1,1,1,1,1])],[(0,.ptr 0 0 0),(1,.int .i64 f4),(6,.sl false 1 (List.map (I0 1 (d8 .u8)) D8)),(34,.sl false 1 (List.map (d8 .u8) t34)),(35,.int .i64 t35),(36,.int .i64 N4)],[some ⟨88,true,[(f3.l e9 (d9.l c [.int .i64 ac9,.ptr 1 0 0]))]⟩,some ⟨4,true,[[(i5 4 (List.map (d8 .u8) b4)),(i5 5 (List.map (d8 .u8) b5)),.int .i64 q0,.bool p8]]⟩,none,none,some ⟨1,false,(List.map (d8 .u8) b4)⟩,some ⟨1,false,(List.map (d8 .u8) b5)⟩]⟩
abbrev bC1 (f4:Int) (c:d9) (ac9:Int):=SOk E (Cx.of Tryz.f25 true 4) (bC5 c ac9) (bB8 f4 c ac9)
noncomputable def an5 (f4:Int) (c:d9) (ac9:Int) (aa4:f3) (ae5:Int) (ad1:Bool) (b2 b3:List Int):Option (an3⊕(Int×f3×Int×Bool×(List Int)×(List Int))):=((aL8 c).bind fun y1=>((ai7 ae5 ad1 b2 b3).bind fun y2=>(bif ((y2.2.2.1:Int) !=0) then (some (.inr (y2.2.2.1,(⟨0,y1,0,[],(⟨0,0,0,0⟩:u4),(⟨false,0⟩:aa3),(⟨0,0,0,(⟨0,0,0,0,0,0,0,0,0,0,[],[]⟩:Plan),0,(⟨0,0,0,0,0,0,0,0,0,0,[],[]⟩:Plan),0,0⟩:l7),0,0,0,(⟨false,0⟩:aa3)⟩:f3),y2.2.2.2.1,y2.2.2.2.2.1,y2.2.2.2.2.2.1,y2.2.2.2.2.2.2))) else (some (.inl (.s1 y2.2.1 y2.1 (((List.map (d8 .u8) y2.1).length:Nat):Int) 0 (⟨0,y1,0,[],(⟨0,0,0,0⟩:u4),(⟨false,0⟩:aa3),(⟨0,0,0,(⟨0,0,0,0,0,0,0,0,0,0,[],[]⟩:Plan),0,(⟨0,0,0,0,0,0,0,0,0,0,[],[]⟩:Plan),0,0⟩:l7),0,0,0,(⟨false,0⟩:aa3)⟩:f3) y2.2.2.2.1 y2.2.2.2.2.1 y2.2.2.2.2.2.1 y2.2.2.2.2.2.2))))))
noncomputable def U2 (f4:Int) (c:d9) (ac9:Int) (D8:List (List Int)) (t34:List Int) (t35 N4:Int) (e9:f3) (q0:Int) (p8:Bool) (b4 b5:List Int):Option (an3⊕(Int×f3×Int×Bool×(List Int)×(List Int))):=(bif (decide (N4<t35)) then (bif ((decide ((0:Int)≤N4))&&(decide (N4<(((List.map (d8 .u8) t34).length:Nat):Int)))) then (((t34)[N4.toNat]?).bind fun y3=>(bif ((decide ((0:Int)≤N4))&&(decide (N4<(((List.map (I0 1 (d8 .u8)) D8).length:Nat):Int)))) then (((D8)[N4.toNat]?).bind fun y6=>((bw0 y3 y6).bind fun y8=>(bif ((y8.2:Int)==0) then (bif ((y8.1.Kind:Int)==17) then (bif (decide ((y8.1.Nonce:Int)≥1048575)) then (some (.inr (2,e9,q0,p8,b4,b5))) else (some (.inl (.s1 D8 t34 t35 (IntKind.i64.wrap (N4+1)) e9 q0 p8 b4 b5)))) else (some (.inl (.s1 D8 t34 t35 (IntKind.i64.wrap (N4+1)) e9 q0 p8 b4 b5)))) else (some (.inl (.s1 D8 t34 t35 (IntKind.i64.wrap (N4+1)) e9 q0 p8 b4 b5)))))) else none)) else none) else ((bt8 q0 p8 b4 b5).bind fun y12=>(bif ((y12.2.1:Int) !=0) then (some (.inr (y12.2.1,e9,y12.2.2.1,y12.2.2.2.1,y12.2.2.2.2.1,y12.2.2.2.2.2))) else (some (.inr (0,(⟨y12.1,e9.known,f4,e9.votes,e9.hold,e9.asked,e9.prop,e9.made,e9.top,e9.sealed,e9.told⟩:f3),y12.2.2.1,y12.2.2.2.1,y12.2.2.2.2.1,y12.2.2.2.2.2))))))
noncomputable def S9 (f4:Int) (c:d9) (ac9:Int):an3→Option (an3⊕(Int×f3×Int×Bool×(List Int)×(List Int)))
 | .s0 aa4 ae5 ad1 b2 b3=>an5 f4 c ac9 aa4 ae5 ad1 b2 b3
 | .s1 D8 t34 t35 N4 e9 q0 p8 b4 b5=>U2 f4 c ac9 D8 t34 t35 N4 e9 q0 p8 b4 b5
theorem cb0 {f4 c ac9 aa4 ae5 ad1 b2 b3}:bC1 f4 c ac9 (.s0 aa4 ae5 ad1 b2 b3) (an5 f4 c ac9 aa4 ae5 ad1 b2 b3):=by
 intro r x h ha;unfold an5 at h
 refine zc 13 [] h (fun _=>bX4) fun y1 h=> ?_
 refine zc 15 [] h (fun _=>bO0) fun y2 h=> ?_
 refine zs 15 h (fun h=> ?_) fun h=> ?_
 ·
  refine zf 5 [.blk 0 [some 3,some 1,some 1,some 1,some 1]] ?_
  exact zt 1 h ha
 exact zk 11 h ha [.blk 0 [some 3,some 1,some 1,some 1,some 1]]
theorem cb9 {f4 c ac9 D8 t34 t35 N4 e9 q0 p8 b4 b5}:bC1 f4 c ac9 (.s1 D8 t34 t35 N4 e9 q0 p8 b4 b5) (U2 f4 c ac9 D8 t34 t35 N4 e9 q0 p8 b4 b5):=by
 intro r x h ha;unfold U2 at h
 refine zs 7 h (fun h=> ?_) fun h=> ?_
 ·
  refine zn 7 h fun h=> ?_
  refine zr 1 (d8 .u8) h fun y3 h=> ?_
  refine zn 9 h fun h=> ?_
  refine zr 1 (I0 1 (d8 .u8)) h fun y6 h=> ?_
  refine zc 1 [] h (fun _=>dk0) fun y8 h=> ?_
  refine zs 15 h (fun h=> ?_) fun h=> ?_
  ·
   refine zs 9 h (fun h=> ?_) fun h=> ?_
   ·
    refine zs 9 h (fun h=> ?_) fun h=> ?_
    ·
     exact zt 5 h ha
    exact zj 7 h ha
   exact zj 16 h ha
  exact zj 25 h ha
 refine zc 9 [] h (fun _=>dh3) fun y12 h=> ?_
 refine zs 13 h (fun h=> ?_) fun h=> ?_
 ·
  exact zt 6 h ha
 exact zt 25 h ha
noncomputable def ax9 (f4:Int) (aa4:f3) (c:d9) (ac9 ae5:Int) (ad1:Bool) (b2 b3:List Int):Option (Int×f3×Int×Bool×(List Int)×(List Int)):=T3 (S9 f4 c ac9) (.s0 aa4 ae5 ad1 b2 b3)
theorem bw8 {f4:Int}{aa4:f3}{c:d9}{ac9 ae5:Int}{ad1:Bool}{b2 b3:List Int}{r:Int×f3×Int×Bool×(List Int)×(List Int)} (h:ax9 f4 aa4 c ac9 ae5 ad1 b2 b3=some r):i7 E 25 [.ptr 0 0 0,.int .i64 f4] [some ⟨88,true,[(f3.l aa4 (d9.l c [.int .i64 ac9,.ptr 1 0 0]))]⟩,some ⟨4,true,[[(i5 2 (List.map (d8 .u8) b2)),(i5 3 (List.map (d8 .u8) b3)),.int .i64 ae5,.bool ad1]]⟩,some ⟨1,false,(List.map (d8 .u8) b2)⟩,some ⟨1,false,(List.map (d8 .u8) b3)⟩] (Rs (bC5 c ac9) r):=sc (fn:=Tryz.f25) (k:=true) (m:=4) (H9:=(bB8 f4 c ac9)) h fun s=>by
 cases s with
 | s0=>exact cb0
 | s1=>exact cb9
end Go.RX.L
