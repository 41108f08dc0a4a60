/-
  Words and walks for DeciderBallots. No condition.
-/
import Derived.Test.YtajehicfjidaiaaGreatDoorDeciderBallotsY6
set_option linter.unusedSectionVars false
set_option linter.unnecessarySimpa false
set_option linter.unusedSimpArgs false
set_option linter.unusedVariables false
set_option maxRecDepth 100000
set_option maxHeartbeats 4000000
namespace Go.RX.L
open Go Go.RX Go.Proofs
attribute [local irreducible] f6
noncomputable def cg1:=p8 (q0 Tryz.f124)
noncomputable def ch3 (y:(List Int)×Int):D×f4:=(.tup [.sl false 1 (List.map (d7 .u8) y.1),.int .i64 y.2],[])
inductive aK0 where
 | s0 (kind:Int) (body:List Int)
 | s1 (sum shift:Int) (b:List Int)
noncomputable def ch2:aK0→M
 | .s0 kind body=>A5 Tryz.f124 [.int .u8 kind,.sl false 1 (List.map (d7 .u8) body)] []
 | .s1 sum shift b=>⟨[.lpc (cg1 [1,1,1,1,1,0,1,0,0]) 896,.blk 0,.code (cg1 [1,1,1,1,1,1])],[(7,(f5 0 (List.map (d7 .u8) b))),(8,.int .u32 sum),(9,.int .i64 shift)],[some ⟨1,false,(List.map (d7 .u8) b)⟩]⟩
abbrev cf1:=SOk E (Cx.of Tryz.f124 false 0) ch3 ch2
noncomputable def aM4 (kind:Int) (body:List Int):Option (aK0⊕((List Int)×Int)):=(bif (decide (((((List.map (d7 .u8) body).length:Nat):Int):Int)>8192)) then (some (.inr ([],2))) else (bif (decide ((4+(List.map (d7 .u8) body).length)*1≤i6)) then (bif (decide ((1:Int)≤(((List.map (d7 .u8) ([247,kind,(IntKind.u8.wrap ((n4 .i64 (((List.map (d7 .u8) body).length:Nat):Int) 8))),(IntKind.u8.wrap ((((List.map (d7 .u8) body).length:Nat):Int)))]++body)).length:Nat):Int))) then (bif (Nat.ble (1+((List.map (d7 .u8) ([247,kind,(IntKind.u8.wrap ((n4 .i64 (((List.map (d7 .u8) body).length:Nat):Int) 8))),(IntKind.u8.wrap ((((List.map (d7 .u8) body).length:Nat):Int)))]++body)).length-1)) ((List.map (d7 .u8) ([247,kind,(IntKind.u8.wrap ((n4 .i64 (((List.map (d7 .u8) body).length:Nat):Int) 8))),(IntKind.u8.wrap ((((List.map (d7 .u8) body).length:Nat):Int)))]++body)).length)) then ((bp7 (List.take ((List.map (d7 .u8) ([247,kind,(IntKind.u8.wrap ((n4 .i64 (((List.map (d7 .u8) body).length:Nat):Int) 8))),(IntKind.u8.wrap ((((List.map (d7 .u8) body).length:Nat):Int)))]++body)).length-1) (List.drop 1 ([247,kind,(IntKind.u8.wrap ((n4 .i64 (((List.map (d7 .u8) body).length:Nat):Int) 8))),(IntKind.u8.wrap ((((List.map (d7 .u8) body).length:Nat):Int)))]++body)))).bind fun y5=>(some (.inl (.s1 y5 24 ([247,kind,(IntKind.u8.wrap ((n4 .i64 (((List.map (d7 .u8) body).length:Nat):Int) 8))),(IntKind.u8.wrap ((((List.map (d7 .u8) body).length:Nat):Int)))]++body))))) else none) else none) else none))
noncomputable def ap4 (sum shift:Int) (b:List Int):Option (aK0⊕((List Int)×Int)):=(bif (decide ((shift:Int)≥0)) then (bif (!decide ((shift:Int)<0)) then (bif (decide (((List.map (d7 .u8) b).length+1)*1≤i6)) then (some (.inl (.s1 sum (IntKind.i64.wrap (shift-8)) (b++ [(IntKind.u8.wrap ((n4 .u32 sum shift)))])))) else none) else none) else (some (.inr (b,0))))
noncomputable def S6:aK0→Option (aK0⊕((List Int)×Int))
 | .s0 kind body=>aM4 kind body
 | .s1 sum shift b=>ap4 sum shift b
theorem cC8 {kind body}:cf1 (.s0 kind body) (aM4 kind body):=by
 intro r x h ha;unfold aM4 at h
 refine zs 18 h (fun h=> ?_) fun h=> ?_
 ·
  exact zt 6 h ha [.slot 0 [some 1]]
 refine zn 13 h fun h=> ?_
 refine zw 1 (a:=((List.map (d7 .u8) ([247,kind,(IntKind.u8.wrap ((n4 .i64 (((List.map (d7 .u8) body).length:Nat):Int) 8))),(IntKind.u8.wrap ((((List.map (d7 .u8) body).length:Nat):Int)))]))++(List.map (d7 .u8) body))) (b:=(List.map (d7 .u8) ([247,kind,(IntKind.u8.wrap ((n4 .i64 (((List.map (d7 .u8) body).length:Nat):Int) 8))),(IntKind.u8.wrap ((((List.map (d7 .u8) body).length:Nat):Int)))]++body))) (by simp only [z9,E5,List.map_append,List.map_take,List.map_drop]) ?_
 refine zn 6 h fun h=> ?_
 refine zn 1 h fun h=> ?_
 refine zcE 0 [] (args1:= [.sl false 1 (List.take ((List.map (d7 .u8) ([247,kind,(IntKind.u8.wrap ((n4 .i64 (((List.map (d7 .u8) body).length:Nat):Int) 8))),(IntKind.u8.wrap ((((List.map (d7 .u8) body).length:Nat):Int)))]++body)).length-1) (List.drop 1 (List.map (d7 .u8) ([247,kind,(IntKind.u8.wrap ((n4 .i64 (((List.map (d7 .u8) body).length:Nat):Int) 8))),(IntKind.u8.wrap ((((List.map (d7 .u8) body).length:Nat):Int)))]++body))))]) h (fun _=>cu1) ⟨by simp [d8.enc,d8.l,i7.enc,i7.l,p5.enc,p5.l,r6.enc,r6.l,e9.enc,e9.l,Op.enc,Op.l,Plan.enc,Plan.l,r9.enc,r9.l,i8.enc,i8.l,p7.enc,p7.l,m8.enc,m8.l,d9.enc,d9.l,List.take_of_length_le,List.map_take,List.map_drop],rfl⟩ fun y5 h=> ?_
 exact zj 10 h ha
theorem cB5 {sum shift b}:cf1 (.s1 sum shift b) (ap4 sum shift b):=by
 intro r x h ha;unfold ap4 at h
 refine zs 8 h (fun h=> ?_) fun h=> ?_
 ·
  refine zn 8 h fun h=> ?_
  refine zn 4 h fun h=> ?_
  refine za 0 (d7 .u8) b ([(IntKind.u8.wrap ((n4 .u32 sum shift)))]) ?_
  exact zj 9 h ha
 refine zm 8 (b:=(Nat.ble (0+(List.map (d7 .u8) b).length) ((List.map (d7 .u8) b).length))) (v6 _) ?_
 obtain rfl:=Option.some.inj h
 have hv:=ha
 simp only [aT9] at hv
 subst hv
 exact au1 [] (d1:= .tup [.sl false 1 (List.take ((List.map (d7 .u8) b).length) (List.drop 0 (List.map (d7 .u8) b))),.int .i64 0]) (d:= .tup [.sl false 1 (List.map (d7 .u8) b),.int .i64 0]) (s1:= []) (s:= []) (by kernel_rfl) ⟨by simp [d8.enc,d8.l,i7.enc,i7.l,p5.enc,p5.l,r6.enc,r6.l,e9.enc,e9.l,Op.enc,Op.l,Plan.enc,Plan.l,r9.enc,r9.l,i8.enc,i8.l,p7.enc,p7.l,m8.enc,m8.l,d9.enc,d9.l,List.take_of_length_le,List.map_take,List.map_drop],rfl⟩ ⟨rfl,rfl⟩ Cx.fin_of
noncomputable def bv7 (kind:Int) (body:List Int):Option ((List Int)×Int):=V6 S6 (.s0 kind body)
theorem da4 {kind:Int}{body:List Int}{r:(List Int)×Int} (h:bv7 kind body=some r):i0 E 124 [.int .u8 kind,.sl false 1 (List.map (d7 .u8) body)] [] (Rs ch3 r):=sc (fn:=Tryz.f124) (k:=false) (m:=0) (stM:=ch2) h fun s=>by
 cases s with
 | s0=>exact cC8
 | s1=>exact cB5
end Go.RX.L

namespace Go.RX.L
open Go Go.RX Go.Proofs
attribute [local irreducible] f6
noncomputable def cx7 (b0 y:List Int):D×f4:=((f5 1 (List.map (d7 .u8) y)),[some ⟨1,false,(List.map (d7 .u8) b0)⟩,some ⟨1,false,(List.map (d7 .u8) y)⟩])
noncomputable def aD4 (b_at b_ln b_cp:Nat) (b0:List Int):Option (List Int):=(bif (Nat.beq ((List.take b_ln (List.drop b_at (List.map (d7 .u8) b0))).length) b_ln) then (bif (decide ((0+(List.take b_ln (List.drop b_at (List.map (d7 .u8) b0))).length)*1≤i6)) then (some ([]++(List.take b_ln (List.drop b_at b0)))) else none) else none)
theorem cn8 {b_at b_ln b_cp:Nat}{b0 r:List Int} (h:aD4 b_at b_ln b_cp b0=some r):i0 E 88 [.msl 0 b_at b_ln b_cp false] [some ⟨1,false,(List.map (d7 .u8) b0)⟩] (Rs (cx7 b0) r):=so (fn:=Tryz.f88) (k:=true) (m:=1) h<| by
 intro r h;unfold aD4 at h
 refine l8 hm 9 _ ?_
 refine cr1 (Nat.beq b_ln 0) (by kernel_rfl) ?_ (fun h1=> ?_)
 ·--it is not nil
  refine zn 9 h fun h=> ?_
  refine zn 0 h fun h=> ?_
  refine zw 1 (a:=((List.map (d7 .u8) ([]))++(List.take b_ln (List.drop b_at (List.map (d7 .u8) b0))))) (b:=(List.map (d7 .u8) ([]++(List.take b_ln (List.drop b_at b0))))) (by simp only [z9,E5,List.map_append,List.map_take,List.map_drop]) ?_
  exact zu 3 h
 ·--nil
  obtain rfl:b_ln=0:=Nat.eq_of_beq_eq_true h1
  simp [i6] at h
  first | subst h | (obtain ⟨_,h⟩:=h;subst h)
  refine l8 hm 8 _ ?_
  exact aL1 [.mat 0 1] (d:= .msl 1 0 0 0 false) (s:= [some ⟨1,false,(List.map (d7 .u8) b0)⟩,some ⟨1,false,[]⟩]) (by kernel_rfl) Cx.fin_of ⟨rfl,rfl⟩
end Go.RX.L

namespace Go.RX.L
open Go Go.RX Go.Proofs
attribute [local irreducible] f6
noncomputable def cc3 (b0 y:List Int):D×f4:=((f5 1 (List.map (d7 .u8) y)),[some ⟨1,false,(List.map (d7 .u8) b0)⟩,some ⟨1,false,(List.map (d7 .u8) y)⟩])
noncomputable def ao4 (b_ln b_cp:Nat) (b0:List Int):Option (List Int):=(bif (Nat.beq ((List.take b_ln (List.drop 0 (List.map (d7 .u8) b0))).length) b_ln) then (bif (decide ((0+(List.take b_ln (List.drop 0 (List.map (d7 .u8) b0))).length)*1≤i6)) then (some ([]++(List.take b_ln (List.drop 0 b0)))) else none) else none)
theorem bR2 {b_ln b_cp:Nat}{b0 r:List Int} (h:ao4 b_ln b_cp b0=some r):i0 E 88 [.msl 0 0 b_ln b_cp false] [some ⟨1,false,(List.map (d7 .u8) b0)⟩] (Rs (cc3 b0) r):=so (fn:=Tryz.f88) (k:=true) (m:=1) h<| by
 intro r h;unfold ao4 at h
 refine l8 hm 9 _ ?_
 refine cr1 (Nat.beq b_ln 0) (by kernel_rfl) ?_ (fun h1=> ?_)
 ·--it is not nil
  refine zn 9 h fun h=> ?_
  refine zn 0 h fun h=> ?_
  refine zw 1 (a:=((List.map (d7 .u8) ([]))++(List.take b_ln (List.drop 0 (List.map (d7 .u8) b0))))) (b:=(List.map (d7 .u8) ([]++(List.take b_ln (List.drop 0 b0))))) (by simp only [z9,E5,List.map_append,List.map_take,List.map_drop]) ?_
  exact zu 3 h
 ·--nil
  obtain rfl:b_ln=0:=Nat.eq_of_beq_eq_true h1
  simp [i6] at h
  first | subst h | (obtain ⟨_,h⟩:=h;subst h)
  refine l8 hm 8 _ ?_
  exact aL1 [.mat 0 1] (d:= .msl 1 0 0 0 false) (s:= [some ⟨1,false,(List.map (d7 .u8) b0)⟩,some ⟨1,false,[]⟩]) (by kernel_rfl) Cx.fin_of ⟨rfl,rfl⟩
end Go.RX.L

namespace Go.RX.L
open Go Go.RX Go.Proofs
attribute [local irreducible] f6
noncomputable def cS2 (b0:List Int) (y:Unit):D×f4:=(.fn 146 [] [.ptr 1 0 0],[some ⟨1,false,(List.map (d7 .u8) b0)⟩,some ⟨1,true,[[(f5 0 (List.map (d7 .u8) b0))]]⟩])
noncomputable def bo1 (b0:List Int):Option Unit:=(some ())
theorem cN7 {b0:List Int}{r:Unit} (h:bo1 b0=some r):i0 E 117 [(f5 0 (List.map (d7 .u8) b0))] [some ⟨1,false,(List.map (d7 .u8) b0)⟩] (Rs (cS2 b0) r):=so (fn:=Tryz.f117) (k:=true) (m:=1) h<| by
 intro r h;unfold bo1 at h
 exact zu 11 h
end Go.RX.L

namespace Go.RX.L
open Go Go.RX Go.Proofs
attribute [local irreducible] f6
noncomputable def bE7:=p8 (q0 Tryz.f159)
noncomputable def bA2 (y:Int):D×f4:=(.int .i64 y,[])
inductive at1 where
 | s0 (b:List Int)
 | s1 (n:Int) (t6:List Int) (t7 t8:Int)
noncomputable def bE0:at1→M
 | .s0 b=>A5 Tryz.f159 [.sl false 1 (List.map (d7 .u8) b)] []
 | .s1 n t6 t7 t8=>⟨[.lpc (bE7 [1,1,0,1,0,0]) 456,.blk 0,.code (bE7 [1,1,1])],[(3,.int .i64 n),(6,.sl false 1 (List.map (d7 .u8) t6)),(7,.int .i64 t7),(8,.int .i64 t8)],[]⟩
abbrev bE6:=SOk E (Cx.of Tryz.f159 false 0) bA2 bE0
noncomputable def aG8 (b:List Int):Option (at1⊕Int):=(some (.inl (.s1 0 b (((List.map (d7 .u8) b).length:Nat):Int) 0)))
noncomputable def as0 (n:Int) (t6:List Int) (t7 t8:Int):Option (at1⊕Int):=(bif (decide ((t8:Int)<t7)) then (bif ((decide ((0:Int)≤t8))&&(decide ((t8:Int)<(((List.map (d7 .u8) t6).length:Nat):Int)))) then (((t6)[t8.toNat]?).bind fun y3=>(some (.inl (.s1 (IntKind.i64.wrap ((F0 .i64 n 8)+(IntKind.i64.wrap (y3)))) t6 t7 (IntKind.i64.wrap (t8+1)))))) else none) else (some (.inr n)))
noncomputable def U7:at1→Option (at1⊕Int)
 | .s0 b=>aG8 b
 | .s1 n t6 t7 t8=>as0 n t6 t7 t8
theorem cd1 {b}:bE6 (.s0 b) (aG8 b):=by
 intro r x h ha;unfold aG8 at h
 exact zj 18 h ha
theorem cb4 {n t6 t7 t8}:bE6 (.s1 n t6 t7 t8) (as0 n t6 t7 t8):=by
 intro r x h ha;unfold as0 at h
 refine zs 7 h (fun h=> ?_) fun h=> ?_
 ·
  refine zn 6 h fun h=> ?_
  refine zr 1 (d7 .u8) h fun y3 h=> ?_
  exact zj 17 h ha
 exact zt 7 h ha
noncomputable def aD0 (b:List Int):Option Int:=V6 U7 (.s0 b)
theorem bw4 {b:List Int}{r:Int} (h:aD0 b=some r):i0 E 159 [.sl false 1 (List.map (d7 .u8) b)] [] (Rs bA2 r):=sc (fn:=Tryz.f159) (k:=false) (m:=0) (stM:=bE0) h fun s=>by
 cases s with
 | s0=>exact cd1
 | s1=>exact cb4
end Go.RX.L

namespace Go.RX.L
open Go Go.RX Go.Proofs
attribute [local irreducible] f6
noncomputable def aM3:=p8 (q0 Tryz.f147)
noncomputable def cg4 (b0:List Int) (y:Int×(List Int)×Int×Int):D×f4:=(.tup [.int .u8 y.1,.sl false 1 (List.map (d7 .u8) y.2.1),.int .i64 y.2.2.1,.int .i64 y.2.2.2],[some ⟨1,false,(List.map (d7 .u8) b0)⟩])
abbrev by9 (at_:Int) (b0:List Int):=AOk E (Cx.of Tryz.f147 false 1) (cg4 b0)
noncomputable def cY5 (at_:Int) (b0:List Int) (e n:Int) (restlo restln restcp:Nat):M:=⟨[.code (aM3 [1,1,1,1,1])],[(1,.int .i64 at_),(8,.int .i64 e),(9,.int .i64 n),(10,.msl 0 restlo restln restcp false)],[some ⟨1,false,(List.map (d7 .u8) b0)⟩]⟩
noncomputable def Q5 (at_:Int) (b0:List Int) (e n:Int) (restlo restln restcp:Nat):Option (Int×(List Int)×Int×Int):=(bif ((e:Int) !=0) then (some (0,[],0,e)) else (bif (decide ((1:Int)<((restln:Nat):Int))) then (((b0)[(restlo+1)]?).bind fun y3=>(bif ((decide (((0:Nat):Int)≤(IntKind.i64.wrap ((4:Int)+n))))&&(decide (((IntKind.i64.wrap ((4:Int)+n)):Int)≤((restcp:Nat):Int)))) then (bif (decide ((4:Int)≤(((IntKind.i64.wrap ((4:Int)+n)).toNat:Nat):Int))) then ((aD4 (restlo+4) ((IntKind.i64.wrap ((4:Int)+n)).toNat-4) (restcp-4) b0).bind fun y7=>(some (y3,y7,(IntKind.i64.wrap ((IntKind.i64.wrap ((IntKind.i64.wrap (at_+4))+n))+4)),0))) else none) else none)) else none))
theorem ah6 {at_ b0 e n restlo restln restcp}:by9 at_ b0 (cY5 at_ b0 e n restlo restln restcp) (Q5 at_ b0 e n restlo restln restcp):=by
 intro r h;unfold Q5 at h
 refine zs 7 h (fun h=> ?_) fun h=> ?_
 ·
  exact zu 9 h [.slot 0 [some 1]]
 refine zn 3 h fun h=> ?_
 refine zr 0 (d7 .u8) h fun y3 h=> ?_
 refine zn 0 h fun h=> ?_
 refine zn 0 h fun h=> ?_
 refine zdR 0 [] h (fun _=>cn8) fun y7 h=> ?_
 refine zm 1 (b:=(Nat.ble (0+(List.map (d7 .u8) y7).length) ((List.map (d7 .u8) y7).length))) (v6 _) ?_
 obtain rfl:=Option.some.inj h
 exact au1 [] (d1:= .tup [.int .u8 y3,.sl false 1 (List.take ((List.map (d7 .u8) y7).length) (List.drop 0 (List.map (d7 .u8) y7))),.int .i64 (IntKind.i64.wrap ((IntKind.i64.wrap ((IntKind.i64.wrap (at_+4))+n))+4)),.int .i64 0]) (d:= .tup [.int .u8 y3,.sl false 1 (List.map (d7 .u8) y7),.int .i64 (IntKind.i64.wrap ((IntKind.i64.wrap ((IntKind.i64.wrap (at_+4))+n))+4)),.int .i64 0]) (s1:= [some ⟨1,false,(List.map (d7 .u8) b0)⟩]) (s:= [some ⟨1,false,(List.map (d7 .u8) b0)⟩]) (by kernel_rfl) ⟨by simp [d8.enc,d8.l,i7.enc,i7.l,p5.enc,p5.l,r6.enc,r6.l,e9.enc,e9.l,Op.enc,Op.l,Plan.enc,Plan.l,r9.enc,r9.l,i8.enc,i8.l,p7.enc,p7.l,m8.enc,m8.l,d9.enc,d9.l,List.take_of_length_le,List.map_take,List.map_drop],rfl⟩ ⟨rfl,rfl⟩ Cx.fin_of
noncomputable def cW1 (at_:Int) (b0:List Int) (restlo restln restcp:Nat) (t48:Bool):M:=⟨[.code (aM3 [1,1,1,1,0,0,1]),.blk 0,.code (aM3 [1,1,1,1,1])],[(1,.int .i64 at_),(8,.int .i64 0),(9,.int .i64 0),(10,.msl 0 restlo restln restcp false),(48,.bool t48)],[some ⟨1,false,(List.map (d7 .u8) b0)⟩]⟩
noncomputable def ag7 (at_:Int) (b0:List Int) (restlo restln restcp:Nat) (t48:Bool):Option (Int×(List Int)×Int×Int):=(bif t48 then (Q5 at_ b0 32 0 restlo restln restcp) else (bif (decide ((((restln:Nat):Int):Int)<8)) then (Q5 at_ b0 31 0 restlo restln restcp) else (bif (decide ((4:Int)≤((restcp:Nat):Int))) then (bif (Nat.ble ((restlo+2)+2) ((List.map (d7 .u8) b0).length)) then ((aD0 (List.take 2 (List.drop (restlo+2) b0))).bind fun y5=>(bif (decide ((y5:Int)>8192)) then (Q5 at_ b0 2 y5 restlo restln restcp) else (bif (decide ((y5:Int)>(IntKind.i64.wrap ((IntKind.i64.wrap (((restln:Nat):Int)-4))-4)))) then (Q5 at_ b0 31 y5 restlo restln restcp) else (bif ((decide (((0:Nat):Int)≤(IntKind.i64.wrap ((4:Int)+y5))))&&(decide (((IntKind.i64.wrap ((4:Int)+y5)):Int)≤((restcp:Nat):Int)))) then (bif (decide ((1:Int)≤(((IntKind.i64.wrap ((4:Int)+y5)).toNat:Nat):Int))) then (bif (Nat.ble ((restlo+1)+((IntKind.i64.wrap ((4:Int)+y5)).toNat-1)) ((List.map (d7 .u8) b0).length)) then ((bp7 (List.take ((IntKind.i64.wrap ((4:Int)+y5)).toNat-1) (List.drop (restlo+1) b0))).bind fun y11=>(bif ((decide (((0:Nat):Int)≤(IntKind.i64.wrap ((IntKind.i64.wrap ((4:Int)+y5))+4))))&&(decide (((IntKind.i64.wrap ((IntKind.i64.wrap ((4:Int)+y5))+4)):Int)≤((restcp:Nat):Int)))) then (bif ((decide (((0:Nat):Int)≤(IntKind.i64.wrap ((4:Int)+y5))))&&(decide (((IntKind.i64.wrap ((4:Int)+y5)):Int)≤(((IntKind.i64.wrap ((IntKind.i64.wrap ((4:Int)+y5))+4)).toNat:Nat):Int)))) then (bif (Nat.ble ((restlo+(IntKind.i64.wrap ((4:Int)+y5)).toNat)+((IntKind.i64.wrap ((IntKind.i64.wrap ((4:Int)+y5))+4)).toNat-(IntKind.i64.wrap ((4:Int)+y5)).toNat)) ((List.map (d7 .u8) b0).length)) then ((aD0 (List.take ((IntKind.i64.wrap ((IntKind.i64.wrap ((4:Int)+y5))+4)).toNat-(IntKind.i64.wrap ((4:Int)+y5)).toNat) (List.drop (restlo+(IntKind.i64.wrap ((4:Int)+y5)).toNat) b0))).bind fun y15=>(bif (((IntKind.i64.wrap (y11)):Int) !=y15) then (Q5 at_ b0 33 y5 restlo restln restcp) else (Q5 at_ b0 0 y5 restlo restln restcp))) else none) else none) else none)) else none) else none) else none)))) else none) else none)))
theorem bA8 {at_ b0 restlo restln restcp t48}:by9 at_ b0 (cW1 at_ b0 restlo restln restcp t48) (ag7 at_ b0 restlo restln restcp t48):=by
 intro r h;unfold ag7 at h
 refine zs 1 h (fun h=> ?_) fun h=> ?_
 ·
  exact zg 4 (ah6 h)
 refine zs 8 h (fun h=> ?_) fun h=> ?_
 ·
  exact zg 4 (ah6 h)
 refine zn 4 h fun h=> ?_
 refine zn 2 h fun h=> ?_
 refine zcE 0 [] (args1:= [.sl false 1 (List.take 2 (List.drop (restlo+2) (List.map (d7 .u8) b0)))]) h (fun _=>bw4) ⟨by simp [d8.enc,d8.l,i7.enc,i7.l,p5.enc,p5.l,r6.enc,r6.l,e9.enc,e9.l,Op.enc,Op.l,Plan.enc,Plan.l,r9.enc,r9.l,i8.enc,i8.l,p7.enc,p7.l,m8.enc,m8.l,d9.enc,d9.l,List.take_of_length_le,List.map_take,List.map_drop],rfl⟩ fun y5 h=> ?_
 refine zs 8 h (fun h=> ?_) fun h=> ?_
 ·
  exact zg 4 (ah6 h)
 refine zs 10 h (fun h=> ?_) fun h=> ?_
 ·
  exact zg 4 (ah6 h)
 refine zn 2 h fun h=> ?_
 refine zn 0 h fun h=> ?_
 refine zn 0 h fun h=> ?_
 refine zdE 0 [] (args1:= [.sl false 1 (List.take ((IntKind.i64.wrap ((4:Int)+y5)).toNat-1) (List.drop (restlo+1) (List.map (d7 .u8) b0)))]) h (fun _=>cu1) (by simp [d8.enc,d8.l,i7.enc,i7.l,p5.enc,p5.l,r6.enc,r6.l,e9.enc,e9.l,Op.enc,Op.l,Plan.enc,Plan.l,r9.enc,r9.l,i8.enc,i8.l,p7.enc,p7.l,m8.enc,m8.l,d9.enc,d9.l,List.take_of_length_le,List.map_take,List.map_drop]) fun y11 h=> ?_
 refine zn 0 h fun h=> ?_
 refine zn 0 h fun h=> ?_
 refine zn 0 h fun h=> ?_
 refine zdE 0 [] (args1:= [.sl false 1 (List.take ((IntKind.i64.wrap ((IntKind.i64.wrap ((4:Int)+y5))+4)).toNat-(IntKind.i64.wrap ((4:Int)+y5)).toNat) (List.drop (restlo+(IntKind.i64.wrap ((4:Int)+y5)).toNat) (List.map (d7 .u8) b0)))]) h (fun _=>bw4) (by simp [d8.enc,d8.l,i7.enc,i7.l,p5.enc,p5.l,r6.enc,r6.l,e9.enc,e9.l,Op.enc,Op.l,Plan.enc,Plan.l,r9.enc,r9.l,i8.enc,i8.l,p7.enc,p7.l,m8.enc,m8.l,d9.enc,d9.l,List.take_of_length_le,List.map_take,List.map_drop]) fun y15 h=> ?_
 refine zs 1 h (fun h=> ?_) fun h=> ?_
 ·
  exact zg 4 (ah6 h)
 exact zg 2 (ah6 h)
noncomputable def cS5 (at_:Int) (b0:List Int) (t18:Bool):M:=⟨[.code (aM3 [1,0,1]),.code (aM3 [1,1])],[(0,(f5 0 (List.map (d7 .u8) b0))),(1,.int .i64 at_),(18,.bool t18)],[some ⟨1,false,(List.map (d7 .u8) b0)⟩]⟩
noncomputable def aM5 (at_:Int) (b0:List Int) (t18:Bool):Option (Int×(List Int)×Int×Int):=(bif t18 then (some (0,[],0,1)) else (bif ((decide (((0:Nat):Int)≤at_))&&(decide ((at_:Int)≤(((List.map (d7 .u8) b0).length:Nat):Int)))) then (bif (decide ((((((List.map (d7 .u8) b0).length-at_.toNat):Nat):Int):Int)>0)) then (bif (decide ((0:Int)<((((List.map (d7 .u8) b0).length-at_.toNat):Nat):Int))) then (((b0)[(0+at_.toNat)]?).bind fun y5=>(ag7 at_ b0 (0+at_.toNat) ((List.map (d7 .u8) b0).length-at_.toNat) ((List.map (d7 .u8) b0).length-at_.toNat) ((y5:Int) !=247))) else none) else (ag7 at_ b0 (0+at_.toNat) ((List.map (d7 .u8) b0).length-at_.toNat) ((List.map (d7 .u8) b0).length-at_.toNat) false)) else none))
theorem bB5 {at_ b0 t18}:by9 at_ b0 (cS5 at_ b0 t18) (aM5 at_ b0 t18):=by
 intro r h;unfold aM5 at h
 refine zs 1 h (fun h=> ?_) fun h=> ?_
 ·
  exact zu 8 h [.slot 0 [some 1]]
 refine zn 11 h fun h=> ?_
 refine zs 11 h (fun h=> ?_) fun h=> ?_
 ·
  refine zn 2 h fun h=> ?_
  refine zr 2 (d7 .u8) h fun y5 h=> ?_
  exact zg 6 (bA8 h)
 exact zg 10 (bA8 h)
noncomputable def bc9 (at_:Int) (b0:List Int):Option (Int×(List Int)×Int×Int):=(bif (decide ((at_:Int)<0)) then (aM5 at_ b0 true) else (aM5 at_ b0 (decide ((at_:Int)>(((List.map (d7 .u8) b0).length:Nat):Int)))))
theorem dc8 {at_:Int}{b0:List Int}{r:Int×(List Int)×Int×Int} (h:bc9 at_ b0=some r):i0 E 147 [(f5 0 (List.map (d7 .u8) b0)),.int .i64 at_] [some ⟨1,false,(List.map (d7 .u8) b0)⟩] (Rs (cg4 b0) r):=so (fn:=Tryz.f147) (k:=false) (m:=1) h<| by
 intro r h;unfold bc9 at h
 refine zs 14 h (fun h=> ?_) fun h=> ?_
 ·
  exact zg 9 (bB5 h)
 exact zg 9 (bB5 h)
end Go.RX.L

namespace Go.RX.L
open Go Go.RX Go.Proofs
attribute [local irreducible] f6
noncomputable def cw5:=p8 (q0 Tryz.f146)
def P5 (y:Int×af9):List D:= [D.int .i64 y.1,D.agg [D.int .u8 y.2.kind,D.sl false 1 (List.map (d7 .u8) y.2.body)]]
inductive K6 where
 | s0 (b1:List Int)
 | s1 (at_:Int) (b12:List Int)
noncomputable def Y1 (l:Nat):K6→M
 | .s0 b1=>⟨[.code (q0 Tryz.f146)],[(0,D.yld l),(1,D.ptr 0 0 0)],[some ⟨1,true,[[(f5 1 (List.map (d7 .u8) b1))]]⟩,some ⟨1,false,(List.map (d7 .u8) b1)⟩]⟩
 | .s1 at_ b12=>⟨[.lpc (cw5 [1,0,0]) 11,.blk 0],[(0,D.yld l),(1,D.ptr 0 0 0),(3,D.int .i64 at_)],[some ⟨1,true,[[(f5 1 (List.map (d7 .u8) b12))]]⟩,some ⟨1,false,(List.map (d7 .u8) b12)⟩]⟩
noncomputable def aI8 (b1:List Int):Option (List (Int×af9)×Option K6):=(some ([],some (.s1 0 b1)))
noncomputable def as2 (at_:Int) (b12:List Int):Option (List (Int×af9)×Option K6):=((bc9 at_ b12).bind fun y1=>(bif ((y1.2.2.2:Int) !=0) then (some ([],none)) else (Option.map (fun p=>((y1.2.2.1,(⟨y1.1,y1.2.1⟩:af9))::p.1,p.2)) (some ([],some (.s1 y1.2.2.1 b12))))))
noncomputable def an2:K6→f4
 | .s0 b1=> [some ⟨1,true,[[(f5 1 (List.map (d7 .u8) b1))]]⟩,some ⟨1,false,(List.map (d7 .u8) b1)⟩]
 | .s1 at_ b12=> [some ⟨1,true,[[(f5 1 (List.map (d7 .u8) b12))]]⟩,some ⟨1,false,(List.map (d7 .u8) b12)⟩]
noncomputable def U9:K6→Option (List (Int×af9)×Option K6)
 | .s0 b1=>aI8 b1
 | .s1 at_ b12=>as2 at_ b12
theorem cc8 {l:Nat}{ln:f4}{φ0:q9}{J:Option (List (List D))→World→(Nat→Prop)→(Nat→Prop)→Prop}{b1:List Int}{x:List (Int×af9)×Option K6}{Y:List (List D)} (hl:an2 (.s0 b1)=ln) (h:aI8 b1=some x) (ha:Z8 E ln (Cx.seq Tryz.f146 2 ln l φ0 J) P5 (Y1 l) an2 x Y):f6 E (Cx.seq Tryz.f146 2 ln l φ0 J (some Y)) (fun _ s=>P3 ln s) (.go (Y1 l (.s0 b1))):=by
 subst hl
 unfold aI8 at h
 refine l8 hm 7 _ ?_
 obtain rfl:=Option.some.inj h
 exact aU5 (q' := .go (Y1 l (.s1 0 b1))) (by kernel_rfl) (K7 (by kernel_rfl) ha)
theorem cd7 {l:Nat}{ln:f4}{φ0:q9}{J:Option (List (List D))→World→(Nat→Prop)→(Nat→Prop)→Prop}{at_:Int}{b12:List Int}{x:List (Int×af9)×Option K6}{Y:List (List D)} (hl:an2 (.s1 at_ b12)=ln) (h:as2 at_ b12=some x) (ha:Z8 E ln (Cx.seq Tryz.f146 2 ln l φ0 J) P5 (Y1 l) an2 x Y):f6 E (Cx.seq Tryz.f146 2 ln l φ0 J (some Y)) (fun _ s=>P3 ln s) (.go (Y1 l (.s1 at_ b12))):=by
 subst hl
 unfold as2 at h
 refine zc 8 [] h (fun _=>dc8) fun y1 h=> ?_
 refine zs 17 h (fun h=> ?_) fun h=> ?_
 ·
  refine l8 hm 18 _ ?_
  obtain rfl:=Option.some.inj h
  exact bA1 (d:=D.tup []) (s:= [some ⟨1,true,[[(f5 1 (List.map (d7 .u8) b12))]]⟩,some ⟨1,false,(List.map (d7 .u8) b12)⟩]) (by kernel_rfl) (by kernel_rfl) ha
 refine l8 hm 10 _ ?_
 refine bG1 (x:=(y1.2.2.1,(⟨y1.1,y1.2.1⟩:af9))) (s:= [some ⟨1,true,[[(f5 1 (List.map (d7 .u8) b12))]]⟩,some ⟨1,false,(List.map (d7 .u8) b12)⟩]) h ha (by kernel_rfl) (by kernel_rfl) ?_ (fun p Y h ha=> ?_)
 · --it is stopped
   refine l8 hm 8 _ ?_
   exact bs1 (d:=D.tup []) (s:= [some ⟨1,true,[[(f5 1 (List.map (d7 .u8) b12))]]⟩,some ⟨1,false,(List.map (d7 .u8) b12)⟩]) (by kernel_rfl) (by kernel_rfl)
 · --it goes on
   refine l8 hm 14 _ ?_
   obtain rfl:=Option.some.inj h
   exact aU5 (q' := .go (Y1 l (.s1 y1.2.2.1 b12))) (by kernel_rfl) (K7 (by kernel_rfl) ha)
noncomputable def aS5 (b1:List Int):Option (List (Int×af9)):=evl U9 (.s0 b1)
theorem ct4 {b1:List Int}{r:List (Int×af9)} (h:aS5 b1=some r):ah7 E 146 [D.ptr 0 0 0] [some ⟨1,true,[[(f5 1 (List.map (d7 .u8) b1))]]⟩,some ⟨1,false,(List.map (d7 .u8) b1)⟩] [some ⟨1,true,[[(f5 1 (List.map (d7 .u8) b1))]]⟩,some ⟨1,false,(List.map (d7 .u8) b1)⟩] (List.map P5 r):=
 bB7 (m:=fun l=>Y1 l (.s0 b1)) (fn:=Tryz.f146) (by kernel_rfl) (fun l=>by kernel_rfl) (show List.take _ _=_ by kernel_rfl) (show B7 _ _=_ by kernel_rfl) (fun l φ0 J=>bp0 (step:=U9) (lnS:=an2) (fun s x Y hl hs ha=>by
  cases s with
  | s0=>exact cc8 hl hs ha
  | s1=>exact cd7 hl hs ha) (by kernel_rfl) (bD7 h))
end Go.RX.L

namespace Go.RX
open Go
/-! ### one bit of a check sum -/
def bl5 (r:Nat):Nat:=if r%2=1 then r/2^^^3988292384 else r/2
def R4:Nat→Nat→Nat
 | 0,r=>r
 | n+1,r=>R4 n (bl5 r)
theorem dF3 {r:Nat} (h:r<4294967296):bl5 r<4294967296:=by
 unfold bl5
 split
 ·exact Nat.xor_lt_two_pow (n:=32) (by omega) (by decide)
 ·omega
theorem bH3:∀(n:Nat) {r:Nat},r<4294967296→R4 n r<4294967296
 | 0,_,h=>h
 | n+1,_,h=>bH3 n (dF3 h)
theorem dy1 (a b:Nat):bl5 (a^^^b)=bl5 a^^^bl5 b:=by
 have h1:(a^^^b)/2=a/2^^^b/2:=Nat.xor_div_two
 have h2:(a^^^b)%2=(a+b)%2:=by
  have h:=Nat.xor_mod_two_pow (a:=a) (b:=b) (n:=1)
  rw [show 2^1=2 from rfl] at h
  rw [h]
  rcases Nat.mod_two_eq_zero_or_one a with ha | ha<;>rcases Nat.mod_two_eq_zero_or_one b with hb | hb<;>rw [ha,hb]
  ·show 0=_;omega
  ·show 1=_;omega
  ·show 1=_;omega
  ·show 0=_;omega
 unfold bl5
 rw [h1,h2]
 rcases Nat.mod_two_eq_zero_or_one a with ha | ha<;>rcases Nat.mod_two_eq_zero_or_one b with hb | hb
 ·rw [if_neg (by omega),if_neg (by omega),if_neg (by omega)]
 ·rw [if_pos (by omega),if_neg (by omega),if_pos hb,Nat.xor_assoc]
 ·rw [if_pos (by omega),if_pos ha,if_neg (by omega),Nat.xor_assoc,Nat.xor_assoc,Nat.xor_comm (b/2)]
 ·rw [if_neg (by omega),if_pos ha,if_pos hb,Nat.xor_assoc,Nat.xor_comm (b/2) 3988292384,←Nat.xor_assoc 3988292384,Nat.xor_self,Nat.zero_xor]
theorem cH7:∀(n a b:Nat),R4 n (a^^^b)=R4 n a^^^R4 n b
 | 0,_,_=>rfl
 | n+1,a,b=>by simp only [R4,dy1,cH7 n]
theorem ce8:∀(n a:Nat),R4 n (2^n*a)=a
 | 0,a=>by simp [R4]
 | n+1,a=>by
  have:bl5 (2^(n+1)*a)=2^n*a:=by
   rw [Nat.pow_succ,Nat.mul_comm (2^n) 2,Nat.mul_assoc]
   unfold bl5
   rw [if_neg (by omega)]
   omega
  simp only [R4,this,ce8 n a]
theorem dy0 (r:Nat):r=16*(r/16)^^^r%16:=by
 have h:=Nat.two_pow_add_eq_or_of_lt (i:=4) (b:=r%16) (by omega) (r/16)
 have e:2^4*(r/16)^^^r%16=2^4*(r/16) ||| r%16:=by
  refine Nat.eq_of_testBit_eq fun j=> ?_
  rw [Nat.testBit_xor,Nat.testBit_or]
  by_cases hj:j<4
  ·have:(2^4*(r/16)).testBit j=false:=by rw [Nat.testBit_two_pow_mul];simp;omega
   rw [this];simp
  ·have:(r%16).testBit j=false:=Nat.testBit_lt_two_pow (Nat.lt_of_lt_of_le (show r%16<2^4 by omega) (Nat.pow_le_pow_right (by decide) (by omega)))
   rw [this];simp
 rw [show (16:Nat)=2^4 from rfl] at*
 omega
theorem dk5 (r:Nat):R4 4 r=r/16^^^R4 4 (r%16):=by
 conv=>lhs;rw [dy0 r]
 rw [cH7,show (16:Nat)=2^4 from rfl,ce8]
theorem cI1:∀(m n r:Nat),R4 (m+n) r=R4 n (R4 m r)
 | 0,n,r=>by simp [R4]
 | m+1,n,r=>by rw [show m+1+n=(m+n)+1 by omega];simp only [R4,cI1 m n]
/-! ### a byte, bytes -/
def dB2 (r:Nat) (c:Int):Nat:=R4 8 (r^^^c.toNat)
def bM0:Nat→List Int→Nat
 | r,[]=>r
 | r,c::l=>bM0 (dB2 r c) l
def cY7 (s:Nat) (l:List Int):Nat:=4294967295-bM0 (4294967295-s) l
def crc (l:List Int):Nat:=cY7 0 l
theorem cX1 (l:List Int):crc l<4294967296:=by unfold crc cY7;omega
/-! ### four bytes of a number -/
def be4 (s:Nat):List Int:= [((s/16777216%256:Nat):Int),((s/65536%256:Nat):Int),((s/256%256:Nat):Int),((s%256:Nat):Int)]
def R2:Nat→List Int→Nat
 | n,[]=>n
 | n,c::l=>R2 (n*256+c.toNat) l
theorem dx0 (s:Nat):s9 (be4 s):=fun c hc=>by
 simp only [be4,List.mem_cons,List.not_mem_nil,or_false] at hc
 rcases hc with rfl | rfl | rfl | rfl<;>omega
theorem dG7 {s:Nat} (h:s<4294967296):R2 0 (be4 s)=s:=by
 simp only [be4,R2,Int.toNat_natCast]
 omega
theorem dN1 {a b c d:Int} (ha:0≤a∧a≤255) (hb:0≤b∧b≤255) (hc:0≤c∧c≤255) (hd:0≤d∧d≤255):be4 (R2 0 [a,b,c,d])= [a,b,c,d]:=by
 simp only [R2,be4,List.cons.injEq,and_true]
 omega
/-! ### frames -/
def U3 (k:Int) (body:List Int):List Int:=k::((body.length/256:Nat):Int)::((body.length%256:Nat):Int)::body
def H0 (k:Int) (body:List Int):List Int:=247::(U3 k body++be4 (crc (U3 k body)))
def pF (l:List Int):Int⊕(Int×List Int×Nat):=match l with
 | []=> .inl 31
 | m::_=>if m≠247 then .inl 32 else if l.length<8 then .inl 31 else
  if 8192<R2 0 [l.getD 2 0,l.getD 3 0] then .inl 2 else
  if l.length<R2 0 [l.getD 2 0,l.getD 3 0]+8 then .inl 31 else
  if crc ((l.drop 1).take (R2 0 [l.getD 2 0,l.getD 3 0]+3))≠R2 0 ((l.drop (R2 0 [l.getD 2 0,l.getD 3 0]+4)).take 4) then .inl 33 else
  .inr (l.getD 1 0,(l.drop 4).take (R2 0 [l.getD 2 0,l.getD 3 0]),R2 0 [l.getD 2 0,l.getD 3 0]+8)
theorem aQ2 (k:Int) (body:List Int):(U3 k body).length=body.length+3:=by simp [U3]
theorem aQ0 (k:Int) (body:List Int):(H0 k body).length=body.length+8:=by simp [H0,aQ2,be4]
theorem cf9 {k:Int}{body:List Int} (hk:0≤k∧k≤255) (hb:s9 body) (hl:body.length≤65535):s9 (U3 k body):=fun c hc=>by
 simp only [U3,List.mem_cons] at hc
 rcases hc with rfl | rfl | rfl | hc
 ·exact hk
 ·omega
 ·omega
 ·exact hb c hc
theorem bJ8 {k:Int}{body:List Int} (hk:0≤k∧k≤255) (hb:s9 body) (hl:body.length≤65535):s9 (H0 k body):=fun c hc=>by
 simp only [H0,List.mem_cons,List.mem_append] at hc
 rcases hc with rfl | hc | hc
 ·omega
 ·exact cf9 hk hb hl c hc
 ·exact dx0 _ c hc
theorem cZ7 {k:Int}{body:List Int} (hk:0≤k∧k≤255) (hb:s9 body) (hl:body.length≤8192) (rest:List Int):pF (H0 k body++rest)= .inr (k,body,body.length+8):=by
 have hn:R2 0 [((body.length/256:Nat):Int),((body.length%256:Nat):Int)]=body.length:=by
  simp only [R2,Int.toNat_natCast];omega
 have e2:(H0 k body++rest).getD 2 0=((body.length/256:Nat):Int):=rfl
 have e3:(H0 k body++rest).getD 3 0=((body.length%256:Nat):Int):=rfl
 have e1:(H0 k body++rest).getD 1 0=k:=rfl
 have hlen:(H0 k body++rest).length=body.length+8+rest.length:=by rw [List.length_append,aQ0]
 have d1:((H0 k body++rest).drop 1).take (body.length+3)=U3 k body:=by
  show ((U3 k body++be4 _)++rest).take (body.length+3)=U3 k body
  rw [List.append_assoc,←aQ2 k body,List.take_left]
 have d2:((H0 k body++rest).drop (body.length+4)).take 4=be4 (crc (U3 k body)):=by
  show (((U3 k body++be4 _)++rest).drop (body.length+3)).take 4=_
  rw [List.append_assoc,←aQ2 k body,List.drop_left]
  rfl
 have d3:((H0 k body++rest).drop 4).take body.length=body:=by
  show (((body++be4 _)++rest)).take body.length=body
  rw [List.append_assoc,List.take_left]
 have hx:∃x,H0 k body++rest=247::x:=⟨_,rfl⟩
 obtain ⟨x,hx⟩:=hx
 have key:pF (247::x)= .inr (k,body,body.length+8):=by
  rw [hx] at e1 e2 e3 hlen d1 d2 d3
  simp only [pF,e1,e2,e3,hn,hlen,d1,d2,d3]
  rw [if_neg (by simp),if_neg (by omega),if_neg (by omega),if_neg (by omega),if_neg (by rw [dG7 (cX1 _)];simp)]
 rw [hx];exact key
theorem eb0:∀{l:List Int},3≤l.length→∃a b c r,l=a::b::c::r
 | a::b::c::r,_=>⟨a,b,c,r,rfl⟩
 | [],h=>by simp at h
 | [_],h=>by simp at h
 | [_,_],h=>by simp at h
theorem ec5:∀{l:List Int},l.length=4→∃a b c d,l= [a,b,c,d]
 | [a,b,c,d],_=>⟨a,b,c,d,rfl⟩
theorem dZ1 {l:List Int}{k:Int}{body:List Int}{m:Nat} (hb:s9 l) (h:pF l= .inr (k,body,m)):l.take m=H0 k body∧m≤l.length∧m=body.length+8∧body.length≤8192∧(0≤k∧k≤255)∧s9 body:=by
 unfold pF at h
 split at h
 ·cases h
 ·rename_i m0 l0
  split at h
  ·cases h
  ·rename_i h1
   split at h
   ·cases h
   ·rename_i h2
    split at h
    ·cases h
    ·rename_i h3
     split at h
     ·cases h
     ·rename_i h4
      split at h
      ·cases h
      ·rename_i h5
       simp only [Sum.inr.injEq,Prod.mk.injEq] at h
       obtain ⟨rfl,rfl,rfl⟩:=h
       simp only [ne_eq,Decidable.not_not] at h1 h5
       subst h1
       obtain ⟨k,a,b,r,rfl⟩:=eb0 (l:=l0) (by simp only [List.length_cons] at h2;omega)
       have ha:=hb a (by simp)
       have hbb:=hb b (by simp)
       have hk:=hb k (by simp)
       simp only [List.getD_cons_succ,List.getD_cons_zero,List.length_cons,List.drop_succ_cons,List.drop_zero] at h2 h3 h4 h5 ⊢
       generalize hn:R2 0 [a,b]=n at*
       have hn' :n=a.toNat*256+b.toNat:=by rw [←hn];simp [R2]
       have hlen:(r.take n).length=n:=by rw [List.length_take];omega
       have e1:((n/256:Nat):Int)=a:=by omega
       have e2:((n%256:Nat):Int)=b:=by omega
       have hin:U3 k (r.take n)=(k::a::b::r).take (n+3):=by
        simp only [U3,hlen,e1,e2,List.take_succ_cons]
       have h4b:∃x y z u,(r.drop n).take 4= [x,y,z,u]:=by
        exact ec5 (by rw [List.length_take,List.length_drop];omega)
       obtain ⟨x,y,z,u,hxyz⟩:=h4b
       have hmem:∀c∈ [x,y,z,u],0≤c∧c≤255:=fun c hc=>hb c (by
        rw [←hxyz] at hc
        simp only [List.mem_cons]
        exact .inr (.inr (.inr (.inr (List.mem_of_mem_drop (List.mem_of_mem_take hc))))))
       refine ⟨?_,by omega,by omega,by omega,hk,fun c hc=>hb c (by simp only [List.mem_cons];exact .inr (.inr (.inr (.inr (List.mem_of_mem_take hc)))))⟩
       unfold H0
       rw [hin,h5,hxyz,dN1 (hmem x (by simp)) (hmem y (by simp)) (hmem z (by simp)) (hmem u (by simp)),←hxyz]
       rw [show n+8=(n+7)+1 from rfl,List.take_succ_cons,show n+7=(n+3)+4 from rfl,List.take_add]
       rfl
theorem dZ5 {l:List Int}{e:Int} (h:pF l= .inl e):e=31∨e=32∨e=2∨e=33:=by
 unfold pF at h
 split at h
 ·simp at h;omega
 ·split at h
  ·simp at h;omega
  ·split at h
   ·simp at h;omega
   ·split at h
    ·simp at h;omega
    ·split at h
     ·simp at h;omega
     ·split at h
      ·simp at h;omega
      ·cases h
theorem dU1 {k:Int}{body:List Int} (hk:0≤k∧k≤255) (hb:s9 body) (hl:body.length≤8192) {j:Nat} (hj:j<body.length+8):∃e,pF ((H0 k body).take j)= .inl e:=by
 cases h:pF ((H0 k body).take j) with
 | inl e=>exact ⟨e,rfl⟩
 | inr x=>
  exfalso
  obtain ⟨k',body',m⟩:=x
  have hbb:s9 ((H0 k body).take j):=fun c hc=>bJ8 hk hb (by omega) c (List.mem_of_mem_take hc)
  obtain ⟨a1,a2,a3,a4,a5,a6⟩:=dZ1 hbb h
  have h1:=cZ7 hk hb hl []
  rw [List.append_nil] at h1
  have hs:H0 k body=H0 k' body' ++(H0 k body).drop m:=by
   rw [←a1,List.take_take,Nat.min_eq_left (by rw [List.length_take] at a2;omega),List.take_append_drop]
  rw [hs,cZ7 a5 a6 a4] at h1
  simp only [Sum.inr.injEq,Prod.mk.injEq] at h1
  rw [List.length_take,aQ0] at a2
  omega
end Go.RX

namespace Go.RX.L
open Go Go.RX
theorem bC7 {n:Nat} (h:n<4294967296):(BitVec.ofInt IntKind.u32.bits (n:Int)).toNat=n:=by
 rw [BitVec.ofInt_natCast,show IntKind.u32.bits=32 from rfl,BitVec.toNat_ofNat,Nat.mod_eq_of_lt (by omega)]
theorem bZ5 {n:Nat} (h:n<4294967296):IntKind.u32.wrap (n:Int)=n:=ee1 (by omega) (by omega)
theorem dx7 {a b:Nat} (ha:a<4294967296) (hb:b<4294967296):P1 .u32 a b=((a^^^b:Nat):Int):=by
 unfold P1
 rw [BitVec.toNat_xor,bC7 ha,bC7 hb,bZ5 (Nat.xor_lt_two_pow (n:=32) ha hb)]
theorem cG1 {a:Nat} (ha:a<4294967296):l6 .u32 a 15=((a%16:Nat):Int):=by
 unfold l6
 rw [show (15:Int)=((15:Nat):Int) from rfl,BitVec.toNat_and,bC7 ha,bC7 (by omega),show (15:Nat)=2^4-1 from rfl,Nat.and_two_pow_sub_one_eq_mod,bZ5 (by omega)]
theorem bU6 {a k:Nat} (hk:k≤32):n4 .u32 a k=((a/2^k:Nat):Int):=by
 unfold n4
 have e:min (k:Int).toNat IntKind.u32.bits=k:=by simp [IntKind.bits];omega
 rw [e,Int.fdiv_eq_ediv_of_nonneg _ (by exact Int.le_of_lt (Int.pow_pos (by decide)))]
 norm_cast
theorem dh1 {n:Nat} (h:n<4294967296):P1 .u32 4294967295 n=((4294967295-n:Nat):Int):=by
 unfold P1
 have e:BitVec.ofInt IntKind.u32.bits 4294967295=BitVec.allOnes IntKind.u32.bits:=by decide
 rw [BitVec.xor_comm,e,BitVec.xor_allOnes,BitVec.toNat_not,bC7 h,show IntKind.u32.bits=32 from rfl,show 2^32-1-n=4294967295-n by omega,bZ5 (by omega)]
/-! ### the program's: four bits at once -/
theorem cU6:∀i,i<16→gl_four[i]? =some ((R4 4 i:Nat):Int):=by decide+kernel
theorem nib {r:Nat} (h:r<4294967296):P1 .u32 (n4 .u32 r 4) ((R4 4 (r%16):Nat):Int)=((R4 4 r:Nat):Int):=by
 have e:n4 .u32 r 4=((r/16:Nat):Int):=bU6 (a:=r) (k:=4) (by decide)
 rw [e,dx7 (by omega) (bH3 4 (by omega)),dk5 r]
theorem dY2 (r:Nat):decide (((r%16:Nat):Int)<((16:Nat):Int))=true:=E7 (by omega)
theorem dF7 {b:List Int} (hb:s9 b) (hm:b.length<9223372036854775807):∀(j k r:Nat),k+j=b.length→r<4294967296→Ev aC8 (.s1 r b b.length k) ((4294967295-bM0 r (b.drop k):Nat):Int):=by
 intro j
 induction j with
 | zero=>
  intro k r hk hr
  have e:bM0 r (b.drop k)=r:=by rw [List.drop_of_length_le (by omega)];rfl
  rw [e]
  refine .done ?_
  simp only [aC8,bf5,geB (show b.length≤k by omega),cond_false,dh1 hr]
 | succ j ih=>
  intro k r hk hr
  have hlt:k<b.length:=by omega
  obtain ⟨c,hc⟩:∃c:Nat,b[k]=(c:Int):=⟨_,(Int.toNat_of_nonneg (hb _ (List.getElem_mem hlt)).1).symm⟩
  have hc' :=hb _ (List.getElem_mem hlt)
  rw [hc] at hc'
  have h1:r^^^c<4294967296:=Nat.xor_lt_two_pow (n:=32) hr (by omega)
  have h2:=bH3 4 h1
  have e1:P1 .u32 r (IntKind.u32.wrap (c:Int))=((r^^^c:Nat):Int):=by rw [bZ5 (by omega),dx7 hr (by omega)]
  have hd:b.drop k=(c:Int)::b.drop (k+1):=by rw [←hc,List.drop_eq_getElem_cons hlt]
  have hs:bM0 r (b.drop k)=bM0 (R4 4 (R4 4 (r^^^c))) (b.drop (k+1)):=by
   rw [hd]
   show bM0 (dB2 r c) _=_
   rw [dB2,Int.toNat_natCast,show 8=4+4 from rfl,cI1]
  rw [hs]
  refine .next (s' := .s1 ((R4 4 (R4 4 (r^^^c)):Nat):Int) b b.length ((k+1:Nat):Int)) ?_ (ih (k+1) _ (by omega) (bH3 4 h2))
  simp only [aC8,bf5,E7 hlt,cond_true,List.length_map,ixB hlt,L8,Bool.and_self,Int.toNat_natCast,List.getE hlt,Option.bind_some,hc,e1,cG1 h1,dY2]
  simp only [Nat.zero_add,cU6 _ (Nat.mod_lt (r^^^c) (by decide:0<16)),Option.bind_some,nib h1,cG1 h2,dY2,L8,Bool.and_self,cond_true,Int.toNat_natCast]
  simp only [cU6 _ (Nat.mod_lt (R4 4 (r^^^c)) (by decide:0<16)),Option.bind_some,nib h2,wS (show k<9223372036854775807 by omega)]
theorem dq1 {b:List Int} (hb:s9 b) (hm:b.length<9223372036854775807):bp7 b=some (crc b:Int):=by
 have h:cw7 0 b=some (crc b:Int):=by
  refine u6 (.next (s' := .s1 ((4294967295:Nat):Int) b b.length ((0:Nat):Int)) ?_ ?_)
  ·have:=dh1 (n:=0) (by decide)
   simp only [aC8,bw3,List.length_map]
   rw [show (0:Int)=((0:Nat):Int) from rfl,this]
  ·have:=dF7 hb hm b.length 0 4294967295 (by omega) (by decide)
   simpa [crc,cY7] using this
 simp only [bp7,h,Option.bind_some]
/-! ### the document's: one bit after the other -/
end Go.RX.L

namespace Go.RX.L
open Go Go.RX
theorem ea2 {a:Nat} (h:a<36028797018963968):F0 .i64 a 8=((a*256:Nat):Int):=by
 unfold F0
 rw [show min (8:Int).toNat IntKind.i64.bits=8 from rfl,show ((a:Int)*(2:Int)^8)=((a*256:Nat):Int) by norm_cast,u7 (by omega) (by omega)]
/-! ### writing -/
def dC0 (k:Int) (body:List Int):List Int×Int:=if body.length≤8192 then (H0 k body,0) else ([],2)
theorem ee6 {n:Nat}:n4 .i64 n 8=((n/256:Nat):Int):=by
 unfold n4
 rw [show min (8:Int).toNat IntKind.i64.bits=8 from rfl,Int.fdiv_eq_ediv_of_nonneg _ (by decide)]
 norm_cast
theorem eb9 (k:Int) {body:List Int} (h:body.length≤8192): [247,k,(IntKind.u8.wrap ((n4 .i64 ((body.length:Nat):Int) 8))),(IntKind.u8.wrap (((body.length:Nat):Int)))]++body=247::U3 k body:=by
 rw [ee6,av3,av3,Nat.mod_eq_of_lt (a:=body.length/256) (by omega)]
 rfl
theorem ee3 {k:Int}{body:List Int} (h:body.length≤8192):List.take ((247::U3 k body).length-1) (List.drop 1 (247::U3 k body))=U3 k body:=by
 simp
theorem dn2 {s:Nat} (hs:s<4294967296) {b:List Int} (hb:b.length≤8300):Ev S6 (.s1 s 24 b) (b++be4 s,0):=by
 have e24:n4 .u32 s 24=((s/16777216:Nat):Int):=bU6 (a:=s) (k:=24) (by decide)
 have e16:n4 .u32 s 16=((s/65536:Nat):Int):=bU6 (a:=s) (k:=16) (by decide)
 have e8:n4 .u32 s 8=((s/256:Nat):Int):=bU6 (a:=s) (k:=8) (by decide)
 have e0:n4 .u32 s 0=(s:Int):=by have:=bU6 (a:=s) (k:=0) (by decide);simpa using this
 have lim:∀n,n≤8310→decide ((n+1)*1≤i6)=true:=fun n hn=>C7 (by omega)
 refine .next (s' := .s1 s 16 (b++ [((s/16777216%256:Nat):Int)])) ?_ (.next (s' := .s1 s 8 (b++ [((s/16777216%256:Nat):Int),((s/65536%256:Nat):Int)])) ?_ (.next (s' := .s1 s 0 (b++ [((s/16777216%256:Nat):Int),((s/65536%256:Nat):Int),((s/256%256:Nat):Int)])) ?_ (.next (s' := .s1 s (-8) (b++be4 s)) ?_ (.done ?_))))
 ·simp only [S6,ap4,e24,av3,List.length_map,lim b.length (by omega)]
  rfl
 ·simp only [S6,ap4,e16,av3,List.length_map,List.length_append,List.length_cons,List.length_nil,lim (b.length+(0+1)) (by omega),List.append_assoc,List.cons_append,List.nil_append]
  rfl
 ·simp only [S6,ap4,e8,av3,List.length_map,List.length_append,List.length_cons,List.length_nil,lim (b.length+(0+1+1)) (by omega),List.append_assoc,List.cons_append,List.nil_append]
  rfl
 ·simp only [S6,ap4,e0,av3,List.length_map,List.length_append,List.length_cons,List.length_nil,lim (b.length+(0+1+1+1)) (by omega),List.append_assoc,List.cons_append,List.nil_append]
  rfl
 ·rfl
theorem dd7 {k:Int}{body:List Int} (hk:0≤k∧k≤255) (hb:s9 body) (hm:body.length≤G1):bv7 k body=some (dC0 k body):=by
 unfold dC0
 by_cases h:body.length≤8192
 ·rw [if_pos h]
  have hs:=dq1 (cf9 hk hb (by omega)) (by rw [aQ2];omega)
  refine u6 (.next (s' := .s1 (crc (U3 k body):Int) 24 (247::U3 k body)) ?_ ?_)
  ·have c1:decide (((body.length:Nat):Int)>8192)=false:=by simp;omega
   have c2:decide ((4+body.length)*1≤i6)=true:=C7 (by omega)
   have c3:decide ((1:Int)≤(((247::U3 k body).length:Nat):Int))=true:=by simp [aQ2];omega
   have c4:Nat.ble (1+((247::U3 k body).length-1)) (247::U3 k body).length=true:=by simp;omega
   simp only [S6,aM4,List.length_map,c1,c2,eb9 k h,c3,c4,cond_false,cond_true,ee3 h,hs,Option.bind_some]
  ·exact dn2 (cX1 _) (by simp [aQ2];omega)
 ·rw [if_neg h]
  refine u6 (.done ?_)
  have c1:decide (((body.length:Nat):Int)>8192)=true:=by simp;omega
  simp only [S6,aM4,List.length_map,c1,cond_true]
end Go.RX.L

namespace Go.RX.L
open Go Go.RX
def rF (at_:Nat) (x:Int⊕(Int×List Int×Nat)):Int×List Int×Int×Int:=match x with
 | .inl e=>(0,[],0,e)
 | .inr (k,body,m)=>(k,body,((at_+m:Nat):Int),0)
theorem dE1 {m:Int}{l:List Int} (h:m≠247):pF (m::l)= .inl 32:=by simp only [pF,if_pos h]
theorem dE5 {l:List Int} (h:l.length<7):pF (247::l)= .inl 31:=by
 simp only [pF,if_neg (show ¬((247:Int)≠247) by simp),if_pos (show (247::l).length<8 by simp;omega)]
theorem dN5 {k:Int}{a c:Nat}{r:List Int} (h:4≤r.length) (hn:8192<a*256+c):pF (247::k::(a:Int)::(c:Int)::r)= .inl 2:=by
 have hl:¬(247::k::(a:Int)::(c:Int)::r).length<8:=by simp;omega
 have hn' :R2 0 [(a:Int),(c:Int)]=a*256+c:=by simp [R2]
 simp only [pF,if_neg (show ¬((247:Int)≠247) by simp),if_neg hl,List.getD_cons_succ,List.getD_cons_zero,hn',if_pos hn]
theorem dO0 {k:Int}{a c:Nat}{r:List Int} (h:4≤r.length) (hn:a*256+c≤8192) (hc:r.length<a*256+c+4):pF (247::k::(a:Int)::(c:Int)::r)= .inl 31:=by
 have hl:¬(247::k::(a:Int)::(c:Int)::r).length<8:=by simp;omega
 have hn' :R2 0 [(a:Int),(c:Int)]=a*256+c:=by simp [R2]
 have h2:(247::k::(a:Int)::(c:Int)::r).length<a*256+c+8:=by simp;omega
 simp only [pF,if_neg (show ¬((247:Int)≠247) by simp),if_neg hl,List.getD_cons_succ,List.getD_cons_zero,hn',if_neg (show ¬8192<a*256+c by omega),if_pos h2]
theorem dI7 {k:Int}{a c:Nat}{r:List Int} (h:4≤r.length) (hn:a*256+c≤8192) (hc:a*256+c+4≤r.length):pF (247::k::(a:Int)::(c:Int)::r)=
  if crc ((k::(a:Int)::(c:Int)::r).take (a*256+c+3))≠R2 0 ((r.drop (a*256+c)).take 4) then .inl 33 else .inr (k,r.take (a*256+c),a*256+c+8):=by
 have hl:¬(247::k::(a:Int)::(c:Int)::r).length<8:=by simp;omega
 have hn' :R2 0 [(a:Int),(c:Int)]=a*256+c:=by simp [R2]
 have h2:¬(247::k::(a:Int)::(c:Int)::r).length<a*256+c+8:=by simp;omega
 simp only [pF,if_neg (show ¬((247:Int)≠247) by simp),if_neg hl,List.getD_cons_succ,List.getD_cons_zero,hn',if_neg (show ¬8192<a*256+c by omega),if_neg h2,List.drop_succ_cons,List.drop_zero]
theorem de6 {b:List Int} (hb:s9 b) (h4:b.length≤4):∀(j k n:Nat),k+j=b.length→n<256^k→Ev U7 (.s1 n b b.length k) ((R2 n (b.drop k):Nat):Int):=by
 intro j
 induction j with
 | zero=>
  intro k n hk hn
  refine .done ?_
  rw [List.drop_of_length_le (by omega)]
  simp only [U7,as0,geB (show b.length≤k by omega),cond_false,R2]
 | succ j ih=>
  intro k n hk hn
  have hlt:k<b.length:=by omega
  have hc:=hb _ (List.getElem_mem hlt)
  obtain ⟨c,hc'⟩:∃c:Nat,b[k]=(c:Int):=⟨_,(Int.toNat_of_nonneg hc.1).symm⟩
  rw [hc'] at hc
  have hk4:256^k≤256^3:=Nat.pow_le_pow_right (by decide) (by omega)
  have hd:b.drop k=(c:Int)::b.drop (k+1):=by rw [←hc',List.drop_eq_getElem_cons hlt]
  have e1:IntKind.i64.wrap (F0 .i64 (n:Int) 8+IntKind.i64.wrap (c:Int))=((n*256+c:Nat):Int):=by
   rw [ea2 (by omega),u7 (n:=(c:Int)) (by omega) (by omega),u7 (by omega) (by omega)];norm_cast
  rw [hd]
  refine .next (s' := .s1 ((n*256+c:Nat):Int) b b.length ((k+1:Nat):Int)) ?_ (by
   show Ev U7 _ ((R2 (n*256+(c:Int).toNat) (b.drop (k+1)):Nat):Int)
   rw [Int.toNat_natCast]
   exact ih (k+1) _ (by omega) (by rw [Nat.pow_succ];omega))
  simp only [U7,as0,E7 hlt,cond_true,List.length_map,ixB hlt,L8,Bool.and_self,Int.toNat_natCast,List.getE hlt,Option.bind_some,hc',e1,wS (show k<9223372036854775807 by omega)]
theorem cF9 {b:List Int} (hb:s9 b) (h4:b.length≤4):aD0 b=some ((R2 0 b:Nat):Int):=by
 refine u6 (.next (s' := .s1 ((0:Nat):Int) b b.length ((0:Nat):Int)) ?_ ?_)
 ·simp only [U7,aG8,List.length_map];rfl
 ·have:=de6 hb h4 b.length 0 0 (by omega) (by decide)
  simpa using this
theorem cx2 {l:List Int} (hb:s9 l) (n:Nat):s9 (l.take n):=fun c hc=>hb c (List.mem_of_mem_take hc)
theorem aZ0 {l:List Int} (hb:s9 l) (n:Nat):s9 (l.drop n):=fun c hc=>hb c (List.mem_of_mem_drop hc)
/-! ### the document's reader -/
end Go.RX.L

namespace Go.RX.L
open Go Go.RX Go.Proofs
attribute [local irreducible] f6
noncomputable def A7:=p8 (q0 Tryz.f85)
noncomputable def T7 (b0:List Int) (y:(List Int)×(List (List Int))×Int):D×f4:=(.tup [.sl false 1 (List.map (d7 .u8) y.1),.sl false 1 (List.map (E3 1 (d7 .u8)) y.2.1),.int .i64 y.2.2],[some ⟨1,false,(List.map (d7 .u8) b0)⟩])
inductive D3 where
 | s0
 | s1 (behind:Int) (b5:List Int) (b6:List (List Int))
 | s2 (behind:Int) (b5:List Int) (b6:List (List Int)) (Y:List (Int×af9))
noncomputable def aM0 (b0:List Int):D3→M
 | .s0=>A5 Tryz.f85 [(f5 0 (List.map (d7 .u8) b0))] [some ⟨1,false,(List.map (d7 .u8) b0)⟩]
 | .s1 behind b5 b6=>⟨[.code (A7 [1,1,1,1,0,1,0]),.blk 0,.code (A7 [1,1,1,1,1])],[(5,.ptr 1 0 0),(6,.ptr 2 0 0),(7,.ptr 3 0 0),(11,.fn 146 [] [.ptr 4 0 0])],[some ⟨1,false,(List.map (d7 .u8) b0)⟩,some ⟨1,true,[[(f5 5 (List.map (d7 .u8) b5))]]⟩,some ⟨1,true,[[(f5 6 (List.map (E3 1 (d7 .u8)) b6))]]⟩,some ⟨1,false,[[.int .i64 behind]]⟩,some ⟨1,true,[[(f5 0 (List.map (d7 .u8) b0))]]⟩,some ⟨1,false,(List.map (d7 .u8) b5)⟩,some ⟨1,false,(List.map (E3 1 (d7 .u8)) b6)⟩]⟩
 | .s2 behind b5 b6 Y=>⟨[.blk 0,.code (A7 [1,1,1,1,1])],[(5,.ptr 1 0 0),(6,.ptr 2 0 0),(7,.ptr 3 0 0),(11,.fn 146 [] [.ptr 4 0 0])],[some ⟨1,false,(List.map (d7 .u8) b0)⟩,some ⟨1,true,[[(f5 5 (List.map (d7 .u8) b5))]]⟩,some ⟨1,true,[[(f5 6 (List.map (E3 1 (d7 .u8)) b6))]]⟩,some ⟨1,false,[[.int .i64 behind]]⟩,some ⟨1,true,[[(f5 0 (List.map (d7 .u8) b0))]]⟩,some ⟨1,false,(List.map (d7 .u8) b5)⟩,some ⟨1,false,(List.map (E3 1 (d7 .u8)) b6)⟩]⟩
noncomputable def at9 (b0:List Int):D3→((List Int)×(List (List Int))×Int)→Prop
 | .s0,r_=>f6 E (Cx.of Tryz.f85 false 1) (QW (Rs (T7 b0) r_)) (.go ((aM0 b0) (.s0)))
 | .s1 behind b5 b6,r_=>f6 E (Cx.of Tryz.f85 false 1) (QW (Rs (T7 b0) r_)) (.go ((aM0 b0) (.s1 behind b5 b6)))
 | .s2 behind b5 b6 Y,r_=>L7 E (Cx.of Tryz.f85 false 1) (QW (Rs (T7 b0) r_)) 5 (A7 [1,1,1,1,0,1,0]) [.blk 0,.code (A7 [1,1,1,1,1])] [(5,.ptr 1 0 0),(6,.ptr 2 0 0),(7,.ptr 3 0 0),(11,.fn 146 [] [.ptr 4 0 0])] [4,0] [some ⟨1,true,[[(f5 0 (List.map (d7 .u8) b0))]]⟩,some ⟨1,false,(List.map (d7 .u8) b0)⟩] (List.map P5 Y) [some ⟨1,false,(List.map (d7 .u8) b0)⟩,some ⟨1,true,[[(f5 5 (List.map (d7 .u8) b5))]]⟩,some ⟨1,true,[[(f5 6 (List.map (E3 1 (d7 .u8)) b6))]]⟩,some ⟨1,false,[[.int .i64 behind]]⟩,some ⟨1,true,[[(f5 0 (List.map (d7 .u8) b0))]]⟩,some ⟨1,false,(List.map (d7 .u8) b5)⟩,some ⟨1,false,(List.map (E3 1 (d7 .u8)) b6)⟩]
noncomputable def bb8 (b0:List Int):Option (D3⊕((List Int)×(List (List Int))×Int)):=((bo1 b0).bind fun y1=>(some (.inl (.s1 0 ([]) ([])))))
noncomputable def bc7 (b0:List Int) (behind:Int) (b5:List Int) (b6:List (List Int)):Option (D3⊕((List Int)×(List (List Int))×Int)):=((aS5 b0).bind fun y1=>(some (.inl (.s2 behind b5 b6 y1))))
noncomputable def aU6 (b0:List Int) (behind:Int) (b5:List Int) (b6:List (List Int)):Option (D3⊕((List Int)×(List (List Int))×Int)):=(some (.inr (b5,b6,behind)))
noncomputable def aT0 (b0:List Int) (behind:Int) (b5:List Int) (b6:List (List Int)) (y:Int×af9) (Y:List (Int×af9)):Option (D3⊕((List Int)×(List (List Int))×Int)):=(bif (decide (((List.map (d7 .u8) b5).length+1)*1≤i6)) then (bif (decide (((List.map (E3 1 (d7 .u8)) b6).length+1)*24≤i6)) then (some (.inl (.s2 y.1 (b5++ [y.2.kind]) (b6++ [y.2.body]) Y))) else none) else none)
noncomputable def bb1 (b0:List Int) (behind:Int) (b5:List Int) (b6:List (List Int)):List (Int×af9)→Option (D3⊕((List Int)×(List (List Int))×Int))
 | []=>aU6 b0 behind b5 b6
 | y::Y=>aT0 b0 behind b5 b6 y Y
noncomputable def Y2 (b0:List Int):D3→Option (D3⊕((List Int)×(List (List Int))×Int))
 | .s0=>bb8 b0
 | .s1 behind b5 b6=>bc7 b0 behind b5 b6
 | .s2 behind b5 b6 Y=>bb1 b0 behind b5 b6 Y
theorem cw9 {b0:List Int}{r:(List Int)×(List (List Int))×Int}{x:D3⊕((List Int)×(List (List Int))×Int)} (h:bb8 b0=some x) (ha:z8 (at9 b0) r x):f6 E (Cx.of Tryz.f85 false 1) (QW (Rs (T7 b0) r)) (.go ((aM0 b0) (.s0))):=by
 unfold bb8 at h
 refine zc 26 [] h (fun _=>cN7) fun y1 h=> ?_
 refine l8 hm 2 _ ?_
 obtain rfl:=Option.some.inj h
 refine am7 14560 [.matc 1 0 0 1,.matc 2 0 0 1] (m' :=⟨[.code (A7 [1,1,1,1,0,1,0]),.blk 0,.code (A7 [1,1,1,1,1])],[(5,.ptr 1 0 0),(6,.ptr 2 0 0),(7,.ptr 3 0 0),(11,.fn 146 [] [.ptr 4 0 0])],[some ⟨1,false,(List.map (d7 .u8) b0)⟩,some ⟨1,true,[[.msl 5 0 0 0 false]]⟩,some ⟨1,true,[[.msl 6 0 0 0 false]]⟩,some ⟨1,false,[[.int .i64 0]]⟩,some ⟨1,true,[[(f5 0 (List.map (d7 .u8) b0))]]⟩,some ⟨1,false,[]⟩,some ⟨1,false,[]⟩]⟩) (by kernel_rfl) ?_
 refine Z2 (n1:=0) (n2:=(List.map (d7 .u8) ([])).length) (fun n_len=> .go ⟨[.code (A7 [1,1,1,1,0,1,0]),.blk 0,.code (A7 [1,1,1,1,1])],[(5,.ptr 1 0 0),(6,.ptr 2 0 0),(7,.ptr 3 0 0),(11,.fn 146 [] [.ptr 4 0 0])],[some ⟨1,false,(List.map (d7 .u8) b0)⟩,some ⟨1,true,[[.msl 5 0 n_len n_len false]]⟩,some ⟨1,true,[[.msl 6 0 0 0 false]]⟩,some ⟨1,false,[[.int .i64 0]]⟩,some ⟨1,true,[[(f5 0 (List.map (d7 .u8) b0))]]⟩,some ⟨1,false,[]⟩,some ⟨1,false,[]⟩]⟩) (by simp) ?_
 refine Z2 (n1:=0) (n2:=(List.map (E3 1 (d7 .u8)) ([])).length) (fun n_len=> .go ⟨[.code (A7 [1,1,1,1,0,1,0]),.blk 0,.code (A7 [1,1,1,1,1])],[(5,.ptr 1 0 0),(6,.ptr 2 0 0),(7,.ptr 3 0 0),(11,.fn 146 [] [.ptr 4 0 0])],[some ⟨1,false,(List.map (d7 .u8) b0)⟩,some ⟨1,true,[[.msl 5 0 ((List.map (d7 .u8) ([])).length) ((List.map (d7 .u8) ([])).length) false]]⟩,some ⟨1,true,[[.msl 6 0 n_len n_len false]]⟩,some ⟨1,false,[[.int .i64 0]]⟩,some ⟨1,true,[[(f5 0 (List.map (d7 .u8) b0))]]⟩,some ⟨1,false,[]⟩,some ⟨1,false,[]⟩]⟩) (by simp) ?_
 exact ha
theorem cA7 {b0:List Int}{behind:Int}{b5:List Int}{b6:List (List Int)}{r:(List Int)×(List (List Int))×Int}{x:D3⊕((List Int)×(List (List Int))×Int)} (h:bc7 b0 behind b5 b6=some x) (ha:z8 (at9 b0) r x):f6 E (Cx.of Tryz.f85 false 1) (QW (Rs (T7 b0) r)) (.go ((aM0 b0) (.s1 behind b5 b6))):=by
 unfold bc7 at h
 refine l8 hm 1 _ ?_
 have ok1:=fun (y:List (Int×af9)) (hy:aS5 b0=some y)=>ct4 hy
 refine da7 (m:=5) (c:=A7 [1,1,1,1,0,1,0]) (t:= [.blk 0,.code (A7 [1,1,1,1,1])]) (fr:= [(5,.ptr 1 0 0),(6,.ptr 2 0 0),(7,.ptr 3 0 0),(11,.fn 146 [] [.ptr 4 0 0])]) (σ:= [some ⟨1,false,(List.map (d7 .u8) b0)⟩,some ⟨1,true,[[(f5 5 (List.map (d7 .u8) b5))]]⟩,some ⟨1,true,[[(f5 6 (List.map (E3 1 (d7 .u8)) b6))]]⟩,some ⟨1,false,[[.int .i64 behind]]⟩,some ⟨1,true,[[(f5 0 (List.map (d7 .u8) b0))]]⟩,some ⟨1,false,(List.map (d7 .u8) b5)⟩,some ⟨1,false,(List.map (E3 1 (d7 .u8)) b6)⟩]) (ids:= [4,0]) (bs:= [some ⟨1,true,[[(f5 0 (List.map (d7 .u8) b0))]]⟩,some ⟨1,false,(List.map (d7 .u8) b0)⟩]) (caps1:= [.ptr 0 0 0]) (caps:= [.ptr 0 0 0]) (sub1:= [some ⟨1,true,[[(f5 1 (List.map (d7 .u8) b0))]]⟩,some ⟨1,false,(List.map (d7 .u8) b0)⟩]) (sub:= [some ⟨1,true,[[(f5 1 (List.map (d7 .u8) b0))]]⟩,some ⟨1,false,(List.map (d7 .u8) b0)⟩]) P5 h (by kernel_rfl) ⟨rfl,rfl⟩ (by kernel_rfl) (by kernel_rfl) (by kernel_rfl) (by kernel_rfl) (by kernel_rfl) ok1 (fun y1 h1 h=> ?_)
 obtain rfl:=Option.some.inj h
 exact ha
theorem cu4 {b0:List Int}{behind:Int}{b5:List Int}{b6:List (List Int)}{r:(List Int)×(List (List Int))×Int}{x:D3⊕((List Int)×(List (List Int))×Int)} (h:aU6 b0 behind b5 b6=some x) (ha:z8 (at9 b0) r x):L7 E (Cx.of Tryz.f85 false 1) (QW (Rs (T7 b0) r)) 5 (A7 [1,1,1,1,0,1,0]) [.blk 0,.code (A7 [1,1,1,1,1])] [(5,.ptr 1 0 0),(6,.ptr 2 0 0),(7,.ptr 3 0 0),(11,.fn 146 [] [.ptr 4 0 0])] [4,0] [some ⟨1,true,[[(f5 0 (List.map (d7 .u8) b0))]]⟩,some ⟨1,false,(List.map (d7 .u8) b0)⟩] ([]) [some ⟨1,false,(List.map (d7 .u8) b0)⟩,some ⟨1,true,[[(f5 5 (List.map (d7 .u8) b5))]]⟩,some ⟨1,true,[[(f5 6 (List.map (E3 1 (d7 .u8)) b6))]]⟩,some ⟨1,false,[[.int .i64 behind]]⟩,some ⟨1,true,[[(f5 0 (List.map (d7 .u8) b0))]]⟩,some ⟨1,false,(List.map (d7 .u8) b5)⟩,some ⟨1,false,(List.map (E3 1 (d7 .u8)) b6)⟩]:=by
 unfold aU6 at h
 refine ba8 ?_
 refine zm 7 (b:=(Nat.ble (0+(List.map (d7 .u8) b5).length) ((List.map (d7 .u8) b5).length))) (v6 _) ?_
 refine zm 0 (b:=(Nat.ble (0+(List.map (E3 1 (d7 .u8)) b6).length) ((List.map (E3 1 (d7 .u8)) b6).length))) (v6 _) ?_
 obtain rfl:=Option.some.inj h
 have hv:=ha
 simp only [z8] at hv
 subst hv
 exact au1 [] (d1:= .tup [.sl false 1 (List.take ((List.map (d7 .u8) b5).length) (List.drop 0 (List.map (d7 .u8) b5))),.sl false 1 (List.take ((List.map (E3 1 (d7 .u8)) b6).length) (List.drop 0 (List.map (E3 1 (d7 .u8)) b6))),.int .i64 behind]) (d:= .tup [.sl false 1 (List.map (d7 .u8) b5),.sl false 1 (List.map (E3 1 (d7 .u8)) b6),.int .i64 behind]) (s1:= [some ⟨1,false,(List.map (d7 .u8) b0)⟩]) (s:= [some ⟨1,false,(List.map (d7 .u8) b0)⟩]) (by kernel_rfl) ⟨by simp [d8.enc,d8.l,i7.enc,i7.l,p5.enc,p5.l,r6.enc,r6.l,e9.enc,e9.l,Op.enc,Op.l,Plan.enc,Plan.l,r9.enc,r9.l,i8.enc,i8.l,p7.enc,p7.l,m8.enc,m8.l,d9.enc,d9.l,List.take_of_length_le,List.map_take,List.map_drop],rfl⟩ ⟨rfl,rfl⟩ Cx.fin_of
theorem co1 {b0:List Int}{behind:Int}{b5:List Int}{b6:List (List Int)}{y:Int×af9}{Y:List (Int×af9)}{r:(List Int)×(List (List Int))×Int}{x:D3⊕((List Int)×(List (List Int))×Int)} (h:aT0 b0 behind b5 b6 y Y=some x) (ha:z8 (at9 b0) r x):L7 E (Cx.of Tryz.f85 false 1) (QW (Rs (T7 b0) r)) 5 (A7 [1,1,1,1,0,1,0]) [.blk 0,.code (A7 [1,1,1,1,1])] [(5,.ptr 1 0 0),(6,.ptr 2 0 0),(7,.ptr 3 0 0),(11,.fn 146 [] [.ptr 4 0 0])] [4,0] [some ⟨1,true,[[(f5 0 (List.map (d7 .u8) b0))]]⟩,some ⟨1,false,(List.map (d7 .u8) b0)⟩] (P5 y::List.map P5 Y) [some ⟨1,false,(List.map (d7 .u8) b0)⟩,some ⟨1,true,[[(f5 5 (List.map (d7 .u8) b5))]]⟩,some ⟨1,true,[[(f5 6 (List.map (E3 1 (d7 .u8)) b6))]]⟩,some ⟨1,false,[[.int .i64 behind]]⟩,some ⟨1,true,[[(f5 0 (List.map (d7 .u8) b0))]]⟩,some ⟨1,false,(List.map (d7 .u8) b5)⟩,some ⟨1,false,(List.map (E3 1 (d7 .u8)) b6)⟩]:=by
 unfold aT0 at h
 refine aP1 ?_
 refine zn 4 h fun h=> ?_
 refine za 0 (d7 .u8) b5 ([y.2.kind]) ?_
 refine zn 2 h fun h=> ?_
 refine za 0 (E3 1 (d7 .u8)) b6 ([y.2.body]) ?_
 refine l8 hm 8 _ ?_
 obtain rfl:=Option.some.inj h
 exact aI4 [] (s1:= [some ⟨1,false,(List.map (d7 .u8) b0)⟩,some ⟨1,true,[[.msl 5 0 ((List.map (d7 .u8) (b5++ [y.2.kind])).length) ((List.map (d7 .u8) (b5++ [y.2.kind])).length) false]]⟩,some ⟨1,true,[[.msl 6 0 ((List.map (E3 1 (d7 .u8)) (b6++ [y.2.body])).length) ((List.map (E3 1 (d7 .u8)) (b6++ [y.2.body])).length) false]]⟩,some ⟨1,false,[[.int .i64 y.1]]⟩,some ⟨1,true,[[(f5 0 (List.map (d7 .u8) b0))]]⟩,some ⟨1,false,(List.map (d7 .u8) (b5++ [y.2.kind]))⟩,some ⟨1,false,(List.map (E3 1 (d7 .u8)) (b6++ [y.2.body]))⟩]) (s:= [some ⟨1,false,(List.map (d7 .u8) b0)⟩,some ⟨1,true,[[.msl 5 0 ((List.map (d7 .u8) (b5++ [y.2.kind])).length) ((List.map (d7 .u8) (b5++ [y.2.kind])).length) false]]⟩,some ⟨1,true,[[.msl 6 0 ((List.map (E3 1 (d7 .u8)) (b6++ [y.2.body])).length) ((List.map (E3 1 (d7 .u8)) (b6++ [y.2.body])).length) false]]⟩,some ⟨1,false,[[.int .i64 y.1]]⟩,some ⟨1,true,[[(f5 0 (List.map (d7 .u8) b0))]]⟩,some ⟨1,false,(List.map (d7 .u8) (b5++ [y.2.kind]))⟩,some ⟨1,false,(List.map (E3 1 (d7 .u8)) (b6++ [y.2.body]))⟩]) (by kernel_rfl) (rfl) (by kernel_rfl) ha
theorem cx4 {b0:List Int}{behind:Int}{b5:List Int}{b6:List (List Int)}{Y:List (Int×af9)}{r:(List Int)×(List (List Int))×Int}{x:D3⊕((List Int)×(List (List Int))×Int)} (h:bb1 b0 behind b5 b6 Y=some x) (ha:z8 (at9 b0) r x):L7 E (Cx.of Tryz.f85 false 1) (QW (Rs (T7 b0) r)) 5 (A7 [1,1,1,1,0,1,0]) [.blk 0,.code (A7 [1,1,1,1,1])] [(5,.ptr 1 0 0),(6,.ptr 2 0 0),(7,.ptr 3 0 0),(11,.fn 146 [] [.ptr 4 0 0])] [4,0] [some ⟨1,true,[[(f5 0 (List.map (d7 .u8) b0))]]⟩,some ⟨1,false,(List.map (d7 .u8) b0)⟩] (List.map P5 Y) [some ⟨1,false,(List.map (d7 .u8) b0)⟩,some ⟨1,true,[[(f5 5 (List.map (d7 .u8) b5))]]⟩,some ⟨1,true,[[(f5 6 (List.map (E3 1 (d7 .u8)) b6))]]⟩,some ⟨1,false,[[.int .i64 behind]]⟩,some ⟨1,true,[[(f5 0 (List.map (d7 .u8) b0))]]⟩,some ⟨1,false,(List.map (d7 .u8) b5)⟩,some ⟨1,false,(List.map (E3 1 (d7 .u8)) b6)⟩]:=by
 cases Y with
 | nil=>exact cu4 h ha
 | cons y Y=>exact co1 h ha
noncomputable def bX9 (b0:List Int):Option ((List Int)×(List (List Int))×Int):=V6 (Y2 b0) (.s0)
theorem cX8 {b0:List Int}{r:(List Int)×(List (List Int))×Int} (h:Ev (Y2 b0) (.s0) r):i0 E 85 [(f5 0 (List.map (d7 .u8) b0))] [some ⟨1,false,(List.map (d7 .u8) b0)⟩] (Rs (T7 b0) r):=
 am9 (m:=(aM0 b0) (.s0)) (fn:=Tryz.f85) (by kernel_rfl) (by kernel_rfl) (aZ2 (Pd:=(at9 b0)) (fun s x r hs ha=>by
  cases s with
  | s0=>exact cw9 hs ha
  | s1=>exact cA7 hs ha
  | s2=>exact cx4 hs ha) h)
theorem cY9 {b0:List Int}{r:(List Int)×(List (List Int))×Int} (h:bX9 b0=some r):i0 E 85 [(f5 0 (List.map (d7 .u8) b0))] [some ⟨1,false,(List.map (d7 .u8) b0)⟩] (Rs (T7 b0) r):=cX8 (bd0 h)
end Go.RX.L

namespace Go.RX.L
open Go Go.RX Go.Proofs
attribute [local irreducible] f6
noncomputable def cn2 (b1 fuse:Int) (down:Bool) (b3 b4 y:List Int):D×f4:=(.tup [],[some ⟨1,true,[[.ptr 2 0 0]]⟩,some ⟨1,false,[[.int .i64 b1]]⟩,some ⟨4,true,[[(f5 5 (List.map (d7 .u8) y)),.msl 4 0 0 0 false,.int .i64 fuse,.bool down]]⟩,some ⟨1,false,(List.map (d7 .u8) b3)⟩,some ⟨1,false,(List.map (d7 .u8) b4)⟩,some ⟨1,false,(List.map (d7 .u8) y)⟩])
noncomputable def ah0 (b1 fuse:Int) (down:Bool) (b3 b4:List Int):Option (List Int):=(bif ((decide (((0:Nat):Int)≤b1))&&(decide ((b1:Int)≤(((List.map (d7 .u8) b3).length:Nat):Int)))) then ((ao4 b1.toNat ((List.map (d7 .u8) b3).length) b3).bind fun y2=>(some y2)) else none)
theorem bk0 {b1 fuse:Int}{down:Bool}{b3 b4 r:List Int} (h:ah0 b1 fuse down b3 b4=some r):i0 E 87 [.ptr 0 0 0,.ptr 1 0 0] [some ⟨1,true,[[.ptr 2 0 0]]⟩,some ⟨1,false,[[.int .i64 b1]]⟩,some ⟨4,true,[[(f5 3 (List.map (d7 .u8) b3)),.msl 4 0 0 0 false,.int .i64 fuse,.bool down]]⟩,some ⟨1,false,(List.map (d7 .u8) b3)⟩,some ⟨1,false,(List.map (d7 .u8) b4)⟩] (Rs (cn2 b1 fuse down b3 b4) r):=so (fn:=Tryz.f87) (k:=true) (m:=5) h<| by
 intro r h;unfold ah0 at h
 refine zn 5 h fun h=> ?_
 refine zdR 0 [] h (fun _=>bR2) fun y2 h=> ?_
 exact zu 3 h
end Go.RX.L

namespace Go.RX.L
open Go Go.RX Go.Proofs
attribute [local irreducible] f6
noncomputable def aj7:=p8 (q0 Tryz.f86)
noncomputable def aE7 (b2:Int) (b4:List Int) (y:Int×Int×Bool×(List Int)):D×f4:=(.int .i64 y.1,[some ⟨4,true,[[(f5 5 (List.map (d7 .u8) y.2.2.2)),.msl 6 0 0 0 false,.int .i64 y.2.1,.bool y.2.2.1]]⟩,some ⟨1,true,[[.ptr 0 0 0]]⟩,some ⟨1,false,[[.int .i64 b2]]⟩,none,none,some ⟨1,false,(List.map (d7 .u8) y.2.2.2)⟩,some ⟨1,false,(List.map (d7 .u8) b4)⟩])
abbrev aC5 (fuse:Int) (down:Bool) (b2:Int) (b3 b4:List Int):=AOk E (Cx.of Tryz.f86 true 5) (aE7 b2 b4)
noncomputable def bk7 (fuse:Int) (down:Bool) (b2:Int) (b3 b4:List Int) (fuse2:Int) (down2:Bool):M:=⟨[.code (aj7 [1,1])],[(0,.ptr 0 0 0),(1,.fn 87 [] [.ptr 1 0 0,.ptr 2 0 0])],[some ⟨4,true,[[(f5 3 (List.map (d7 .u8) b3)),.msl 4 0 0 0 false,.int .i64 fuse2,.bool down2]]⟩,some ⟨1,true,[[.ptr 0 0 0]]⟩,some ⟨1,false,[[.int .i64 b2]]⟩,some ⟨1,false,(List.map (d7 .u8) b3)⟩,some ⟨1,false,(List.map (d7 .u8) b4)⟩]⟩
noncomputable def H7 (fuse:Int) (down:Bool) (b2:Int) (b3 b4:List Int) (fuse2:Int) (down2:Bool):Option (Int×Int×Bool×(List Int)):=(bif down2 then (some (61,fuse2,down2,b3)) else (bif (decide ((fuse2:Int)>0)) then ((ah0 b2 (IntKind.i64.wrap (fuse2-1)) down2 b3 b4).bind fun y3=>(some (0,(IntKind.i64.wrap (fuse2-1)),down2,y3))) else ((ah0 b2 fuse2 down2 b3 b4).bind fun y4=>(some (0,fuse2,down2,y4)))))
theorem au4 {fuse down b2 b3 b4 fuse2 down2}:aC5 fuse down b2 b3 b4 (bk7 fuse down b2 b3 b4 fuse2 down2) (H7 fuse down b2 b3 b4 fuse2 down2):=by
 intro r h;unfold H7 at h
 refine zs 10 h (fun h=> ?_) fun h=> ?_
 ·
  refine zf 4 [.mv 3,.mv 4] ?_
  exact zu 1 h
 refine zs 12 h (fun h=> ?_) fun h=> ?_
 ·
  refine zc 17 [] h (fun _=>bk0) fun y3 h=> ?_
  refine zf 5 [.mv 3,.mv 4] ?_
  exact zu 1 h
 refine zc 5 [] h (fun _=>bk0) fun y4 h=> ?_
 refine zf 5 [.mv 3,.mv 4] ?_
 exact zu 1 h
noncomputable def bn9 (fuse:Int) (down:Bool) (b2:Int) (b3 b4:List Int) (t16:Bool):M:=⟨[.code (aj7 [1,0,1]),.code (aj7 [1,1])],[(0,.ptr 0 0 0),(1,.fn 87 [] [.ptr 1 0 0,.ptr 2 0 0]),(16,.bool t16)],[some ⟨4,true,[[(f5 3 (List.map (d7 .u8) b3)),.msl 4 0 0 0 false,.int .i64 fuse,.bool down]]⟩,some ⟨1,true,[[.ptr 0 0 0]]⟩,some ⟨1,false,[[.int .i64 b2]]⟩,some ⟨1,false,(List.map (d7 .u8) b3)⟩,some ⟨1,false,(List.map (d7 .u8) b4)⟩]⟩
noncomputable def H6 (fuse:Int) (down:Bool) (b2:Int) (b3 b4:List Int) (t16:Bool):Option (Int×Int×Bool×(List Int)):=(bif t16 then (H7 fuse down b2 b3 b4 (-1) true) else (H7 fuse down b2 b3 b4 fuse down))
theorem au7 {fuse down b2 b3 b4 t16}:aC5 fuse down b2 b3 b4 (bn9 fuse down b2 b3 b4 t16) (H6 fuse down b2 b3 b4 t16):=by
 intro r h;unfold H6 at h
 refine zs 1 h (fun h=> ?_) fun h=> ?_
 ·
  exact zg 14 (au4 h)
 exact zg 1 (au4 h)
noncomputable def Y7 (fuse:Int) (down:Bool) (b2:Int) (b3 b4:List Int):Option (Int×Int×Bool×(List Int)):=(bif (!down) then (H6 fuse down b2 b3 b4 ((fuse:Int)==0)) else (H6 fuse down b2 b3 b4 false))
theorem bn4 {fuse:Int}{down:Bool}{b2:Int}{b3 b4:List Int}{r:Int×Int×Bool×(List Int)} (h:Y7 fuse down b2 b3 b4=some r):i0 E 86 [.ptr 0 0 0,.fn 87 [] [.ptr 1 0 0,.ptr 2 0 0]] [some ⟨4,true,[[(f5 3 (List.map (d7 .u8) b3)),.msl 4 0 0 0 false,.int .i64 fuse,.bool down]]⟩,some ⟨1,true,[[.ptr 0 0 0]]⟩,some ⟨1,false,[[.int .i64 b2]]⟩,some ⟨1,false,(List.map (d7 .u8) b3)⟩,some ⟨1,false,(List.map (d7 .u8) b4)⟩] (Rs (aE7 b2 b4) r):=so (fn:=Tryz.f86) (k:=true) (m:=5) h<| by
 intro r h;unfold Y7 at h
 refine zs 15 h (fun h=> ?_) fun h=> ?_
 ·
  exact zg 12 (au7 h)
 exact zg 11 (au7 h)
end Go.RX.L

namespace Go.RX.L
open Go Go.RX Go.Proofs
attribute [local irreducible] f6
noncomputable def cy7 (y:(List Int)×(List (List Int))×Int×Int×Bool×(List Int)×(List Int)):D×f4:=(.tup [.sl false 1 (List.map (d7 .u8) y.1),.sl false 1 (List.map (E3 1 (d7 .u8)) y.2.1),.int .i64 y.2.2.1],[some ⟨4,true,[[(f5 3 (List.map (d7 .u8) y.2.2.2.2.2.1)),(f5 4 (List.map (d7 .u8) y.2.2.2.2.2.2)),.int .i64 y.2.2.2.1,.bool y.2.2.2.2.1]]⟩,none,none,some ⟨1,false,(List.map (d7 .u8) y.2.2.2.2.2.1)⟩,some ⟨1,false,(List.map (d7 .u8) y.2.2.2.2.2.2)⟩])
noncomputable def Z9 (fuse:Int) (down:Bool) (b1 b2:List Int):Option ((List Int)×(List (List Int))×Int×Int×Bool×(List Int)×(List Int)):=((bX9 b1).bind fun y1=>(bif (decide ((y1.2.2:Int)<(((List.map (d7 .u8) b1).length:Nat):Int))) then ((Y7 fuse false y1.2.2 b1 ([])).bind fun y3=>(bif ((y3.1:Int) !=0) then (some ([],[],y3.1,y3.2.1,y3.2.2.1,y3.2.2.2,([]))) else (some (y1.1,y1.2.1,0,y3.2.1,y3.2.2.1,y3.2.2.2,([]))))) else (some (y1.1,y1.2.1,0,fuse,false,b1,[]))))
theorem by7 {fuse:Int}{down:Bool}{b1 b2:List Int}{r:(List Int)×(List (List Int))×Int×Int×Bool×(List Int)×(List Int)} (h:Z9 fuse down b1 b2=some r):i0 E 53 [.ptr 0 0 0] [some ⟨4,true,[[(f5 1 (List.map (d7 .u8) b1)),(f5 2 (List.map (d7 .u8) b2)),.int .i64 fuse,.bool down]]⟩,some ⟨1,false,(List.map (d7 .u8) b1)⟩,some ⟨1,false,(List.map (d7 .u8) b2)⟩] (Rs cy7 r):=so (fn:=Tryz.f53) (k:=true) (m:=3) h<| by
 intro r h;unfold Z9 at h
 refine zc 24 [] h (fun _=>cY9) fun y1 h=> ?_
 refine zs 18 h (fun h=> ?_) fun h=> ?_
 ·
  refine zcx 6 [] [.matc 0 0 1 1] h (fun _=>bn4) (fun y3 h=> ?_)
  refine zs 8 h (fun h=> ?_) fun h=> ?_
  ·
   refine zf 7 [.mv 2] ?_
   exact zu 1 h [.slot 0 [some 1,some 1]]
  refine zf 9 [.mv 2] ?_
  exact zu 1 h
 refine zf 9 [.matc 0 0 1 1,.mv 1,.mv 2] ?_
 exact zu 1 h
end Go.RX.L

namespace Go.RX.L
open Go Go.RX
theorem cR6 (P r:List Int) (k:Nat):List.drop (P.length+k) (P++r)=r.drop k:=by
 rw [List.drop_append,List.drop_of_length_le (by omega),List.nil_append];congr 1;omega
theorem ee2 (P r:List Int) (k:Nat):(P++r)[P.length+k]? =r[k]? :=by
 rw [List.getElem?_append_right (by omega)];congr 1;omega
theorem dZ3 {b:List Int}{at_ ln cp:Nat} (h:at_+ln≤b.length) (hm:b.length≤G1):aD4 at_ ln cp b=some ((b.drop at_).take ln):=by
 have e:(List.take ln (List.drop at_ (List.map (d7 .u8) b))).length=ln:=by simp;omega
 have c:decide ((0+ln)*1≤i6)=true:=C7 (by simp only [G1] at hm;omega)
 simp only [aD4,e,show Nat.beq ln ln=true from Nat.beq_refl ln,cond_true,c,List.nil_append]
theorem dL8 {b:List Int}{ln cp:Nat} (h:ln≤b.length) (hm:b.length≤G1):ao4 ln cp b=some (b.take ln):=by
 have e:(List.take ln (List.drop 0 (List.map (d7 .u8) b))).length=ln:=by simp;omega
 have c:decide ((0+ln)*1≤i6)=true:=C7 (by simp only [G1] at hm;omega)
 unfold ao4
 rw [e]
 simp only [show Nat.beq ln ln=true from Nat.beq_refl ln,cond_true,c,List.nil_append,List.drop_zero]
theorem bd7 (at_:Int) (b:List Int) (e n:Int) (x y z:Nat) (h:e≠0):Q5 at_ b e n x y z=some (0,[],0,e):=by
 have:(e !=0)=true:=by simp [h]
 simp only [Q5,this,cond_true]
theorem dI9 {P rest:List Int} (hb:s9 rest) (hm:P.length+rest.length≤G1) (h0:rest= []∨rest.head? =some 247):ag7 P.length (P++rest) P.length rest.length rest.length false=some (rF P.length (pF rest)):=by
 have hm0:=hm
 simp only [G1] at hm
 have w1:IntKind.i64.wrap (IntKind.i64.wrap (((rest.length:Nat):Int)-4)-4)=(rest.length:Int)-8:=by
  rw [u7 (n:=((rest.length:Nat):Int)-4) (by omega) (by omega),u7 (by omega) (by omega)];omega
 by_cases h8:rest.length<8
 ·have c1:decide (((rest.length:Nat):Int)<8)=true:=by simp;omega
  have e:pF rest= .inl 31:=by
   rcases h0 with rfl | h0
   ·rfl
   ·cases rest with
    | nil=>rfl
    | cons m l=>
     obtain rfl:=Option.some.inj h0
     exact dE5 (by simp at h8;omega)
  simp only [ag7,cond_false,c1,cond_true,bd7 _ _ _ _ _ _ _ (by decide:(31:Int)≠0),e,rF]
 ·have c1:decide (((rest.length:Nat):Int)<8)=false:=by simp;omega
  have c2:decide ((4:Int)≤((rest.length:Nat):Int))=true:=by simp;omega
  have hx:∃k a c r,rest=247::k::a::c::r:=by
   match rest,h8,h0 with
   | m::k::a::c::r,_,h0=>
    rcases h0 with h0 | h0
    ·cases h0
    ·obtain rfl:=Option.some.inj h0;exact ⟨k,a,c,r,rfl⟩
   | [],h,_=>simp at h
   | [_],h,_=>simp at h
   | [_,_],h,_=>simp at h
   | [_,_,_],h,_=>simp at h
  obtain ⟨k,a',c',r,hrest⟩:=hx
  have ha:=hb a' (by simp [hrest])
  have hc:=hb c' (by simp [hrest])
  obtain ⟨a,rfl⟩:=Int.eq_ofNat_of_zero_le ha.1
  obtain ⟨c,rfl⟩:=Int.eq_ofNat_of_zero_le hc.1
  have hbr:s9 r:=fun x hx=>hb x (by simp [hrest,hx])
  have hk:=hb k (by simp [hrest])
  have hlr:rest.length=r.length+4:=by rw [hrest];simp
  have hr4:4≤r.length:=by omega
  have n1:aD0 [(a:Int),(c:Int)]=some ((a*256+c:Nat):Int):=by
   have:=cF9 (b:= [(a:Int),(c:Int)]) (fun x hx=>by simp only [List.mem_cons,List.not_mem_nil,or_false] at hx;rcases hx with rfl | rfl<;>assumption) (by simp)
   rw [this];simp [R2]
  have d1:List.take 2 (List.drop (P.length+2) (P++rest))= [(a:Int),(c:Int)]:=by rw [cR6,hrest];simp
  have b1:Nat.ble (P.length+2+2) (List.map (d7 .u8) (P++rest)).length=true:=by simp;omega
  generalize hn:a*256+c=n at*
  simp only [ag7,cond_false,c1,c2,cond_true,b1,d1,n1,Option.bind_some,w1]
  by_cases hbig:8192<n
  ·have c3:decide ((n:Int)>8192)=true:=by simp;omega
   rw [hrest,dN5 hr4 (by omega)]
   simp only [c3,cond_true,bd7 _ _ _ _ _ _ _ (by decide:(2:Int)≠0),rF]
  ·have c3:decide ((n:Int)>8192)=false:=by simp;omega
   by_cases hs:r.length<n+4
   ·have c4:decide ((n:Int)>(rest.length:Int)-8)=true:=by simp;omega
    have e:pF rest= .inl 31:=by rw [hrest];exact dO0 hr4 (by omega) (by omega)
    rw [e]
    simp only [c3,c4,cond_true,cond_false,bd7 _ _ _ _ _ _ _ (by decide:(31:Int)≠0),rF]
   ·have c4:decide ((n:Int)>(rest.length:Int)-8)=false:=by simp;omega
    have w2:IntKind.i64.wrap ((4:Int)+(n:Int))=((n+4:Nat):Int):=by rw [u7 (by omega) (by omega)];omega
    have w3:IntKind.i64.wrap (((n+4:Nat):Int)+4)=((n+8:Nat):Int):=by rw [u7 (by omega) (by omega)];omega
    have c5:(decide (((0:Nat):Int)≤((n+4:Nat):Int))&&decide (((n+4:Nat):Int)≤(rest.length:Int)))=true:=by simp;omega
    have c6:decide ((1:Int)≤(((n+4:Nat):Nat):Int))=true:=by simp;omega
    have c6' :decide ((4:Int)≤(((n+4:Nat):Nat):Int))=true:=by simp;omega
    have c7:(decide (((0:Nat):Int)≤((n+8:Nat):Int))&&decide (((n+8:Nat):Int)≤(rest.length:Int)))=true:=by simp;omega
    have c8:(decide (((0:Nat):Int)≤((n+4:Nat):Int))&&decide (((n+4:Nat):Int)≤((n+8:Nat):Int)))=true:=by simp;omega
    have b2:Nat.ble (P.length+1+(n+4-1)) (List.map (d7 .u8) (P++rest)).length=true:=by simp;omega
    have b3:Nat.ble (P.length+(n+4)+(n+8-(n+4))) (List.map (d7 .u8) (P++rest)).length=true:=by simp;omega
    have d2:List.take (n+4-1) (List.drop (P.length+1) (P++rest))=(k::(a:Int)::(c:Int)::r).take (n+3):=by rw [cR6,hrest];simp
    have d3:List.take (n+8-(n+4)) (List.drop (P.length+(n+4)) (P++rest))=(r.drop n).take 4:=by
     rw [cR6,hrest,show n+8-(n+4)=4 by omega];rfl
    have d4:List.take (n+4-4) (List.drop (P.length+4) (P++rest))=r.take n:=by rw [cR6,hrest];simp
    have hs1:=dq1 (b:=(k::(a:Int)::(c:Int)::r).take (n+3)) (cx2 (fun x hx=>hb x (by rw [hrest];exact List.mem_cons_of_mem _ hx)) _) (by rw [List.length_take];omega)
    have hs2:=cF9 (b:=(r.drop n).take 4) (cx2 (aZ0 hbr _) _) (by rw [List.length_take];omega)
    have hcl:=cX1 ((k::(a:Int)::(c:Int)::r).take (n+3))
    have ew:pF rest=if crc ((k::(a:Int)::(c:Int)::r).take (n+3))≠R2 0 ((r.drop n).take 4) then .inl 33 else .inr (k,r.take n,n+8):=by
     rw [hrest,dI7 hr4 (by omega) (by omega),hn]
    rw [ew]
    simp only [c3,c4,cond_true,cond_false,w2,w3,c5,c6,c7,c8,b2,b3,Int.toNat_natCast,d2,d3,hs1,hs2,Option.bind_some,u7 (n:=((crc ((k::(a:Int)::(c:Int)::r).take (n+3)):Nat):Int)) (by omega) (by omega)]
    by_cases hq:crc ((k::(a:Int)::(c:Int)::r).take (n+3))=R2 0 ((r.drop n).take 4)
    ·have q1:((((crc ((k::(a:Int)::(c:Int)::r).take (n+3)):Nat):Int)) !=((R2 0 ((r.drop n).take 4):Nat):Int))=false:=by rw [hq];simp
     rw [q1,if_neg (by simpa using hq)]
     have c9:decide ((1:Int)<(rest.length:Int))=true:=by simp;omega
     have w4:IntKind.i64.wrap (IntKind.i64.wrap (IntKind.i64.wrap ((P.length:Int)+4)+(n:Int))+4)=((P.length+(n+8):Nat):Int):=by
      rw [u7 (n:=(P.length:Int)+4) (by omega) (by omega),u7 (n:=(P.length:Int)+4+(n:Int)) (by omega) (by omega),u7 (by omega) (by omega)];omega
     have cl:=dZ3 (b:=P++rest) (at_:=P.length+4) (ln:=n+4-4) (cp:=rest.length-4) (by simp;omega) (by simp;omega)
     have g1:(P++rest)[P.length+1]? =some k:=by rw [ee2,hrest];rfl
     simp only [cond_false,Q5,bne_self_eq_false,c9,cond_true,g1,Option.bind_some,w2,c5,c6',Int.toNat_natCast,cl,d4,w4,rF]
    ·have q1:((((crc ((k::(a:Int)::(c:Int)::r).take (n+3)):Nat):Int)) !=((R2 0 ((r.drop n).take 4):Nat):Int))=true:=bne_iff_ne.2 fun h=>hq (Int.ofNat.inj h)
     rw [q1,if_pos (by simpa using hq)]
     simp only [cond_true,bd7 _ _ _ _ _ _ _ (by decide:(33:Int)≠0),rF]
theorem dX9 {P rest:List Int} (hb:s9 rest) (hm:P.length+rest.length≤G1):bc9 P.length (P++rest)=some (rF P.length (pF rest)):=by
 have hm' :=hm
 simp only [G1] at hm'
 have c1:decide ((P.length:Int)<0)=false:=by simp
 have c2:decide ((P.length:Int)>(((P++rest).length:Nat):Int))=false:=by simp;omega
 have c3:(decide (((0:Nat):Int)≤(P.length:Int))&&decide ((P.length:Int)≤(((P++rest).length:Nat):Int)))=true:=by simp;omega
 have e1:(P++rest).length-P.length=rest.length:=by simp
 simp only [bc9,c1,cond_false,List.length_map,c2,aM5,c3,cond_true,Int.toNat_natCast,e1,Nat.zero_add]
 cases rest with
 | nil=>
  have:=dI9 (P:=P) (rest:= []) hb hm (.inl rfl)
  exact this
 | cons m l=>
  have c4:decide ((((m::l).length:Nat):Int)>0)=true:=by simp
  have c5:decide ((0:Int)<(((m::l).length:Nat):Int))=true:=by simp
  have g0:(P++m::l)[P.length]? =some m:=by simp
  simp only [c4,c5,cond_true,g0,Option.bind_some]
  by_cases hq:m=247
  ·subst hq
   exact dI9 hb hm (.inr rfl)
  ·have:(m !=247)=true:=by simp [hq]
   rw [this,dE1 hq]
   simp only [ag7,cond_true,bd7 _ _ _ _ _ _ _ (by decide:(32:Int)≠0),rF]
/-! ### frames, one behind the other -/
/-- A frame: its kind, its body. -/
abbrev Fr1 := Int × List Int
def bQ6 (x:Fr1):Prop:=(0≤x.1∧x.1≤255)∧s9 x.2∧x.2.length≤8192
def K4:List Fr1→List Int
 | []=> []
 | x::l=>H0 x.1 x.2++K4 l
theorem dO6 (a b:List Fr1):K4 (a++b)=K4 a++K4 b:=by
 induction a with
 | nil=>rfl
 | cons x a ih=>simp [K4,ih]
theorem cJ7 {l:List Fr1} (h:∀x∈l,bQ6 x):s9 (K4 l):=by
 induction l with
 | nil=>intro c hc;simp [K4] at hc
 | cons x l ih=>
  intro c hc
  simp only [K4,List.mem_append] at hc
  obtain ⟨h1,h2,h3⟩:=h x (by simp)
  rcases hc with hc | hc
  ·exact bJ8 h1 h2 (by omega) c hc
  ·exact ih (fun y hy=>h y (by simp [hy])) c hc
def bo3:List Int→List Fr1→List (Int×af9)
 | _,[]=> []
 | P,x::l=>(((P++H0 x.1 x.2).length:Int),⟨x.1,x.2⟩)::bo3 (P++H0 x.1 x.2) l
theorem dK8 {J:List Int}{e:Int} (hJ:pF J= .inl e) (hJb:s9 J):∀(l:List Fr1) (P:List Int),(∀x∈l,bQ6 x)→P.length+(K4 l++J).length≤G1→EvL U9 (.s1 P.length (P++(K4 l++J))) (bo3 P l)
 | [],P,hl,hm=>by
  refine .done ?_
  have:=dX9 (P:=P) (rest:=J) hJb (by simpa [K4] using hm)
  have he:(e !=0)=true:=by
   have:=dZ5 hJ
   rcases this with rfl | rfl | rfl | rfl<;>rfl
  simp only [U9,as2,K4,List.nil_append,this,hJ,rF,Option.bind_some,he,cond_true,bo3]
 | x::l,P,hl,hm=>by
  obtain ⟨h1,h2,h3⟩:=hl x (by simp)
  have hl' :∀y∈l,bQ6 y:=fun y hy=>hl y (by simp [hy])
  have hb:s9 (K4 (x::l)++J):=fun c hc=>by
   rcases List.mem_append.1 hc with hc | hc
   ·exact cJ7 hl c hc
   ·exact hJb c hc
  have hg:=dX9 (P:=P) hb hm
  have hpf:pF (K4 (x::l)++J)= .inr (x.1,x.2,x.2.length+8):=by
   simp only [K4,List.append_assoc]
   exact cZ7 h1 h2 h3 _
  rw [hpf] at hg
  have hlen:((P++H0 x.1 x.2).length:Int)=((P.length+(x.2.length+8):Nat):Int):=by simp [aQ0]
  have ih:=dK8 hJ hJb l (P++H0 x.1 x.2) hl' (by simp [K4] at hm ⊢;omega)
  refine EvL.next (l:= [(((P++H0 x.1 x.2).length:Int),(⟨x.1,x.2⟩:af9))]) (s' :=K6.s1 (P++H0 x.1 x.2).length (P++(K4 (x::l)++J))) ?_ ?_
  ·simp only [U9,as2,hg,rF,Option.bind_some,bne_self_eq_false,cond_false,Option.map_some,List.nil_append,hlen]
  ·rw [show P++(K4 (x::l)++J)=P++H0 x.1 x.2++(K4 l++J) by simp [K4]]
   exact ih
theorem cH6 {b:List Int}:∀(l:List Fr1) (P:List Int) (ks:List Int) (bs:List (List Int)),(∀x∈l,bQ6 x)→ks.length=bs.length→bs.length+l.length≤1000000000→
  Ev (Y2 b) (.s2 (P.length:Int) ks bs (bo3 P l)) (ks++l.map (·.1),bs++l.map (·.2),((P++K4 l).length:Int))
 | [],P,ks,bs,hl,h1,h2=> .done (by simp [Y2,bb1,aU6,bo3,K4])
 | x::l,P,ks,bs,hl,h1,h2=>by
  have ih:=cH6 (b:=b) l (P++H0 x.1 x.2) (ks++ [x.1]) (bs++ [x.2]) (fun y hy=>hl y (by simp [hy])) (by simp [h1]) (by simp at h2 ⊢;omega)
  simp only [List.length_cons] at h2
  have l1:decide ((ks.length+1)*1≤i6)=true:=C7 (by omega)
  have l2:decide ((bs.length+1)*24≤i6)=true:=C7 (by omega)
  refine .next (s' :=D3.s2 ((P++H0 x.1 x.2).length:Int) (ks++ [x.1]) (bs++ [x.2]) (bo3 (P++H0 x.1 x.2) l)) ?_ ?_
  ·simp only [Y2,bb1,bo3,aT0,List.length_map,l1,l2,cond_true]
  ·simpa [K4] using ih
theorem ee7 {l:List Fr1}{J:List Int}{e:Int} (hl:∀x∈l,bQ6 x) (hJ:pF J= .inl e) (hJb:s9 J) (hm:(K4 l++J).length≤10000000):bX9 (K4 l++J)=some (l.map (·.1),l.map (·.2),((K4 l).length:Int)):=by
 have hn:l.length≤(K4 l).length:=by
  clear hm hl
  induction l with
  | nil=>simp [K4]
  | cons x l ih=>simp [K4,aQ0];omega
 have h1:=dK8 hJ hJb l [] hl (by simp only [G1];simp at hm ⊢;omega)
 have h2:=cH6 (b:=K4 l++J) l [] [] [] hl rfl (by simp at hm ⊢;omega)
 have e1:aS5 (K4 l++J)=some (bo3 [] l):=bz9 (EvL.next (l:= []) (s' :=K6.s1 0 (K4 l++J)) (by simp [U9,aI8]) (by simpa using h1))
 refine u6 (.next (s' :=D3.s1 0 [] []) ?_ (.next (s' :=D3.s2 0 [] [] (bo3 [] l)) ?_ ?_))
 ·simp only [Y2,bb8,bo1,Option.bind_some]
 ·simp only [Y2,bc7,e1,Option.bind_some]
 ·simpa using h2
end Go.RX.L

namespace Go.RX.L
open Go Go.RX Go.Proofs
attribute [local irreducible] f6
noncomputable def cd9 (y:(List Int)×m8):D×f4:=(.sl false 1 (List.map (d7 .i64) y.1),[some ⟨3,false,[(m8.enc y.2)]⟩])
noncomputable def ab3 (b0:m8):Option ((List Int)×m8):=(bif ((b0.place.e:Int) !=0) then (some ([],b0)) else ((aQ7 b0.b b0.place.at_).bind fun y2=>(some (y2.1,(⟨(⟨y2.2.1,y2.2.2⟩:be8),b0.b⟩:m8)))))
theorem bg0 {b0:m8}{r:(List Int)×m8} (h:ab3 b0=some r):i0 E 89 [.ptr 0 0 0] [some ⟨3,false,[(m8.enc b0)]⟩] (Rs cd9 r):=so (fn:=Tryz.f89) (k:=false) (m:=1) h<| by
 intro r h;unfold ab3 at h
 refine zs 16 h (fun h=> ?_) fun h=> ?_
 ·
  exact zu 5 h [.slot 0 [some 1]]
 refine zd 9 [] h (fun _=>bX6) fun y2 h=> ?_
 exact zu 10 h
end Go.RX.L

namespace Go.RX.L
open Go Go.RX Go.Proofs
attribute [local irreducible] f6
noncomputable def dd1 (y:(List Int)×Int×Int):D×f4:=(.tup [.sl false 1 (List.map (d7 .u8) y.1),.int .i64 y.2.1,.int .i64 y.2.2],[])
noncomputable def an6 (b:List Int) (at_:Int):Option ((List Int)×Int×Int):=((J6 b at_ 4096).bind fun y1=>(bif ((y1.2.2:Int) !=0) then (some ([],0,y1.2.2)) else (bif (decide ((y1.1:Int)>(IntKind.i64.wrap ((((List.map (d7 .u8) b).length:Nat):Int)-y1.2.1)))) then (some ([],0,11)) else (bif ((decide (((0:Nat):Int)≤(IntKind.i64.wrap (y1.2.1+y1.1))))&&(decide (((IntKind.i64.wrap (y1.2.1+y1.1)):Int)≤(((List.map (d7 .u8) b).length:Nat):Int)))) then (bif ((decide (((0:Nat):Int)≤y1.2.1))&&(decide ((y1.2.1:Int)≤(((IntKind.i64.wrap (y1.2.1+y1.1)).toNat:Nat):Int)))) then (bif (decide (((List.map (d7 .u8) (List.drop y1.2.1.toNat (List.take ((IntKind.i64.wrap (y1.2.1+y1.1)).toNat) b))).length)*1≤i6)) then (some ((List.drop y1.2.1.toNat (List.take ((IntKind.i64.wrap (y1.2.1+y1.1)).toNat) b)),(IntKind.i64.wrap (y1.2.1+y1.1)),0)) else none) else none) else none))))
theorem cU7 {b:List Int}{at_:Int}{r:(List Int)×Int×Int} (h:an6 b at_=some r):i0 E 120 [.sl false 1 (List.map (d7 .u8) b),.int .i64 at_] [] (Rs dd1 r):=so (fn:=Tryz.f120) (k:=false) (m:=0) h<| by
 intro r h;unfold an6 at h
 refine zc 11 [] h (fun _=>bO3) fun y1 h=> ?_
 refine zs 17 h (fun h=> ?_) fun h=> ?_
 ·
  exact zu 8 h [.slot 0 [some 1]]
 refine zs 11 h (fun h=> ?_) fun h=> ?_
 ·
  exact zu 7 h [.slot 0 [some 1]]
 refine zn 10 h fun h=> ?_
 refine zn 0 h fun h=> ?_
 refine zw 0 (a:=(List.drop y1.2.1.toNat (List.take ((IntKind.i64.wrap (y1.2.1+y1.1)).toNat) (List.map (d7 .u8) b)))) (b:=(List.map (d7 .u8) (List.drop y1.2.1.toNat (List.take ((IntKind.i64.wrap (y1.2.1+y1.1)).toNat) b)))) (ck9 _ _ _ _) ?_
 refine zn 1 h fun h=> ?_
 refine zm 9 (b:=(Nat.ble (0+(List.map (d7 .u8) (List.drop y1.2.1.toNat (List.take ((IntKind.i64.wrap (y1.2.1+y1.1)).toNat) b))).length) ((List.map (d7 .u8) (List.drop y1.2.1.toNat (List.take ((IntKind.i64.wrap (y1.2.1+y1.1)).toNat) b))).length))) (v6 _) ?_
 obtain rfl:=Option.some.inj h
 exact au1 [] (d1:= .tup [.sl false 1 (List.take ((List.map (d7 .u8) (List.drop y1.2.1.toNat (List.take ((IntKind.i64.wrap (y1.2.1+y1.1)).toNat) b))).length) (List.drop 0 (List.map (d7 .u8) (List.drop y1.2.1.toNat (List.take ((IntKind.i64.wrap (y1.2.1+y1.1)).toNat) b))))),.int .i64 (IntKind.i64.wrap (y1.2.1+y1.1)),.int .i64 0]) (d:= .tup [.sl false 1 (List.map (d7 .u8) (List.drop y1.2.1.toNat (List.take ((IntKind.i64.wrap (y1.2.1+y1.1)).toNat) b))),.int .i64 (IntKind.i64.wrap (y1.2.1+y1.1)),.int .i64 0]) (s1:= []) (s:= []) (by kernel_rfl) ⟨by simp [d8.enc,d8.l,i7.enc,i7.l,p5.enc,p5.l,r6.enc,r6.l,e9.enc,e9.l,Op.enc,Op.l,Plan.enc,Plan.l,r9.enc,r9.l,i8.enc,i8.l,p7.enc,p7.l,m8.enc,m8.l,d9.enc,d9.l,List.take_of_length_le,List.map_take,List.map_drop],rfl⟩ ⟨rfl,rfl⟩ Cx.fin_of
end Go.RX.L

namespace Go.RX.L
open Go Go.RX Go.Proofs
attribute [local irreducible] f6
noncomputable def cd0 (y:(List Int)×m8):D×f4:=(.sl false 1 (List.map (d7 .u8) y.1),[some ⟨3,false,[(m8.enc y.2)]⟩])
noncomputable def I5 (b0:m8):Option ((List Int)×m8):=(bif ((b0.place.e:Int) !=0) then (some ([],b0)) else ((an6 b0.b b0.place.at_).bind fun y2=>(some (y2.1,(⟨(⟨y2.2.1,y2.2.2⟩:be8),b0.b⟩:m8)))))
theorem aG0 {b0:m8}{r:(List Int)×m8} (h:I5 b0=some r):i0 E 91 [.ptr 0 0 0] [some ⟨3,false,[(m8.enc b0)]⟩] (Rs cd0 r):=so (fn:=Tryz.f91) (k:=false) (m:=1) h<| by
 intro r h;unfold I5 at h
 refine zs 16 h (fun h=> ?_) fun h=> ?_
 ·
  exact zu 5 h [.slot 0 [some 1]]
 refine zd 9 [] h (fun _=>cU7) fun y2 h=> ?_
 exact zu 10 h
end Go.RX.L

namespace Go.RX.L
open Go Go.RX Go.Proofs
attribute [local irreducible] f6
noncomputable def ap6:=p8 (q0 Tryz.f58)
noncomputable def cg2 (y:Bool):D×f4:=(.bool y,[])
abbrev by8:=AOk E (Cx.of Tryz.f58 false 0) cg2
noncomputable def da0 (t30:Bool) (m:e9):M:=⟨[.code (ap6 [1,0,0,1,1,1]),.blk 0,.code (ap6 [1,1])],[(1,.ptr 0 0 0),(30,.bool t30)],[some ⟨26,false,[(e9.enc m)]⟩]⟩
noncomputable def ag5 (t30:Bool) (m:e9):Option Bool:=(bif t30 then (some false) else (bif m.HasPlan then ((af8 m.Plan).bind fun y3=>(some y3)) else ((aQ1 m.Plan (⟨0,0,0,0,0,0,0,0,0,0,[],[]⟩:Plan)).bind fun y4=>(some y4))))
theorem aX7 {t30 m}:by8 (da0 t30 m) (ag5 t30 m):=by
 intro r h;unfold ag5 at h
 refine zs 1 h (fun h=> ?_) fun h=> ?_
 ·
  exact zu 5 h
 refine zs 8 h (fun h=> ?_) fun h=> ?_
 ·
  refine zc 6 [] h (fun _=>ay9) fun y3 h=> ?_
  exact zu 3 h
 refine zc 9 [some 1,some 1] h (fun _=>cV0) fun y4 h=> ?_
 exact zu 3 h
noncomputable def cV7 (t30:Bool) (m:e9):M:=⟨[.code (ap6 [1,0,0,1,1,0,1]),.code (ap6 [1,0,0,1,1,1]),.blk 0,.code (ap6 [1,1])],[(1,.ptr 0 0 0),(30,.bool t30)],[some ⟨26,false,[(e9.enc m)]⟩]⟩
noncomputable def ap0 (t30:Bool) (m:e9):Option Bool:=(bif t30 then (ag5 t30 m) else (bif (decide (((((List.map (d7 .u8) m.Session).length:Nat):Int):Int)>64)) then (ag5 (decide (((((List.map (d7 .u8) m.Session).length:Nat):Int):Int)>64)) m) else (ag5 (decide (((((List.map (d7 .u8) m.Payload).length:Nat):Int):Int)>1024)) m)))
theorem bC8 {t30 m}:by8 (cV7 t30 m) (ap0 t30 m):=by
 intro r h;unfold ap0 at h
 refine zs 1 h (fun h=> ?_) fun h=> ?_
 ·
  exact zg 1 (aX7 h)
 refine zs 10 h (fun h=> ?_) fun h=> ?_
 ·
  exact zg 1 (aX7 h)
 exact zg 8 (aX7 h)
noncomputable def cY8 (t3:Bool) (m:e9):M:=⟨[.code (ap6 [1,0,0,1]),.blk 0,.code (ap6 [1,1])],[(1,.ptr 0 0 0),(3,.bool t3)],[some ⟨26,false,[(e9.enc m)]⟩]⟩
noncomputable def Q9 (t3:Bool) (m:e9):Option Bool:=(bif t3 then (some false) else (bif (decide (((((List.map (d7 .i64) m.ID).length:Nat):Int):Int)>0)) then (ap0 (((((List.map (d7 .i64) m.ID).length:Nat):Int):Int) !=3) m) else (ap0 false m)))
theorem ag9 {t3 m}:by8 (cY8 t3 m) (Q9 t3 m):=by
 intro r h;unfold Q9 at h
 refine zs 1 h (fun h=> ?_) fun h=> ?_
 ·
  exact zu 5 h
 refine zs 10 h (fun h=> ?_) fun h=> ?_
 ·
  exact zg 11 (bC8 h)
 exact zg 10 (bC8 h)
noncomputable def an8 (m:e9):Option Bool:=(bif (decide ((m.Kind:Int)<1)) then (Q9 (decide ((m.Kind:Int)<1)) m) else (bif (decide ((m.Kind:Int)>19)) then (Q9 (decide ((m.Kind:Int)>19)) m) else (bif (decide (((A2 (A2 m.From m.To) m.Code):Int)<0)) then (Q9 (decide (((A2 (A2 m.From m.To) m.Code):Int)<0)) m) else (bif (decide (((u9 m.From m.To):Int)>255)) then (Q9 (decide (((u9 m.From m.To):Int)>255)) m) else (bif (decide ((m.Code:Int)>1000)) then (Q9 (decide ((m.Code:Int)>1000)) m) else (Q9 (decide ((m.Up:Int)≥65536)) m))))))
theorem bt5 {m:e9}{r:Bool} (h:an8 m=some r):i0 E 58 [.agg (e9.enc m)] [] (Rs cg2 r):=so (fn:=Tryz.f58) (k:=false) (m:=0) h<| by
 intro r h;unfold an8 at h
 refine zs 17 h (fun h=> ?_) fun h=> ?_
 ·
  exact zg 1 (ag9 h)
 refine zs 9 h (fun h=> ?_) fun h=> ?_
 ·
  exact zg 1 (ag9 h)
 refine zs 16 h (fun h=> ?_) fun h=> ?_
 ·
  exact zg 1 (ag9 h)
 refine zs 13 h (fun h=> ?_) fun h=> ?_
 ·
  exact zg 1 (ag9 h)
 refine zs 9 h (fun h=> ?_) fun h=> ?_
 ·
  exact zg 1 (ag9 h)
 exact zg 7 (ag9 h)
end Go.RX.L

namespace Go.RX.L
open Go Go.RX Go.Proofs
attribute [local irreducible] f6
noncomputable def br6:=p8 (q0 Tryz.f54)
noncomputable def cX3 (y:e9×Int):D×f4:=(.tup [.agg (e9.enc y.1),.int .i64 y.2],[])
abbrev cj3:=AOk E (Cx.of Tryz.f54 false 0) cX3
noncomputable def dA8 (t149:Bool) (b0 m:e9):M:=⟨[.code (br6 [1,1,1,1,1,1,1,1,1,0,1]),.code (br6 [1,1,1,1,1,1,1,1,1,1])],[(4,.ptr 0 0 0),(8,.ptr 1 0 0),(149,.bool t149)],[some ⟨26,false,[(e9.enc b0)]⟩,some ⟨26,false,[(e9.enc m)]⟩]⟩
noncomputable def aP4 (t149:Bool) (b0 m:e9):Option (e9×Int):=(bif t149 then (some ((⟨0,0,0,0,0,0,0,0,0,0,false,(⟨0,0,0,0,0,0,0,0,0,0,[],[]⟩:Plan),[],[],[]⟩:e9),51)) else (some (m,0)))
theorem bz7 {t149 b0 m}:cj3 (dA8 t149 b0 m) (aP4 t149 b0 m):=by
 intro r h;unfold aP4 at h
 refine zs 1 h (fun h=> ?_) fun h=> ?_
 ·
  exact zu 10 h [.slot 0 [some 1,some 1,some 1,some 1,some 1]]
 exact zu 12 h
noncomputable def dw2 (body:List Int) (b0:e9) (r_:m8) (m:e9):M:=⟨[.code (br6 [1,1,1,1,1,1])],[(1,.sl false 1 (List.map (d7 .u8) body)),(4,.ptr 0 0 0),(6,.ptr 1 0 0),(8,.ptr 2 0 0)],[some ⟨26,false,[(e9.enc b0)]⟩,some ⟨3,false,[(m8.enc r_)]⟩,some ⟨26,false,[(e9.enc m)]⟩]⟩
noncomputable def aE4 (body:List Int) (b0:e9) (r_:m8) (m:e9):Option (e9×Int):=((ab3 r_).bind fun y1=>((I5 y1.2).bind fun y2=>((I5 y2.2).bind fun y3=>(bif ((y3.2.place.e:Int) !=0) then (aP4 true b0 (⟨m.Kind,m.From,m.To,m.Epoch,m.Ballot,m.Accepted,m.Nonce,m.Time,m.Up,m.Code,m.HasPlan,m.Plan,y1.1,y2.1,y3.1⟩:e9)) else (bif ((y3.2.place.at_:Int) !=(((List.map (d7 .u8) body).length:Nat):Int)) then (aP4 true b0 (⟨m.Kind,m.From,m.To,m.Epoch,m.Ballot,m.Accepted,m.Nonce,m.Time,m.Up,m.Code,m.HasPlan,m.Plan,y1.1,y2.1,y3.1⟩:e9)) else ((an8 (⟨m.Kind,m.From,m.To,m.Epoch,m.Ballot,m.Accepted,m.Nonce,m.Time,m.Up,m.Code,m.HasPlan,m.Plan,y1.1,y2.1,y3.1⟩:e9)).bind fun y6=>(aP4 (!y6) b0 (⟨m.Kind,m.From,m.To,m.Epoch,m.Ballot,m.Accepted,m.Nonce,m.Time,m.Up,m.Code,m.HasPlan,m.Plan,y1.1,y2.1,y3.1⟩:e9))))))))
theorem cg5 {body b0 r_ m}:cj3 (dw2 body b0 r_ m) (aE4 body b0 r_ m):=by
 intro r h;unfold aE4 at h
 refine zc 4 [] h (fun _=>bg0) fun y1 h=> ?_
 refine zc 9 [] h (fun _=>aG0) fun y2 h=> ?_
 refine zc 9 [] h (fun _=>aG0) fun y3 h=> ?_
 refine zs 17 h (fun h=> ?_) fun h=> ?_
 ·
  exact zg 26 (bz7 h)
 refine zs 19 h (fun h=> ?_) fun h=> ?_
 ·
  exact zg 7 (bz7 h)
 refine zc 3 [] h (fun _=>bt5) fun y6 h=> ?_
 exact zg 5 (bz7 h)
noncomputable def dw4 (kind:Int) (body l_:List Int) (t70:Bool) (b0:e9) (r_:m8):M:=⟨[.code (br6 [1,1,1,0,1]),.code (br6 [1,1,1,1])],[(0,.int .u8 kind),(1,.sl false 1 (List.map (d7 .u8) body)),(4,.ptr 0 0 0),(6,.ptr 1 0 0),(7,.sl false 1 (List.map (d7 .i64) l_)),(70,.bool t70)],[some ⟨26,false,[(e9.enc b0)]⟩,some ⟨3,false,[(m8.enc r_)]⟩]⟩
noncomputable def O7 (kind:Int) (body l_:List Int) (t70:Bool) (b0:e9) (r_:m8):Option (e9×Int):=(bif t70 then (some ((⟨0,0,0,0,0,0,0,0,0,0,false,(⟨0,0,0,0,0,0,0,0,0,0,[],[]⟩:Plan),[],[],[]⟩:e9),51)) else (bif (decide ((0:Int)<(((List.map (d7 .i64) l_).length:Nat):Int))) then (((l_)[0]?).bind fun y3=>(bif (decide ((1:Int)<(((List.map (d7 .i64) l_).length:Nat):Int))) then (((l_)[1]?).bind fun y6=>(bif (decide ((2:Int)<(((List.map (d7 .i64) l_).length:Nat):Int))) then (((l_)[2]?).bind fun y9=>(bif (decide ((3:Int)<(((List.map (d7 .i64) l_).length:Nat):Int))) then (((l_)[3]?).bind fun y12=>(bif (decide ((4:Int)<(((List.map (d7 .i64) l_).length:Nat):Int))) then (((l_)[4]?).bind fun y15=>(bif (decide ((5:Int)<(((List.map (d7 .i64) l_).length:Nat):Int))) then (((l_)[5]?).bind fun y18=>(bif (decide ((6:Int)<(((List.map (d7 .i64) l_).length:Nat):Int))) then (((l_)[6]?).bind fun y21=>(bif (decide ((7:Int)<(((List.map (d7 .i64) l_).length:Nat):Int))) then (((l_)[7]?).bind fun y24=>(bif (decide ((8:Int)<(((List.map (d7 .i64) l_).length:Nat):Int))) then (((l_)[8]?).bind fun y27=>(bif (decide ((9:Int)<(((List.map (d7 .i64) l_).length:Nat):Int))) then (((l_)[9]?).bind fun y30=>(bif ((y30:Int)==1) then ((I5 r_).bind fun y33=>((bL5 y33.1).bind fun y34=>(bif ((y34.2:Int) !=0) then (some ((⟨0,0,0,0,0,0,0,0,0,0,false,(⟨0,0,0,0,0,0,0,0,0,0,[],[]⟩:Plan),[],[],[]⟩:e9),51)) else (aE4 body b0 y33.2 (⟨(IntKind.i64.wrap (kind)),y3,y6,y9,y12,y15,y18,y21,(IntKind.u64.wrap (y24)),y27,((y30:Int)==1),y34.1,[],[],[]⟩:e9))))) else (aE4 body b0 r_ (⟨(IntKind.i64.wrap (kind)),y3,y6,y9,y12,y15,y18,y21,(IntKind.u64.wrap (y24)),y27,((y30:Int)==1),(⟨0,0,0,0,0,0,0,0,0,0,[],[]⟩:Plan),[],[],[]⟩:e9)))) else none)) else none)) else none)) else none)) else none)) else none)) else none)) else none)) else none)) else none))
theorem az2 {kind body l_ t70 b0 r_}:cj3 (dw4 kind body l_ t70 b0 r_) (O7 kind body l_ t70 b0 r_):=by
 intro r h;unfold O7 at h
 refine zs 1 h (fun h=> ?_) fun h=> ?_
 ·
  exact zu 10 h [.slot 0 [some 1,some 1,some 1,some 1,some 1]]
 refine zn 3 h fun h=> ?_
 refine zr 0 (d7 .i64) h fun y3 h=> ?_
 refine zn 0 h fun h=> ?_
 refine zr 0 (d7 .i64) h fun y6 h=> ?_
 refine zn 0 h fun h=> ?_
 refine zr 0 (d7 .i64) h fun y9 h=> ?_
 refine zn 0 h fun h=> ?_
 refine zr 0 (d7 .i64) h fun y12 h=> ?_
 refine zn 0 h fun h=> ?_
 refine zr 0 (d7 .i64) h fun y15 h=> ?_
 refine zn 0 h fun h=> ?_
 refine zr 0 (d7 .i64) h fun y18 h=> ?_
 refine zn 0 h fun h=> ?_
 refine zr 0 (d7 .i64) h fun y21 h=> ?_
 refine zn 0 h fun h=> ?_
 refine zr 0 (d7 .i64) h fun y24 h=> ?_
 refine zn 0 h fun h=> ?_
 refine zr 0 (d7 .i64) h fun y27 h=> ?_
 refine zn 7 h fun h=> ?_
 refine zr 1 (d7 .i64) h fun y30 h=> ?_
 refine zs 13 h (fun h=> ?_) fun h=> ?_
 ·
  refine zc 8 [] h (fun _=>aG0) fun y33 h=> ?_
  refine zc 1 [] h (fun _=>de9) fun y34 h=> ?_
  refine zs 15 h (fun h=> ?_) fun h=> ?_
  ·
   exact zu 10 h [.slot 0 [some 1,some 1,some 1,some 1,some 1]]
  exact zg 1 (cg5 h) [.blk 2 [some 1,some 1,some 1]]
 exact zg 1 (cg5 h) [.blk 2 [some 1,some 1,some 1,some 1,some 1]]
noncomputable def bf9 (kind:Int) (body:List Int):Option (e9×Int):=((ab3 (⟨(⟨0,0⟩:be8),body⟩:m8)).bind fun y1=>(bif ((y1.2.place.e:Int) !=0) then (O7 kind body y1.1 true (⟨0,0,0,0,0,0,0,0,0,0,false,(⟨0,0,0,0,0,0,0,0,0,0,[],[]⟩:Plan),[],[],[]⟩:e9) y1.2) else (bif (((((List.map (d7 .i64) y1.1).length:Nat):Int):Int) !=10) then (O7 kind body y1.1 true (⟨0,0,0,0,0,0,0,0,0,0,false,(⟨0,0,0,0,0,0,0,0,0,0,[],[]⟩:Plan),[],[],[]⟩:e9) y1.2) else (bif (decide ((0:Int)<(((List.map (d7 .i64) y1.1).length:Nat):Int))) then (((y1.1)[0]?).bind fun y5=>(bif (decide ((1:Int)<(((List.map (d7 .i64) y1.1).length:Nat):Int))) then (((y1.1)[1]?).bind fun y8=>(bif (decide ((7:Int)<(((List.map (d7 .i64) y1.1).length:Nat):Int))) then (((y1.1)[7]?).bind fun y11=>(bif (decide ((8:Int)<(((List.map (d7 .i64) y1.1).length:Nat):Int))) then (((y1.1)[8]?).bind fun y14=>(bif (decide ((9:Int)<(((List.map (d7 .i64) y1.1).length:Nat):Int))) then (((y1.1)[9]?).bind fun y17=>(bif (decide (((A2 (A2 (A2 (A2 y5 y8) y11) y14) y17):Int)<0)) then (O7 kind body y1.1 true (⟨0,0,0,0,0,0,0,0,0,0,false,(⟨0,0,0,0,0,0,0,0,0,0,[],[]⟩:Plan),[],[],[]⟩:e9) y1.2) else (bif (decide ((0:Int)<(((List.map (d7 .i64) y1.1).length:Nat):Int))) then (((y1.1)[0]?).bind fun y21=>(bif (decide ((1:Int)<(((List.map (d7 .i64) y1.1).length:Nat):Int))) then (((y1.1)[1]?).bind fun y24=>(bif (decide (((u9 y21 y24):Int)>255)) then (O7 kind body y1.1 true (⟨0,0,0,0,0,0,0,0,0,0,false,(⟨0,0,0,0,0,0,0,0,0,0,[],[]⟩:Plan),[],[],[]⟩:e9) y1.2) else (bif (decide ((7:Int)<(((List.map (d7 .i64) y1.1).length:Nat):Int))) then (((y1.1)[7]?).bind fun y28=>(bif (decide ((8:Int)<(((List.map (d7 .i64) y1.1).length:Nat):Int))) then (((y1.1)[8]?).bind fun y31=>(bif (decide (((u9 y28 y31):Int)≥65536)) then (O7 kind body y1.1 true (⟨0,0,0,0,0,0,0,0,0,0,false,(⟨0,0,0,0,0,0,0,0,0,0,[],[]⟩:Plan),[],[],[]⟩:e9) y1.2) else (bif (decide ((9:Int)<(((List.map (d7 .i64) y1.1).length:Nat):Int))) then (((y1.1)[9]?).bind fun y35=>(O7 kind body y1.1 (decide ((y35:Int)>1)) (⟨0,0,0,0,0,0,0,0,0,0,false,(⟨0,0,0,0,0,0,0,0,0,0,[],[]⟩:Plan),[],[],[]⟩:e9) y1.2)) else none))) else none)) else none))) else none)) else none))) else none)) else none)) else none)) else none)) else none))))
theorem cH1 {kind:Int}{body:List Int}{r:e9×Int} (h:bf9 kind body=some r):i0 E 54 [.int .u8 kind,.sl false 1 (List.map (d7 .u8) body)] [] (Rs cX3 r):=so (fn:=Tryz.f54) (k:=false) (m:=0) h<| by
 intro r h;unfold bf9 at h
 refine zc 16 [] h (fun _=>bg0) fun y1 h=> ?_
 refine zs 6 h (fun h=> ?_) fun h=> ?_
 ·
  exact zg 44 (az2 h) [.blk 0 [some 1,some 1,some 1,some 1,some 1]]
 refine zs 3 h (fun h=> ?_) fun h=> ?_
 ·
  exact zg 40 (az2 h) [.blk 0 [some 1,some 1,some 1,some 1,some 1]]
 refine zn 1 h fun h=> ?_
 refine zr 1 (d7 .i64) h fun y5 h=> ?_
 refine zn 2 h fun h=> ?_
 refine zr 1 (d7 .i64) h fun y8 h=> ?_
 refine zn 2 h fun h=> ?_
 refine zr 1 (d7 .i64) h fun y11 h=> ?_
 refine zn 2 h fun h=> ?_
 refine zr 1 (d7 .i64) h fun y14 h=> ?_
 refine zn 2 h fun h=> ?_
 refine zr 1 (d7 .i64) h fun y17 h=> ?_
 refine zs 3 h (fun h=> ?_) fun h=> ?_
 ·
  exact zg 22 (az2 h) [.blk 0 [some 1,some 1,some 1,some 1,some 1]]
 refine zn 1 h fun h=> ?_
 refine zr 1 (d7 .i64) h fun y21 h=> ?_
 refine zn 2 h fun h=> ?_
 refine zr 1 (d7 .i64) h fun y24 h=> ?_
 refine zs 3 h (fun h=> ?_) fun h=> ?_
 ·
  exact zg 13 (az2 h) [.blk 0 [some 1,some 1,some 1,some 1,some 1]]
 refine zn 1 h fun h=> ?_
 refine zr 1 (d7 .i64) h fun y28 h=> ?_
 refine zn 2 h fun h=> ?_
 refine zr 1 (d7 .i64) h fun y31 h=> ?_
 refine zs 3 h (fun h=> ?_) fun h=> ?_
 ·
  exact zg 4 (az2 h) [.blk 0 [some 1,some 1,some 1,some 1,some 1]]
 refine zn 1 h fun h=> ?_
 refine zr 1 (d7 .i64) h fun y35 h=> ?_
 exact zg 2 (az2 h) [.blk 0 [some 1,some 1,some 1,some 1,some 1]]
end Go.RX.L

namespace Go.RX.L
open Go Go.RX Go.Proofs
attribute [local irreducible] f6
noncomputable def cC6 (y:Int×(List Int)):D×f4:=(.tup [(f5 0 (List.map (d7 .u8) y.2)),.int .i64 y.1],[some ⟨1,false,(List.map (d7 .u8) y.2)⟩])
noncomputable def aa1 (s_:List Int):Option (Int×(List Int)):=(bif (decide (((((List.map (d7 .u8) s_).length:Nat):Int):Int)>4096)) then (some (2,[])) else ((az3 (((List.map (d7 .u8) s_).length:Nat):Int)).bind fun y2=>(bif (decide (((List.map (d7 .u8) y2).length+(List.map (d7 .u8) s_).length)*1≤i6)) then (some (0,(y2++s_))) else none)))
theorem bx1 {s_:List Int}{r:Int×(List Int)} (h:aa1 s_=some r):i0 E 123 [.sl false 1 (List.map (d7 .u8) s_)] [] (Rs cC6 r):=so (fn:=Tryz.f123) (k:=true) (m:=0) h<| by
 intro r h;unfold aa1 at h
 refine zs 13 h (fun h=> ?_) fun h=> ?_
 ·
  exact zu 6 h [.matt 0 0 1]
 refine zc 6 [] h (fun _=>bE3) fun y2 h=> ?_
 refine zn 2 h fun h=> ?_
 refine za 0 (d7 .u8) y2 s_ ?_
 exact zu 4 h
end Go.RX.L

namespace Go.RX.L
open Go Go.RX Go.Proofs
attribute [local irreducible] f6
noncomputable def R9:=p8 (q0 Tryz.f92)
noncomputable def co4 (y:Int×(List Int)×Int):D×f4:=(.tup [.int .u8 y.1,.sl false 1 (List.map (d7 .u8) y.2.1),.int .i64 y.2.2],[])
inductive av4 where
 | s0 (m:e9)
 | s3 (m:e9) (l_:List Int)
 | s2 (m:e9) (b:List Int)
 | s1 (t81:Int) (m:e9) (b:List Int) (b2:List (List Int))
noncomputable def co9:av4→M
 | .s0 m=>A5 Tryz.f92 [.agg (e9.enc m)] []
 | .s3 m l_=>⟨[.code (R9 [1,1,1,1])],[(1,.ptr 0 0 0),(5,.msl 1 0 ((List.map (d7 .i64) l_).length) ((List.map (d7 .i64) l_).length) true)],[some ⟨26,false,[(e9.enc m)]⟩,some ⟨1,false,(List.map (d7 .i64) l_)⟩]⟩
 | .s2 m b=>⟨[.code (R9 [1,1,1,1,1,1])],[(1,.ptr 0 0 0),(6,(f5 1 (List.map (d7 .u8) b)))],[some ⟨26,false,[(e9.enc m)]⟩,some ⟨1,false,(List.map (d7 .u8) b)⟩]⟩
 | .s1 t81 m b b2=>⟨[.lpc (R9 [1,1,1,1,1,1,1,1,0,1,0,0]) 4231240368651202111471682,.blk 0,.code (R9 [1,1,1,1,1,1,1,1,1])],[(1,.ptr 0 0 0),(6,(f5 1 (List.map (d7 .u8) b))),(79,.msl 2 0 ((List.map (E3 1 (d7 .u8)) b2).length) ((List.map (E3 1 (d7 .u8)) b2).length) true),(80,.int .i64 2),(81,.int .i64 t81)],[some ⟨26,false,[(e9.enc m)]⟩,some ⟨1,false,(List.map (d7 .u8) b)⟩,some ⟨1,false,(List.map (E3 1 (d7 .u8)) b2)⟩]⟩
abbrev bm2:=SOk E (Cx.of Tryz.f92 false 0) co4 co9
noncomputable def aV7 (m:e9):Option (av4⊕(Int×(List Int)×Int)):=((an8 m).bind fun y1=>(bif (!y1) then (some (.inr (0,[],51))) else (bif m.HasPlan then (some (.inl (.s3 m ([m.From,m.To,m.Epoch,m.Ballot,m.Accepted,m.Nonce,m.Time,(IntKind.i64.wrap (m.Up)),m.Code,1])))) else (some (.inl (.s3 m ([m.From,m.To,m.Epoch,m.Ballot,m.Accepted,m.Nonce,m.Time,(IntKind.i64.wrap (m.Up)),m.Code,0])))))))
noncomputable def bl9 (m:e9) (l_:List Int):Option (av4⊕(Int×(List Int)×Int)):=((aC1 l_).bind fun y1=>(bif m.HasPlan then ((bH2 m.Plan).bind fun y3=>((aa1 y3.1).bind fun y4=>(bif (decide (((List.map (d7 .u8) y1.2).length+(List.take ((List.map (d7 .u8) y4.2).length) (List.drop 0 (List.map (d7 .u8) y4.2))).length)*1≤i6)) then (some (.inl (.s2 m (y1.2++y4.2)))) else none))) else (some (.inl (.s2 m y1.2)))))
noncomputable def bl6 (m:e9) (b:List Int):Option (av4⊕(Int×(List Int)×Int)):=((aC1 m.ID).bind fun y1=>(bif (decide (((List.map (d7 .u8) b).length+(List.take ((List.map (d7 .u8) y1.2).length) (List.drop 0 (List.map (d7 .u8) y1.2))).length)*1≤i6)) then (some (.inl (.s1 0 m (b++y1.2) ([m.Session,m.Payload])))) else none))
noncomputable def aI2 (t81:Int) (m:e9) (b:List Int) (b2:List (List Int)):Option (av4⊕(Int×(List Int)×Int)):=(bif (decide ((t81:Int)<2)) then (bif ((decide ((0:Int)≤t81))&&(decide ((t81:Int)<(((List.map (E3 1 (d7 .u8)) b2).length:Nat):Int)))) then (((b2)[(0+t81.toNat)]?).bind fun y3=>((aa1 y3).bind fun y5=>(bif (decide (((List.map (d7 .u8) b).length+(List.take ((List.map (d7 .u8) y5.2).length) (List.drop 0 (List.map (d7 .u8) y5.2))).length)*1≤i6)) then (some (.inl (.s1 (IntKind.i64.wrap (t81+1)) m (b++y5.2) b2))) else none))) else none) else (some (.inr ((IntKind.u8.wrap (m.Kind)),b,0))))
noncomputable def N4:av4→Option (av4⊕(Int×(List Int)×Int))
 | .s0 m=>aV7 m
 | .s3 m l_=>bl9 m l_
 | .s2 m b=>bl6 m b
 | .s1 t81 m b b2=>aI2 t81 m b b2
theorem cP8 {m}:bm2 (.s0 m) (aV7 m):=by
 intro r x h ha;unfold aV7 at h
 refine zc 13 [] h (fun _=>bt5) fun y1 h=> ?_
 refine zs 3 h (fun h=> ?_) fun h=> ?_
 ·
  exact zt 7 h ha [.slot 0 [some 1]]
 refine zs 42 h (fun h=> ?_) fun h=> ?_
 ·
  refine l8 hm 8 _ ?_
  obtain rfl:=Option.some.inj h
  refine am7 34 [] (m' :=⟨[.code (R9 [1,1,1,1])],[(1,.ptr 0 0 0),(5,.msl 1 0 10 10 true)],[some ⟨26,false,[(e9.enc m)]⟩,some ⟨1,false,[[.int .i64 m.From],[.int .i64 m.To],[.int .i64 m.Epoch],[.int .i64 m.Ballot],[.int .i64 m.Accepted],[.int .i64 m.Nonce],[.int .i64 m.Time],[.int .i64 (IntKind.i64.wrap (m.Up))],[.int .i64 m.Code],[.int .i64 1]]⟩]⟩) (by kernel_rfl) ?_
  refine Z2 (n1:=10) (n2:=(List.map (d7 .i64) ([m.From,m.To,m.Epoch,m.Ballot,m.Accepted,m.Nonce,m.Time,(IntKind.i64.wrap (m.Up)),m.Code,1])).length) (fun n_len=> .go ⟨[.code (R9 [1,1,1,1])],[(1,.ptr 0 0 0),(5,.msl 1 0 n_len n_len true)],[some ⟨26,false,[(e9.enc m)]⟩,some ⟨1,false,[[.int .i64 m.From],[.int .i64 m.To],[.int .i64 m.Epoch],[.int .i64 m.Ballot],[.int .i64 m.Accepted],[.int .i64 m.Nonce],[.int .i64 m.Time],[.int .i64 (IntKind.i64.wrap (m.Up))],[.int .i64 m.Code],[.int .i64 1]]⟩]⟩) (by simp) ?_
  exact ha
 refine l8 hm 1 _ ?_
 obtain rfl:=Option.some.inj h
 refine am7 34 [] (m' :=⟨[.code (R9 [1,1,1,1])],[(1,.ptr 0 0 0),(5,.msl 1 0 10 10 true)],[some ⟨26,false,[(e9.enc m)]⟩,some ⟨1,false,[[.int .i64 m.From],[.int .i64 m.To],[.int .i64 m.Epoch],[.int .i64 m.Ballot],[.int .i64 m.Accepted],[.int .i64 m.Nonce],[.int .i64 m.Time],[.int .i64 (IntKind.i64.wrap (m.Up))],[.int .i64 m.Code],[.int .i64 0]]⟩]⟩) (by kernel_rfl) ?_
 refine Z2 (n1:=10) (n2:=(List.map (d7 .i64) ([m.From,m.To,m.Epoch,m.Ballot,m.Accepted,m.Nonce,m.Time,(IntKind.i64.wrap (m.Up)),m.Code,0])).length) (fun n_len=> .go ⟨[.code (R9 [1,1,1,1])],[(1,.ptr 0 0 0),(5,.msl 1 0 n_len n_len true)],[some ⟨26,false,[(e9.enc m)]⟩,some ⟨1,false,[[.int .i64 m.From],[.int .i64 m.To],[.int .i64 m.Epoch],[.int .i64 m.Ballot],[.int .i64 m.Accepted],[.int .i64 m.Nonce],[.int .i64 m.Time],[.int .i64 (IntKind.i64.wrap (m.Up))],[.int .i64 m.Code],[.int .i64 0]]⟩]⟩) (by simp) ?_
 exact ha
theorem cK7 {m l_}:bm2 (.s3 m l_) (bl9 m l_):=by
 intro r x h ha;unfold bl9 at h
 refine zm 4 (b:=(Nat.ble (0+(List.map (d7 .i64) l_).length) ((List.map (d7 .i64) l_).length))) (v6 _) ?_
 refine zcE 0 [] (args1:= [.sl false 1 (List.take ((List.map (d7 .i64) l_).length) (List.drop 0 (List.map (d7 .i64) l_)))]) h (fun _=>aR7) ⟨by simp [d8.enc,d8.l,i7.enc,i7.l,p5.enc,p5.l,r6.enc,r6.l,e9.enc,e9.l,Op.enc,Op.l,Plan.enc,Plan.l,r9.enc,r9.l,i8.enc,i8.l,p7.enc,p7.l,m8.enc,m8.l,d9.enc,d9.l,List.take_of_length_le,List.map_take,List.map_drop],rfl⟩ fun y1 h=> ?_
 refine zs 14 h (fun h=> ?_) fun h=> ?_
 ·
  refine zc 6 [] h (fun _=>df4) fun y3 h=> ?_
  refine zc 10 [] h (fun _=>bx1) fun y4 h=> ?_
  refine zm 10 (b:=(Nat.beq ((List.take ((List.map (d7 .u8) y4.2).length) (List.drop 0 (List.map (d7 .u8) y4.2))).length) ((List.map (d7 .u8) y4.2).length))) (by simp) ?_
  refine zn 0 h fun h=> ?_
  refine zm 0 (b:=(Nat.ble (0+(List.map (d7 .u8) y1.2).length) ((List.map (d7 .u8) y1.2).length))) (v6 _) ?_
  refine zw 0 (a:=(List.take ((List.map (d7 .u8) y1.2).length) (List.drop 0 (List.map (d7 .u8) y1.2))++(List.take ((List.map (d7 .u8) y4.2).length) (List.drop 0 (List.map (d7 .u8) y4.2))))) (b:=(List.map (d7 .u8) (y1.2++y4.2))) (by simp only [z9,E5,List.map_append,List.map_take,List.map_drop]) ?_
  exact zk 2 h ha
 exact zk 1 h ha
theorem cQ5 {m b}:bm2 (.s2 m b) (bl6 m b):=by
 intro r x h ha;unfold bl6 at h
 refine zc 6 [] h (fun _=>aR7) fun y1 h=> ?_
 refine zm 11 (b:=(Nat.beq ((List.take ((List.map (d7 .u8) y1.2).length) (List.drop 0 (List.map (d7 .u8) y1.2))).length) ((List.map (d7 .u8) y1.2).length))) (by simp) ?_
 refine zn 0 h fun h=> ?_
 refine zm 0 (b:=(Nat.ble (0+(List.map (d7 .u8) b).length) ((List.map (d7 .u8) b).length))) (v6 _) ?_
 refine zw 0 (a:=(List.take ((List.map (d7 .u8) b).length) (List.drop 0 (List.map (d7 .u8) b))++(List.take ((List.map (d7 .u8) y1.2).length) (List.drop 0 (List.map (d7 .u8) y1.2))))) (b:=(List.map (d7 .u8) (b++y1.2))) (by simp only [z9,E5,List.map_append,List.map_take,List.map_drop]) ?_
 refine l8 hm 18 _ ?_
 obtain rfl:=Option.some.inj h
 refine aU5 (q' := .go ⟨[.lpc (R9 [1,1,1,1,1,1,1,1,0,1,0,0]) 4231240368651202111471682,.blk 0,.code (R9 [1,1,1,1,1,1,1,1,1])],[(1,.ptr 0 0 0),(6,.msl 1 0 ((List.map (d7 .u8) (b++y1.2)).length) ((List.map (d7 .u8) (b++y1.2)).length) false),(79,.msl 2 0 2 2 true),(80,.int .i64 2),(81,.int .i64 0)],[some ⟨26,false,[(e9.enc m)]⟩,some ⟨1,false,(List.map (d7 .u8) (b++y1.2))⟩,some ⟨1,false,[[.sl false 1 (List.map (d7 .u8) m.Session)],[.sl false 1 (List.map (d7 .u8) m.Payload)]]⟩]⟩) (by kernel_rfl) ?_
 refine Z2 (n1:=2) (n2:=(List.map (E3 1 (d7 .u8)) ([m.Session,m.Payload])).length) (fun n_len=> .go ⟨[.lpc (R9 [1,1,1,1,1,1,1,1,0,1,0,0]) 4231240368651202111471682,.blk 0,.code (R9 [1,1,1,1,1,1,1,1,1])],[(1,.ptr 0 0 0),(6,.msl 1 0 ((List.map (d7 .u8) (b++y1.2)).length) ((List.map (d7 .u8) (b++y1.2)).length) false),(79,.msl 2 0 n_len n_len true),(80,.int .i64 2),(81,.int .i64 0)],[some ⟨26,false,[(e9.enc m)]⟩,some ⟨1,false,(List.map (d7 .u8) (b++y1.2))⟩,some ⟨1,false,[[.sl false 1 (List.map (d7 .u8) m.Session)],[.sl false 1 (List.map (d7 .u8) m.Payload)]]⟩]⟩) (by simp) ?_
 exact ha
theorem cL2 {t81 m b b2}:bm2 (.s1 t81 m b b2) (aI2 t81 m b b2):=by
 intro r x h ha;unfold aI2 at h
 refine zs 7 h (fun h=> ?_) fun h=> ?_
 ·
  refine zn 6 h fun h=> ?_
  refine zr 1 (E3 1 (d7 .u8)) h fun y3 h=> ?_
  refine zc 6 [] h (fun _=>bx1) fun y5 h=> ?_
  refine zm 10 (b:=(Nat.beq ((List.take ((List.map (d7 .u8) y5.2).length) (List.drop 0 (List.map (d7 .u8) y5.2))).length) ((List.map (d7 .u8) y5.2).length))) (by simp) ?_
  refine zn 0 h fun h=> ?_
  refine zm 0 (b:=(Nat.ble (0+(List.map (d7 .u8) b).length) ((List.map (d7 .u8) b).length))) (v6 _) ?_
  refine zw 0 (a:=(List.take ((List.map (d7 .u8) b).length) (List.drop 0 (List.map (d7 .u8) b))++(List.take ((List.map (d7 .u8) y5.2).length) (List.drop 0 (List.map (d7 .u8) y5.2))))) (b:=(List.map (d7 .u8) (b++y5.2))) (by simp only [z9,E5,List.map_append,List.map_take,List.map_drop]) ?_
  exact zj 8 h ha
 refine zm 13 (b:=(Nat.ble (0+(List.map (d7 .u8) b).length) ((List.map (d7 .u8) b).length))) (v6 _) ?_
 obtain rfl:=Option.some.inj h
 have hv:=ha
 simp only [aT9] at hv
 subst hv
 exact au1 [] (d1:= .tup [.int .u8 (IntKind.u8.wrap (m.Kind)),.sl false 1 (List.take ((List.map (d7 .u8) b).length) (List.drop 0 (List.map (d7 .u8) b))),.int .i64 0]) (d:= .tup [.int .u8 (IntKind.u8.wrap (m.Kind)),.sl false 1 (List.map (d7 .u8) b),.int .i64 0]) (s1:= []) (s:= []) (by kernel_rfl) ⟨by simp [d8.enc,d8.l,i7.enc,i7.l,p5.enc,p5.l,r6.enc,r6.l,e9.enc,e9.l,Op.enc,Op.l,Plan.enc,Plan.l,r9.enc,r9.l,i8.enc,i8.l,p7.enc,p7.l,m8.enc,m8.l,d9.enc,d9.l,List.take_of_length_le,List.map_take,List.map_drop],rfl⟩ ⟨rfl,rfl⟩ Cx.fin_of
noncomputable def bG9 (m:e9):Option (Int×(List Int)×Int):=V6 N4 (.s0 m)
theorem df7 {m:e9}{r:Int×(List Int)×Int} (h:bG9 m=some r):i0 E 92 [.agg (e9.enc m)] [] (Rs co4 r):=sc (fn:=Tryz.f92) (k:=false) (m:=0) (stM:=co9) h fun s=>by
 cases s with
 | s0=>exact cP8
 | s3=>exact cK7
 | s2=>exact cQ5
 | s1=>exact cL2
end Go.RX.L

namespace Go.RX.L
open Go Go.RX Go.Proofs
attribute [local irreducible] f6
noncomputable def cP6 (y:Bool):D×f4:=(.bool y,[])
abbrev dT7:=AOk E (Cx.of Tryz.f16 false 0) cP6
end Go.RX.L

namespace Go.RX.L
open Go Go.RX
def K1 (s:List Int):List Int:=ag1 (s.length:Int)++s
def dI6 (s:List Int):Int×List Int:=if s.length≤4096 then (0,K1 s) else (2,[])
def pT (l:List Int):Int⊕(List Int×Nat):=match pI l with
 | .inl e=> .inl e
 | .inr (n,k)=>if n<0∨n>4096 then .inl 2 else if n>(l.length:Int)-k then .inl 11 else .inr ((l.drop k).take n.toNat,k+n.toNat)
theorem db6 {l:List Int}{e:Int} (h:pI l= .inl e):pT l= .inl e:=by simp only [pT,h]
theorem cW9 {l:List Int}{n:Int}{k:Nat} (h:pI l= .inr (n,k)) (hn:n<0∨n>4096):pT l= .inl 2:=by simp only [pT,h,if_pos hn]
theorem da2 {l:List Int}{n:Int}{k:Nat} (h:pI l= .inr (n,k)) (hn:¬(n<0∨n>4096)) (h2:n>(l.length:Int)-k):pT l= .inl 11:=by simp only [pT,h,if_neg hn,if_pos h2]
theorem ct9 {l:List Int}{n:Int}{k:Nat} (h:pI l= .inr (n,k)) (hn:¬(n<0∨n>4096)) (h2:¬n>(l.length:Int)-k):pT l= .inr ((l.drop k).take n.toNat,k+n.toNat):=by simp only [pT,h,if_neg hn,if_neg h2]
theorem bH7 {s:List Int} (h:s9 s):s9 (K1 s):=fun c hc=>(List.mem_append.1 hc).elim (bL7 _ c) (h c)
theorem aY7 {s:List Int} (h:s.length≤4096):(K1 s).length≤s.length+10:=by
 have:=aO5 (bZ4 (n:=s.length) (by omega))
 simp only [K1,List.length_append];omega
theorem cX0 {s:List Int} (h:s.length≤4096) (rest:List Int):pT (K1 s++rest)= .inr (s,(K1 s).length):=by
 have h1:=db3 (bZ4 (n:=s.length) (by omega)) (s++rest)
 have e:K1 s++rest=ag1 (s.length:Int)++(s++rest):=by simp [K1]
 rw [e,ct9 h1 (by omega) (by simp only [List.length_append];omega),List.drop_left,Int.toNat_natCast,List.take_left]
 simp only [K1,List.length_append]
theorem cs7 {l s:List Int}{k:Nat} (hb:s9 l) (h:pT l= .inr (s,k)):l.take k=K1 s∧k≤l.length∧k=(K1 s).length∧s.length≤4096∧s9 s:=by
 cases hp:pI l with
 | inl e=>rw [db6 hp] at h;cases h
 | inr x=>
  obtain ⟨n,j⟩:=x
  by_cases hn:n<0∨n>4096
  ·rw [cW9 hp hn] at h;cases h
  by_cases h2:n>(l.length:Int)-j
  ·rw [da2 hp hn h2] at h;cases h
  rw [ct9 hp hn h2] at h
  simp only [Sum.inr.injEq,Prod.mk.injEq] at h
  obtain ⟨rfl,rfl⟩:=h
  obtain ⟨a1,a2,a3,a4⟩:=bT6 hb hp
  obtain ⟨m,rfl⟩:=Int.eq_ofNat_of_zero_le (show 0≤n by omega)
  simp only [Int.toNat_natCast]
  have hl:((l.drop j).take m).length=m:=by rw [List.length_take,List.length_drop];omega
  refine ⟨?_,by omega,?_,by rw [hl];omega,cx2 (aZ0 hb _) _⟩
  ·rw [List.take_add,a1,K1,hl]
  ·rw [K1,List.length_append,hl,←a3]
theorem dY3 {l:List Int}{e:Int} (h:pT l= .inl e):e≠0:=by
 cases hp:pI l with
 | inl e' =>rw [db6 hp] at h;obtain rfl:=Sum.inl.inj h;rcases dx2 hp with rfl | rfl<;>decide
 | inr x=>
  obtain ⟨n,j⟩:=x
  by_cases hn:n<0∨n>4096
  ·rw [cW9 hp hn] at h;obtain rfl:=Sum.inl.inj h;decide
  by_cases h2:n>(l.length:Int)-j
  ·rw [da2 hp hn h2] at h;obtain rfl:=Sum.inl.inj h;decide
  ·rw [ct9 hp hn h2] at h;cases h
theorem bI1 {s:List Int} (hm:s.length≤G1):aa1 s=some (dI6 s):=by
 unfold dI6
 by_cases h:s.length≤4096
 ·rw [if_pos h]
  have hn:=bZ4 (n:=s.length) (by omega)
  have hl:=aO5 hn
  have c1:decide (((s.length:Nat):Int)>4096)=false:=by simp;omega
  have c2:decide (((ag1 (s.length:Int)).length+s.length)*1≤i6)=true:=C7 (by omega)
  simp only [aa1,List.length_map,c1,cond_false,cG7 hn,Option.bind_some,c2,cond_true,K1]
 ·rw [if_neg h]
  have c1:decide (((s.length:Nat):Int)>4096)=true:=by simp;omega
  simp only [aa1,List.length_map,c1,cond_true]
theorem dM5 {b:List Int} (hb:s9 b) (hm:b.length≤G1) {at_:Nat} (h:at_≤b.length):an6 b at_=some (rL at_ (pT (b.drop at_))):=by
 have hi:=bA7 hb hm h
 simp only [G1] at hm
 cases hp:pI (b.drop at_) with
 | inl e=>
  rw [hp] at hi
  have he:=bq4 hp
  rw [db6 hp]
  simp only [an6,J6,hi,rI,Option.bind_some,he,cond_true,rL]
 | inr x=>
  obtain ⟨n,k⟩:=x
  rw [hp] at hi
  obtain ⟨a1,a2,a3,a4⟩:=bT6 (aZ0 hb at_) hp
  rw [List.length_drop] at a2
  have a4' :=ac2.1 a4
  have z:((0:Int) !=0)=false:=rfl
  have tw:((2:Int) !=0)=true:=rfl
  by_cases hn:n<0∨n>4096
  ·rw [cW9 hp hn]
   rcases hn with hn | hn
   ·have c1:decide (n<0)=true:=decide_eq_true hn
    simp only [an6,J6,M6,hi,rI,Option.bind_some,z,cond_false,c1,cond_true,tw,rL]
   ·have c1:decide (n<0)=false:=decide_eq_false (by omega)
    have c2:decide (n>4096)=true:=decide_eq_true hn
    simp only [an6,J6,M6,hi,rI,Option.bind_some,z,cond_false,c1,c2,cond_true,tw,rL]
  ·have c1:decide (n<0)=false:=decide_eq_false (by omega)
   have c2:decide (n>4096)=false:=decide_eq_false (by omega)
   have w1:IntKind.i64.wrap (((b.length:Nat):Int)-((at_+k:Nat):Int))=(b.length:Int)-((at_+k:Nat):Int):=u7 (by omega) (by omega)
   by_cases h2:n>((b.drop at_).length:Int)-k
   ·rw [da2 hp hn h2]
    rw [List.length_drop] at h2
    have c3:decide (n>(b.length:Int)-((at_+k:Nat):Int))=true:=decide_eq_true (by omega)
    simp only [an6,J6,M6,hi,rI,Option.bind_some,z,cond_false,c1,c2,List.length_map,w1,c3,cond_true,rL]
   ·rw [ct9 hp hn h2]
    rw [List.length_drop] at h2
    obtain ⟨m,rfl⟩:=Int.eq_ofNat_of_zero_le (show 0≤n by omega)
    have c3:decide ((m:Int)>(b.length:Int)-((at_+k:Nat):Int))=false:=decide_eq_false (by omega)
    have w2:IntKind.i64.wrap (((at_+k:Nat):Int)+(m:Int))=((at_+k+m:Nat):Int):=by rw [u7 (by omega) (by omega)];omega
    have c4:(decide (((0:Nat):Int)≤((at_+k+m:Nat):Int))&&decide (((at_+k+m:Nat):Int)≤((b.length:Nat):Int)))=true:=by simp;omega
    have c5:(decide (((0:Nat):Int)≤((at_+k:Nat):Int))&&decide (((at_+k:Nat):Int)≤((at_+k+m:Nat):Int)))=true:=by simp;omega
    have d:List.drop (at_+k) (List.take (at_+k+m) b)=((b.drop at_).drop k).take m:=by
     rw [List.drop_take,List.drop_drop,show at_+k+m-(at_+k)=m by omega]
    have c6:decide ((((b.drop at_).drop k).take m).length*1≤i6)=true:=C7 (by rw [List.length_take];omega)
    simp only [an6,J6,M6,hi,rI,Option.bind_some,z,cond_false,c1,c2,List.length_map,w1,c3,cond_true,w2,c4,c5,Int.toNat_natCast,d,c6,rL]
    rw [Nat.add_assoc]
end Go.RX.L

namespace Go.RX.L
open Go Go.RX
/-! ### alike -/
theorem dl6 (a b:List Int) (hl:a.length<9223372036854775807) (hab:a.length=b.length):∀(j k:Nat),k+j=a.length→Ev U4 (.s1 a b k) (decide (a.drop k=b.drop k)):=by
 intro j
 induction j with
 | zero=>
  intro k hk
  refine .done ?_
  rw [List.drop_eq_nil_of_le (by omega),List.drop_eq_nil_of_le (by omega)]
  simp [U4,as4,show ¬(k:Int)<a.length by omega]
 | succ j ih=>
  intro k hk
  have h1:k<a.length:=by omega
  have h2:k<b.length:=by omega
  rw [List.drop_eq_getElem_cons h1,List.drop_eq_getElem_cons h2]
  by_cases h:a[k]=b[k]
  ·refine .next (s' := .s1 a b ((k+1:Nat):Int)) ?_ ?_
   ·have e:(a[k] !=b[k])=false:=by simp [h]
    simp only [U4,as4,List.length_map,E7 h1,E7 h2,L8,Bool.and_self,cond_true,Int.toNat_natCast,List.getE h1,List.getE h2,Option.bind_some,e,cond_false,wS (show k<9223372036854775807 by omega)]
   ·rw [show (decide (a[k]::a.drop (k+1)=b[k]::b.drop (k+1)))=decide (a.drop (k+1)=b.drop (k+1)) by simp only [h,List.cons.injEq,true_and]]
    exact ih (k+1) (by omega)
  ·refine .done ?_
   have e:(a[k] !=b[k])=true:=by simp [h]
   simp only [U4,as4,List.length_map,E7 h1,E7 h2,L8,Bool.and_self,cond_true,Int.toNat_natCast,List.getE h1,List.getE h2,Option.bind_some,e]
   rw [show (decide (a[k]::a.drop (k+1)=b[k]::b.drop (k+1)))=false by simp only [h,List.cons.injEq,false_and,decide_false]]
theorem dz4 {a b:List Int} (hl:a.length<9223372036854775807):bK3 a b=some (decide (a=b)):=by
 by_cases hab:a.length=b.length
 ·refine u6 (.next (s' := .s1 a b 0) (by simp [U4,aD1,hab]) ?_)
  simpa using dl6 a b hl hab a.length 0 (by omega)
 ·refine u6 (.done ?_)
  have e:(((a.length:Nat):Int) !=((b.length:Nat):Int))=true:=by simp;omega
  have hne:a≠b:=fun h=>hab (by rw [h])
  simp [U4,aD1,e,hne]
theorem de4 (a b:Plan) (hs:aV3 a) (hab:a.Pen.length=b.Pen.length):∀(j k:Nat),k+j=a.Pen.length→Ev P8 (.s2 k a b) (decide (a.Pen.drop k=b.Pen.drop k)&&decide (a.Changes=b.Changes)):=by
 intro j
 have hl:=hs.pen
 induction j with
 | zero=>
  intro k hk
  refine .done ?_
  rw [List.drop_eq_nil_of_le (by omega),List.drop_eq_nil_of_le (by omega)]
  simp only [P8,ar2,List.length_map,geB (show a.Pen.length≤k by omega),cond_false,dz4 hs.ch,Option.bind_some]
  simp
 | succ j ih=>
  intro k hk
  have h1:k<a.Pen.length:=by omega
  have h2:k<b.Pen.length:=by omega
  rw [List.drop_eq_getElem_cons h1,List.drop_eq_getElem_cons h2]
  by_cases h:a.Pen[k]=b.Pen[k]
  ·refine .next (s' := .s2 ((k+1:Nat):Int) a b) ?_ ?_
   ·have e:(a.Pen[k] !=b.Pen[k])=false:=by simp [h]
    simp only [P8,ar2,List.length_map,E7 h1,E7 h2,L8,Bool.and_self,cond_true,Int.toNat_natCast,List.getE h1,List.getE h2,Option.bind_some,e,cond_false,wS (show k<9223372036854775807 by omega)]
   ·rw [show (decide (a.Pen[k]::a.Pen.drop (k+1)=b.Pen[k]::b.Pen.drop (k+1)))=decide (a.Pen.drop (k+1)=b.Pen.drop (k+1)) by simp only [h,List.cons.injEq,true_and]]
    exact ih (k+1) (by omega)
  ·refine .done ?_
   have e:(a.Pen[k] !=b.Pen[k])=true:=by simp [h]
   simp only [P8,ar2,List.length_map,E7 h1,E7 h2,L8,Bool.and_self,cond_true,Int.toNat_natCast,List.getE h1,List.getE h2,Option.bind_some,e]
   rw [show (decide (a.Pen[k]::a.Pen.drop (k+1)=b.Pen[k]::b.Pen.drop (k+1)))=false by simp only [h,List.cons.injEq,false_and,decide_false]]
   rfl
def bH5 (a b:Plan):Bool:=decide (a.Epoch=b.Epoch)&&(decide (a.Target=b.Target)&&(decide (a.Prev=b.Prev)&&(decide (a.Spill=b.Spill)&&(decide (a.Percent=b.Percent)&&(decide (a.Stamp=b.Stamp)&&(decide (a.Since=b.Since)&&(decide (a.Ramped=b.Ramped)&&(decide (a.Up=b.Up)&&decide (a.Sup=b.Sup)))))))))
def bK8 (a b:Plan):Bool:=bH5 a b&&(decide (a.Pen=b.Pen)&&decide (a.Changes=b.Changes))
theorem bw8 {a b:Plan}:bK8 a b=true↔a=b:=by
 cases a;cases b
 simp only [bK8,bH5,Bool.and_eq_true,decide_eq_true_eq,Plan.mk.injEq,and_assoc]
theorem dB7 {a b:Plan} (hs:aV3 a):bJ6 a b=some (bK8 a b):=by
 have bad:Ev P8 (.s1 true a b) false:= .done rfl
 have hstep:P8 (.s0 a b)=some (.inl (.s1 (!(bH5 a b) || !(decide (a.Pen.length=b.Pen.length))) a b)):=by
  have hb:∀x y:Int,(x !=y)= !(decide (x=y)):=fun x y=>by by_cases h:x=y<;>simp [h]
  simp only [P8,aT8,hb,bH5,List.length_map]
  cases decide (a.Epoch=b.Epoch)<;>cases decide (a.Target=b.Target)<;>cases decide (a.Prev=b.Prev)<;>cases decide (a.Spill=b.Spill)<;>cases decide (a.Percent=b.Percent)<;>cases decide (a.Stamp=b.Stamp)<;>cases decide (a.Since=b.Since)<;>cases decide (a.Ramped=b.Ramped)<;>cases decide (a.Up=b.Up)<;>cases decide (a.Sup=b.Sup)<;>first | rfl | (simp;done) | (simp;omega)
 refine u6 (.next hstep ?_)
 unfold bK8
 cases hn:bH5 a b with
 | false=>exact bad
 | true=>
  by_cases hab:a.Pen.length=b.Pen.length
  ·rw [decide_eq_true hab]
   refine .next (s' := .s2 0 a b) rfl ?_
   simpa using de4 a b hs hab a.Pen.length 0 (by omega)
  ·have hne:a.Pen≠b.Pen:=fun h=>hab (by rw [h])
   rw [decide_eq_false hab,decide_eq_false hne]
   exact bad
theorem dr4 {x y:Int} (hx:n8 .u64 x) (hy:n8 .u64 y):(IntKind.i64.wrap x==IntKind.i64.wrap y)=decide (x=y):=by
 obtain ⟨n,rfl⟩:=Int.eq_ofNat_of_zero_le (F8.1 hx).1
 obtain ⟨m,rfl⟩:=Int.eq_ofNat_of_zero_le (F8.1 hy).1
 have h1:=(F8.1 hx).2
 have h2:=(F8.1 hy).2
 rw [bc2 n (by omega),bc2 m (by omega)]
 rw [Bool.eq_iff_iff]
 simp only [beq_iff_eq,decide_eq_true_eq]
 split<;>split<;>omega
theorem cs4 {x y:Int} (hx:n8 .u64 x) (hy:n8 .u64 y):decide (IntKind.i64.wrap x=IntKind.i64.wrap y)=decide (x=y):=by
 rw [←dr4 hx hy,Bool.eq_iff_iff];simp
theorem dT3 {a b:Plan} (hs:aV3 a) (h1:n8 .u64 a.Up) (h2:n8 .u64 b.Up) (h3:n8 .u64 a.Sup) (h4:n8 .u64 b.Sup):aQ1 a b=some (bK8 a b):=by
 have hb:∀x y:Int,(x==y)=decide (x=y):=fun x y=>by by_cases h:x=y<;>simp [h]
 simp only [aQ1,ai6,Option.bind_some,cs4 h1 h2,cs4 h3 h4,hb,Bool.and_true,dC7 hs.pen,dg2 hs.ch]
 rw [show (decide (a.Epoch=b.Epoch)&&(decide (a.Target=b.Target)&&(decide (a.Prev=b.Prev)&&(decide (a.Spill=b.Spill)&&(decide (a.Percent=b.Percent)&&(decide (a.Stamp=b.Stamp)&&(decide (a.Since=b.Since)&&(decide (a.Ramped=b.Ramped)&&(decide (a.Up=b.Up)&&decide (a.Sup=b.Sup))))))))))=bH5 a b from rfl]
 unfold bK8
 cases bH5 a b with
 | false=>rfl
 | true=>cases decide (a.Pen=b.Pen)<;>rfl
/-! ### the head -/
theorem bytesOf {b:List Int} (h:b.length*1≤reachBytes∧∀y∈b,n8 .u8 y):s9 b∧b.length≤G1:=by
 refine ⟨fun c hc=>dB9.1 (h.2 c hc),?_⟩
 have:reachBytes≤G1:=by decide
 omega
end Go.RX.L

namespace Go.RX.L
open Go Go.RX
/-! ### may it be? -/
def hdM (m:e9):Prop:=1≤m.Kind∧m.Kind≤19∧0≤m.From∧m.From≤255∧0≤m.To∧m.To≤255∧m.Up≤65535∧0≤m.Code∧m.Code≤1000
instance (m:e9):Decidable (hdM m):=by unfold hdM;infer_instance
def txM (m:e9):Prop:=(m.ID.length=0∨m.ID.length=3)∧m.Session.length≤64∧m.Payload.length≤1024
instance (m:e9):Decidable (txM m):=by unfold txM;infer_instance
def aN1 (m:e9):Bool:=bif m.HasPlan then aa9 m.Plan else bK8 m.Plan v9
def B3 (m:e9):Bool:=decide (hdM m)&&(decide (txM m)&&aN1 m)
structure Shm (m:e9):Prop where
 s:aV3 m.Plan
 up:n8 .u64 m.Plan.Up
 sup:n8 .u64 m.Plan.Sup
theorem bX2 (a b c:Int):(A2 (A2 a b) c<0)↔a<0∨b<0∨c<0:=by unfold A2;split<;>split<;>omega
theorem cQ9 (a b n:Int):(u9 a b>n)↔a>n∨b>n:=by unfold u9;split<;>omega
theorem dL1 (a b n:Int):(u9 a b≥n)↔a≥n∨b≥n:=by unfold u9;split<;>omega
theorem dr5:n8 .u64 (0:Int):=F8.2 (by omega)
theorem dw6 {m:e9} (h:Shm m):ag5 false m=some (aN1 m):=by
 have hu:=F8.1 h.up
 have hv:=F8.1 h.sup
 unfold ag5 aN1
 cases m.HasPlan
 ·have:=dT3 (a:=m.Plan) (b:=v9) h.s h.up dr5 h.sup dr5
  simp only [cond_false]
  show (aQ1 m.Plan v9).bind _=_
  rw [this];rfl
 ·simp only [cond_false,cond_true,aY3 h.s hu.1 hv.1,Option.bind_some]
theorem dx3 {m:e9} (h:Shm m):Q9 false m=some (decide (txM m)&&aN1 m):=by
 have h1:=dw6 h
 have t1:ag5 true m=some false:=rfl
 have t2:ap0 true m=some false:=rfl
 have h2:ap0 false m=some (decide (m.Session.length≤64∧m.Payload.length≤1024)&&aN1 m):=by
  simp only [ap0,cond_false,List.length_map]
  by_cases a:m.Session.length≤64
  ·rw [show decide (((m.Session.length:Nat):Int)>64)=false from decide_eq_false (by omega)]
   by_cases b:m.Payload.length≤1024
   ·rw [show decide (((m.Payload.length:Nat):Int)>1024)=false from decide_eq_false (by omega),show decide (m.Session.length≤64∧m.Payload.length≤1024)=true from decide_eq_true ⟨a,b⟩,Bool.true_and];exact h1
   ·rw [show decide (((m.Payload.length:Nat):Int)>1024)=true from decide_eq_true (by omega),show decide (m.Session.length≤64∧m.Payload.length≤1024)=false from decide_eq_false (fun h=>b h.2)];rfl
  ·rw [show decide (((m.Session.length:Nat):Int)>64)=true from decide_eq_true (by omega),show decide (m.Session.length≤64∧m.Payload.length≤1024)=false from decide_eq_false (fun h=>a h.1)];rfl
 simp only [Q9,cond_false,List.length_map]
 by_cases a:m.ID.length=0
 ·rw [show decide (((m.ID.length:Nat):Int)>0)=false from decide_eq_false (by omega)]
  rw [show decide (txM m)=decide (m.Session.length≤64∧m.Payload.length≤1024) from decide_eq_decide.2 (by unfold txM;omega)]
  exact h2
 ·rw [show decide (((m.ID.length:Nat):Int)>0)=true from decide_eq_true (by omega)]
  by_cases b:m.ID.length=3
  ·rw [show (((m.ID.length:Nat):Int) !=3)=false from by rw [b];rfl,show decide (txM m)=decide (m.Session.length≤64∧m.Payload.length≤1024) from decide_eq_decide.2 (by unfold txM;omega)]
   exact h2
  ·rw [show (((m.ID.length:Nat):Int) !=3)=true from bne_iff_ne.2 (by omega),show decide (txM m)=false from decide_eq_false (by unfold txM;omega)]
   rfl
theorem bw1 {m:e9} (h:Shm m):an8 m=some (B3 m):=by
 have t3:Q9 true m=some false:=rfl
 by_cases hh:hdM m
 ·have h' :=hh
  unfold hdM at h'
  rw [B3,decide_eq_true hh,Bool.true_and,←dx3 h]
  simp only [an8]
  rw [show decide (m.Kind<1)=false from decide_eq_false (by omega),show decide (m.Kind>19)=false from decide_eq_false (by omega),
   show decide (A2 (A2 m.From m.To) m.Code<0)=false from decide_eq_false (by rw [bX2];omega),show decide (u9 m.From m.To>255)=false from decide_eq_false (by rw [cQ9];omega),
   show decide (m.Code>1000)=false from decide_eq_false (by omega),show decide (m.Up≥65536)=false from decide_eq_false (by omega)]
  rfl
 ·rw [B3,decide_eq_false hh,Bool.false_and]
  unfold hdM at hh
  simp only [an8]
  cases h1:decide (m.Kind<1)
  ·cases h2:decide (m.Kind>19)
   ·cases h3:decide (A2 (A2 m.From m.To) m.Code<0)
    ·cases h4:decide (u9 m.From m.To>255)
     ·cases h5:decide (m.Code>1000)
      ·rw [decide_eq_false_iff_not] at h1 h2 h3 h4 h5
       rw [bX2] at h3
       rw [cQ9] at h4
       rw [show decide (m.Up≥65536)=true from decide_eq_true (by omega)]
       rfl
      ·rfl
     ·rfl
    ·rfl
   ·rfl
  ·rfl
end Go.RX.L

namespace Go.RX.L
open Go Go.RX
/-! ### bytes -/
/-- A message of words. -/
structure af7 (m : e9) : Prop where
  sh : Shm m
  pl : bh6 m.Plan
  w : as9 [m.Epoch, m.Ballot, m.Accepted, m.Nonce, m.Time]
  up : 0 ≤ m.Up
  id : as9 m.ID
  ses : s9 m.Session
  pay : s9 m.Payload
theorem e9.Ok.fine {m:e9} (h:m.Ok):af7 m:=by
 obtain ⟨h1,h2,h3,h4,h5,h6,h7,h8,h9,h10,-,hp,hid,hs,hq⟩:=h
 have hp' :=hp
 obtain ⟨-,-,-,-,-,-,-,-,u1,u2,-,-⟩:=hp
 refine ⟨⟨hp'.shrt,u1,u2⟩,hp'.fine,?_,(F8.1 h9).1,fun x hx=>hid.2 x hx,fun x hx=>dB9.1 (hs.2 x hx),fun x hx=>dB9.1 (hq.2 x hx)⟩
 intro x hx
 simp only [List.mem_cons,List.not_mem_nil,or_false] at hx
 rcases hx with rfl | rfl | rfl | rfl | rfl<;>assumption
def ac1 (m:e9):List Int:= [m.From,m.To,m.Epoch,m.Ballot,m.Accepted,m.Nonce,m.Time,m.Up,m.Code,bif m.HasPlan then 1 else 0]
def bz1 (m:e9):List Int:=bif m.HasPlan then K1 (aF6 m.Plan) else []
def ai4 (m:e9):List Int:=encL (ac1 m)++(bz1 m++(encL m.ID++(K1 m.Session++K1 m.Payload)))
theorem am8 {m:e9} (h:B3 m=true):hdM m∧txM m∧aN1 m=true:=by
 simpa only [B3,Bool.and_eq_true,decide_eq_true_eq] using h
theorem bn0 {m:e9} (h:B3 m=true) (hp:m.HasPlan=true):Rt m.Plan:=by
 have:=(am8 h).2.2
 rw [aN1,hp] at this
 exact Y9.1 this
theorem dm2 {m:e9} (h:B3 m=true) (hp:m.HasPlan=false):m.Plan=v9:=by
 have:=(am8 h).2.2
 rw [aN1,hp] at this
 exact bw8.1 this
theorem cl2 {m:e9} (hf:af7 m) (h:B3 m=true):as9 (ac1 m):=by
 obtain ⟨h1,h2,h3⟩:=am8 h
 unfold hdM at h1
 have hu:=hf.up
 have e1:=ac2.2 (show-9223372036854775808≤m.From∧m.From≤9223372036854775807 by omega)
 have e2:=ac2.2 (show-9223372036854775808≤m.To∧m.To≤9223372036854775807 by omega)
 have e3:=ac2.2 (show-9223372036854775808≤m.Up∧m.Up≤9223372036854775807 by omega)
 have e4:=ac2.2 (show-9223372036854775808≤m.Code∧m.Code≤9223372036854775807 by omega)
 have e5:n8 .i64 (bif m.HasPlan then 1 else 0):=by cases m.HasPlan<;>exact ac2.2 (by decide)
 have hw:=hf.w
 intro x hx
 simp only [ac1,List.mem_cons,List.not_mem_nil,or_false] at hx
 rcases hx with rfl | rfl | rfl | rfl | rfl | rfl | rfl | rfl | rfl | rfl
 ·exact e1
 ·exact e2
 ·exact hw _ (by simp)
 ·exact hw _ (by simp)
 ·exact hw _ (by simp)
 ·exact hw _ (by simp)
 ·exact hw _ (by simp)
 ·exact e3
 ·exact e4
 ·exact e5
theorem dl0 (m:e9):s9 (bz1 m):=by
 unfold bz1
 cases m.HasPlan
 ·intro c hc;cases hc
 ·exact bH7 (dm8 _)
theorem dn7 {m:e9} (hf:af7 m):s9 (ai4 m):=fun c hc=>by
 simp only [ai4,List.mem_append] at hc
 rcases hc with hc | hc | hc | hc | hc
 ·exact bk6 _ c hc
 ·exact dl0 m c hc
 ·exact bk6 _ c hc
 ·exact bH7 hf.ses c hc
 ·exact bH7 hf.pay c hc
theorem cV4 {m:e9} (hf:af7 m) (h:B3 m=true):(bz1 m).length≤1960:=by
 unfold bz1
 cases hp:m.HasPlan
 ·simp
 ·have h1:=cl1 hf.pl (bn0 h hp)
  have:=aY7 (s:=aF6 m.Plan) (by omega)
  simp only [cond_true];omega
theorem cW3 {m:e9} (h:B3 m=true):m.ID.length≤3∧m.Session.length≤64∧m.Payload.length≤1024:=by
 have:=(am8 h).2.1
 unfold txM at this
 omega
theorem cm5 {m:e9} (hf:af7 m) (h:B3 m=true):(ai4 m).length≤4400:=by
 have a:=ap8 (cl2 hf h) (by simp [ac1])
 have b:=cV4 hf h
 have hi:=cW3 h
 have c:=ap8 hf.id (by omega)
 have d:=aY7 (s:=m.Session) (by omega)
 have e:=aY7 (s:=m.Payload) (by omega)
 simp only [ai4,List.length_append]
 omega
def dl4 (m:e9):Int×List Int×Int:=if B3 m=true then (m.Kind,ai4 m,0) else (0,[],51)
theorem dr6 {s:List Int} (h:s.length≤4096):dI6 s=(0,K1 s):=if_pos h
theorem dT0 {m:e9} (hs:m.Session.length≤64) (hq:m.Payload.length≤1024) (hk:0≤m.Kind∧m.Kind≤255) {b:List Int} (hb:b.length≤8000):
  Ev N4 (.s1 0 m b [m.Session,m.Payload]) (m.Kind,b++(K1 m.Session++K1 m.Payload),0):=by
 have n1:=aY7 (s:=m.Session) (by omega)
 have n2:=aY7 (s:=m.Payload) (by omega)
 have k1:=bI1 (s:=m.Session) (by simp only [G1];omega)
 have k2:=bI1 (s:=m.Payload) (by simp only [G1];omega)
 rw [dr6 (by omega)] at k1 k2
 refine .next (s' := .s1 1 m (b++K1 m.Session) [m.Session,m.Payload]) ?_ (.next (s' := .s1 2 m (b++K1 m.Session++K1 m.Payload) [m.Session,m.Payload]) ?_ (.done ?_))
 ·have hl:decide (((List.map (d7 .u8) b).length+(List.map (d7 .u8) (K1 m.Session)).length)*1≤i6)=true:=C7 (by simp only [List.length_map];omega)
  simp only [N4,aI2,z9]
  simp only [show (0+(0:Int).toNat)=0 from rfl,List.getElem?_cons_zero,Option.bind_some,k1,hl]
  rfl
 ·have hl:decide (((List.map (d7 .u8) (b++K1 m.Session)).length+(List.map (d7 .u8) (K1 m.Payload)).length)*1≤i6)=true:=C7 (by simp only [List.length_map,List.length_append];omega)
  simp only [N4,aI2,z9]
  simp only [show (0+(1:Int).toNat)=1 from rfl,List.getElem?_cons_succ,List.getElem?_cons_zero,Option.bind_some,k2,hl]
  rfl
 ·rw [←List.append_assoc]
  simp only [N4,aI2,wU8 hk.1 hk.2]
  rfl
theorem dO2 {m:e9} (hf:af7 m) (h:B3 m=true) {b:List Int} (hb:b.length≤7000):
  Ev N4 (.s2 m b) (m.Kind,b++(encL m.ID++(K1 m.Session++K1 m.Payload)),0):=by
 have hi:=cW3 h
 have hh:=(am8 h).1
 unfold hdM at hh
 have c:=ap8 hf.id (by omega)
 have hl:decide (((List.map (d7 .u8) b).length+(List.map (d7 .u8) (encL m.ID)).length)*1≤i6)=true:=C7 (by simp only [List.length_map];omega)
 refine .next (s' := .s1 0 m (b++encL m.ID) [m.Session,m.Payload]) ?_ ?_
 ·simp only [N4,bl6,z9,aS4 hf.id (by omega),Option.bind_some,hl,cond_true]
 ·have:=dT0 (m:=m) (b:=b++encL m.ID) hi.2.1 hi.2.2 (by omega) (by simp only [List.length_append];omega)
  rw [List.append_assoc] at this
  exact this
theorem dP8 {m:e9} (hf:af7 m):bG9 m=some (dl4 m):=by
 unfold dl4
 by_cases h:B3 m=true
 ·rw [if_pos h]
  have hi:=cl2 hf h
  have hu:=hf.up
  have hh:=(am8 h).1
  unfold hdM at hh
  have hw:IntKind.i64.wrap m.Up=m.Up:=u7 (by omega) (by omega)
  have nl:=ap8 hi (by simp [ac1])
  refine u6 (.next (s' := .s3 m (ac1 m)) ?_ ?_)
  ·simp only [N4,aV7,bw1 hf.sh,h,Option.bind_some,Bool.not_true,cond_false,hw,ac1]
   cases m.HasPlan<;>rfl
  ·refine .next (s' := .s2 m (encL (ac1 m)++bz1 m)) ?_ ?_
   ·simp only [N4,bl9,aS4 hi (by simp [ac1]),Option.bind_some,z9]
    unfold bz1
    cases hp:m.HasPlan
    ·simp only [cond_false,List.append_nil]
    ·have rp:=bn0 h hp
     have pl:=cl1 hf.pl rp
     have tl:=aY7 (s:=aF6 m.Plan) (by omega)
     have e1:bH2 m.Plan=some (aF6 m.Plan,0):=by rw [dV0 hf.pl,dD4,if_pos (Y9.2 rp)]
     have e2:aa1 (aF6 m.Plan)=some (0,K1 (aF6 m.Plan)):=by rw [bI1 (by simp only [G1];omega),dr6 (by omega)]
     have hl:decide (((List.map (d7 .u8) (encL (ac1 m))).length+(List.map (d7 .u8) (K1 (aF6 m.Plan))).length)*1≤i6)=true:=C7 (by simp only [List.length_map];omega)
     simp only [cond_true,e1,e2,Option.bind_some,hl]
   ·have q:=cV4 hf h
    have:=dO2 hf h (b:=encL (ac1 m)++bz1 m) (by simp only [List.length_append];omega)
    rw [List.append_assoc] at this
    exact this
 ·rw [if_neg h]
  refine u6 (.done ?_)
  simp only [N4,aV7,bw1 hf.sh,Bool.eq_false_iff.2 h,Option.bind_some,Bool.not_false,cond_true]
end Go.RX.L

namespace Go.RX.L
open Go Go.RX
def aR3:e9:=⟨0,0,0,0,0,0,0,0,0,0,false,v9,[],[],[]⟩
def withT (m:e9) (id s py:List Int):e9:=⟨m.Kind,m.From,m.To,m.Epoch,m.Ballot,m.Accepted,m.Nonce,m.Time,m.Up,m.Code,m.HasPlan,m.Plan,id,s,py⟩
def bb7 (l:List Int):Option (List Int×List Int×List Int):=match pL l with
 | .inl _=>none
 | .inr (id,k1)=>(match pT (l.drop k1) with
  | .inl _=>none
  | .inr (s,k2)=>(match pT (l.drop (k1+k2)) with
   | .inl _=>none
   | .inr (py,k3)=>if k1+k2+k3=l.length then some (id,s,py) else none))
def bD4 (m:e9) (l:List Int):e9×Int:=match bb7 l with
 | none=>(aR3,51)
 | some (id,s,py)=>if B3 (withT m id s py)=true then (withT m id s py,0) else (aR3,51)
theorem dN4 {l:List Int}{e:Int} (h:pL l= .inl e):bb7 l=none:=by simp only [bb7,h]
theorem dO8 {l id:List Int}{k1:Nat}{e:Int} (h:pL l= .inr (id,k1)) (h2:pT (l.drop k1)= .inl e):bb7 l=none:=by simp only [bb7,h,h2]
theorem dQ2 {l id s:List Int}{k1 k2:Nat}{e:Int} (h:pL l= .inr (id,k1)) (h2:pT (l.drop k1)= .inr (s,k2)) (h3:pT (l.drop (k1+k2))= .inl e):bb7 l=none:=by simp only [bb7,h,h2,h3]
theorem di2 {l id s py:List Int}{k1 k2 k3:Nat} (h:pL l= .inr (id,k1)) (h2:pT (l.drop k1)= .inr (s,k2)) (h3:pT (l.drop (k1+k2))= .inr (py,k3)):bb7 l=if k1+k2+k3=l.length then some (id,s,py) else none:=by simp only [bb7,h,h2,h3]
theorem cG8 (x e:Int) (b:List Int) (h:(e !=0)=true):I5 ⟨⟨x,e⟩,b⟩=some ([],⟨⟨x,e⟩,b⟩):=by simp only [I5,h,cond_true]
theorem ca2 {b:List Int} (hb:s9 b) (hm:b.length≤G1) {at_:Nat} (h:at_≤b.length):ab3 ⟨⟨at_,0⟩,b⟩=some ((rL at_ (pL (b.drop at_))).1,⟨⟨(rL at_ (pL (b.drop at_))).2.1,(rL at_ (pL (b.drop at_))).2.2⟩,b⟩):=by
 simp only [ab3,bne_self_eq_false,cond_false,bZ7 hb hm h,Option.bind_some]
theorem cE7 {b:List Int} (hb:s9 b) (hm:b.length≤G1) {at_:Nat} (h:at_≤b.length):I5 ⟨⟨at_,0⟩,b⟩=some ((rL at_ (pT (b.drop at_))).1,⟨⟨(rL at_ (pT (b.drop at_))).2.1,(rL at_ (pT (b.drop at_))).2.2⟩,b⟩):=by
 simp only [I5,bne_self_eq_false,cond_false,dM5 hb hm h,Option.bind_some]
theorem Shm.withT {m:e9} (h:Shm m) (id s py:List Int):Shm (withT m id s py):=⟨h.s,h.up,h.sup⟩
theorem pTe {l:List Int}{e:Int} (h:pT l= .inl e):(e !=0)=true:=bne_iff_ne.2 (dY3 h)
theorem dw3 {b:List Int} (hb:s9 b) (hm:b.length≤G1) {at_:Nat} (h:at_≤b.length) (b0:e9) {m:e9} (hs:Shm m):aE4 b b0 ⟨⟨at_,0⟩,b⟩ m=some (bD4 m (b.drop at_)):=by
 have bad:∀(z:e9),aP4 true b0 z=some (aR3,51):=fun z=>rfl
 simp only [aE4,ca2 hb hm h,Option.bind_some]
 unfold bD4
 cases h1:pL (b.drop at_) with
 | inl e=>
  have he:=bY0 h1
  rw [dN4 h1]
  simp only [rL,cG8 _ _ _ he,Option.bind_some,he,cond_true,bad]
 | inr x=>
  obtain ⟨id,k1⟩:=x
  have l1:=cR2 hb h1
  have a1:at_+k1≤b.length:=by omega
  simp only [rL,cE7 hb hm a1,Option.bind_some]
  cases h2:pT (b.drop (at_+k1)) with
  | inl e=>
   have he:=pTe h2
   rw [dO8 h1 (by rw [List.drop_drop];exact h2)]
   simp only [rL,cG8 _ _ _ he,Option.bind_some,he,cond_true,bad]
  | inr x=>
   obtain ⟨s,k2⟩:=x
   have l2:=(cs7 (aZ0 hb _) h2).2.1
   rw [List.length_drop] at l2
   have a2:at_+k1+k2≤b.length:=by omega
   simp only [rL,cE7 hb hm a2,Option.bind_some]
   cases h3:pT (b.drop (at_+k1+k2)) with
   | inl e=>
    have he:=pTe h3
    rw [dQ2 h1 (by rw [List.drop_drop];exact h2) (by rw [List.drop_drop,←Nat.add_assoc];exact h3)]
    simp only [rL,he,cond_true,bad]
   | inr x=>
    obtain ⟨py,k3⟩:=x
    have l3:=(cs7 (aZ0 hb _) h3).2.1
    rw [List.length_drop] at l3
    rw [di2 h1 (by rw [List.drop_drop];exact h2) (by rw [List.drop_drop,←Nat.add_assoc];exact h3)]
    simp only [rL,bne_self_eq_false,cond_false,List.length_map,List.length_drop]
    by_cases hq:k1+k2+k3=b.length-at_
    ·have c1:(((at_+k1+k2+k3:Nat):Int) !=((b.length:Nat):Int))=false:=by rw [show at_+k1+k2+k3=b.length by omega];simp
     have hr:=bw1 (hs.withT id s py)
     rw [c1,if_pos hq]
     show (Option.bind (an8 (withT m id s py)) fun y6=>aP4 (!y6) b0 (withT m id s py))=_
     rw [hr]
     simp only [Option.bind_some]
     cases hh:B3 (withT m id s py)<;>rfl
    ·have c1:(((at_+k1+k2+k3:Nat):Int) !=((b.length:Nat):Int))=true:=bne_iff_ne.2 (by omega)
     rw [c1,if_neg hq]
     exact bad (withT m id s py)
def aH0 (k:Int) (l:List Int) (p:Plan):e9:=⟨k,l.getD 0 0,l.getD 1 0,l.getD 2 0,l.getD 3 0,l.getD 4 0,l.getD 5 0,l.getD 6 0,l.getD 7 0,l.getD 8 0,l.getD 9 0==1,p,[],[],[]⟩
def by2 (l:List Int):Prop:=l.length=10∧0≤l.getD 0 0∧l.getD 0 0≤255∧0≤l.getD 1 0∧l.getD 1 0≤255∧0≤l.getD 7 0∧l.getD 7 0≤65535∧0≤l.getD 8 0∧l.getD 8 0≤65535∧0≤l.getD 9 0∧l.getD 9 0≤1
instance (l:List Int):Decidable (by2 l):=by unfold by2;infer_instance
def bT2 (k:Int) (l b:List Int):e9×Int:=if l.getD 9 0=1 then (match pT b with
  | .inl _=>(aR3,51)
  | .inr (t,j)=>if (ac8 t).2=0 then bD4 (aH0 k l (ac8 t).1) (b.drop j) else (aR3,51))
 else bD4 (aH0 k l v9) b
def ofM (k:Int) (b:List Int):e9×Int:=match pL b with
 | .inl _=>(aR3,51)
 | .inr (l,n)=>if by2 l then bT2 k l (b.drop n) else (aR3,51)
theorem dD5 (k:Int) (l:List Int):Shm (aH0 k l v9):=⟨⟨by simp [aH0,v9],by simp [aH0,v9]⟩,F8.2 (by simp [aH0,v9]),F8.2 (by simp [aH0,v9])⟩
theorem dS4 {t:List Int} (ht:s9 t) (h:(ac8 t).2=0) (k:Int) (l:List Int):Shm (aH0 k l (ac8 t).1):=by
 obtain ⟨h1,h2,h3⟩:=dB8 ht (p:=(ac8 t).1) (by rw [←h])
 have hr:=Y9.1 h1
 have a1:=h2.up
 have a2:=h2.sup
 have a3:=hr.up
 have a4:=hr.sup
 exact ⟨h2.s,(F8.2 (by omega):n8 .u64 (ac8 t).1.Up),(F8.2 (by omega):n8 .u64 (ac8 t).1.Sup)⟩
theorem dV5 {t l:List Int}{j:Nat} (hb:s9 l) (h:pT l= .inr (t,j)):t.length≤G1:=by
 have:=(cs7 hb h).2.2.2.1
 simp only [G1];omega
theorem dW4 {k:Int} (hk:0≤k∧k≤255) {b:List Int} (hb:s9 b) (hm:b.length≤G1) {at_:Nat} (h:at_≤b.length) {l:List Int} (hl:by2 l) (b0:e9):O7 k b l false b0 ⟨⟨at_,0⟩,b⟩=some (bT2 k l (b.drop at_)):=by
 obtain ⟨hlen,hw⟩:=hl
 match l,hlen,hw with
 | [a0,a1,a2,a3,a4,a5,a6,a7,a8,a9],_,hw=>
  simp only [List.getD_cons_zero,List.getD_cons_succ] at hw
  have wk:IntKind.i64.wrap k=k:=u7 (by omega) (by omega)
  have wu:IntKind.u64.wrap a7=a7:=cx8 (by omega) (by omega)
  have e:O7 k b [a0,a1,a2,a3,a4,a5,a6,a7,a8,a9] false b0 ⟨⟨at_,0⟩,b⟩=(bif (a9==1) then ((I5 ⟨⟨at_,0⟩,b⟩).bind fun y33=>((bL5 y33.1).bind fun y34=>(bif ((y34.2:Int) !=0) then some (aR3,51) else
    aE4 b b0 y33.2 ⟨IntKind.i64.wrap k,a0,a1,a2,a3,a4,a5,a6,IntKind.u64.wrap a7,a8,a9==1,y34.1,[],[],[]⟩))) else aE4 b b0 ⟨⟨at_,0⟩,b⟩ ⟨IntKind.i64.wrap k,a0,a1,a2,a3,a4,a5,a6,IntKind.u64.wrap a7,a8,a9==1,v9,[],[],[]⟩):=rfl
  rw [e,wk,wu]
  unfold bT2
  simp only [List.getD_cons_zero,List.getD_cons_succ]
  by_cases h9:a9=1
  ·have c9:(a9==1)=true:=beq_iff_eq.2 h9
   rw [if_pos h9]
   have hd:∀p,(⟨k,a0,a1,a2,a3,a4,a5,a6,a7,a8,a9==1,p,[],[],[]⟩:e9)=aH0 k [a0,a1,a2,a3,a4,a5,a6,a7,a8,a9] p:=fun p=>rfl
   simp only [hd]
   rw [c9,cond_true,cE7 hb hm h]
   simp only [Option.bind_some]
   cases h2:pT (b.drop at_) with
   | inl e=>
    have he:=pTe h2
    have g:=dA4 (b:= []) (fun c hc=>by cases hc) (by simp)
    have g0:ac8 []=(v9,41):=by
     have:aK9 []=none:=by decide
     simp only [ac8,this]
    simp only [rL,g,g0,Option.bind_some]
    rfl
   | inr x=>
    obtain ⟨s,j⟩:=x
    obtain ⟨d1,d2,d3,d4,d5⟩:=cs7 (aZ0 hb at_) h2
    rw [List.length_drop] at d2
    have g:=dA4 d5 (dV5 (aZ0 hb at_) h2)
    simp only [rL,g,Option.bind_some]
    by_cases hq:(ac8 s).2=0
    ·rw [if_pos hq,show ((ac8 s).2 !=0)=false by rw [hq];rfl,cond_false,dw3 hb hm (by omega) b0 (dS4 d5 hq k _),List.drop_drop]
    ·rw [if_neg hq,show ((ac8 s).2 !=0)=true from bne_iff_ne.2 hq,cond_true]
  ·have c9:(a9==1)=false:=beq_eq_false_iff_ne.2 h9
   rw [if_neg h9]
   have hd:∀p,(⟨k,a0,a1,a2,a3,a4,a5,a6,a7,a8,a9==1,p,[],[],[]⟩:e9)=aH0 k [a0,a1,a2,a3,a4,a5,a6,a7,a8,a9] p:=fun p=>rfl
   simp only [hd]
   rw [c9,cond_false,dw3 hb hm h b0 (dD5 k _)]
theorem eb5 {k:Int} (hk:0≤k∧k≤255) {b:List Int} (hb:s9 b) (hm:b.length≤G1):bf9 k b=some (ofM k b):=by
 have bad:∀l b0 r,O7 k b l true b0 r=some (aR3,51):=fun _ _ _=>rfl
 have hr:=ca2 hb hm (Nat.zero_le b.length)
 simp only [Int.natCast_zero,List.drop_zero] at hr
 unfold ofM
 cases h1:pL b with
 | inl e=>
  have he:=bY0 h1
  rw [h1] at hr
  simp only [bf9]
  rw [show (⟨⟨0,0⟩,b⟩:m8)=⟨⟨((0:Nat):Int),0⟩,b⟩ from rfl]
  rw [ca2 hb hm (Nat.zero_le b.length),List.drop_zero,h1]
  simp only [rL,Option.bind_some,he,cond_true,bad]
 | inr x=>
  obtain ⟨l,n⟩:=x
  have hl:=cR2 hb (at_:=0) (b:=b) h1
  simp only [bf9]
  rw [show (⟨⟨0,0⟩,b⟩:m8)=⟨⟨((0:Nat):Int),0⟩,b⟩ from rfl]
  rw [ca2 hb hm (Nat.zero_le b.length),List.drop_zero,h1]
  simp only [rL,Option.bind_some,bne_self_eq_false,cond_false,List.length_map,Nat.zero_add]
  by_cases h10:l.length=10
  ·rw [show (((l.length:Nat):Int) !=10)=false by rw [h10];rfl]
   have o1:∀b0,by2 l→O7 k b l false b0 ⟨⟨((n:Nat):Int),0⟩,b⟩=some (bT2 k l (b.drop n)):=fun b0 hw=>dW4 hk hb hm (by omega) hw b0
   match l,h10,o1 with
   | [a0,a1,a2,a3,a4,a5,a6,a7,a8,a9],_,o1=>
    have ew:by2 [a0,a1,a2,a3,a4,a5,a6,a7,a8,a9]↔0≤a0∧a0≤255∧0≤a1∧a1≤255∧0≤a7∧a7≤65535∧0≤a8∧a8≤65535∧0≤a9∧a9≤1:=⟨fun h=>h.2,fun h=>⟨rfl,h⟩⟩
    show (bif decide (A2 (A2 (A2 (A2 a0 a1) a7) a8) a9<0) then O7 k b [a0,a1,a2,a3,a4,a5,a6,a7,a8,a9] true _ _ else bif decide (u9 a0 a1>255) then O7 k b [a0,a1,a2,a3,a4,a5,a6,a7,a8,a9] true _ _ else
     bif decide (u9 a7 a8≥65536) then O7 k b [a0,a1,a2,a3,a4,a5,a6,a7,a8,a9] true _ _ else O7 k b [a0,a1,a2,a3,a4,a5,a6,a7,a8,a9] (decide (a9>1)) _ _)=_
    have mn:A2 (A2 (A2 (A2 a0 a1) a7) a8) a9<0↔a0<0∨a1<0∨a7<0∨a8<0∨a9<0:=by
     rw [show A2 (A2 (A2 (A2 a0 a1) a7) a8) a9=A2 (A2 (A2 (A2 a0 a1) a7) a8) a9 from rfl,bX2]
     constructor
     ·rintro (h | h | h)
      ·rw [bX2] at h;omega
      ·omega
      ·omega
     ·intro h
      rw [bX2];omega
    by_cases q1:A2 (A2 (A2 (A2 a0 a1) a7) a8) a9<0
    ·rw [decide_eq_true q1,cond_true,bad,if_neg (by rw [ew];rw [mn] at q1;omega)]
    ·rw [decide_eq_false q1,cond_false]
     by_cases q2:u9 a0 a1>255
     ·rw [decide_eq_true q2,cond_true,bad,if_neg (by rw [ew];rw [cQ9] at q2;omega)]
     ·rw [decide_eq_false q2,cond_false]
      by_cases q3:u9 a7 a8≥65536
      ·rw [decide_eq_true q3,cond_true,bad,if_neg (by rw [ew];rw [dL1] at q3;omega)]
      ·rw [decide_eq_false q3,cond_false]
       by_cases q4:a9>1
       ·rw [decide_eq_true q4,bad,if_neg (by rw [ew];omega)]
       ·have hw:by2 [a0,a1,a2,a3,a4,a5,a6,a7,a8,a9]:=by
         rw [ew];rw [mn] at q1;rw [cQ9] at q2;rw [dL1] at q3;omega
        rw [decide_eq_false q4,o1 _ hw,if_pos hw]
  ·rw [show (((l.length:Nat):Int) !=10)=true from bne_iff_ne.2 (by omega),cond_true,bad,if_neg (fun h=>h10 h.1)]
end Go.RX.L

namespace Go.RX.L
open Go Go.RX
/-! ### the document's reader -/
end Go.RX.L

namespace Go.RX.L
open Go Go.RX
/-! ### frames -/
/-! ### what is written is read -/
theorem dq9 {m:e9} (hf:af7 m) (h:B3 m=true) (rest:List Int):bb7 (encL m.ID++(K1 m.Session++(K1 m.Payload++rest)))=if rest= [] then some (m.ID,m.Session,m.Payload) else none:=by
 have hi:=cW3 h
 have h1:=bQ1 hf.id (by omega) (K1 m.Session++(K1 m.Payload++rest))
 have h2:=cX0 (s:=m.Session) (by omega) (K1 m.Payload++rest)
 have h3:=cX0 (s:=m.Payload) (by omega) rest
 rw [di2 h1 (by rw [List.drop_left];exact h2) (by rw [←List.drop_drop,List.drop_left,List.drop_left];exact h3)]
 simp only [List.length_append]
 cases rest with
 | nil=>rw [if_pos (by simp;omega),if_pos rfl]
 | cons x r=>rw [if_neg (by simp;omega),if_neg (by simp)]
theorem du6 {m:e9} (hf:af7 m) (h:B3 m=true):by2 (ac1 m):=by
 have hh:=(am8 h).1
 unfold hdM at hh
 have hu:=hf.up
 refine ⟨rfl,?_⟩
 show 0≤m.From∧m.From≤255∧0≤m.To∧m.To≤255∧0≤m.Up∧m.Up≤65535∧0≤m.Code∧m.Code≤65535∧0≤(bif m.HasPlan then (1:Int) else 0)∧(bif m.HasPlan then (1:Int) else 0)≤1
 cases m.HasPlan<;>simp only [cond_true,cond_false]<;>omega
theorem dE6 {m:e9} (hf:af7 m) (h:B3 m=true) (k:Int) (rest:List Int):ofM k (ai4 m++rest)=if rest= []∧B3 ⟨k,m.From,m.To,m.Epoch,m.Ballot,m.Accepted,m.Nonce,m.Time,m.Up,m.Code,m.HasPlan,m.Plan,m.ID,m.Session,m.Payload⟩=true then (⟨k,m.From,m.To,m.Epoch,m.Ballot,m.Accepted,m.Nonce,m.Time,m.Up,m.Code,m.HasPlan,m.Plan,m.ID,m.Session,m.Payload⟩,0) else (aR3,51):=by
 have e0:ai4 m++rest=encL (ac1 m)++(bz1 m++(encL m.ID++(K1 m.Session++(K1 m.Payload++rest)))):=by simp [ai4]
 rw [e0]
 unfold ofM
 rw [bQ1 (cl2 hf h) (by simp [ac1])]
 simp only [if_pos (du6 hf h),List.drop_left]
 unfold bT2
 have fin:∀p,p=m.Plan→(ac1 m).getD 9 0=(bif m.HasPlan then (1:Int) else 0)→bD4 (aH0 k (ac1 m) p) (encL m.ID++(K1 m.Session++(K1 m.Payload++rest)))=if rest= []∧B3 ⟨k,m.From,m.To,m.Epoch,m.Ballot,m.Accepted,m.Nonce,m.Time,m.Up,m.Code,m.HasPlan,m.Plan,m.ID,m.Session,m.Payload⟩=true then (⟨k,m.From,m.To,m.Epoch,m.Ballot,m.Accepted,m.Nonce,m.Time,m.Up,m.Code,m.HasPlan,m.Plan,m.ID,m.Session,m.Payload⟩,0) else (aR3,51):=by
  intro p hp h9
  have hb:withT (aH0 k (ac1 m) p) m.ID m.Session m.Payload=⟨k,m.From,m.To,m.Epoch,m.Ballot,m.Accepted,m.Nonce,m.Time,m.Up,m.Code,m.HasPlan,m.Plan,m.ID,m.Session,m.Payload⟩:=by
   subst hp
   have:((ac1 m).getD 9 0==1)=m.HasPlan:=by rw [h9];cases m.HasPlan<;>rfl
   simp only [withT,aH0,this]
   rfl
  unfold bD4
  rw [dq9 hf h]
  by_cases hr:rest= []
  ·rw [if_pos hr]
   simp only [hb,hr,true_and]
  ·rw [if_neg hr]
   simp only [hr,false_and,if_false]
 unfold bz1
 cases hp:m.HasPlan with
 | false=>
  have h9:(ac1 m).getD 9 0=0:=by show (bif m.HasPlan then (1:Int) else 0)=0;rw [hp];rfl
  rw [if_neg (by rw [h9];decide)]
  have:=fin v9 (dm2 h hp).symm rfl
  rw [hp] at this
  exact this
 | true=>
  have h9:(ac1 m).getD 9 0=1:=by show (bif m.HasPlan then (1:Int) else 0)=1;rw [hp];rfl
  have rp:=bn0 h hp
  have pl:=cl1 hf.pl rp
  rw [if_pos h9,cond_true,cX0 (by omega)]
  have g:=dI5 hf.pl (Y9.2 rp)
  simp only [g,if_true,List.drop_left]
  have:=fin m.Plan rfl rfl
  rw [hp] at this
  exact this
theorem dP5 {m:e9} (hf:af7 m) (h:B3 m=true):ofM m.Kind (ai4 m)=(m,0):=by
 have:=dE6 hf h m.Kind []
 rw [List.append_nil] at this
 rw [this,if_pos ⟨rfl,h⟩]
/-! ### alike? -/
end Go.RX.L

namespace Go.RX.L
open Go Go.RX
theorem di1 {m:e9} (h:B3 m=true):0≤m.Kind∧m.Kind≤255:=by
 have hh:=(am8 h).1
 unfold hdM at hh
 omega
/-! ### the head -/
theorem df8 {m:e9} (hf:af7 m) (h:B3 m=true):s9 (H0 m.Kind (ai4 m)):=by
 have hl:=cm5 hf h
 exact bJ8 (di1 h) (dn7 hf) (by omega)
end Go.RX.L

namespace Go.RX.L
open Go Go.RX Go.Proofs
attribute [local irreducible] f6
noncomputable def bQ5 (b1:List Int) (fuse:Int) (down:Bool) (b3 y:List Int):D×f4:=(.tup [],[some ⟨1,true,[[.ptr 2 0 0]]⟩,some ⟨1,false,[[.sl false 1 (List.map (d7 .u8) b1)]]⟩,some ⟨4,true,[[(f5 3 (List.map (d7 .u8) b3)),(f5 5 (List.map (d7 .u8) y)),.int .i64 fuse,.bool down]]⟩,some ⟨1,false,(List.map (d7 .u8) b3)⟩,none,some ⟨1,false,(List.map (d7 .u8) y)⟩])
noncomputable def X2 (b1:List Int) (fuse:Int) (down:Bool) (b3 b4:List Int):Option (List Int):=(bif (decide (((List.map (d7 .u8) b4).length+(List.map (d7 .u8) b1).length)*1≤i6)) then (some (b4++b1)) else none)
theorem aW5 {b1:List Int}{fuse:Int}{down:Bool}{b3 b4 r:List Int} (h:X2 b1 fuse down b3 b4=some r):i0 E 125 [.ptr 0 0 0,.ptr 1 0 0] [some ⟨1,true,[[.ptr 2 0 0]]⟩,some ⟨1,false,[[.sl false 1 (List.map (d7 .u8) b1)]]⟩,some ⟨4,true,[[(f5 3 (List.map (d7 .u8) b3)),(f5 4 (List.map (d7 .u8) b4)),.int .i64 fuse,.bool down]]⟩,some ⟨1,false,(List.map (d7 .u8) b3)⟩,some ⟨1,false,(List.map (d7 .u8) b4)⟩] (Rs (bQ5 b1 fuse down b3) r):=so (fn:=Tryz.f125) (k:=true) (m:=5) h<| by
 intro r h;unfold X2 at h
 refine zn 5 h fun h=> ?_
 refine za 0 (d7 .u8) b4 b1 ?_
 exact zu 3 h
end Go.RX.L

namespace Go.RX.L
open Go Go.RX Go.Proofs
attribute [local irreducible] f6
noncomputable def ac6:=p8 (q0 Tryz.f86)
noncomputable def ay4 (b2 b3:List Int) (y:Int×Int×Bool×(List Int)):D×f4:=(.int .i64 y.1,[some ⟨4,true,[[(f5 5 (List.map (d7 .u8) b3)),(f5 6 (List.map (d7 .u8) y.2.2.2)),.int .i64 y.2.1,.bool y.2.2.1]]⟩,some ⟨1,true,[[.ptr 0 0 0]]⟩,some ⟨1,false,[[.sl false 1 (List.map (d7 .u8) b2)]]⟩,none,none,some ⟨1,false,(List.map (d7 .u8) b3)⟩,some ⟨1,false,(List.map (d7 .u8) y.2.2.2)⟩])
abbrev ay0 (fuse:Int) (down:Bool) (b2 b3 b4:List Int):=AOk E (Cx.of Tryz.f86 true 5) (ay4 b2 b3)
noncomputable def bf6 (fuse:Int) (down:Bool) (b2 b3 b4:List Int) (fuse2:Int) (down2:Bool):M:=⟨[.code (ac6 [1,1])],[(0,.ptr 0 0 0),(1,.fn 125 [] [.ptr 1 0 0,.ptr 2 0 0])],[some ⟨4,true,[[(f5 3 (List.map (d7 .u8) b3)),(f5 4 (List.map (d7 .u8) b4)),.int .i64 fuse2,.bool down2]]⟩,some ⟨1,true,[[.ptr 0 0 0]]⟩,some ⟨1,false,[[.sl false 1 (List.map (d7 .u8) b2)]]⟩,some ⟨1,false,(List.map (d7 .u8) b3)⟩,some ⟨1,false,(List.map (d7 .u8) b4)⟩]⟩
noncomputable def C4 (fuse:Int) (down:Bool) (b2 b3 b4:List Int) (fuse2:Int) (down2:Bool):Option (Int×Int×Bool×(List Int)):=(bif down2 then (some (61,fuse2,down2,b4)) else (bif (decide ((fuse2:Int)>0)) then ((X2 b2 (IntKind.i64.wrap (fuse2-1)) down2 b3 b4).bind fun y3=>(some (0,(IntKind.i64.wrap (fuse2-1)),down2,y3))) else ((X2 b2 fuse2 down2 b3 b4).bind fun y4=>(some (0,fuse2,down2,y4)))))
theorem aq3 {fuse down b2 b3 b4 fuse2 down2}:ay0 fuse down b2 b3 b4 (bf6 fuse down b2 b3 b4 fuse2 down2) (C4 fuse down b2 b3 b4 fuse2 down2):=by
 intro r h;unfold C4 at h
 refine zs 10 h (fun h=> ?_) fun h=> ?_
 ·
  refine zf 4 [.mv 3,.mv 4] ?_
  exact zu 1 h
 refine zs 12 h (fun h=> ?_) fun h=> ?_
 ·
  refine zc 17 [] h (fun _=>aW5) fun y3 h=> ?_
  refine zf 5 [.mv 3] ?_
  exact zu 1 h
 refine zc 5 [] h (fun _=>aW5) fun y4 h=> ?_
 refine zf 5 [.mv 3] ?_
 exact zu 1 h
noncomputable def bd8 (fuse:Int) (down:Bool) (b2 b3 b4:List Int) (t16:Bool):M:=⟨[.code (ac6 [1,0,1]),.code (ac6 [1,1])],[(0,.ptr 0 0 0),(1,.fn 125 [] [.ptr 1 0 0,.ptr 2 0 0]),(16,.bool t16)],[some ⟨4,true,[[(f5 3 (List.map (d7 .u8) b3)),(f5 4 (List.map (d7 .u8) b4)),.int .i64 fuse,.bool down]]⟩,some ⟨1,true,[[.ptr 0 0 0]]⟩,some ⟨1,false,[[.sl false 1 (List.map (d7 .u8) b2)]]⟩,some ⟨1,false,(List.map (d7 .u8) b3)⟩,some ⟨1,false,(List.map (d7 .u8) b4)⟩]⟩
noncomputable def C5 (fuse:Int) (down:Bool) (b2 b3 b4:List Int) (t16:Bool):Option (Int×Int×Bool×(List Int)):=(bif t16 then (C4 fuse down b2 b3 b4 (-1) true) else (C4 fuse down b2 b3 b4 fuse down))
theorem aq2 {fuse down b2 b3 b4 t16}:ay0 fuse down b2 b3 b4 (bd8 fuse down b2 b3 b4 t16) (C5 fuse down b2 b3 b4 t16):=by
 intro r h;unfold C5 at h
 refine zs 1 h (fun h=> ?_) fun h=> ?_
 ·
  exact zg 14 (aq3 h)
 exact zg 1 (aq3 h)
noncomputable def U2 (fuse:Int) (down:Bool) (b2 b3 b4:List Int):Option (Int×Int×Bool×(List Int)):=(bif (!down) then (C5 fuse down b2 b3 b4 ((fuse:Int)==0)) else (C5 fuse down b2 b3 b4 false))
theorem bd3 {fuse:Int}{down:Bool}{b2 b3 b4:List Int}{r:Int×Int×Bool×(List Int)} (h:U2 fuse down b2 b3 b4=some r):i0 E 86 [.ptr 0 0 0,.fn 125 [] [.ptr 1 0 0,.ptr 2 0 0]] [some ⟨4,true,[[(f5 3 (List.map (d7 .u8) b3)),(f5 4 (List.map (d7 .u8) b4)),.int .i64 fuse,.bool down]]⟩,some ⟨1,true,[[.ptr 0 0 0]]⟩,some ⟨1,false,[[.sl false 1 (List.map (d7 .u8) b2)]]⟩,some ⟨1,false,(List.map (d7 .u8) b3)⟩,some ⟨1,false,(List.map (d7 .u8) b4)⟩] (Rs (ay4 b2 b3) r):=so (fn:=Tryz.f86) (k:=true) (m:=5) h<| by
 intro r h;unfold U2 at h
 refine zs 15 h (fun h=> ?_) fun h=> ?_
 ·
  exact zg 12 (aq2 h)
 exact zg 11 (aq2 h)
end Go.RX.L

namespace Go.RX.L
open Go Go.RX Go.Proofs
attribute [local irreducible] f6
noncomputable def cj5 (b1:List Int) (y:Int×Int×Bool×(List Int)):D×f4:=(.int .i64 y.1,[some ⟨4,true,[[(f5 3 (List.map (d7 .u8) b1)),(f5 4 (List.map (d7 .u8) y.2.2.2)),.int .i64 y.2.1,.bool y.2.2.1]]⟩,none,none,some ⟨1,false,(List.map (d7 .u8) b1)⟩,some ⟨1,false,(List.map (d7 .u8) y.2.2.2)⟩])
noncomputable def ar4 (kind:Int) (body:List Int) (fuse:Int) (down:Bool) (b1 b2:List Int):Option (Int×Int×Bool×(List Int)):=((bv7 kind body).bind fun y1=>(bif ((y1.2:Int) !=0) then (some (y1.2,fuse,down,b2)) else ((U2 fuse down y1.1 b1 b2).bind fun y3=>(some (y3.1,y3.2.1,y3.2.2.1,y3.2.2.2)))))
theorem ce1 {kind:Int}{body:List Int}{fuse:Int}{down:Bool}{b1 b2:List Int}{r:Int×Int×Bool×(List Int)} (h:ar4 kind body fuse down b1 b2=some r):i0 E 93 [.ptr 0 0 0,.int .u8 kind,.sl false 1 (List.map (d7 .u8) body)] [some ⟨4,true,[[(f5 1 (List.map (d7 .u8) b1)),(f5 2 (List.map (d7 .u8) b2)),.int .i64 fuse,.bool down]]⟩,some ⟨1,false,(List.map (d7 .u8) b1)⟩,some ⟨1,false,(List.map (d7 .u8) b2)⟩] (Rs (cj5 b1) r):=so (fn:=Tryz.f93) (k:=true) (m:=3) h<| by
 intro r h;unfold ar4 at h
 refine zc 10 [] h (fun _=>da4) fun y1 h=> ?_
 refine zs 16 h (fun h=> ?_) fun h=> ?_
 ·
  refine zf 5 [.mv 1,.mv 2] ?_
  exact zu 1 h
 refine zc 7 [] h (fun _=>bd3) fun y3 h=> ?_
 exact zu 3 h
end Go.RX.L

namespace Go.RX.L
open Go Go.RX Go.Proofs
attribute [local irreducible] f6
noncomputable def ci0 (fuse:Int) (down:Bool) (b3:List Int) (y:(List Int)×(List Int)):D×f4:=(.tup [],[some ⟨1,true,[[.ptr 1 0 0]]⟩,some ⟨4,true,[[(f5 4 (List.map (d7 .u8) y.1)),(f5 5 (List.map (d7 .u8) y.2)),.int .i64 fuse,.bool down]]⟩,none,some ⟨1,false,(List.map (d7 .u8) b3)⟩,some ⟨1,false,(List.map (d7 .u8) y.1)⟩,some ⟨1,false,(List.map (d7 .u8) y.2)⟩])
noncomputable def ah5 (fuse:Int) (down:Bool) (b2 b3:List Int):Option ((List Int)×(List Int)):=(bif (decide (((List.map (d7 .u8) b2).length+(List.take ((List.map (d7 .u8) b3).length) (List.drop 0 (List.map (d7 .u8) b3))).length)*1≤i6)) then (some ((b2++b3),[])) else none)
theorem bk3 {fuse:Int}{down:Bool}{b2 b3:List Int}{r:(List Int)×(List Int)} (h:ah5 fuse down b2 b3=some r):i0 E 126 [.ptr 0 0 0] [some ⟨1,true,[[.ptr 1 0 0]]⟩,some ⟨4,true,[[(f5 2 (List.map (d7 .u8) b2)),(f5 3 (List.map (d7 .u8) b3)),.int .i64 fuse,.bool down]]⟩,some ⟨1,false,(List.map (d7 .u8) b2)⟩,some ⟨1,false,(List.map (d7 .u8) b3)⟩] (Rs (ci0 fuse down b3) r):=so (fn:=Tryz.f126) (k:=true) (m:=4) h<| by
 intro r h;unfold ah5 at h
 refine zm 7 (b:=(Nat.beq ((List.take ((List.map (d7 .u8) b3).length) (List.drop 0 (List.map (d7 .u8) b3))).length) ((List.map (d7 .u8) b3).length))) (by simp) ?_
 refine zn 0 h fun h=> ?_
 refine zm 0 (b:=(Nat.ble (0+(List.map (d7 .u8) b2).length) ((List.map (d7 .u8) b2).length))) (v6 _) ?_
 refine zw 0 (a:=(List.take ((List.map (d7 .u8) b2).length) (List.drop 0 (List.map (d7 .u8) b2))++(List.take ((List.map (d7 .u8) b3).length) (List.drop 0 (List.map (d7 .u8) b3))))) (b:=(List.map (d7 .u8) (b2++b3))) (by simp only [z9,E5,List.map_append,List.map_take,List.map_drop]) ?_
 refine zf 4 [.matc 1 0 1 1] ?_
 exact zu 1 h
end Go.RX.L

namespace Go.RX.L
open Go Go.RX Go.Proofs
attribute [local irreducible] f6
noncomputable def ai9:=p8 (q0 Tryz.f86)
noncomputable def aE9 (y:Int×Int×Bool×(List Int)×(List Int)):D×f4:=(.int .i64 y.1,[some ⟨4,true,[[(f5 4 (List.map (d7 .u8) y.2.2.2.1)),(f5 5 (List.map (d7 .u8) y.2.2.2.2)),.int .i64 y.2.1,.bool y.2.2.1]]⟩,some ⟨1,true,[[.ptr 0 0 0]]⟩,none,none,some ⟨1,false,(List.map (d7 .u8) y.2.2.2.1)⟩,some ⟨1,false,(List.map (d7 .u8) y.2.2.2.2)⟩])
abbrev aG3 (fuse:Int) (down:Bool) (b2 b3:List Int):=AOk E (Cx.of Tryz.f86 true 4) aE9
noncomputable def bl7 (fuse:Int) (down:Bool) (b2 b3:List Int) (fuse2:Int) (down2:Bool):M:=⟨[.code (ai9 [1,1])],[(0,.ptr 0 0 0),(1,.fn 126 [] [.ptr 1 0 0])],[some ⟨4,true,[[(f5 2 (List.map (d7 .u8) b2)),(f5 3 (List.map (d7 .u8) b3)),.int .i64 fuse2,.bool down2]]⟩,some ⟨1,true,[[.ptr 0 0 0]]⟩,some ⟨1,false,(List.map (d7 .u8) b2)⟩,some ⟨1,false,(List.map (d7 .u8) b3)⟩]⟩
noncomputable def E1 (fuse:Int) (down:Bool) (b2 b3:List Int) (fuse2:Int) (down2:Bool):Option (Int×Int×Bool×(List Int)×(List Int)):=(bif down2 then (some (61,fuse2,down2,b2,b3)) else (bif (decide ((fuse2:Int)>0)) then ((ah5 (IntKind.i64.wrap (fuse2-1)) down2 b2 b3).bind fun y3=>(some (0,(IntKind.i64.wrap (fuse2-1)),down2,y3.1,y3.2))) else ((ah5 fuse2 down2 b2 b3).bind fun y4=>(some (0,fuse2,down2,y4.1,y4.2)))))
theorem av0 {fuse down b2 b3 fuse2 down2}:aG3 fuse down b2 b3 (bl7 fuse down b2 b3 fuse2 down2) (E1 fuse down b2 b3 fuse2 down2):=by
 intro r h;unfold E1 at h
 refine zs 10 h (fun h=> ?_) fun h=> ?_
 ·
  refine zf 4 [.mv 2,.mv 3] ?_
  exact zu 1 h
 refine zs 12 h (fun h=> ?_) fun h=> ?_
 ·
  refine zc 17 [] h (fun _=>bk3) fun y3 h=> ?_
  refine zf 5 [.mv 3] ?_
  exact zu 1 h
 refine zc 5 [] h (fun _=>bk3) fun y4 h=> ?_
 refine zf 5 [.mv 3] ?_
 exact zu 1 h
noncomputable def bn1 (fuse:Int) (down:Bool) (b2 b3:List Int) (t16:Bool):M:=⟨[.code (ai9 [1,0,1]),.code (ai9 [1,1])],[(0,.ptr 0 0 0),(1,.fn 126 [] [.ptr 1 0 0]),(16,.bool t16)],[some ⟨4,true,[[(f5 2 (List.map (d7 .u8) b2)),(f5 3 (List.map (d7 .u8) b3)),.int .i64 fuse,.bool down]]⟩,some ⟨1,true,[[.ptr 0 0 0]]⟩,some ⟨1,false,(List.map (d7 .u8) b2)⟩,some ⟨1,false,(List.map (d7 .u8) b3)⟩]⟩
noncomputable def E2 (fuse:Int) (down:Bool) (b2 b3:List Int) (t16:Bool):Option (Int×Int×Bool×(List Int)×(List Int)):=(bif t16 then (E1 fuse down b2 b3 (-1) true) else (E1 fuse down b2 b3 fuse down))
theorem au9 {fuse down b2 b3 t16}:aG3 fuse down b2 b3 (bn1 fuse down b2 b3 t16) (E2 fuse down b2 b3 t16):=by
 intro r h;unfold E2 at h
 refine zs 1 h (fun h=> ?_) fun h=> ?_
 ·
  exact zg 14 (av0 h)
 exact zg 1 (av0 h)
noncomputable def Z4 (fuse:Int) (down:Bool) (b2 b3:List Int):Option (Int×Int×Bool×(List Int)×(List Int)):=(bif (!down) then (E2 fuse down b2 b3 ((fuse:Int)==0)) else (E2 fuse down b2 b3 false))
theorem bo2 {fuse:Int}{down:Bool}{b2 b3:List Int}{r:Int×Int×Bool×(List Int)×(List Int)} (h:Z4 fuse down b2 b3=some r):i0 E 86 [.ptr 0 0 0,.fn 126 [] [.ptr 1 0 0]] [some ⟨4,true,[[(f5 2 (List.map (d7 .u8) b2)),(f5 3 (List.map (d7 .u8) b3)),.int .i64 fuse,.bool down]]⟩,some ⟨1,true,[[.ptr 0 0 0]]⟩,some ⟨1,false,(List.map (d7 .u8) b2)⟩,some ⟨1,false,(List.map (d7 .u8) b3)⟩] (Rs aE9 r):=so (fn:=Tryz.f86) (k:=true) (m:=4) h<| by
 intro r h;unfold Z4 at h
 refine zs 15 h (fun h=> ?_) fun h=> ?_
 ·
  exact zg 12 (au9 h)
 exact zg 11 (au9 h)
end Go.RX.L

namespace Go.RX.L
open Go Go.RX Go.Proofs
attribute [local irreducible] f6
noncomputable def cC0 (y:Int×Int×Bool×(List Int)×(List Int)):D×f4:=(.int .i64 y.1,[some ⟨4,true,[[(f5 3 (List.map (d7 .u8) y.2.2.2.1)),(f5 4 (List.map (d7 .u8) y.2.2.2.2)),.int .i64 y.2.1,.bool y.2.2.1]]⟩,none,none,some ⟨1,false,(List.map (d7 .u8) y.2.2.2.1)⟩,some ⟨1,false,(List.map (d7 .u8) y.2.2.2.2)⟩])
noncomputable def aE3 (fuse:Int) (down:Bool) (b1 b2:List Int):Option (Int×Int×Bool×(List Int)×(List Int)):=((Z4 fuse down b1 b2).bind fun y1=>(some (y1.1,y1.2.1,y1.2.2.1,y1.2.2.2.1,y1.2.2.2.2)))
theorem cq3 {fuse:Int}{down:Bool}{b1 b2:List Int}{r:Int×Int×Bool×(List Int)×(List Int)} (h:aE3 fuse down b1 b2=some r):i0 E 94 [.ptr 0 0 0] [some ⟨4,true,[[(f5 1 (List.map (d7 .u8) b1)),(f5 2 (List.map (d7 .u8) b2)),.int .i64 fuse,.bool down]]⟩,some ⟨1,false,(List.map (d7 .u8) b1)⟩,some ⟨1,false,(List.map (d7 .u8) b2)⟩] (Rs cC0 r):=so (fn:=Tryz.f94) (k:=true) (m:=3) h<| by
 intro r h;unfold aE3 at h
 refine zc 11 [] h (fun _=>bo2) fun y1 h=> ?_
 exact zu 3 h
end Go.RX.L

namespace Go.RX.L
open Go Go.RX Go.Proofs
attribute [local irreducible] f6
noncomputable def cs0 (b2:List Int) (y:Int×Bool×(List Int)×(List Int)):D×f4:=(.tup [],[some ⟨4,true,[[(f5 3 (List.map (d7 .u8) y.2.2.1)),(f5 4 (List.map (d7 .u8) y.2.2.2)),.int .i64 y.1,.bool y.2.1]]⟩,none,some ⟨1,false,(List.map (d7 .u8) b2)⟩,some ⟨1,false,(List.map (d7 .u8) y.2.2.1)⟩,some ⟨1,false,(List.map (d7 .u8) y.2.2.2)⟩])
noncomputable def ak6 (keep fuse:Int) (down:Bool) (b1 b2:List Int):Option (Int×Bool×(List Int)×(List Int)):=(bif ((decide (((0:Nat):Int)≤(A2 (u9 keep 0) (((List.map (d7 .u8) b2).length:Nat):Int))))&&(decide (((A2 (u9 keep 0) (((List.map (d7 .u8) b2).length:Nat):Int)):Int)≤(((List.map (d7 .u8) b2).length:Nat):Int)))) then (bif (Nat.beq ((List.take ((A2 (u9 keep 0) (((List.map (d7 .u8) b2).length:Nat):Int)).toNat) (List.drop 0 (List.map (d7 .u8) b2))).length) ((A2 (u9 keep 0) (((List.map (d7 .u8) b2).length:Nat):Int)).toNat)) then (bif (decide (((List.map (d7 .u8) b1).length+(List.take ((A2 (u9 keep 0) (((List.map (d7 .u8) b2).length:Nat):Int)).toNat) (List.drop 0 (List.map (d7 .u8) b2))).length)*1≤i6)) then (some ((-1),true,(b1++(List.take ((A2 (u9 keep 0) (((List.map (d7 .u8) b2).length:Nat):Int)).toNat) (List.drop 0 b2))),[])) else none) else none) else none)
theorem ch6 {keep fuse:Int}{down:Bool}{b1 b2:List Int}{r:Int×Bool×(List Int)×(List Int)} (h:ak6 keep fuse down b1 b2=some r):i0 E 30 [.ptr 0 0 0,.int .i64 keep] [some ⟨4,true,[[(f5 1 (List.map (d7 .u8) b1)),(f5 2 (List.map (d7 .u8) b2)),.int .i64 fuse,.bool down]]⟩,some ⟨1,false,(List.map (d7 .u8) b1)⟩,some ⟨1,false,(List.map (d7 .u8) b2)⟩] (Rs (cs0 b2) r):=so (fn:=Tryz.f30) (k:=true) (m:=3) h<| by
 intro r h;unfold ak6 at h
 refine zn 17 h fun h=> ?_
 refine zn 0 h fun h=> ?_
 refine zn 0 h fun h=> ?_
 refine zm 0 (b:=(Nat.ble (0+(List.map (d7 .u8) b1).length) ((List.map (d7 .u8) b1).length))) (v6 _) ?_
 refine zw 0 (a:=(List.take ((List.map (d7 .u8) b1).length) (List.drop 0 (List.map (d7 .u8) b1))++(List.take ((A2 (u9 keep 0) (((List.map (d7 .u8) b2).length:Nat):Int)).toNat) (List.drop 0 (List.map (d7 .u8) b2))))) (b:=(List.map (d7 .u8) (b1++(List.take ((A2 (u9 keep 0) (((List.map (d7 .u8) b2).length:Nat):Int)).toNat) (List.drop 0 b2))))) (by simp only [z9,E5,List.map_append,List.map_take,List.map_drop]) ?_
 refine zf 22 [.matc 0 0 1 1] ?_
 exact zu 1 h
end Go.RX.L

namespace Go.RX.L
open Go Go.RX Go.Proofs
attribute [local irreducible] f6
noncomputable def cD2 (down:Bool) (b1 b2:List Int) (y:Int):D×f4:=(.tup [],[some ⟨4,true,[[(f5 1 (List.map (d7 .u8) b1)),(f5 2 (List.map (d7 .u8) b2)),.int .i64 y,.bool down]]⟩,some ⟨1,false,(List.map (d7 .u8) b1)⟩,some ⟨1,false,(List.map (d7 .u8) b2)⟩])
noncomputable def aU7 (n fuse:Int) (down:Bool) (b1 b2:List Int):Option Int:=(some (u9 n (-1)))
theorem co7 {n fuse:Int}{down:Bool}{b1 b2:List Int}{r:Int} (h:aU7 n fuse down b1 b2=some r):i0 E 29 [.ptr 0 0 0,.int .i64 n] [some ⟨4,true,[[(f5 1 (List.map (d7 .u8) b1)),(f5 2 (List.map (d7 .u8) b2)),.int .i64 fuse,.bool down]]⟩,some ⟨1,false,(List.map (d7 .u8) b1)⟩,some ⟨1,false,(List.map (d7 .u8) b2)⟩] (Rs (cD2 down b1 b2) r):=so (fn:=Tryz.f29) (k:=false) (m:=3) h<| by
 intro r h;unfold aU7 at h
 exact zu 11 h
end Go.RX.L

namespace Go.RX.L
open Go Go.RX
def eff (fuse:Int) (down:Bool):Option Int:=if down=true∨fuse=0 then none else some (if 0<fuse then fuse-1 else fuse)
def fd (fuse:Int) (down:Bool):Int:=bif down then fuse else-1
def W7 (f:Int):Prop:= -1≤f∧f≤9223372036854775807
theorem dY5 {f g:Int}{d:Bool} (h:eff f d=some g):d=false∧f≠0∧g=if 0<f then f-1 else f:=by
 unfold eff at h
 split at h
 ·cases h
 ·rename_i hn
  simp only [not_or,Bool.not_eq_true] at hn
  exact ⟨hn.1,hn.2,(Option.some.inj h).symm⟩
theorem ck4 {f g:Int}{d:Bool} (hf:W7 f) (h:eff f d=some g):W7 g:=by
 obtain ⟨-,h1,rfl⟩:=dY5 h
 unfold W7 at*
 split<;>omega
theorem cy2 {f:Int}{d:Bool} (hf:W7 f):W7 (fd f d):=by
 cases d<;>simp [fd,W7] at* <;>omega
theorem dD2 {n:Nat} (h:n≤20000000):decide (n*1≤i6)=true:=C7 (by omega)
theorem dP6 {k:Int}{body:List Int} (hk:0≤k∧k≤255) (hb:s9 body) (hl:body.length≤8192) {fuse:Int} (hf:W7 fuse) {down:Bool}{s t:List Int} (ht:t.length≤10000000):
  ar4 k body fuse down s t=some (match eff fuse down with | some f=>(0,f,false,t++H0 k body) | none=>(61,fd fuse down,true,t)):=by
 have hp:bv7 k body=some (H0 k body,0):=by rw [dd7 hk hb (by simp only [G1];omega),dC0,if_pos hl]
 have hlen:=aQ0 k body
 have app:∀f d,X2 (H0 k body) f d s t=some (t++H0 k body):=fun f d=>by
  simp only [X2,List.length_map,dD2 (show t.length+(H0 k body).length≤20000000 by omega),cond_true]
 unfold W7 at hf
 simp only [ar4,hp,Option.bind_some,bne_self_eq_false,cond_false,U2]
 cases down with
 | true=>simp only [Bool.not_true,cond_false,C5,C4,cond_true,Option.bind_some,eff,fd,true_or,if_true]
 | false=>
  simp only [Bool.not_false,cond_true]
  by_cases h0:fuse=0
  ·subst h0
   simp only [beq_self_eq_true,C5,cond_true,C4,Option.bind_some,eff,fd,or_true,if_true,cond_false]
  ·have e0:((fuse:Int)==0)=false:=by simpa using h0
   simp only [e0,C5,cond_false,C4,app,Option.bind_some,eff,fd,h0,Bool.false_eq_true,or_self,if_false]
   by_cases hp:0<fuse
   ·have:decide (fuse>0)=true:=decide_eq_true hp
    rw [u7 (n:=fuse-1) (by omega) (by omega)]
    simp only [this,cond_true,Option.bind_some,if_pos hp]
   ·have:decide (fuse>0)=false:=decide_eq_false (by omega)
    simp only [this,cond_false,Option.bind_some,if_neg hp]
theorem ea8 {fuse:Int} (hf:W7 fuse) {down:Bool}{s t:List Int} (ht:s.length+t.length≤20000000):
  aE3 fuse down s t=some (match eff fuse down with | some f=>(0,f,false,s++t,[]) | none=>(61,fd fuse down,true,s,t)):=by
 have app:∀f d,ah5 f d s t=some (s++t,[]):=fun f d=>by
  have e:(List.take t.length (List.drop 0 (List.map (d7 .u8) t))).length=t.length:=by simp
  simp only [ah5,List.length_map]
  rw [e,dD2 ht];rfl
 unfold W7 at hf
 simp only [aE3,Z4]
 cases down with
 | true=>simp only [Bool.not_true,cond_false,E2,E1,cond_true,Option.bind_some,eff,fd,true_or,if_true]
 | false=>
  simp only [Bool.not_false,cond_true]
  by_cases h0:fuse=0
  ·subst h0
   simp only [beq_self_eq_true,E2,cond_true,E1,Option.bind_some,eff,fd,or_true,if_true,cond_false]
  ·have e0:((fuse:Int)==0)=false:=by simpa using h0
   simp only [e0,E2,cond_false,E1,app,Option.bind_some,eff,fd,h0,Bool.false_eq_true,or_self,if_false]
   by_cases hp:0<fuse
   ·have:decide (fuse>0)=true:=decide_eq_true hp
    rw [u7 (n:=fuse-1) (by omega) (by omega)]
    simp only [this,cond_true,Option.bind_some,if_pos hp]
   ·have:decide (fuse>0)=false:=decide_eq_false (by omega)
    simp only [this,cond_false,Option.bind_some,if_neg hp]
def bb6 (keep:Int) (t:List Int):List Int:=t.take (min (max keep 0) (t.length:Int)).toNat
theorem dW3 {keep fuse:Int}{down:Bool}{s t:List Int} (ht:s.length+t.length≤20000000):ak6 keep fuse down s t=some (-1,true,s++bb6 keep t,[]):=by
 have e:A2 (u9 keep 0) ((t.length:Nat):Int)=((min (max keep 0) (t.length:Int)).toNat:Int):=by
  unfold A2 u9
  split<;>split<;>omega
 generalize hk:(min (max keep 0) (t.length:Int)).toNat=n at e
 have hn:n≤t.length:=by omega
 have c1:(decide (((0:Nat):Int)≤(n:Int))&&decide ((n:Int)≤((t.length:Nat):Int)))=true:=by simp;omega
 have c2:(List.take n (List.drop 0 (List.map (d7 .u8) t))).length=n:=by simp;omega
 simp only [ak6,List.length_map,e,c1,cond_true,Int.toNat_natCast]
 rw [c2]
 simp only [show Nat.beq n n=true from Nat.beq_refl n,dD2 (show s.length+n≤20000000 by omega),List.drop_zero,bb6,hk,cond_true]
theorem ea4 {l:List Fr1}{J:List Int}{e:Int} (hl:∀x∈l,bQ6 x) (hJ:pF J= .inl e) (hJb:s9 J) (hm:(K4 l++J).length≤10000000) {fuse:Int} (hf:W7 fuse) {down:Bool}{t:List Int}:
  Z9 fuse down (K4 l++J) t=some (if J= [] then (l.map (·.1),l.map (·.2),(0:Int),fuse,false,K4 l,([]:List Int)) else (match eff fuse false with | some f=>(l.map (·.1),l.map (·.2),0,f,false,K4 l,[]) | none=>([],[],61,fd fuse false,true,K4 l++J,[]))):=by
 have ha:=ee7 hl hJ hJb hm
 have cut:∀f d (u:List Int),ah0 ((K4 l).length:Int) f d (K4 l++J) u=some (K4 l):=fun f d u=>by
  have c1:(decide (((0:Nat):Int)≤((K4 l).length:Int))&&decide (((K4 l).length:Int)≤(((K4 l++J).length:Nat):Int)))=true:=by simp;omega
  have:=dL8 (b:=K4 l++J) (ln:=(K4 l).length) (cp:=(K4 l++J).length) (by simp) (by simp only [G1];omega)
  simp only [ah0,List.length_map,c1,cond_true,Int.toNat_natCast,this,Option.bind_some,List.take_left]
 simp only [Z9,ha,Option.bind_some,List.length_map]
 by_cases hJ0:J= []
 ·subst hJ0
  simp only [List.append_nil,Int.lt_irrefl,decide_false,cond_false,if_true]
 ·have hpos:0<J.length:=List.length_pos_iff.2 hJ0
  have:decide (((K4 l).length:Int)<(((K4 l++J).length:Nat):Int))=true:=by simp;omega
  unfold W7 at hf
  simp only [this,cond_true,if_neg hJ0,Y7,Bool.not_false]
  by_cases h0:fuse=0
  ·subst h0
   simp [H6,H7,eff,fd]
  ·have e0:((fuse:Int)==0)=false:=by simpa using h0
   simp only [e0,H6,cond_false,H7,cut,Option.bind_some,eff,fd,h0,Bool.false_eq_true,or_self,if_false]
   by_cases hp:0<fuse
   ·have:decide (fuse>0)=true:=decide_eq_true hp
    rw [u7 (n:=fuse-1) (by omega) (by omega)]
    simp only [this,cond_true,Option.bind_some,if_pos hp,bne_self_eq_false,cond_false]
   ·have:decide (fuse>0)=false:=decide_eq_false (by omega)
    simp only [this,cond_false,Option.bind_some,if_neg hp,bne_self_eq_false]
/-! ### records -/
def bx4 (m:e9):Prop:=af7 m∧B3 m=true
def bi1 (m:e9):Fr1:=(m.Kind,ai4 m)
theorem bx4.fr {m:e9} (h:bx4 m):bQ6 (bi1 m):=by
 refine ⟨di1 h.2,fun c hc=> ?_,by have:=cm5 h.1 h.2;simp only [bi1];omega⟩
 have:=df8 h.1 h.2
 have hc' :c∈ai4 m:=hc
 exact this c (by simp only [H0,U3];simp [hc'])
def Z5 (rs:List e9):List Int:=K4 (rs.map bi1)
theorem di6 (a b:List e9):Z5 (a++b)=Z5 a++Z5 b:=by simp [Z5,dO6]
theorem cE3 (m:e9):Z5 [m]=H0 m.Kind (ai4 m):=by simp [Z5,K4,bi1]
theorem dJ3 {rs:List e9} (h:∀m∈rs,bx4 m):∀x∈rs.map bi1,bQ6 x:=fun x hx=>by
 obtain ⟨m,hm,rfl⟩:=List.mem_map.1 hx
 exact (h m hm).fr
theorem dv2 {rs:List e9} (h:∀m∈rs,bx4 m):s9 (Z5 rs):=cJ7 (dJ3 h)
/-- A disk: its records; what is cut; what is not synced. -/
structure br9 (rs : List e9) (J : List Int) (s : List Int) : Prop where
  ok : ∀ m ∈ rs, bx4 m
  eq : s = Z5 rs ++ J
  cut : ∃ e, pF J = .inl e
  jb : s9 J
theorem br9.nil:br9 [] [] []:=⟨fun m h=>by simp at h,rfl,⟨_,rfl⟩,fun c hc=>by simp at hc⟩
theorem br9.crash {rs:List e9}{s:List Int} (h:br9 rs [] s) {m:e9} (hm:bx4 m) (keep:Int):(br9 (rs++ [m]) [] (s++bb6 keep (Z5 [m])))∨(∃J,br9 rs J (s++bb6 keep (Z5 [m]))):=by
 have hl:(Z5 [m]).length=(ai4 m).length+8:=by rw [cE3,aQ0]
 obtain ⟨h1,h2,h3⟩:=hm.fr
 unfold bb6
 generalize hn:(min (max keep 0) ((Z5 [m]).length:Int)).toNat=n
 by_cases hf:n=(Z5 [m]).length
 ·left
  refine ⟨fun x hx=> ?_,?_,⟨_,rfl⟩,fun c hc=>by simp at hc⟩
  ·rcases List.mem_append.1 hx with hx | hx
   ·exact h.ok x hx
   ·rw [List.mem_singleton.1 hx];exact hm
  ·rw [hf,List.take_length,h.eq,di6];simp
 ·right
  refine ⟨(Z5 [m]).take n,h.ok,by rw [h.eq];simp,?_,fun c hc=>dv2 (rs:= [m]) (fun x hx=>by rw [List.mem_singleton.1 hx];exact hm) c (List.mem_of_mem_take hc)⟩
  have:=dU1 h1 h2 h3 (j:=n) (by simp only [bi1];omega)
  rw [cE3]
  simpa only [bi1] using this
theorem br9.crash0 {rs:List e9}{J s:List Int} (h:br9 rs J s) (keep:Int):br9 rs J (s++bb6 keep []):=by
 simpa [bb6] using h
end Go.RX.L

namespace Go.RX.L
open Go Go.RX Go.Proofs
attribute [local irreducible] f6
noncomputable def al0:=p8 (q0 Tryz.f55)
noncomputable def bM8 (y:Int×Int×Int×Bool×(List Int)×(List Int)):D×f4:=(.tup [.int .i64 y.1,.int .i64 y.2.1],[some ⟨4,true,[[(f5 3 (List.map (d7 .u8) y.2.2.2.2.1)),(f5 4 (List.map (d7 .u8) y.2.2.2.2.2)),.int .i64 y.2.2.1,.bool y.2.2.2.1]]⟩,none,none,some ⟨1,false,(List.map (d7 .u8) y.2.2.2.2.1)⟩,some ⟨1,false,(List.map (d7 .u8) y.2.2.2.2.2)⟩])
inductive al1 where
 | s0 (fuse:Int) (down:Bool) (b1 b2:List Int)
 | s1 (bodies:List (List Int)) (last:Int) (t24:List Int) (t25 t26 fuse2:Int) (down2:Bool) (b3 b4:List Int)
 | s2 (bodies:List (List Int)) (last:Int) (t24:List Int) (t25 t26:Int) (t46:Bool) (fuse2:Int) (down2:Bool) (m:e9) (b4 b5:List Int)
noncomputable def bN9:al1→M
 | .s0 fuse down b1 b2=>A5 Tryz.f55 [.ptr 0 0 0] [some ⟨4,true,[[(f5 1 (List.map (d7 .u8) b1)),(f5 2 (List.map (d7 .u8) b2)),.int .i64 fuse,.bool down]]⟩,some ⟨1,false,(List.map (d7 .u8) b1)⟩,some ⟨1,false,(List.map (d7 .u8) b2)⟩]
 | .s1 bodies last t24 t25 t26 fuse2 down2 b3 b4=>⟨[.lpc (al0 [1,1,1,1,0,1,0,0]) 117440673,.blk 0,.code (al0 [1,1,1,1,1])],[(0,.ptr 0 0 0),(5,.sl false 1 (List.map (E3 1 (d7 .u8)) bodies)),(7,.int .i64 last),(24,.sl false 1 (List.map (d7 .u8) t24)),(25,.int .i64 t25),(26,.int .i64 t26)],[some ⟨4,true,[[(f5 3 (List.map (d7 .u8) b3)),(f5 4 (List.map (d7 .u8) b4)),.int .i64 fuse2,.bool down2]]⟩,none,none,some ⟨1,false,(List.map (d7 .u8) b3)⟩,some ⟨1,false,(List.map (d7 .u8) b4)⟩]⟩
 | .s2 bodies last t24 t25 t26 t46 fuse2 down2 m b4 b5=>⟨[.code (al0 [1,1,1,1,0,1,0,0,1,1,0,0,1,1,1]),.blk 1,.code (al0 [1,1,1,1,0,1,0,0,1,1,1]),.lp (al0 [1,1,1,1,0,1,0,0]) 117440673,.blk 0,.code (al0 [1,1,1,1,1])],[(0,.ptr 0 0 0),(5,.sl false 1 (List.map (E3 1 (d7 .u8)) bodies)),(7,.int .i64 last),(10,.ptr 3 0 0),(24,.sl false 1 (List.map (d7 .u8) t24)),(25,.int .i64 t25),(26,.int .i64 t26),(46,.bool t46)],[some ⟨4,true,[[(f5 4 (List.map (d7 .u8) b4)),(f5 5 (List.map (d7 .u8) b5)),.int .i64 fuse2,.bool down2]]⟩,none,none,some ⟨26,false,[(e9.enc m)]⟩,some ⟨1,false,(List.map (d7 .u8) b4)⟩,some ⟨1,false,(List.map (d7 .u8) b5)⟩]⟩
abbrev bg8:=SOk E (Cx.of Tryz.f55 true 3) bM8 bN9
noncomputable def ax5 (fuse:Int) (down:Bool) (b1 b2:List Int):Option (al1⊕(Int×Int×Int×Bool×(List Int)×(List Int))):=((Z9 fuse down b1 b2).bind fun y1=>(bif ((y1.2.2.1:Int) !=0) then (some (.inr (0,y1.2.2.1,y1.2.2.2.1,y1.2.2.2.2.1,y1.2.2.2.2.2.1,y1.2.2.2.2.2.2))) else (some (.inl (.s1 y1.2.1 0 y1.1 (((List.map (d7 .u8) y1.1).length:Nat):Int) 0 y1.2.2.2.1 y1.2.2.2.2.1 y1.2.2.2.2.2.1 y1.2.2.2.2.2.2)))))
noncomputable def V1 (bodies:List (List Int)) (last:Int) (t24:List Int) (t25 t26 fuse2:Int) (down2:Bool) (b3 b4:List Int):Option (al1⊕(Int×Int×Int×Bool×(List Int)×(List Int))):=(bif (decide ((t26:Int)<t25)) then (bif ((decide ((0:Int)≤t26))&&(decide ((t26:Int)<(((List.map (d7 .u8) t24).length:Nat):Int)))) then (((t24)[t26.toNat]?).bind fun y3=>(bif ((decide ((0:Int)≤t26))&&(decide ((t26:Int)<(((List.map (E3 1 (d7 .u8)) bodies).length:Nat):Int)))) then (((bodies)[t26.toNat]?).bind fun y6=>((bf9 y3 y6).bind fun y8=>(bif ((y8.2:Int)==0) then (some (.inl (.s2 bodies last t24 t25 t26 ((y8.1.Kind:Int)==17) fuse2 down2 y8.1 b3 b4))) else (some (.inl (.s2 bodies last t24 t25 t26 false fuse2 down2 y8.1 b3 b4)))))) else none)) else none) else (bif (decide ((last:Int)≥1099511627776)) then (some (.inr (0,2,fuse2,down2,b3,b4))) else ((bG9 (⟨17,0,0,0,0,0,(IntKind.i64.wrap (last+1)),0,0,0,false,(⟨0,0,0,0,0,0,0,0,0,0,[],[]⟩:Plan),[],[],[]⟩:e9)).bind fun y11=>((ar4 y11.1 y11.2.1 fuse2 down2 b3 b4).bind fun y12=>(bif ((y12.1:Int) !=0) then (some (.inr (0,y12.1,y12.2.1,y12.2.2.1,b3,y12.2.2.2))) else ((aE3 y12.2.1 y12.2.2.1 b3 y12.2.2.2).bind fun y14=>(bif ((y14.1:Int) !=0) then (some (.inr (0,y14.1,y14.2.1,y14.2.2.1,y14.2.2.2.1,y14.2.2.2.2))) else (some (.inr ((IntKind.i64.wrap (last+1)),0,y14.2.1,y14.2.2.1,y14.2.2.2.1,y14.2.2.2.2))))))))))
noncomputable def aO4 (bodies:List (List Int)) (last:Int) (t24:List Int) (t25 t26:Int) (t46:Bool) (fuse2:Int) (down2:Bool) (m:e9) (b4 b5:List Int):Option (al1⊕(Int×Int×Int×Bool×(List Int)×(List Int))):=(bif t46 then (some (.inl (.s1 bodies (u9 last m.Nonce) t24 t25 (IntKind.i64.wrap (t26+1)) fuse2 down2 b4 b5))) else (some (.inl (.s1 bodies last t24 t25 (IntKind.i64.wrap (t26+1)) fuse2 down2 b4 b5))))
noncomputable def M7:al1→Option (al1⊕(Int×Int×Int×Bool×(List Int)×(List Int)))
 | .s0 fuse down b1 b2=>ax5 fuse down b1 b2
 | .s1 bodies last t24 t25 t26 fuse2 down2 b3 b4=>V1 bodies last t24 t25 t26 fuse2 down2 b3 b4
 | .s2 bodies last t24 t25 t26 t46 fuse2 down2 m b4 b5=>aO4 bodies last t24 t25 t26 t46 fuse2 down2 m b4 b5
theorem cl3 {fuse down b1 b2}:bg8 (.s0 fuse down b1 b2) (ax5 fuse down b1 b2):=by
 intro r x h ha;unfold ax5 at h
 refine zc 9 [] h (fun _=>by7) fun y1 h=> ?_
 refine zs 15 h (fun h=> ?_) fun h=> ?_
 ·
  exact zt 7 h ha
 exact zj 15 h ha
theorem ci8 {bodies last t24 t25 t26 fuse2 down2 b3 b4}:bg8 (.s1 bodies last t24 t25 t26 fuse2 down2 b3 b4) (V1 bodies last t24 t25 t26 fuse2 down2 b3 b4):=by
 intro r x h ha;unfold V1 at h
 refine zs 7 h (fun h=> ?_) fun h=> ?_
 ·
  refine zn 7 h fun h=> ?_
  refine zr 1 (d7 .u8) h fun y3 h=> ?_
  refine zn 9 h fun h=> ?_
  refine zr 1 (E3 1 (d7 .u8)) h fun y6 h=> ?_
  refine zc 1 [] h (fun _=>cH1) fun y8 h=> ?_
  refine zs 15 h (fun h=> ?_) fun h=> ?_
  ·
   exact zk 8 h ha
  exact zk 7 h ha
 refine zs 8 h (fun h=> ?_) fun h=> ?_
 ·
  exact zt 6 h ha
 refine zc 7 [some 1,some 1,some 1,some 1,some 1] h (fun _=>df7) fun y11 h=> ?_
 refine zc 15 [] h (fun _=>ce1) fun y12 h=> ?_
 refine zs 8 h (fun h=> ?_) fun h=> ?_
 ·
  exact zt 7 h ha
 refine zc 6 [] h (fun _=>cq3) fun y14 h=> ?_
 refine zs 8 h (fun h=> ?_) fun h=> ?_
 ·
  exact zt 7 h ha
 exact zt 9 h ha
theorem ci3 {bodies last t24 t25 t26 t46 fuse2 down2 m b4 b5}:bg8 (.s2 bodies last t24 t25 t26 t46 fuse2 down2 m b4 b5) (aO4 bodies last t24 t25 t26 t46 fuse2 down2 m b4 b5):=by
 intro r x h ha;unfold aO4 at h
 refine zs 1 h (fun h=> ?_) fun h=> ?_
 ·
  exact zj 14 h ha
 exact zj 7 h ha
noncomputable def bb5 (fuse:Int) (down:Bool) (b1 b2:List Int):Option (Int×Int×Int×Bool×(List Int)×(List Int)):=V6 M7 (.s0 fuse down b1 b2)
theorem cB3 {fuse:Int}{down:Bool}{b1 b2:List Int}{r:Int×Int×Int×Bool×(List Int)×(List Int)} (h:bb5 fuse down b1 b2=some r):i0 E 55 [.ptr 0 0 0] [some ⟨4,true,[[(f5 1 (List.map (d7 .u8) b1)),(f5 2 (List.map (d7 .u8) b2)),.int .i64 fuse,.bool down]]⟩,some ⟨1,false,(List.map (d7 .u8) b1)⟩,some ⟨1,false,(List.map (d7 .u8) b2)⟩] (Rs bM8 r):=sc (fn:=Tryz.f55) (k:=true) (m:=3) (stM:=bN9) h fun s=>by
 cases s with
 | s0=>exact cl3
 | s1=>exact ci8
 | s2=>exact ci3
end Go.RX.L
