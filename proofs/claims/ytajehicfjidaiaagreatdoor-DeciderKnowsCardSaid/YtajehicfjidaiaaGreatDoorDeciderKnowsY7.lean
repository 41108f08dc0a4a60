/-
  Words and walks for DeciderKnows. No condition.
-/
import Derived.Test.YtajehicfjidaiaaGreatDoorDeciderKnowsY6
set_option linter.unusedSectionVars false
set_option linter.unnecessarySimpa false
set_option linter.unusedSimpArgs false
set_option linter.unusedVariables false
set_option maxRecDepth 100000
set_option maxHeartbeats 4000000
namespace Go.RX.L
open Go Go.RX Go.Proofs
attribute [local irreducible] f5
noncomputable def cd1:=n8 (p6 Tryz.f124)
noncomputable def cf2 (y:(List Int)×Int):D×f3:=(.tup [.sl false 1 (List.map (d7 .u8) y.1),.int .i64 y.2],[])
inductive aJ1 where
 | s0 (kind:Int) (body:List Int)
 | s1 (sum shift:Int) (b:List Int)
noncomputable def ce7:aJ1→M
 | .s0 kind body=>A2 Tryz.f124 [.int .u8 kind,.sl false 1 (List.map (d7 .u8) body)] []
 | .s1 sum shift b=>⟨[.lpc (cd1 [1,1,1,1,1,0,1,0,0]) 896,.blk 0,.code (cd1 [1,1,1,1,1,1])],[(7,(f6 0 (List.map (d7 .u8) b))),(8,.int .u32 sum),(9,.int .i64 shift)],[some ⟨1,false,(List.map (d7 .u8) b)⟩]⟩
abbrev ce9:=SOk E (Cx.of Tryz.f124 false 0) cf2 ce7
noncomputable def aI7 (kind:Int) (body:List Int):Option (aJ1⊕((List Int)×Int)):=(bif (decide (((((List.map (d7 .u8) body).length:Nat):Int):Int)>8192)) then (some (.inr ([],2))) else (bif (decide ((4+(List.map (d7 .u8) body).length)*1≤i7)) then (bif (decide ((1:Int)≤(((List.map (d7 .u8) ([247,kind,(IntKind.u8.wrap ((m7 .i64 (((List.map (d7 .u8) body).length:Nat):Int) 8))),(IntKind.u8.wrap ((((List.map (d7 .u8) body).length:Nat):Int)))]++body)).length:Nat):Int))) then (bif (Nat.ble (1+((List.map (d7 .u8) ([247,kind,(IntKind.u8.wrap ((m7 .i64 (((List.map (d7 .u8) body).length:Nat):Int) 8))),(IntKind.u8.wrap ((((List.map (d7 .u8) body).length:Nat):Int)))]++body)).length-1)) ((List.map (d7 .u8) ([247,kind,(IntKind.u8.wrap ((m7 .i64 (((List.map (d7 .u8) body).length:Nat):Int) 8))),(IntKind.u8.wrap ((((List.map (d7 .u8) body).length:Nat):Int)))]++body)).length)) then ((bm9 (List.take ((List.map (d7 .u8) ([247,kind,(IntKind.u8.wrap ((m7 .i64 (((List.map (d7 .u8) body).length:Nat):Int) 8))),(IntKind.u8.wrap ((((List.map (d7 .u8) body).length:Nat):Int)))]++body)).length-1) (List.drop 1 ([247,kind,(IntKind.u8.wrap ((m7 .i64 (((List.map (d7 .u8) body).length:Nat):Int) 8))),(IntKind.u8.wrap ((((List.map (d7 .u8) body).length:Nat):Int)))]++body)))).bind fun y5=>(some (.inl (.s1 y5 24 ([247,kind,(IntKind.u8.wrap ((m7 .i64 (((List.map (d7 .u8) body).length:Nat):Int) 8))),(IntKind.u8.wrap ((((List.map (d7 .u8) body).length:Nat):Int)))]++body))))) else none) else none) else none))
noncomputable def an8 (sum shift:Int) (b:List Int):Option (aJ1⊕((List Int)×Int)):=(bif (decide ((shift:Int)≥0)) then (bif (!decide ((shift:Int)<0)) then (bif (decide (((List.map (d7 .u8) b).length+1)*1≤i7)) then (some (.inl (.s1 sum (IntKind.i64.wrap (shift-8)) (b++ [(IntKind.u8.wrap ((m7 .u32 sum shift)))])))) else none) else none) else (some (.inr (b,0))))
noncomputable def R9:aJ1→Option (aJ1⊕((List Int)×Int))
 | .s0 kind body=>aI7 kind body
 | .s1 sum shift b=>an8 sum shift b
theorem cz7 {kind body}:ce9 (.s0 kind body) (aI7 kind body):=by
 intro r x h ha;unfold aI7 at h
 refine zs 18 h (fun h=> ?_) fun h=> ?_
 ·
  exact zt 6 h ha [.slot 0 [some 1]]
 refine zn 13 h fun h=> ?_
 refine zw 1 (a:=((List.map (d7 .u8) ([247,kind,(IntKind.u8.wrap ((m7 .i64 (((List.map (d7 .u8) body).length:Nat):Int) 8))),(IntKind.u8.wrap ((((List.map (d7 .u8) body).length:Nat):Int)))]))++(List.map (d7 .u8) body))) (b:=(List.map (d7 .u8) ([247,kind,(IntKind.u8.wrap ((m7 .i64 (((List.map (d7 .u8) body).length:Nat):Int) 8))),(IntKind.u8.wrap ((((List.map (d7 .u8) body).length:Nat):Int)))]++body))) (by simp only [z7,E3,List.map_append,List.map_take,List.map_drop]) ?_
 refine zn 6 h fun h=> ?_
 refine zn 1 h fun h=> ?_
 refine zcE 0 [] (args1:= [.sl false 1 (List.take ((List.map (d7 .u8) ([247,kind,(IntKind.u8.wrap ((m7 .i64 (((List.map (d7 .u8) body).length:Nat):Int) 8))),(IntKind.u8.wrap ((((List.map (d7 .u8) body).length:Nat):Int)))]++body)).length-1) (List.drop 1 (List.map (d7 .u8) ([247,kind,(IntKind.u8.wrap ((m7 .i64 (((List.map (d7 .u8) body).length:Nat):Int) 8))),(IntKind.u8.wrap ((((List.map (d7 .u8) body).length:Nat):Int)))]++body))))]) h (fun _=>cq8) ⟨by simp [d8.enc,d8.l,i5.enc,i5.l,n5.enc,n5.l,q0.enc,q0.l,e9.enc,e9.l,Op.enc,Op.l,Plan.enc,Plan.l,C6.enc,C6.l,i6.enc,i6.l,n7.enc,n7.l,l8.enc,l8.l,d9.enc,d9.l,List.take_of_length_le,List.map_take,List.map_drop],rfl⟩ fun y5 h=> ?_
 exact zj 10 h ha
theorem cv7 {sum shift b}:ce9 (.s1 sum shift b) (an8 sum shift b):=by
 intro r x h ha;unfold an8 at h
 refine zs 8 h (fun h=> ?_) fun h=> ?_
 ·
  refine zn 8 h fun h=> ?_
  refine zn 4 h fun h=> ?_
  refine za 0 (d7 .u8) b ([(IntKind.u8.wrap ((m7 .u32 sum shift)))]) ?_
  exact zj 9 h ha
 refine zm 8 (b:=(Nat.ble (0+(List.map (d7 .u8) b).length) ((List.map (d7 .u8) b).length))) (u7 _) ?_
 obtain rfl:=Option.some.inj h
 have hv:=ha
 simp only [aP6] at hv
 subst hv
 exact ar9 [] (d1:= .tup [.sl false 1 (List.take ((List.map (d7 .u8) b).length) (List.drop 0 (List.map (d7 .u8) b))),.int .i64 0]) (d:= .tup [.sl false 1 (List.map (d7 .u8) b),.int .i64 0]) (s1:= []) (s:= []) (by kernel_rfl) ⟨by simp [d8.enc,d8.l,i5.enc,i5.l,n5.enc,n5.l,q0.enc,q0.l,e9.enc,e9.l,Op.enc,Op.l,Plan.enc,Plan.l,C6.enc,C6.l,i6.enc,i6.l,n7.enc,n7.l,l8.enc,l8.l,d9.enc,d9.l,List.take_of_length_le,List.map_take,List.map_drop],rfl⟩ ⟨rfl,rfl⟩ Cx.fin_of
noncomputable def bv3 (kind:Int) (body:List Int):Option ((List Int)×Int):=U9 R9 (.s0 kind body)
theorem cT7 {kind:Int}{body:List Int}{r:(List Int)×Int} (h:bv3 kind body=some r):i0 E 124 [.int .u8 kind,.sl false 1 (List.map (d7 .u8) body)] [] (Rs cf2 r):=sc (fn:=Tryz.f124) (k:=false) (m:=0) (stM:=ce7) h fun s=>by
 cases s with
 | s0=>exact cz7
 | s1=>exact cv7
end Go.RX.L

namespace Go.RX.L
open Go Go.RX Go.Proofs
attribute [local irreducible] f5
noncomputable def cu9 (b0 y:List Int):D×f3:=((f6 1 (List.map (d7 .u8) y)),[some ⟨1,false,(List.map (d7 .u8) b0)⟩,some ⟨1,false,(List.map (d7 .u8) y)⟩])
noncomputable def aC6 (b_at b_ln b_cp:Nat) (b0:List Int):Option (List Int):=(bif (Nat.beq ((List.take b_ln (List.drop b_at (List.map (d7 .u8) b0))).length) b_ln) then (bif (decide ((0+(List.take b_ln (List.drop b_at (List.map (d7 .u8) b0))).length)*1≤i7)) then (some ([]++(List.take b_ln (List.drop b_at b0)))) else none) else none)
theorem cr7 {b_at b_ln b_cp:Nat}{b0 r:List Int} (h:aC6 b_at b_ln b_cp b0=some r):i0 E 88 [.msl 0 b_at b_ln b_cp false] [some ⟨1,false,(List.map (d7 .u8) b0)⟩] (Rs (cu9 b0) r):=so (fn:=Tryz.f88) (k:=true) (m:=1) h<| by
 intro r h;unfold aC6 at h
 refine l5 hm 9 _ ?_
 refine co3 (Nat.beq b_ln 0) (by kernel_rfl) ?_ (fun h1=> ?_)
 ·--it is not nil
  refine zn 9 h fun h=> ?_
  refine zn 0 h fun h=> ?_
  refine zw 1 (a:=((List.map (d7 .u8) ([]))++(List.take b_ln (List.drop b_at (List.map (d7 .u8) b0))))) (b:=(List.map (d7 .u8) ([]++(List.take b_ln (List.drop b_at b0))))) (by simp only [z7,E3,List.map_append,List.map_take,List.map_drop]) ?_
  exact zu 3 h
 ·--nil
  obtain rfl:b_ln=0:=Nat.eq_of_beq_eq_true h1
  simp [i7] at h
  first | subst h | (obtain ⟨_,h⟩:=h;subst h)
  refine l5 hm 8 _ ?_
  exact aK7 [.mat 0 1] (d:= .msl 1 0 0 0 false) (s:= [some ⟨1,false,(List.map (d7 .u8) b0)⟩,some ⟨1,false,[]⟩]) (by kernel_rfl) Cx.fin_of ⟨rfl,rfl⟩
end Go.RX.L

namespace Go.RX.L
open Go Go.RX Go.Proofs
attribute [local irreducible] f5
noncomputable def cb3 (b0 y:List Int):D×f3:=((f6 1 (List.map (d7 .u8) y)),[some ⟨1,false,(List.map (d7 .u8) b0)⟩,some ⟨1,false,(List.map (d7 .u8) y)⟩])
noncomputable def am5 (b_ln b_cp:Nat) (b0:List Int):Option (List Int):=(bif (Nat.beq ((List.take b_ln (List.drop 0 (List.map (d7 .u8) b0))).length) b_ln) then (bif (decide ((0+(List.take b_ln (List.drop 0 (List.map (d7 .u8) b0))).length)*1≤i7)) then (some ([]++(List.take b_ln (List.drop 0 b0)))) else none) else none)
theorem bS8 {b_ln b_cp:Nat}{b0 r:List Int} (h:am5 b_ln b_cp b0=some r):i0 E 88 [.msl 0 0 b_ln b_cp false] [some ⟨1,false,(List.map (d7 .u8) b0)⟩] (Rs (cb3 b0) r):=so (fn:=Tryz.f88) (k:=true) (m:=1) h<| by
 intro r h;unfold am5 at h
 refine l5 hm 9 _ ?_
 refine co3 (Nat.beq b_ln 0) (by kernel_rfl) ?_ (fun h1=> ?_)
 ·--it is not nil
  refine zn 9 h fun h=> ?_
  refine zn 0 h fun h=> ?_
  refine zw 1 (a:=((List.map (d7 .u8) ([]))++(List.take b_ln (List.drop 0 (List.map (d7 .u8) b0))))) (b:=(List.map (d7 .u8) ([]++(List.take b_ln (List.drop 0 b0))))) (by simp only [z7,E3,List.map_append,List.map_take,List.map_drop]) ?_
  exact zu 3 h
 ·--nil
  obtain rfl:b_ln=0:=Nat.eq_of_beq_eq_true h1
  simp [i7] at h
  first | subst h | (obtain ⟨_,h⟩:=h;subst h)
  refine l5 hm 8 _ ?_
  exact aK7 [.mat 0 1] (d:= .msl 1 0 0 0 false) (s:= [some ⟨1,false,(List.map (d7 .u8) b0)⟩,some ⟨1,false,[]⟩]) (by kernel_rfl) Cx.fin_of ⟨rfl,rfl⟩
end Go.RX.L

namespace Go.RX.L
open Go Go.RX Go.Proofs
attribute [local irreducible] f5
noncomputable def cW8 (b0:List Int) (y:Unit):D×f3:=(.fn 146 [] [.ptr 1 0 0],[some ⟨1,false,(List.map (d7 .u8) b0)⟩,some ⟨1,true,[[(f6 0 (List.map (d7 .u8) b0))]]⟩])
noncomputable def bj8 (b0:List Int):Option Unit:=(some ())
theorem cL9 {b0:List Int}{r:Unit} (h:bj8 b0=some r):i0 E 117 [(f6 0 (List.map (d7 .u8) b0))] [some ⟨1,false,(List.map (d7 .u8) b0)⟩] (Rs (cW8 b0) r):=so (fn:=Tryz.f117) (k:=true) (m:=1) h<| by
 intro r h;unfold bj8 at h
 exact zu 11 h
end Go.RX.L

namespace Go.RX.L
open Go Go.RX Go.Proofs
attribute [local irreducible] f5
noncomputable def bC5:=n8 (p6 Tryz.f159)
noncomputable def bA8 (y:Int):D×f3:=(.int .i64 y,[])
inductive ar8 where
 | s0 (b:List Int)
 | s1 (n:Int) (t6:List Int) (t7 t8:Int)
noncomputable def bA6:ar8→M
 | .s0 b=>A2 Tryz.f159 [.sl false 1 (List.map (d7 .u8) b)] []
 | .s1 n t6 t7 t8=>⟨[.lpc (bC5 [1,1,0,1,0,0]) 456,.blk 0,.code (bC5 [1,1,1])],[(3,.int .i64 n),(6,.sl false 1 (List.map (d7 .u8) t6)),(7,.int .i64 t7),(8,.int .i64 t8)],[]⟩
abbrev bD8:=SOk E (Cx.of Tryz.f159 false 0) bA8 bA6
noncomputable def aG1 (b:List Int):Option (ar8⊕Int):=(some (.inl (.s1 0 b (((List.map (d7 .u8) b).length:Nat):Int) 0)))
noncomputable def as9 (n:Int) (t6:List Int) (t7 t8:Int):Option (ar8⊕Int):=(bif (decide ((t8:Int)<t7)) then (bif ((decide ((0:Int)≤t8))&&(decide ((t8:Int)<(((List.map (d7 .u8) t6).length:Nat):Int)))) then (((t6)[t8.toNat]?).bind fun y3=>(some (.inl (.s1 (IntKind.i64.wrap ((E6 .i64 n 8)+(IntKind.i64.wrap (y3)))) t6 t7 (IntKind.i64.wrap (t8+1)))))) else none) else (some (.inr n)))
noncomputable def U2:ar8→Option (ar8⊕Int)
 | .s0 b=>aG1 b
 | .s1 n t6 t7 t8=>as9 n t6 t7 t8
theorem cc0 {b}:bD8 (.s0 b) (aG1 b):=by
 intro r x h ha;unfold aG1 at h
 exact zj 18 h ha
theorem cb2 {n t6 t7 t8}:bD8 (.s1 n t6 t7 t8) (as9 n t6 t7 t8):=by
 intro r x h ha;unfold as9 at h
 refine zs 7 h (fun h=> ?_) fun h=> ?_
 ·
  refine zn 6 h fun h=> ?_
  refine zr 1 (d7 .u8) h fun y3 h=> ?_
  exact zj 17 h ha
 exact zt 7 h ha
noncomputable def aF1 (b:List Int):Option Int:=U9 U2 (.s0 b)
theorem bv8 {b:List Int}{r:Int} (h:aF1 b=some r):i0 E 159 [.sl false 1 (List.map (d7 .u8) b)] [] (Rs bA8 r):=sc (fn:=Tryz.f159) (k:=false) (m:=0) (stM:=bA6) h fun s=>by
 cases s with
 | s0=>exact cc0
 | s1=>exact cb2
end Go.RX.L

namespace Go.RX.L
open Go Go.RX Go.Proofs
attribute [local irreducible] f5
noncomputable def aK5:=n8 (p6 Tryz.f147)
noncomputable def cf3 (b0:List Int) (y:Int×(List Int)×Int×Int):D×f3:=(.tup [.int .u8 y.1,.sl false 1 (List.map (d7 .u8) y.2.1),.int .i64 y.2.2.1,.int .i64 y.2.2.2],[some ⟨1,false,(List.map (d7 .u8) b0)⟩])
abbrev bx9 (at_:Int) (b0:List Int):=AOk E (Cx.of Tryz.f147 false 1) (cf3 b0)
noncomputable def cR7 (at_:Int) (b0:List Int) (e n:Int) (restlo restln restcp:Nat):M:=⟨[.code (aK5 [1,1,1,1,1])],[(1,.int .i64 at_),(8,.int .i64 e),(9,.int .i64 n),(10,.msl 0 restlo restln restcp false)],[some ⟨1,false,(List.map (d7 .u8) b0)⟩]⟩
noncomputable def P8 (at_:Int) (b0:List Int) (e n:Int) (restlo restln restcp:Nat):Option (Int×(List Int)×Int×Int):=(bif ((e:Int) !=0) then (some (0,[],0,e)) else (bif (decide ((1:Int)<((restln:Nat):Int))) then (((b0)[(restlo+1)]?).bind fun y3=>(bif ((decide (((0:Nat):Int)≤(IntKind.i64.wrap ((4:Int)+n))))&&(decide (((IntKind.i64.wrap ((4:Int)+n)):Int)≤((restcp:Nat):Int)))) then (bif (decide ((4:Int)≤(((IntKind.i64.wrap ((4:Int)+n)).toNat:Nat):Int))) then ((aC6 (restlo+4) ((IntKind.i64.wrap ((4:Int)+n)).toNat-4) (restcp-4) b0).bind fun y7=>(some (y3,y7,(IntKind.i64.wrap ((IntKind.i64.wrap ((IntKind.i64.wrap (at_+4))+n))+4)),0))) else none) else none)) else none))
theorem ag4 {at_ b0 e n restlo restln restcp}:bx9 at_ b0 (cR7 at_ b0 e n restlo restln restcp) (P8 at_ b0 e n restlo restln restcp):=by
 intro r h;unfold P8 at h
 refine zs 7 h (fun h=> ?_) fun h=> ?_
 ·
  exact zu 9 h [.slot 0 [some 1]]
 refine zn 3 h fun h=> ?_
 refine zr 0 (d7 .u8) h fun y3 h=> ?_
 refine zn 0 h fun h=> ?_
 refine zn 0 h fun h=> ?_
 refine zdR 0 [] h (fun _=>cr7) fun y7 h=> ?_
 refine zm 1 (b:=(Nat.ble (0+(List.map (d7 .u8) y7).length) ((List.map (d7 .u8) y7).length))) (u7 _) ?_
 obtain rfl:=Option.some.inj h
 exact ar9 [] (d1:= .tup [.int .u8 y3,.sl false 1 (List.take ((List.map (d7 .u8) y7).length) (List.drop 0 (List.map (d7 .u8) y7))),.int .i64 (IntKind.i64.wrap ((IntKind.i64.wrap ((IntKind.i64.wrap (at_+4))+n))+4)),.int .i64 0]) (d:= .tup [.int .u8 y3,.sl false 1 (List.map (d7 .u8) y7),.int .i64 (IntKind.i64.wrap ((IntKind.i64.wrap ((IntKind.i64.wrap (at_+4))+n))+4)),.int .i64 0]) (s1:= [some ⟨1,false,(List.map (d7 .u8) b0)⟩]) (s:= [some ⟨1,false,(List.map (d7 .u8) b0)⟩]) (by kernel_rfl) ⟨by simp [d8.enc,d8.l,i5.enc,i5.l,n5.enc,n5.l,q0.enc,q0.l,e9.enc,e9.l,Op.enc,Op.l,Plan.enc,Plan.l,C6.enc,C6.l,i6.enc,i6.l,n7.enc,n7.l,l8.enc,l8.l,d9.enc,d9.l,List.take_of_length_le,List.map_take,List.map_drop],rfl⟩ ⟨rfl,rfl⟩ Cx.fin_of
noncomputable def cS1 (at_:Int) (b0:List Int) (restlo restln restcp:Nat) (t48:Bool):M:=⟨[.code (aK5 [1,1,1,1,0,0,1]),.blk 0,.code (aK5 [1,1,1,1,1])],[(1,.int .i64 at_),(8,.int .i64 0),(9,.int .i64 0),(10,.msl 0 restlo restln restcp false),(48,.bool t48)],[some ⟨1,false,(List.map (d7 .u8) b0)⟩]⟩
noncomputable def ag0 (at_:Int) (b0:List Int) (restlo restln restcp:Nat) (t48:Bool):Option (Int×(List Int)×Int×Int):=(bif t48 then (P8 at_ b0 32 0 restlo restln restcp) else (bif (decide ((((restln:Nat):Int):Int)<8)) then (P8 at_ b0 31 0 restlo restln restcp) else (bif (decide ((4:Int)≤((restcp:Nat):Int))) then (bif (Nat.ble ((restlo+2)+2) ((List.map (d7 .u8) b0).length)) then ((aF1 (List.take 2 (List.drop (restlo+2) b0))).bind fun y5=>(bif (decide ((y5:Int)>8192)) then (P8 at_ b0 2 y5 restlo restln restcp) else (bif (decide ((y5:Int)>(IntKind.i64.wrap ((IntKind.i64.wrap (((restln:Nat):Int)-4))-4)))) then (P8 at_ b0 31 y5 restlo restln restcp) else (bif ((decide (((0:Nat):Int)≤(IntKind.i64.wrap ((4:Int)+y5))))&&(decide (((IntKind.i64.wrap ((4:Int)+y5)):Int)≤((restcp:Nat):Int)))) then (bif (decide ((1:Int)≤(((IntKind.i64.wrap ((4:Int)+y5)).toNat:Nat):Int))) then (bif (Nat.ble ((restlo+1)+((IntKind.i64.wrap ((4:Int)+y5)).toNat-1)) ((List.map (d7 .u8) b0).length)) then ((bm9 (List.take ((IntKind.i64.wrap ((4:Int)+y5)).toNat-1) (List.drop (restlo+1) b0))).bind fun y11=>(bif ((decide (((0:Nat):Int)≤(IntKind.i64.wrap ((IntKind.i64.wrap ((4:Int)+y5))+4))))&&(decide (((IntKind.i64.wrap ((IntKind.i64.wrap ((4:Int)+y5))+4)):Int)≤((restcp:Nat):Int)))) then (bif ((decide (((0:Nat):Int)≤(IntKind.i64.wrap ((4:Int)+y5))))&&(decide (((IntKind.i64.wrap ((4:Int)+y5)):Int)≤(((IntKind.i64.wrap ((IntKind.i64.wrap ((4:Int)+y5))+4)).toNat:Nat):Int)))) then (bif (Nat.ble ((restlo+(IntKind.i64.wrap ((4:Int)+y5)).toNat)+((IntKind.i64.wrap ((IntKind.i64.wrap ((4:Int)+y5))+4)).toNat-(IntKind.i64.wrap ((4:Int)+y5)).toNat)) ((List.map (d7 .u8) b0).length)) then ((aF1 (List.take ((IntKind.i64.wrap ((IntKind.i64.wrap ((4:Int)+y5))+4)).toNat-(IntKind.i64.wrap ((4:Int)+y5)).toNat) (List.drop (restlo+(IntKind.i64.wrap ((4:Int)+y5)).toNat) b0))).bind fun y15=>(bif (((IntKind.i64.wrap (y11)):Int) !=y15) then (P8 at_ b0 33 y5 restlo restln restcp) else (P8 at_ b0 0 y5 restlo restln restcp))) else none) else none) else none)) else none) else none) else none)))) else none) else none)))
theorem bC3 {at_ b0 restlo restln restcp t48}:bx9 at_ b0 (cS1 at_ b0 restlo restln restcp t48) (ag0 at_ b0 restlo restln restcp t48):=by
 intro r h;unfold ag0 at h
 refine zs 1 h (fun h=> ?_) fun h=> ?_
 ·
  exact zg 4 (ag4 h)
 refine zs 8 h (fun h=> ?_) fun h=> ?_
 ·
  exact zg 4 (ag4 h)
 refine zn 4 h fun h=> ?_
 refine zn 2 h fun h=> ?_
 refine zcE 0 [] (args1:= [.sl false 1 (List.take 2 (List.drop (restlo+2) (List.map (d7 .u8) b0)))]) h (fun _=>bv8) ⟨by simp [d8.enc,d8.l,i5.enc,i5.l,n5.enc,n5.l,q0.enc,q0.l,e9.enc,e9.l,Op.enc,Op.l,Plan.enc,Plan.l,C6.enc,C6.l,i6.enc,i6.l,n7.enc,n7.l,l8.enc,l8.l,d9.enc,d9.l,List.take_of_length_le,List.map_take,List.map_drop],rfl⟩ fun y5 h=> ?_
 refine zs 8 h (fun h=> ?_) fun h=> ?_
 ·
  exact zg 4 (ag4 h)
 refine zs 10 h (fun h=> ?_) fun h=> ?_
 ·
  exact zg 4 (ag4 h)
 refine zn 2 h fun h=> ?_
 refine zn 0 h fun h=> ?_
 refine zn 0 h fun h=> ?_
 refine zdE 0 [] (args1:= [.sl false 1 (List.take ((IntKind.i64.wrap ((4:Int)+y5)).toNat-1) (List.drop (restlo+1) (List.map (d7 .u8) b0)))]) h (fun _=>cq8) (by simp [d8.enc,d8.l,i5.enc,i5.l,n5.enc,n5.l,q0.enc,q0.l,e9.enc,e9.l,Op.enc,Op.l,Plan.enc,Plan.l,C6.enc,C6.l,i6.enc,i6.l,n7.enc,n7.l,l8.enc,l8.l,d9.enc,d9.l,List.take_of_length_le,List.map_take,List.map_drop]) fun y11 h=> ?_
 refine zn 0 h fun h=> ?_
 refine zn 0 h fun h=> ?_
 refine zn 0 h fun h=> ?_
 refine zdE 0 [] (args1:= [.sl false 1 (List.take ((IntKind.i64.wrap ((IntKind.i64.wrap ((4:Int)+y5))+4)).toNat-(IntKind.i64.wrap ((4:Int)+y5)).toNat) (List.drop (restlo+(IntKind.i64.wrap ((4:Int)+y5)).toNat) (List.map (d7 .u8) b0)))]) h (fun _=>bv8) (by simp [d8.enc,d8.l,i5.enc,i5.l,n5.enc,n5.l,q0.enc,q0.l,e9.enc,e9.l,Op.enc,Op.l,Plan.enc,Plan.l,C6.enc,C6.l,i6.enc,i6.l,n7.enc,n7.l,l8.enc,l8.l,d9.enc,d9.l,List.take_of_length_le,List.map_take,List.map_drop]) fun y15 h=> ?_
 refine zs 1 h (fun h=> ?_) fun h=> ?_
 ·
  exact zg 4 (ag4 h)
 exact zg 2 (ag4 h)
noncomputable def cQ3 (at_:Int) (b0:List Int) (t18:Bool):M:=⟨[.code (aK5 [1,0,1]),.code (aK5 [1,1])],[(0,(f6 0 (List.map (d7 .u8) b0))),(1,.int .i64 at_),(18,.bool t18)],[some ⟨1,false,(List.map (d7 .u8) b0)⟩]⟩
noncomputable def aJ8 (at_:Int) (b0:List Int) (t18:Bool):Option (Int×(List Int)×Int×Int):=(bif t18 then (some (0,[],0,1)) else (bif ((decide (((0:Nat):Int)≤at_))&&(decide ((at_:Int)≤(((List.map (d7 .u8) b0).length:Nat):Int)))) then (bif (decide ((((((List.map (d7 .u8) b0).length-at_.toNat):Nat):Int):Int)>0)) then (bif (decide ((0:Int)<((((List.map (d7 .u8) b0).length-at_.toNat):Nat):Int))) then (((b0)[(0+at_.toNat)]?).bind fun y5=>(ag0 at_ b0 (0+at_.toNat) ((List.map (d7 .u8) b0).length-at_.toNat) ((List.map (d7 .u8) b0).length-at_.toNat) ((y5:Int) !=247))) else none) else (ag0 at_ b0 (0+at_.toNat) ((List.map (d7 .u8) b0).length-at_.toNat) ((List.map (d7 .u8) b0).length-at_.toNat) false)) else none))
theorem bA9 {at_ b0 t18}:bx9 at_ b0 (cQ3 at_ b0 t18) (aJ8 at_ b0 t18):=by
 intro r h;unfold aJ8 at h
 refine zs 1 h (fun h=> ?_) fun h=> ?_
 ·
  exact zu 8 h [.slot 0 [some 1]]
 refine zn 11 h fun h=> ?_
 refine zs 11 h (fun h=> ?_) fun h=> ?_
 ·
  refine zn 2 h fun h=> ?_
  refine zr 2 (d7 .u8) h fun y5 h=> ?_
  exact zg 6 (bC3 h)
 exact zg 10 (bC3 h)
noncomputable def bc2 (at_:Int) (b0:List Int):Option (Int×(List Int)×Int×Int):=(bif (decide ((at_:Int)<0)) then (aJ8 at_ b0 true) else (aJ8 at_ b0 (decide ((at_:Int)>(((List.map (d7 .u8) b0).length:Nat):Int)))))
theorem cV5 {at_:Int}{b0:List Int}{r:Int×(List Int)×Int×Int} (h:bc2 at_ b0=some r):i0 E 147 [(f6 0 (List.map (d7 .u8) b0)),.int .i64 at_] [some ⟨1,false,(List.map (d7 .u8) b0)⟩] (Rs (cf3 b0) r):=so (fn:=Tryz.f147) (k:=false) (m:=1) h<| by
 intro r h;unfold bc2 at h
 refine zs 14 h (fun h=> ?_) fun h=> ?_
 ·
  exact zg 9 (bA9 h)
 exact zg 9 (bA9 h)
end Go.RX.L

namespace Go.RX.L
open Go Go.RX Go.Proofs
attribute [local irreducible] f5
noncomputable def cv5:=n8 (p6 Tryz.f146)
def P1 (y:Int×af1):List D:= [D.int .i64 y.1,D.agg [D.int .u8 y.2.kind,D.sl false 1 (List.map (d7 .u8) y.2.body)]]
inductive K2 where
 | s0 (b1:List Int)
 | s1 (at_:Int) (b12:List Int)
noncomputable def X1 (l:Nat):K2→M
 | .s0 b1=>⟨[.code (p6 Tryz.f146)],[(0,D.yld l),(1,D.ptr 0 0 0)],[some ⟨1,true,[[(f6 1 (List.map (d7 .u8) b1))]]⟩,some ⟨1,false,(List.map (d7 .u8) b1)⟩]⟩
 | .s1 at_ b12=>⟨[.lpc (cv5 [1,0,0]) 11,.blk 0],[(0,D.yld l),(1,D.ptr 0 0 0),(3,D.int .i64 at_)],[some ⟨1,true,[[(f6 1 (List.map (d7 .u8) b12))]]⟩,some ⟨1,false,(List.map (d7 .u8) b12)⟩]⟩
noncomputable def aF8 (b1:List Int):Option (List (Int×af1)×Option K2):=(some ([],some (.s1 0 b1)))
noncomputable def as2 (at_:Int) (b12:List Int):Option (List (Int×af1)×Option K2):=((bc2 at_ b12).bind fun y1=>(bif ((y1.2.2.2:Int) !=0) then (some ([],none)) else (Option.map (fun p=>((y1.2.2.1,(⟨y1.1,y1.2.1⟩:af1))::p.1,p.2)) (some ([],some (.s1 y1.2.2.1 b12))))))
noncomputable def an4:K2→f3
 | .s0 b1=> [some ⟨1,true,[[(f6 1 (List.map (d7 .u8) b1))]]⟩,some ⟨1,false,(List.map (d7 .u8) b1)⟩]
 | .s1 at_ b12=> [some ⟨1,true,[[(f6 1 (List.map (d7 .u8) b12))]]⟩,some ⟨1,false,(List.map (d7 .u8) b12)⟩]
noncomputable def U0:K2→Option (List (Int×af1)×Option K2)
 | .s0 b1=>aF8 b1
 | .s1 at_ b12=>as2 at_ b12
theorem cb9 {l:Nat}{ln:f3}{φ0:p9}{J:Option (List (List D))→World→(Nat→Prop)→(Nat→Prop)→Prop}{b1:List Int}{x:List (Int×af1)×Option K2}{Y:List (List D)} (hl:an4 (.s0 b1)=ln) (h:aF8 b1=some x) (ha:Z4 E ln (Cx.seq Tryz.f146 2 ln l φ0 J) P1 (X1 l) an4 x Y):f5 E (Cx.seq Tryz.f146 2 ln l φ0 J (some Y)) (fun _ s=>O0 ln s) (.go (X1 l (.s0 b1))):=by
 subst hl
 unfold aF8 at h
 refine l5 hm 7 _ ?_
 obtain rfl:=Option.some.inj h
 exact aP7 (q' := .go (X1 l (.s1 0 b1))) (by kernel_rfl) (K3 (by kernel_rfl) ha)
theorem cc4 {l:Nat}{ln:f3}{φ0:p9}{J:Option (List (List D))→World→(Nat→Prop)→(Nat→Prop)→Prop}{at_:Int}{b12:List Int}{x:List (Int×af1)×Option K2}{Y:List (List D)} (hl:an4 (.s1 at_ b12)=ln) (h:as2 at_ b12=some x) (ha:Z4 E ln (Cx.seq Tryz.f146 2 ln l φ0 J) P1 (X1 l) an4 x Y):f5 E (Cx.seq Tryz.f146 2 ln l φ0 J (some Y)) (fun _ s=>O0 ln s) (.go (X1 l (.s1 at_ b12))):=by
 subst hl
 unfold as2 at h
 refine zc 8 [] h (fun _=>cV5) fun y1 h=> ?_
 refine zs 17 h (fun h=> ?_) fun h=> ?_
 ·
  refine l5 hm 18 _ ?_
  obtain rfl:=Option.some.inj h
  exact bE4 (d:=D.tup []) (s:= [some ⟨1,true,[[(f6 1 (List.map (d7 .u8) b12))]]⟩,some ⟨1,false,(List.map (d7 .u8) b12)⟩]) (by kernel_rfl) (by kernel_rfl) ha
 refine l5 hm 10 _ ?_
 refine bJ7 (x:=(y1.2.2.1,(⟨y1.1,y1.2.1⟩:af1))) (s:= [some ⟨1,true,[[(f6 1 (List.map (d7 .u8) b12))]]⟩,some ⟨1,false,(List.map (d7 .u8) b12)⟩]) h ha (by kernel_rfl) (by kernel_rfl) ?_ (fun p Y h ha=> ?_)
 · --it is stopped
   refine l5 hm 8 _ ?_
   exact bo1 (d:=D.tup []) (s:= [some ⟨1,true,[[(f6 1 (List.map (d7 .u8) b12))]]⟩,some ⟨1,false,(List.map (d7 .u8) b12)⟩]) (by kernel_rfl) (by kernel_rfl)
 · --it goes on
   refine l5 hm 14 _ ?_
   obtain rfl:=Option.some.inj h
   exact aP7 (q' := .go (X1 l (.s1 y1.2.2.1 b12))) (by kernel_rfl) (K3 (by kernel_rfl) ha)
noncomputable def aQ3 (b1:List Int):Option (List (Int×af1)):=evl U0 (.s0 b1)
theorem cm5 {b1:List Int}{r:List (Int×af1)} (h:aQ3 b1=some r):ah7 E 146 [D.ptr 0 0 0] [some ⟨1,true,[[(f6 1 (List.map (d7 .u8) b1))]]⟩,some ⟨1,false,(List.map (d7 .u8) b1)⟩] [some ⟨1,true,[[(f6 1 (List.map (d7 .u8) b1))]]⟩,some ⟨1,false,(List.map (d7 .u8) b1)⟩] (List.map P1 r):=
 bz1 (m:=fun l=>X1 l (.s0 b1)) (fn:=Tryz.f146) (by kernel_rfl) (fun l=>by kernel_rfl) (show List.take _ _=_ by kernel_rfl) (show A9 _ _=_ by kernel_rfl) (fun l φ0 J=>bn3 (step:=U0) (lnS:=an4) (fun s x Y hl hs ha=>by
  cases s with
  | s0=>exact cb9 hl hs ha
  | s1=>exact cc4 hl hs ha) (by kernel_rfl) (bE3 h))
end Go.RX.L

namespace Go.RX
open Go
/-! ### one bit of a check sum -/
def bm1 (r:Nat):Nat:=if r%2=1 then r/2^^^3988292384 else r/2
def Q5:Nat→Nat→Nat
 | 0,r=>r
 | n+1,r=>Q5 n (bm1 r)
theorem dA4 {r:Nat} (h:r<4294967296):bm1 r<4294967296:=by
 unfold bm1
 split
 ·exact Nat.xor_lt_two_pow (n:=32) (by omega) (by decide)
 ·omega
theorem bF0:∀(n:Nat) {r:Nat},r<4294967296→Q5 n r<4294967296
 | 0,_,h=>h
 | n+1,_,h=>bF0 n (dA4 h)
theorem do1 (a b:Nat):bm1 (a^^^b)=bm1 a^^^bm1 b:=by
 have h1:(a^^^b)/2=a/2^^^b/2:=Nat.xor_div_two
 have h2:(a^^^b)%2=(a+b)%2:=by
  have h:=Nat.xor_mod_two_pow (a:=a) (b:=b) (n:=1)
  rw [show 2^1=2 from rfl] at h
  rw [h]
  rcases Nat.mod_two_eq_zero_or_one a with ha | ha<;>rcases Nat.mod_two_eq_zero_or_one b with hb | hb<;>rw [ha,hb]
  ·show 0=_;omega
  ·show 1=_;omega
  ·show 1=_;omega
  ·show 0=_;omega
 unfold bm1
 rw [h1,h2]
 rcases Nat.mod_two_eq_zero_or_one a with ha | ha<;>rcases Nat.mod_two_eq_zero_or_one b with hb | hb
 ·rw [if_neg (by omega),if_neg (by omega),if_neg (by omega)]
 ·rw [if_pos (by omega),if_neg (by omega),if_pos hb,Nat.xor_assoc]
 ·rw [if_pos (by omega),if_pos ha,if_neg (by omega),Nat.xor_assoc,Nat.xor_assoc,Nat.xor_comm (b/2)]
 ·rw [if_neg (by omega),if_pos ha,if_pos hb,Nat.xor_assoc,Nat.xor_comm (b/2) 3988292384,←Nat.xor_assoc 3988292384,Nat.xor_self,Nat.zero_xor]
theorem cH0:∀(n a b:Nat),Q5 n (a^^^b)=Q5 n a^^^Q5 n b
 | 0,_,_=>rfl
 | n+1,a,b=>by simp only [Q5,do1,cH0 n]
theorem ce8:∀(n a:Nat),Q5 n (2^n*a)=a
 | 0,a=>by simp [Q5]
 | n+1,a=>by
  have:bm1 (2^(n+1)*a)=2^n*a:=by
   rw [Nat.pow_succ,Nat.mul_comm (2^n) 2,Nat.mul_assoc]
   unfold bm1
   rw [if_neg (by omega)]
   omega
  simp only [Q5,this,ce8 n a]
theorem do3 (r:Nat):r=16*(r/16)^^^r%16:=by
 have h:=Nat.two_pow_add_eq_or_of_lt (i:=4) (b:=r%16) (by omega) (r/16)
 have e:2^4*(r/16)^^^r%16=2^4*(r/16) ||| r%16:=by
  refine Nat.eq_of_testBit_eq fun j=> ?_
  rw [Nat.testBit_xor,Nat.testBit_or]
  by_cases hj:j<4
  ·have:(2^4*(r/16)).testBit j=false:=by rw [Nat.testBit_two_pow_mul];simp;omega
   rw [this];simp
  ·have:(r%16).testBit j=false:=Nat.testBit_lt_two_pow (Nat.lt_of_lt_of_le (show r%16<2^4 by omega) (Nat.pow_le_pow_right (by decide) (by omega)))
   rw [this];simp
 rw [show (16:Nat)=2^4 from rfl] at*
 omega
theorem dk9 (r:Nat):Q5 4 r=r/16^^^Q5 4 (r%16):=by
 conv=>lhs;rw [do3 r]
 rw [cH0,show (16:Nat)=2^4 from rfl,ce8]
theorem cG9:∀(m n r:Nat),Q5 (m+n) r=Q5 n (Q5 m r)
 | 0,n,r=>by simp [Q5]
 | m+1,n,r=>by rw [show m+1+n=(m+n)+1 by omega];simp only [Q5,cG9 m n]
/-! ### a byte, bytes -/
def dC4 (r:Nat) (c:Int):Nat:=Q5 8 (r^^^c.toNat)
def bF9:Nat→List Int→Nat
 | r,[]=>r
 | r,c::l=>bF9 (dC4 r c) l
def cU9 (s:Nat) (l:List Int):Nat:=4294967295-bF9 (4294967295-s) l
def crc (l:List Int):Nat:=cU9 0 l
theorem cQ4 (l:List Int):crc l<4294967296:=by unfold crc cU9;omega
/-! ### four bytes of a number -/
def be4 (s:Nat):List Int:= [((s/16777216%256:Nat):Int),((s/65536%256:Nat):Int),((s/256%256:Nat):Int),((s%256:Nat):Int)]
def P4:Nat→List Int→Nat
 | n,[]=>n
 | n,c::l=>P4 (n*256+c.toNat) l
theorem dn0 (s:Nat):r6 (be4 s):=fun c hc=>by
 simp only [be4,List.mem_cons,List.not_mem_nil,or_false] at hc
 rcases hc with rfl | rfl | rfl | rfl<;>omega
theorem dz5 {s:Nat} (h:s<4294967296):P4 0 (be4 s)=s:=by
 simp only [be4,P4,Int.toNat_natCast]
 omega
theorem dM9 {a b c d:Int} (ha:0≤a∧a≤255) (hb:0≤b∧b≤255) (hc:0≤c∧c≤255) (hd:0≤d∧d≤255):be4 (P4 0 [a,b,c,d])= [a,b,c,d]:=by
 simp only [P4,be4,List.cons.injEq,and_true]
 omega
/-! ### frames -/
def S8 (k:Int) (body:List Int):List Int:=k::((body.length/256:Nat):Int)::((body.length%256:Nat):Int)::body
def G3 (k:Int) (body:List Int):List Int:=247::(S8 k body++be4 (crc (S8 k body)))
def pF (l:List Int):Int⊕(Int×List Int×Nat):=match l with
 | []=> .inl 31
 | m::_=>if m≠247 then .inl 32 else if l.length<8 then .inl 31 else
  if 8192<P4 0 [l.getD 2 0,l.getD 3 0] then .inl 2 else
  if l.length<P4 0 [l.getD 2 0,l.getD 3 0]+8 then .inl 31 else
  if crc ((l.drop 1).take (P4 0 [l.getD 2 0,l.getD 3 0]+3))≠P4 0 ((l.drop (P4 0 [l.getD 2 0,l.getD 3 0]+4)).take 4) then .inl 33 else
  .inr (l.getD 1 0,(l.drop 4).take (P4 0 [l.getD 2 0,l.getD 3 0]),P4 0 [l.getD 2 0,l.getD 3 0]+8)
theorem aO6 (k:Int) (body:List Int):(S8 k body).length=body.length+3:=by simp [S8]
theorem aN6 (k:Int) (body:List Int):(G3 k body).length=body.length+8:=by simp [G3,aO6,be4]
theorem ce5 {k:Int}{body:List Int} (hk:0≤k∧k≤255) (hb:r6 body) (hl:body.length≤65535):r6 (S8 k body):=fun c hc=>by
 simp only [S8,List.mem_cons] at hc
 rcases hc with rfl | rfl | rfl | hc
 ·exact hk
 ·omega
 ·omega
 ·exact hb c hc
theorem bE7 {k:Int}{body:List Int} (hk:0≤k∧k≤255) (hb:r6 body) (hl:body.length≤65535):r6 (G3 k body):=fun c hc=>by
 simp only [G3,List.mem_cons,List.mem_append] at hc
 rcases hc with rfl | hc | hc
 ·omega
 ·exact ce5 hk hb hl c hc
 ·exact dn0 _ c hc
theorem cS6 {k:Int}{body:List Int} (hk:0≤k∧k≤255) (hb:r6 body) (hl:body.length≤8192) (rest:List Int):pF (G3 k body++rest)= .inr (k,body,body.length+8):=by
 have hn:P4 0 [((body.length/256:Nat):Int),((body.length%256:Nat):Int)]=body.length:=by
  simp only [P4,Int.toNat_natCast];omega
 have e2:(G3 k body++rest).getD 2 0=((body.length/256:Nat):Int):=rfl
 have e3:(G3 k body++rest).getD 3 0=((body.length%256:Nat):Int):=rfl
 have e1:(G3 k body++rest).getD 1 0=k:=rfl
 have hlen:(G3 k body++rest).length=body.length+8+rest.length:=by rw [List.length_append,aN6]
 have d1:((G3 k body++rest).drop 1).take (body.length+3)=S8 k body:=by
  show ((S8 k body++be4 _)++rest).take (body.length+3)=S8 k body
  rw [List.append_assoc,←aO6 k body,List.take_left]
 have d2:((G3 k body++rest).drop (body.length+4)).take 4=be4 (crc (S8 k body)):=by
  show (((S8 k body++be4 _)++rest).drop (body.length+3)).take 4=_
  rw [List.append_assoc,←aO6 k body,List.drop_left]
  rfl
 have d3:((G3 k body++rest).drop 4).take body.length=body:=by
  show (((body++be4 _)++rest)).take body.length=body
  rw [List.append_assoc,List.take_left]
 have hx:∃x,G3 k body++rest=247::x:=⟨_,rfl⟩
 obtain ⟨x,hx⟩:=hx
 have key:pF (247::x)= .inr (k,body,body.length+8):=by
  rw [hx] at e1 e2 e3 hlen d1 d2 d3
  simp only [pF,e1,e2,e3,hn,hlen,d1,d2,d3]
  rw [if_neg (by simp),if_neg (by omega),if_neg (by omega),if_neg (by omega),if_neg (by rw [dz5 (cQ4 _)];simp)]
 rw [hx];exact key
theorem dW9:∀{l:List Int},3≤l.length→∃a b c r,l=a::b::c::r
 | a::b::c::r,_=>⟨a,b,c,r,rfl⟩
 | [],h=>by simp at h
 | [_],h=>by simp at h
 | [_,_],h=>by simp at h
theorem dY1:∀{l:List Int},l.length=4→∃a b c d,l= [a,b,c,d]
 | [a,b,c,d],_=>⟨a,b,c,d,rfl⟩
theorem dU4 {l:List Int}{k:Int}{body:List Int}{m:Nat} (hb:r6 l) (h:pF l= .inr (k,body,m)):l.take m=G3 k body∧m≤l.length∧m=body.length+8∧body.length≤8192∧(0≤k∧k≤255)∧r6 body:=by
 unfold pF at h
 split at h
 ·cases h
 ·rename_i m0 l0
  split at h
  ·cases h
  ·rename_i h1
   split at h
   ·cases h
   ·rename_i h2
    split at h
    ·cases h
    ·rename_i h3
     split at h
     ·cases h
     ·rename_i h4
      split at h
      ·cases h
      ·rename_i h5
       simp only [Sum.inr.injEq,Prod.mk.injEq] at h
       obtain ⟨rfl,rfl,rfl⟩:=h
       simp only [ne_eq,Decidable.not_not] at h1 h5
       subst h1
       obtain ⟨k,a,b,r,rfl⟩:=dW9 (l:=l0) (by simp only [List.length_cons] at h2;omega)
       have ha:=hb a (by simp)
       have hbb:=hb b (by simp)
       have hk:=hb k (by simp)
       simp only [List.getD_cons_succ,List.getD_cons_zero,List.length_cons,List.drop_succ_cons,List.drop_zero] at h2 h3 h4 h5 ⊢
       generalize hn:P4 0 [a,b]=n at*
       have hn' :n=a.toNat*256+b.toNat:=by rw [←hn];simp [P4]
       have hlen:(r.take n).length=n:=by rw [List.length_take];omega
       have e1:((n/256:Nat):Int)=a:=by omega
       have e2:((n%256:Nat):Int)=b:=by omega
       have hin:S8 k (r.take n)=(k::a::b::r).take (n+3):=by
        simp only [S8,hlen,e1,e2,List.take_succ_cons]
       have h4b:∃x y z u,(r.drop n).take 4= [x,y,z,u]:=by
        exact dY1 (by rw [List.length_take,List.length_drop];omega)
       obtain ⟨x,y,z,u,hxyz⟩:=h4b
       have hmem:∀c∈ [x,y,z,u],0≤c∧c≤255:=fun c hc=>hb c (by
        rw [←hxyz] at hc
        simp only [List.mem_cons]
        exact .inr (.inr (.inr (.inr (List.mem_of_mem_drop (List.mem_of_mem_take hc))))))
       refine ⟨?_,by omega,by omega,by omega,hk,fun c hc=>hb c (by simp only [List.mem_cons];exact .inr (.inr (.inr (.inr (List.mem_of_mem_take hc)))))⟩
       unfold G3
       rw [hin,h5,hxyz,dM9 (hmem x (by simp)) (hmem y (by simp)) (hmem z (by simp)) (hmem u (by simp)),←hxyz]
       rw [show n+8=(n+7)+1 from rfl,List.take_succ_cons,show n+7=(n+3)+4 from rfl,List.take_add]
       rfl
theorem dU1 {l:List Int}{e:Int} (h:pF l= .inl e):e=31∨e=32∨e=2∨e=33:=by
 unfold pF at h
 split at h
 ·simp at h;omega
 ·split at h
  ·simp at h;omega
  ·split at h
   ·simp at h;omega
   ·split at h
    ·simp at h;omega
    ·split at h
     ·simp at h;omega
     ·split at h
      ·simp at h;omega
      ·cases h
theorem dR5 {k:Int}{body:List Int} (hk:0≤k∧k≤255) (hb:r6 body) (hl:body.length≤8192) {j:Nat} (hj:j<body.length+8):∃e,pF ((G3 k body).take j)= .inl e:=by
 cases h:pF ((G3 k body).take j) with
 | inl e=>exact ⟨e,rfl⟩
 | inr x=>
  exfalso
  obtain ⟨k',body',m⟩:=x
  have hbb:r6 ((G3 k body).take j):=fun c hc=>bE7 hk hb (by omega) c (List.mem_of_mem_take hc)
  obtain ⟨a1,a2,a3,a4,a5,a6⟩:=dU4 hbb h
  have h1:=cS6 hk hb hl []
  rw [List.append_nil] at h1
  have hs:G3 k body=G3 k' body' ++(G3 k body).drop m:=by
   rw [←a1,List.take_take,Nat.min_eq_left (by rw [List.length_take] at a2;omega),List.take_append_drop]
  rw [hs,cS6 a5 a6 a4] at h1
  simp only [Sum.inr.injEq,Prod.mk.injEq] at h1
  rw [List.length_take,aN6] at a2
  omega
end Go.RX

namespace Go.RX.L
open Go Go.RX
theorem bC8 {n:Nat} (h:n<4294967296):(BitVec.ofInt IntKind.u32.bits (n:Int)).toNat=n:=by
 rw [BitVec.ofInt_natCast,show IntKind.u32.bits=32 from rfl,BitVec.toNat_ofNat,Nat.mod_eq_of_lt (by omega)]
theorem bZ5 {n:Nat} (h:n<4294967296):IntKind.u32.wrap (n:Int)=n:=eb1 (by omega) (by omega)
theorem dq5 {a b:Nat} (ha:a<4294967296) (hb:b<4294967296):O1 .u32 a b=((a^^^b:Nat):Int):=by
 unfold O1
 rw [BitVec.toNat_xor,bC8 ha,bC8 hb,bZ5 (Nat.xor_lt_two_pow (n:=32) ha hb)]
theorem cI0 {a:Nat} (ha:a<4294967296):i9 .u32 a 15=((a%16:Nat):Int):=by
 unfold i9
 rw [show (15:Int)=((15:Nat):Int) from rfl,BitVec.toNat_and,bC8 ha,bC8 (by omega),show (15:Nat)=2^4-1 from rfl,Nat.and_two_pow_sub_one_eq_mod,bZ5 (by omega)]
theorem bO4 {a k:Nat} (hk:k≤32):m7 .u32 a k=((a/2^k:Nat):Int):=by
 unfold m7
 have e:min (k:Int).toNat IntKind.u32.bits=k:=by simp [IntKind.bits];omega
 rw [e,Int.fdiv_eq_ediv_of_nonneg _ (by exact Int.le_of_lt (Int.pow_pos (by decide)))]
 norm_cast
theorem de3 {n:Nat} (h:n<4294967296):O1 .u32 4294967295 n=((4294967295-n:Nat):Int):=by
 unfold O1
 have e:BitVec.ofInt IntKind.u32.bits 4294967295=BitVec.allOnes IntKind.u32.bits:=by decide
 rw [BitVec.xor_comm,e,BitVec.xor_allOnes,BitVec.toNat_not,bC8 h,show IntKind.u32.bits=32 from rfl,show 2^32-1-n=4294967295-n by omega,bZ5 (by omega)]
/-! ### the program's: four bits at once -/
theorem cR8:∀i,i<16→gl_four[i]? =some ((Q5 4 i:Nat):Int):=by decide+kernel
theorem nib {r:Nat} (h:r<4294967296):O1 .u32 (m7 .u32 r 4) ((Q5 4 (r%16):Nat):Int)=((Q5 4 r:Nat):Int):=by
 have e:m7 .u32 r 4=((r/16:Nat):Int):=bO4 (a:=r) (k:=4) (by decide)
 rw [e,dq5 (by omega) (bF0 4 (by omega)),dk9 r]
theorem dT1 (r:Nat):decide (((r%16:Nat):Int)<((16:Nat):Int))=true:=K0 (by omega)
theorem dF6 {b:List Int} (hb:r6 b) (hm:b.length<9223372036854775807):∀(j k r:Nat),k+j=b.length→r<4294967296→Ev aC9 (.s1 r b b.length k) ((4294967295-bF9 r (b.drop k):Nat):Int):=by
 intro j
 induction j with
 | zero=>
  intro k r hk hr
  have e:bF9 r (b.drop k)=r:=by rw [List.drop_of_length_le (by omega)];rfl
  rw [e]
  refine .done ?_
  simp only [aC9,be0,geB (show b.length≤k by omega),cond_false,de3 hr]
 | succ j ih=>
  intro k r hk hr
  have hlt:k<b.length:=by omega
  obtain ⟨c,hc⟩:∃c:Nat,b[k]=(c:Int):=⟨_,(Int.toNat_of_nonneg (hb _ (List.getElem_mem hlt)).1).symm⟩
  have hc' :=hb _ (List.getElem_mem hlt)
  rw [hc] at hc'
  have h1:r^^^c<4294967296:=Nat.xor_lt_two_pow (n:=32) hr (by omega)
  have h2:=bF0 4 h1
  have e1:O1 .u32 r (IntKind.u32.wrap (c:Int))=((r^^^c:Nat):Int):=by rw [bZ5 (by omega),dq5 hr (by omega)]
  have hd:b.drop k=(c:Int)::b.drop (k+1):=by rw [←hc,List.drop_eq_getElem_cons hlt]
  have hs:bF9 r (b.drop k)=bF9 (Q5 4 (Q5 4 (r^^^c))) (b.drop (k+1)):=by
   rw [hd]
   show bF9 (dC4 r c) _=_
   rw [dC4,Int.toNat_natCast,show 8=4+4 from rfl,cG9]
  rw [hs]
  refine .next (s' := .s1 ((Q5 4 (Q5 4 (r^^^c)):Nat):Int) b b.length ((k+1:Nat):Int)) ?_ (ih (k+1) _ (by omega) (bF0 4 h2))
  simp only [aC9,be0,K0 hlt,cond_true,List.length_map,ixB hlt,S5,Bool.and_self,Int.toNat_natCast,List.getE hlt,Option.bind_some,hc,e1,cI0 h1,dT1]
  simp only [Nat.zero_add,cR8 _ (Nat.mod_lt (r^^^c) (by decide:0<16)),Option.bind_some,nib h1,cI0 h2,dT1,S5,Bool.and_self,cond_true,Int.toNat_natCast]
  simp only [cR8 _ (Nat.mod_lt (Q5 4 (r^^^c)) (by decide:0<16)),Option.bind_some,nib h2,wS (show k<9223372036854775807 by omega)]
theorem do4 {b:List Int} (hb:r6 b) (hm:b.length<9223372036854775807):bm9 b=some (crc b:Int):=by
 have h:cw2 0 b=some (crc b:Int):=by
  refine u0 (.next (s' := .s1 ((4294967295:Nat):Int) b b.length ((0:Nat):Int)) ?_ ?_)
  ·have:=de3 (n:=0) (by decide)
   simp only [aC9,bw4,List.length_map]
   rw [show (0:Int)=((0:Nat):Int) from rfl,this]
  ·have:=dF6 hb hm b.length 0 4294967295 (by omega) (by decide)
   simpa [crc,cU9] using this
 simp only [bm9,h,Option.bind_some]
/-! ### the document's: one bit after the other -/
end Go.RX.L

namespace Go.RX.L
open Go Go.RX
theorem dX2 {a:Nat} (h:a<36028797018963968):E6 .i64 a 8=((a*256:Nat):Int):=by
 unfold E6
 rw [show min (8:Int).toNat IntKind.i64.bits=8 from rfl,show ((a:Int)*(2:Int)^8)=((a*256:Nat):Int) by norm_cast,u4 (by omega) (by omega)]
/-! ### writing -/
def dz9 (k:Int) (body:List Int):List Int×Int:=if body.length≤8192 then (G3 k body,0) else ([],2)
theorem ea5 {n:Nat}:m7 .i64 n 8=((n/256:Nat):Int):=by
 unfold m7
 rw [show min (8:Int).toNat IntKind.i64.bits=8 from rfl,Int.fdiv_eq_ediv_of_nonneg _ (by decide)]
 norm_cast
theorem dX9 (k:Int) {body:List Int} (h:body.length≤8192): [247,k,(IntKind.u8.wrap ((m7 .i64 ((body.length:Nat):Int) 8))),(IntKind.u8.wrap (((body.length:Nat):Int)))]++body=247::S8 k body:=by
 rw [ea5,au8,au8,Nat.mod_eq_of_lt (a:=body.length/256) (by omega)]
 rfl
theorem eb3 {k:Int}{body:List Int} (h:body.length≤8192):List.take ((247::S8 k body).length-1) (List.drop 1 (247::S8 k body))=S8 k body:=by
 simp
theorem dj7 {s:Nat} (hs:s<4294967296) {b:List Int} (hb:b.length≤8300):Ev R9 (.s1 s 24 b) (b++be4 s,0):=by
 have e24:m7 .u32 s 24=((s/16777216:Nat):Int):=bO4 (a:=s) (k:=24) (by decide)
 have e16:m7 .u32 s 16=((s/65536:Nat):Int):=bO4 (a:=s) (k:=16) (by decide)
 have e8:m7 .u32 s 8=((s/256:Nat):Int):=bO4 (a:=s) (k:=8) (by decide)
 have e0:m7 .u32 s 0=(s:Int):=by have:=bO4 (a:=s) (k:=0) (by decide);simpa using this
 have lim:∀n,n≤8310→decide ((n+1)*1≤i7)=true:=fun n hn=>D3 (by omega)
 refine .next (s' := .s1 s 16 (b++ [((s/16777216%256:Nat):Int)])) ?_ (.next (s' := .s1 s 8 (b++ [((s/16777216%256:Nat):Int),((s/65536%256:Nat):Int)])) ?_ (.next (s' := .s1 s 0 (b++ [((s/16777216%256:Nat):Int),((s/65536%256:Nat):Int),((s/256%256:Nat):Int)])) ?_ (.next (s' := .s1 s (-8) (b++be4 s)) ?_ (.done ?_))))
 ·simp only [R9,an8,e24,au8,List.length_map,lim b.length (by omega)]
  rfl
 ·simp only [R9,an8,e16,au8,List.length_map,List.length_append,List.length_cons,List.length_nil,lim (b.length+(0+1)) (by omega),List.append_assoc,List.cons_append,List.nil_append]
  rfl
 ·simp only [R9,an8,e8,au8,List.length_map,List.length_append,List.length_cons,List.length_nil,lim (b.length+(0+1+1)) (by omega),List.append_assoc,List.cons_append,List.nil_append]
  rfl
 ·simp only [R9,an8,e0,au8,List.length_map,List.length_append,List.length_cons,List.length_nil,lim (b.length+(0+1+1+1)) (by omega),List.append_assoc,List.cons_append,List.nil_append]
  rfl
 ·rfl
theorem dc8 {k:Int}{body:List Int} (hk:0≤k∧k≤255) (hb:r6 body) (hm:body.length≤F6):bv3 k body=some (dz9 k body):=by
 unfold dz9
 by_cases h:body.length≤8192
 ·rw [if_pos h]
  have hs:=do4 (ce5 hk hb (by omega)) (by rw [aO6];omega)
  refine u0 (.next (s' := .s1 (crc (S8 k body):Int) 24 (247::S8 k body)) ?_ ?_)
  ·have c1:decide (((body.length:Nat):Int)>8192)=false:=by simp;omega
   have c2:decide ((4+body.length)*1≤i7)=true:=D3 (by omega)
   have c3:decide ((1:Int)≤(((247::S8 k body).length:Nat):Int))=true:=by simp [aO6];omega
   have c4:Nat.ble (1+((247::S8 k body).length-1)) (247::S8 k body).length=true:=by simp;omega
   simp only [R9,aI7,List.length_map,c1,c2,dX9 k h,c3,c4,cond_false,cond_true,eb3 h,hs,Option.bind_some]
  ·exact dj7 (cQ4 _) (by simp [aO6];omega)
 ·rw [if_neg h]
  refine u0 (.done ?_)
  have c1:decide (((body.length:Nat):Int)>8192)=true:=by simp;omega
  simp only [R9,aI7,List.length_map,c1,cond_true]
end Go.RX.L

namespace Go.RX.L
open Go Go.RX
def rF (at_:Nat) (x:Int⊕(Int×List Int×Nat)):Int×List Int×Int×Int:=match x with
 | .inl e=>(0,[],0,e)
 | .inr (k,body,m)=>(k,body,((at_+m:Nat):Int),0)
theorem dB6 {m:Int}{l:List Int} (h:m≠247):pF (m::l)= .inl 32:=by simp only [pF,if_pos h]
theorem dD5 {l:List Int} (h:l.length<7):pF (247::l)= .inl 31:=by
 simp only [pF,if_neg (show ¬((247:Int)≠247) by simp),if_pos (show (247::l).length<8 by simp;omega)]
theorem dL1 {k:Int}{a c:Nat}{r:List Int} (h:4≤r.length) (hn:8192<a*256+c):pF (247::k::(a:Int)::(c:Int)::r)= .inl 2:=by
 have hl:¬(247::k::(a:Int)::(c:Int)::r).length<8:=by simp;omega
 have hn' :P4 0 [(a:Int),(c:Int)]=a*256+c:=by simp [P4]
 simp only [pF,if_neg (show ¬((247:Int)≠247) by simp),if_neg hl,List.getD_cons_succ,List.getD_cons_zero,hn',if_pos hn]
theorem dN9 {k:Int}{a c:Nat}{r:List Int} (h:4≤r.length) (hn:a*256+c≤8192) (hc:r.length<a*256+c+4):pF (247::k::(a:Int)::(c:Int)::r)= .inl 31:=by
 have hl:¬(247::k::(a:Int)::(c:Int)::r).length<8:=by simp;omega
 have hn' :P4 0 [(a:Int),(c:Int)]=a*256+c:=by simp [P4]
 have h2:(247::k::(a:Int)::(c:Int)::r).length<a*256+c+8:=by simp;omega
 simp only [pF,if_neg (show ¬((247:Int)≠247) by simp),if_neg hl,List.getD_cons_succ,List.getD_cons_zero,hn',if_neg (show ¬8192<a*256+c by omega),if_pos h2]
theorem dy1 {k:Int}{a c:Nat}{r:List Int} (h:4≤r.length) (hn:a*256+c≤8192) (hc:a*256+c+4≤r.length):pF (247::k::(a:Int)::(c:Int)::r)=
  if crc ((k::(a:Int)::(c:Int)::r).take (a*256+c+3))≠P4 0 ((r.drop (a*256+c)).take 4) then .inl 33 else .inr (k,r.take (a*256+c),a*256+c+8):=by
 have hl:¬(247::k::(a:Int)::(c:Int)::r).length<8:=by simp;omega
 have hn' :P4 0 [(a:Int),(c:Int)]=a*256+c:=by simp [P4]
 have h2:¬(247::k::(a:Int)::(c:Int)::r).length<a*256+c+8:=by simp;omega
 simp only [pF,if_neg (show ¬((247:Int)≠247) by simp),if_neg hl,List.getD_cons_succ,List.getD_cons_zero,hn',if_neg (show ¬8192<a*256+c by omega),if_neg h2,List.drop_succ_cons,List.drop_zero]
theorem dc3 {b:List Int} (hb:r6 b) (h4:b.length≤4):∀(j k n:Nat),k+j=b.length→n<256^k→Ev U2 (.s1 n b b.length k) ((P4 n (b.drop k):Nat):Int):=by
 intro j
 induction j with
 | zero=>
  intro k n hk hn
  refine .done ?_
  rw [List.drop_of_length_le (by omega)]
  simp only [U2,as9,geB (show b.length≤k by omega),cond_false,P4]
 | succ j ih=>
  intro k n hk hn
  have hlt:k<b.length:=by omega
  have hc:=hb _ (List.getElem_mem hlt)
  obtain ⟨c,hc'⟩:∃c:Nat,b[k]=(c:Int):=⟨_,(Int.toNat_of_nonneg hc.1).symm⟩
  rw [hc'] at hc
  have hk4:256^k≤256^3:=Nat.pow_le_pow_right (by decide) (by omega)
  have hd:b.drop k=(c:Int)::b.drop (k+1):=by rw [←hc',List.drop_eq_getElem_cons hlt]
  have e1:IntKind.i64.wrap (E6 .i64 (n:Int) 8+IntKind.i64.wrap (c:Int))=((n*256+c:Nat):Int):=by
   rw [dX2 (by omega),u4 (n:=(c:Int)) (by omega) (by omega),u4 (by omega) (by omega)];norm_cast
  rw [hd]
  refine .next (s' := .s1 ((n*256+c:Nat):Int) b b.length ((k+1:Nat):Int)) ?_ (by
   show Ev U2 _ ((P4 (n*256+(c:Int).toNat) (b.drop (k+1)):Nat):Int)
   rw [Int.toNat_natCast]
   exact ih (k+1) _ (by omega) (by rw [Nat.pow_succ];omega))
  simp only [U2,as9,K0 hlt,cond_true,List.length_map,ixB hlt,S5,Bool.and_self,Int.toNat_natCast,List.getE hlt,Option.bind_some,hc',e1,wS (show k<9223372036854775807 by omega)]
theorem cG8 {b:List Int} (hb:r6 b) (h4:b.length≤4):aF1 b=some ((P4 0 b:Nat):Int):=by
 refine u0 (.next (s' := .s1 ((0:Nat):Int) b b.length ((0:Nat):Int)) ?_ ?_)
 ·simp only [U2,aG1,List.length_map];rfl
 ·have:=dc3 hb h4 b.length 0 0 (by omega) (by decide)
  simpa using this
theorem cD1 {l:List Int} (hb:r6 l) (n:Nat):r6 (l.take n):=fun c hc=>hb c (List.mem_of_mem_take hc)
theorem aX8 {l:List Int} (hb:r6 l) (n:Nat):r6 (l.drop n):=fun c hc=>hb c (List.mem_of_mem_drop hc)
/-! ### the document's reader -/
end Go.RX.L

namespace Go.RX.L
open Go Go.RX Go.Proofs
attribute [local irreducible] f5
noncomputable def A4:=n8 (p6 Tryz.f85)
noncomputable def S6 (b0:List Int) (y:(List Int)×(List (List Int))×Int):D×f3:=(.tup [.sl false 1 (List.map (d7 .u8) y.1),.sl false 1 (List.map (E0 1 (d7 .u8)) y.2.1),.int .i64 y.2.2],[some ⟨1,false,(List.map (d7 .u8) b0)⟩])
inductive C8 where
 | s0
 | s1 (behind:Int) (b5:List Int) (b6:List (List Int))
 | s2 (behind:Int) (b5:List Int) (b6:List (List Int)) (Y:List (Int×af1))
noncomputable def aK6 (b0:List Int):C8→M
 | .s0=>A2 Tryz.f85 [(f6 0 (List.map (d7 .u8) b0))] [some ⟨1,false,(List.map (d7 .u8) b0)⟩]
 | .s1 behind b5 b6=>⟨[.code (A4 [1,1,1,1,0,1,0]),.blk 0,.code (A4 [1,1,1,1,1])],[(5,.ptr 1 0 0),(6,.ptr 2 0 0),(7,.ptr 3 0 0),(11,.fn 146 [] [.ptr 4 0 0])],[some ⟨1,false,(List.map (d7 .u8) b0)⟩,some ⟨1,true,[[(f6 5 (List.map (d7 .u8) b5))]]⟩,some ⟨1,true,[[(f6 6 (List.map (E0 1 (d7 .u8)) b6))]]⟩,some ⟨1,false,[[.int .i64 behind]]⟩,some ⟨1,true,[[(f6 0 (List.map (d7 .u8) b0))]]⟩,some ⟨1,false,(List.map (d7 .u8) b5)⟩,some ⟨1,false,(List.map (E0 1 (d7 .u8)) b6)⟩]⟩
 | .s2 behind b5 b6 Y=>⟨[.blk 0,.code (A4 [1,1,1,1,1])],[(5,.ptr 1 0 0),(6,.ptr 2 0 0),(7,.ptr 3 0 0),(11,.fn 146 [] [.ptr 4 0 0])],[some ⟨1,false,(List.map (d7 .u8) b0)⟩,some ⟨1,true,[[(f6 5 (List.map (d7 .u8) b5))]]⟩,some ⟨1,true,[[(f6 6 (List.map (E0 1 (d7 .u8)) b6))]]⟩,some ⟨1,false,[[.int .i64 behind]]⟩,some ⟨1,true,[[(f6 0 (List.map (d7 .u8) b0))]]⟩,some ⟨1,false,(List.map (d7 .u8) b5)⟩,some ⟨1,false,(List.map (E0 1 (d7 .u8)) b6)⟩]⟩
noncomputable def ar6 (b0:List Int):C8→((List Int)×(List (List Int))×Int)→Prop
 | .s0,r_=>f5 E (Cx.of Tryz.f85 false 1) (QW (Rs (S6 b0) r_)) (.go ((aK6 b0) (.s0)))
 | .s1 behind b5 b6,r_=>f5 E (Cx.of Tryz.f85 false 1) (QW (Rs (S6 b0) r_)) (.go ((aK6 b0) (.s1 behind b5 b6)))
 | .s2 behind b5 b6 Y,r_=>L3 E (Cx.of Tryz.f85 false 1) (QW (Rs (S6 b0) r_)) 5 (A4 [1,1,1,1,0,1,0]) [.blk 0,.code (A4 [1,1,1,1,1])] [(5,.ptr 1 0 0),(6,.ptr 2 0 0),(7,.ptr 3 0 0),(11,.fn 146 [] [.ptr 4 0 0])] [4,0] [some ⟨1,true,[[(f6 0 (List.map (d7 .u8) b0))]]⟩,some ⟨1,false,(List.map (d7 .u8) b0)⟩] (List.map P1 Y) [some ⟨1,false,(List.map (d7 .u8) b0)⟩,some ⟨1,true,[[(f6 5 (List.map (d7 .u8) b5))]]⟩,some ⟨1,true,[[(f6 6 (List.map (E0 1 (d7 .u8)) b6))]]⟩,some ⟨1,false,[[.int .i64 behind]]⟩,some ⟨1,true,[[(f6 0 (List.map (d7 .u8) b0))]]⟩,some ⟨1,false,(List.map (d7 .u8) b5)⟩,some ⟨1,false,(List.map (E0 1 (d7 .u8)) b6)⟩]
noncomputable def bb3 (b0:List Int):Option (C8⊕((List Int)×(List (List Int))×Int)):=((bj8 b0).bind fun y1=>(some (.inl (.s1 0 ([]) ([])))))
noncomputable def ba3 (b0:List Int) (behind:Int) (b5:List Int) (b6:List (List Int)):Option (C8⊕((List Int)×(List (List Int))×Int)):=((aQ3 b0).bind fun y1=>(some (.inl (.s2 behind b5 b6 y1))))
noncomputable def aP4 (b0:List Int) (behind:Int) (b5:List Int) (b6:List (List Int)):Option (C8⊕((List Int)×(List (List Int))×Int)):=(some (.inr (b5,b6,behind)))
noncomputable def aQ1 (b0:List Int) (behind:Int) (b5:List Int) (b6:List (List Int)) (y:Int×af1) (Y:List (Int×af1)):Option (C8⊕((List Int)×(List (List Int))×Int)):=(bif (decide (((List.map (d7 .u8) b5).length+1)*1≤i7)) then (bif (decide (((List.map (E0 1 (d7 .u8)) b6).length+1)*24≤i7)) then (some (.inl (.s2 y.1 (b5++ [y.2.kind]) (b6++ [y.2.body]) Y))) else none) else none)
noncomputable def bb5 (b0:List Int) (behind:Int) (b5:List Int) (b6:List (List Int)):List (Int×af1)→Option (C8⊕((List Int)×(List (List Int))×Int))
 | []=>aP4 b0 behind b5 b6
 | y::Y=>aQ1 b0 behind b5 b6 y Y
noncomputable def W9 (b0:List Int):C8→Option (C8⊕((List Int)×(List (List Int))×Int))
 | .s0=>bb3 b0
 | .s1 behind b5 b6=>ba3 b0 behind b5 b6
 | .s2 behind b5 b6 Y=>bb5 b0 behind b5 b6 Y
theorem cB8 {b0:List Int}{r:(List Int)×(List (List Int))×Int}{x:C8⊕((List Int)×(List (List Int))×Int)} (h:bb3 b0=some x) (ha:z5 (ar6 b0) r x):f5 E (Cx.of Tryz.f85 false 1) (QW (Rs (S6 b0) r)) (.go ((aK6 b0) (.s0))):=by
 unfold bb3 at h
 refine zc 26 [] h (fun _=>cL9) fun y1 h=> ?_
 refine l5 hm 2 _ ?_
 obtain rfl:=Option.some.inj h
 refine ap9 14560 [.matc 1 0 0 1,.matc 2 0 0 1] (m' :=⟨[.code (A4 [1,1,1,1,0,1,0]),.blk 0,.code (A4 [1,1,1,1,1])],[(5,.ptr 1 0 0),(6,.ptr 2 0 0),(7,.ptr 3 0 0),(11,.fn 146 [] [.ptr 4 0 0])],[some ⟨1,false,(List.map (d7 .u8) b0)⟩,some ⟨1,true,[[.msl 5 0 0 0 false]]⟩,some ⟨1,true,[[.msl 6 0 0 0 false]]⟩,some ⟨1,false,[[.int .i64 0]]⟩,some ⟨1,true,[[(f6 0 (List.map (d7 .u8) b0))]]⟩,some ⟨1,false,[]⟩,some ⟨1,false,[]⟩]⟩) (by kernel_rfl) ?_
 refine ae9 (n1:=0) (n2:=(List.map (d7 .u8) ([])).length) (fun n_len=> .go ⟨[.code (A4 [1,1,1,1,0,1,0]),.blk 0,.code (A4 [1,1,1,1,1])],[(5,.ptr 1 0 0),(6,.ptr 2 0 0),(7,.ptr 3 0 0),(11,.fn 146 [] [.ptr 4 0 0])],[some ⟨1,false,(List.map (d7 .u8) b0)⟩,some ⟨1,true,[[.msl 5 0 n_len n_len false]]⟩,some ⟨1,true,[[.msl 6 0 0 0 false]]⟩,some ⟨1,false,[[.int .i64 0]]⟩,some ⟨1,true,[[(f6 0 (List.map (d7 .u8) b0))]]⟩,some ⟨1,false,[]⟩,some ⟨1,false,[]⟩]⟩) (by simp) ?_
 refine ae9 (n1:=0) (n2:=(List.map (E0 1 (d7 .u8)) ([])).length) (fun n_len=> .go ⟨[.code (A4 [1,1,1,1,0,1,0]),.blk 0,.code (A4 [1,1,1,1,1])],[(5,.ptr 1 0 0),(6,.ptr 2 0 0),(7,.ptr 3 0 0),(11,.fn 146 [] [.ptr 4 0 0])],[some ⟨1,false,(List.map (d7 .u8) b0)⟩,some ⟨1,true,[[.msl 5 0 ((List.map (d7 .u8) ([])).length) ((List.map (d7 .u8) ([])).length) false]]⟩,some ⟨1,true,[[.msl 6 0 n_len n_len false]]⟩,some ⟨1,false,[[.int .i64 0]]⟩,some ⟨1,true,[[(f6 0 (List.map (d7 .u8) b0))]]⟩,some ⟨1,false,[]⟩,some ⟨1,false,[]⟩]⟩) (by simp) ?_
 exact ha
theorem cv3 {b0:List Int}{behind:Int}{b5:List Int}{b6:List (List Int)}{r:(List Int)×(List (List Int))×Int}{x:C8⊕((List Int)×(List (List Int))×Int)} (h:ba3 b0 behind b5 b6=some x) (ha:z5 (ar6 b0) r x):f5 E (Cx.of Tryz.f85 false 1) (QW (Rs (S6 b0) r)) (.go ((aK6 b0) (.s1 behind b5 b6))):=by
 unfold ba3 at h
 refine l5 hm 1 _ ?_
 have ok1:=fun (y:List (Int×af1)) (hy:aQ3 b0=some y)=>cm5 hy
 refine cX6 (m:=5) (c:=A4 [1,1,1,1,0,1,0]) (t:= [.blk 0,.code (A4 [1,1,1,1,1])]) (fr:= [(5,.ptr 1 0 0),(6,.ptr 2 0 0),(7,.ptr 3 0 0),(11,.fn 146 [] [.ptr 4 0 0])]) (σ:= [some ⟨1,false,(List.map (d7 .u8) b0)⟩,some ⟨1,true,[[(f6 5 (List.map (d7 .u8) b5))]]⟩,some ⟨1,true,[[(f6 6 (List.map (E0 1 (d7 .u8)) b6))]]⟩,some ⟨1,false,[[.int .i64 behind]]⟩,some ⟨1,true,[[(f6 0 (List.map (d7 .u8) b0))]]⟩,some ⟨1,false,(List.map (d7 .u8) b5)⟩,some ⟨1,false,(List.map (E0 1 (d7 .u8)) b6)⟩]) (ids:= [4,0]) (bs:= [some ⟨1,true,[[(f6 0 (List.map (d7 .u8) b0))]]⟩,some ⟨1,false,(List.map (d7 .u8) b0)⟩]) (caps1:= [.ptr 0 0 0]) (caps:= [.ptr 0 0 0]) (sub1:= [some ⟨1,true,[[(f6 1 (List.map (d7 .u8) b0))]]⟩,some ⟨1,false,(List.map (d7 .u8) b0)⟩]) (sub:= [some ⟨1,true,[[(f6 1 (List.map (d7 .u8) b0))]]⟩,some ⟨1,false,(List.map (d7 .u8) b0)⟩]) P1 h (by kernel_rfl) ⟨rfl,rfl⟩ (by kernel_rfl) (by kernel_rfl) (by kernel_rfl) (by kernel_rfl) (by kernel_rfl) ok1 (fun y1 h1 h=> ?_)
 obtain rfl:=Option.some.inj h
 exact ha
theorem cm3 {b0:List Int}{behind:Int}{b5:List Int}{b6:List (List Int)}{r:(List Int)×(List (List Int))×Int}{x:C8⊕((List Int)×(List (List Int))×Int)} (h:aP4 b0 behind b5 b6=some x) (ha:z5 (ar6 b0) r x):L3 E (Cx.of Tryz.f85 false 1) (QW (Rs (S6 b0) r)) 5 (A4 [1,1,1,1,0,1,0]) [.blk 0,.code (A4 [1,1,1,1,1])] [(5,.ptr 1 0 0),(6,.ptr 2 0 0),(7,.ptr 3 0 0),(11,.fn 146 [] [.ptr 4 0 0])] [4,0] [some ⟨1,true,[[(f6 0 (List.map (d7 .u8) b0))]]⟩,some ⟨1,false,(List.map (d7 .u8) b0)⟩] ([]) [some ⟨1,false,(List.map (d7 .u8) b0)⟩,some ⟨1,true,[[(f6 5 (List.map (d7 .u8) b5))]]⟩,some ⟨1,true,[[(f6 6 (List.map (E0 1 (d7 .u8)) b6))]]⟩,some ⟨1,false,[[.int .i64 behind]]⟩,some ⟨1,true,[[(f6 0 (List.map (d7 .u8) b0))]]⟩,some ⟨1,false,(List.map (d7 .u8) b5)⟩,some ⟨1,false,(List.map (E0 1 (d7 .u8)) b6)⟩]:=by
 unfold aP4 at h
 refine aW2 ?_
 refine zm 7 (b:=(Nat.ble (0+(List.map (d7 .u8) b5).length) ((List.map (d7 .u8) b5).length))) (u7 _) ?_
 refine zm 0 (b:=(Nat.ble (0+(List.map (E0 1 (d7 .u8)) b6).length) ((List.map (E0 1 (d7 .u8)) b6).length))) (u7 _) ?_
 obtain rfl:=Option.some.inj h
 have hv:=ha
 simp only [z5] at hv
 subst hv
 exact ar9 [] (d1:= .tup [.sl false 1 (List.take ((List.map (d7 .u8) b5).length) (List.drop 0 (List.map (d7 .u8) b5))),.sl false 1 (List.take ((List.map (E0 1 (d7 .u8)) b6).length) (List.drop 0 (List.map (E0 1 (d7 .u8)) b6))),.int .i64 behind]) (d:= .tup [.sl false 1 (List.map (d7 .u8) b5),.sl false 1 (List.map (E0 1 (d7 .u8)) b6),.int .i64 behind]) (s1:= [some ⟨1,false,(List.map (d7 .u8) b0)⟩]) (s:= [some ⟨1,false,(List.map (d7 .u8) b0)⟩]) (by kernel_rfl) ⟨by simp [d8.enc,d8.l,i5.enc,i5.l,n5.enc,n5.l,q0.enc,q0.l,e9.enc,e9.l,Op.enc,Op.l,Plan.enc,Plan.l,C6.enc,C6.l,i6.enc,i6.l,n7.enc,n7.l,l8.enc,l8.l,d9.enc,d9.l,List.take_of_length_le,List.map_take,List.map_drop],rfl⟩ ⟨rfl,rfl⟩ Cx.fin_of
theorem cp7 {b0:List Int}{behind:Int}{b5:List Int}{b6:List (List Int)}{y:Int×af1}{Y:List (Int×af1)}{r:(List Int)×(List (List Int))×Int}{x:C8⊕((List Int)×(List (List Int))×Int)} (h:aQ1 b0 behind b5 b6 y Y=some x) (ha:z5 (ar6 b0) r x):L3 E (Cx.of Tryz.f85 false 1) (QW (Rs (S6 b0) r)) 5 (A4 [1,1,1,1,0,1,0]) [.blk 0,.code (A4 [1,1,1,1,1])] [(5,.ptr 1 0 0),(6,.ptr 2 0 0),(7,.ptr 3 0 0),(11,.fn 146 [] [.ptr 4 0 0])] [4,0] [some ⟨1,true,[[(f6 0 (List.map (d7 .u8) b0))]]⟩,some ⟨1,false,(List.map (d7 .u8) b0)⟩] (P1 y::List.map P1 Y) [some ⟨1,false,(List.map (d7 .u8) b0)⟩,some ⟨1,true,[[(f6 5 (List.map (d7 .u8) b5))]]⟩,some ⟨1,true,[[(f6 6 (List.map (E0 1 (d7 .u8)) b6))]]⟩,some ⟨1,false,[[.int .i64 behind]]⟩,some ⟨1,true,[[(f6 0 (List.map (d7 .u8) b0))]]⟩,some ⟨1,false,(List.map (d7 .u8) b5)⟩,some ⟨1,false,(List.map (E0 1 (d7 .u8)) b6)⟩]:=by
 unfold aQ1 at h
 refine aM7 ?_
 refine zn 4 h fun h=> ?_
 refine za 0 (d7 .u8) b5 ([y.2.kind]) ?_
 refine zn 2 h fun h=> ?_
 refine za 0 (E0 1 (d7 .u8)) b6 ([y.2.body]) ?_
 refine l5 hm 8 _ ?_
 obtain rfl:=Option.some.inj h
 exact aH6 [] (s1:= [some ⟨1,false,(List.map (d7 .u8) b0)⟩,some ⟨1,true,[[.msl 5 0 ((List.map (d7 .u8) (b5++ [y.2.kind])).length) ((List.map (d7 .u8) (b5++ [y.2.kind])).length) false]]⟩,some ⟨1,true,[[.msl 6 0 ((List.map (E0 1 (d7 .u8)) (b6++ [y.2.body])).length) ((List.map (E0 1 (d7 .u8)) (b6++ [y.2.body])).length) false]]⟩,some ⟨1,false,[[.int .i64 y.1]]⟩,some ⟨1,true,[[(f6 0 (List.map (d7 .u8) b0))]]⟩,some ⟨1,false,(List.map (d7 .u8) (b5++ [y.2.kind]))⟩,some ⟨1,false,(List.map (E0 1 (d7 .u8)) (b6++ [y.2.body]))⟩]) (s:= [some ⟨1,false,(List.map (d7 .u8) b0)⟩,some ⟨1,true,[[.msl 5 0 ((List.map (d7 .u8) (b5++ [y.2.kind])).length) ((List.map (d7 .u8) (b5++ [y.2.kind])).length) false]]⟩,some ⟨1,true,[[.msl 6 0 ((List.map (E0 1 (d7 .u8)) (b6++ [y.2.body])).length) ((List.map (E0 1 (d7 .u8)) (b6++ [y.2.body])).length) false]]⟩,some ⟨1,false,[[.int .i64 y.1]]⟩,some ⟨1,true,[[(f6 0 (List.map (d7 .u8) b0))]]⟩,some ⟨1,false,(List.map (d7 .u8) (b5++ [y.2.kind]))⟩,some ⟨1,false,(List.map (E0 1 (d7 .u8)) (b6++ [y.2.body]))⟩]) (by kernel_rfl) (rfl) (by kernel_rfl) ha
theorem cA0 {b0:List Int}{behind:Int}{b5:List Int}{b6:List (List Int)}{Y:List (Int×af1)}{r:(List Int)×(List (List Int))×Int}{x:C8⊕((List Int)×(List (List Int))×Int)} (h:bb5 b0 behind b5 b6 Y=some x) (ha:z5 (ar6 b0) r x):L3 E (Cx.of Tryz.f85 false 1) (QW (Rs (S6 b0) r)) 5 (A4 [1,1,1,1,0,1,0]) [.blk 0,.code (A4 [1,1,1,1,1])] [(5,.ptr 1 0 0),(6,.ptr 2 0 0),(7,.ptr 3 0 0),(11,.fn 146 [] [.ptr 4 0 0])] [4,0] [some ⟨1,true,[[(f6 0 (List.map (d7 .u8) b0))]]⟩,some ⟨1,false,(List.map (d7 .u8) b0)⟩] (List.map P1 Y) [some ⟨1,false,(List.map (d7 .u8) b0)⟩,some ⟨1,true,[[(f6 5 (List.map (d7 .u8) b5))]]⟩,some ⟨1,true,[[(f6 6 (List.map (E0 1 (d7 .u8)) b6))]]⟩,some ⟨1,false,[[.int .i64 behind]]⟩,some ⟨1,true,[[(f6 0 (List.map (d7 .u8) b0))]]⟩,some ⟨1,false,(List.map (d7 .u8) b5)⟩,some ⟨1,false,(List.map (E0 1 (d7 .u8)) b6)⟩]:=by
 cases Y with
 | nil=>exact cm3 h ha
 | cons y Y=>exact cp7 h ha
noncomputable def bS9 (b0:List Int):Option ((List Int)×(List (List Int))×Int):=U9 (W9 b0) (.s0)
theorem cY3 {b0:List Int}{r:(List Int)×(List (List Int))×Int} (h:Ev (W9 b0) (.s0) r):i0 E 85 [(f6 0 (List.map (d7 .u8) b0))] [some ⟨1,false,(List.map (d7 .u8) b0)⟩] (Rs (S6 b0) r):=
 am8 (m:=(aK6 b0) (.s0)) (fn:=Tryz.f85) (by kernel_rfl) (by kernel_rfl) (aW4 (Pd:=(ar6 b0)) (fun s x r hs ha=>by
  cases s with
  | s0=>exact cB8 hs ha
  | s1=>exact cv3 hs ha
  | s2=>exact cA0 hs ha) h)
theorem cW9 {b0:List Int}{r:(List Int)×(List (List Int))×Int} (h:bS9 b0=some r):i0 E 85 [(f6 0 (List.map (d7 .u8) b0))] [some ⟨1,false,(List.map (d7 .u8) b0)⟩] (Rs (S6 b0) r):=cY3 (bb7 h)
end Go.RX.L

namespace Go.RX.L
open Go Go.RX Go.Proofs
attribute [local irreducible] f5
noncomputable def cg3 (b1 fuse:Int) (down:Bool) (b3 b4 y:List Int):D×f3:=(.tup [],[some ⟨1,true,[[.ptr 2 0 0]]⟩,some ⟨1,false,[[.int .i64 b1]]⟩,some ⟨4,true,[[(f6 5 (List.map (d7 .u8) y)),.msl 4 0 0 0 false,.int .i64 fuse,.bool down]]⟩,some ⟨1,false,(List.map (d7 .u8) b3)⟩,some ⟨1,false,(List.map (d7 .u8) b4)⟩,some ⟨1,false,(List.map (d7 .u8) y)⟩])
noncomputable def ag5 (b1 fuse:Int) (down:Bool) (b3 b4:List Int):Option (List Int):=(bif ((decide (((0:Nat):Int)≤b1))&&(decide ((b1:Int)≤(((List.map (d7 .u8) b3).length:Nat):Int)))) then ((am5 b1.toNat ((List.map (d7 .u8) b3).length) b3).bind fun y2=>(some y2)) else none)
theorem bh2 {b1 fuse:Int}{down:Bool}{b3 b4 r:List Int} (h:ag5 b1 fuse down b3 b4=some r):i0 E 87 [.ptr 0 0 0,.ptr 1 0 0] [some ⟨1,true,[[.ptr 2 0 0]]⟩,some ⟨1,false,[[.int .i64 b1]]⟩,some ⟨4,true,[[(f6 3 (List.map (d7 .u8) b3)),.msl 4 0 0 0 false,.int .i64 fuse,.bool down]]⟩,some ⟨1,false,(List.map (d7 .u8) b3)⟩,some ⟨1,false,(List.map (d7 .u8) b4)⟩] (Rs (cg3 b1 fuse down b3 b4) r):=so (fn:=Tryz.f87) (k:=true) (m:=5) h<| by
 intro r h;unfold ag5 at h
 refine zn 5 h fun h=> ?_
 refine zdR 0 [] h (fun _=>bS8) fun y2 h=> ?_
 exact zu 3 h
end Go.RX.L

namespace Go.RX.L
open Go Go.RX Go.Proofs
attribute [local irreducible] f5
noncomputable def ai1:=n8 (p6 Tryz.f86)
noncomputable def aB7 (b2:Int) (b4:List Int) (y:Int×Int×Bool×(List Int)):D×f3:=(.int .i64 y.1,[some ⟨4,true,[[(f6 5 (List.map (d7 .u8) y.2.2.2)),.msl 6 0 0 0 false,.int .i64 y.2.1,.bool y.2.2.1]]⟩,some ⟨1,true,[[.ptr 0 0 0]]⟩,some ⟨1,false,[[.int .i64 b2]]⟩,none,none,some ⟨1,false,(List.map (d7 .u8) y.2.2.2)⟩,some ⟨1,false,(List.map (d7 .u8) b4)⟩])
abbrev aE2 (fuse:Int) (down:Bool) (b2:Int) (b3 b4:List Int):=AOk E (Cx.of Tryz.f86 true 5) (aB7 b2 b4)
noncomputable def bk2 (fuse:Int) (down:Bool) (b2:Int) (b3 b4:List Int) (fuse2:Int) (down2:Bool):M:=⟨[.code (ai1 [1,1])],[(0,.ptr 0 0 0),(1,.fn 87 [] [.ptr 1 0 0,.ptr 2 0 0])],[some ⟨4,true,[[(f6 3 (List.map (d7 .u8) b3)),.msl 4 0 0 0 false,.int .i64 fuse2,.bool down2]]⟩,some ⟨1,true,[[.ptr 0 0 0]]⟩,some ⟨1,false,[[.int .i64 b2]]⟩,some ⟨1,false,(List.map (d7 .u8) b3)⟩,some ⟨1,false,(List.map (d7 .u8) b4)⟩]⟩
noncomputable def H0 (fuse:Int) (down:Bool) (b2:Int) (b3 b4:List Int) (fuse2:Int) (down2:Bool):Option (Int×Int×Bool×(List Int)):=(bif down2 then (some (61,fuse2,down2,b3)) else (bif (decide ((fuse2:Int)>0)) then ((ag5 b2 (IntKind.i64.wrap (fuse2-1)) down2 b3 b4).bind fun y3=>(some (0,(IntKind.i64.wrap (fuse2-1)),down2,y3))) else ((ag5 b2 fuse2 down2 b3 b4).bind fun y4=>(some (0,fuse2,down2,y4)))))
theorem at7 {fuse down b2 b3 b4 fuse2 down2}:aE2 fuse down b2 b3 b4 (bk2 fuse down b2 b3 b4 fuse2 down2) (H0 fuse down b2 b3 b4 fuse2 down2):=by
 intro r h;unfold H0 at h
 refine zs 10 h (fun h=> ?_) fun h=> ?_
 ·
  refine zf 4 [.mv 3,.mv 4] ?_
  exact zu 1 h
 refine zs 12 h (fun h=> ?_) fun h=> ?_
 ·
  refine zc 17 [] h (fun _=>bh2) fun y3 h=> ?_
  refine zf 5 [.mv 3,.mv 4] ?_
  exact zu 1 h
 refine zc 5 [] h (fun _=>bh2) fun y4 h=> ?_
 refine zf 5 [.mv 3,.mv 4] ?_
 exact zu 1 h
noncomputable def bj4 (fuse:Int) (down:Bool) (b2:Int) (b3 b4:List Int) (t16:Bool):M:=⟨[.code (ai1 [1,0,1]),.code (ai1 [1,1])],[(0,.ptr 0 0 0),(1,.fn 87 [] [.ptr 1 0 0,.ptr 2 0 0]),(16,.bool t16)],[some ⟨4,true,[[(f6 3 (List.map (d7 .u8) b3)),.msl 4 0 0 0 false,.int .i64 fuse,.bool down]]⟩,some ⟨1,true,[[.ptr 0 0 0]]⟩,some ⟨1,false,[[.int .i64 b2]]⟩,some ⟨1,false,(List.map (d7 .u8) b3)⟩,some ⟨1,false,(List.map (d7 .u8) b4)⟩]⟩
noncomputable def H1 (fuse:Int) (down:Bool) (b2:Int) (b3 b4:List Int) (t16:Bool):Option (Int×Int×Bool×(List Int)):=(bif t16 then (H0 fuse down b2 b3 b4 (-1) true) else (H0 fuse down b2 b3 b4 fuse down))
theorem at6 {fuse down b2 b3 b4 t16}:aE2 fuse down b2 b3 b4 (bj4 fuse down b2 b3 b4 t16) (H1 fuse down b2 b3 b4 t16):=by
 intro r h;unfold H1 at h
 refine zs 1 h (fun h=> ?_) fun h=> ?_
 ·
  exact zg 14 (at7 h)
 exact zg 1 (at7 h)
noncomputable def Y2 (fuse:Int) (down:Bool) (b2:Int) (b3 b4:List Int):Option (Int×Int×Bool×(List Int)):=(bif (!down) then (H1 fuse down b2 b3 b4 ((fuse:Int)==0)) else (H1 fuse down b2 b3 b4 false))
theorem bm5 {fuse:Int}{down:Bool}{b2:Int}{b3 b4:List Int}{r:Int×Int×Bool×(List Int)} (h:Y2 fuse down b2 b3 b4=some r):i0 E 86 [.ptr 0 0 0,.fn 87 [] [.ptr 1 0 0,.ptr 2 0 0]] [some ⟨4,true,[[(f6 3 (List.map (d7 .u8) b3)),.msl 4 0 0 0 false,.int .i64 fuse,.bool down]]⟩,some ⟨1,true,[[.ptr 0 0 0]]⟩,some ⟨1,false,[[.int .i64 b2]]⟩,some ⟨1,false,(List.map (d7 .u8) b3)⟩,some ⟨1,false,(List.map (d7 .u8) b4)⟩] (Rs (aB7 b2 b4) r):=so (fn:=Tryz.f86) (k:=true) (m:=5) h<| by
 intro r h;unfold Y2 at h
 refine zs 15 h (fun h=> ?_) fun h=> ?_
 ·
  exact zg 12 (at6 h)
 exact zg 11 (at6 h)
end Go.RX.L

namespace Go.RX.L
open Go Go.RX Go.Proofs
attribute [local irreducible] f5
noncomputable def cv9 (y:(List Int)×(List (List Int))×Int×Int×Bool×(List Int)×(List Int)):D×f3:=(.tup [.sl false 1 (List.map (d7 .u8) y.1),.sl false 1 (List.map (E0 1 (d7 .u8)) y.2.1),.int .i64 y.2.2.1],[some ⟨4,true,[[(f6 3 (List.map (d7 .u8) y.2.2.2.2.2.1)),(f6 4 (List.map (d7 .u8) y.2.2.2.2.2.2)),.int .i64 y.2.2.2.1,.bool y.2.2.2.2.1]]⟩,none,none,some ⟨1,false,(List.map (d7 .u8) y.2.2.2.2.2.1)⟩,some ⟨1,false,(List.map (d7 .u8) y.2.2.2.2.2.2)⟩])
noncomputable def Z6 (fuse:Int) (down:Bool) (b1 b2:List Int):Option ((List Int)×(List (List Int))×Int×Int×Bool×(List Int)×(List Int)):=((bS9 b1).bind fun y1=>(bif (decide ((y1.2.2:Int)<(((List.map (d7 .u8) b1).length:Nat):Int))) then ((Y2 fuse false y1.2.2 b1 ([])).bind fun y3=>(bif ((y3.1:Int) !=0) then (some ([],[],y3.1,y3.2.1,y3.2.2.1,y3.2.2.2,([]))) else (some (y1.1,y1.2.1,0,y3.2.1,y3.2.2.1,y3.2.2.2,([]))))) else (some (y1.1,y1.2.1,0,fuse,false,b1,[]))))
theorem bw5 {fuse:Int}{down:Bool}{b1 b2:List Int}{r:(List Int)×(List (List Int))×Int×Int×Bool×(List Int)×(List Int)} (h:Z6 fuse down b1 b2=some r):i0 E 53 [.ptr 0 0 0] [some ⟨4,true,[[(f6 1 (List.map (d7 .u8) b1)),(f6 2 (List.map (d7 .u8) b2)),.int .i64 fuse,.bool down]]⟩,some ⟨1,false,(List.map (d7 .u8) b1)⟩,some ⟨1,false,(List.map (d7 .u8) b2)⟩] (Rs cv9 r):=so (fn:=Tryz.f53) (k:=true) (m:=3) h<| by
 intro r h;unfold Z6 at h
 refine zc 24 [] h (fun _=>cW9) fun y1 h=> ?_
 refine zs 18 h (fun h=> ?_) fun h=> ?_
 ·
  refine zcx 6 [] [.matc 0 0 1 1] h (fun _=>bm5) (fun y3 h=> ?_)
  refine zs 8 h (fun h=> ?_) fun h=> ?_
  ·
   refine zf 7 [.mv 2] ?_
   exact zu 1 h [.slot 0 [some 1,some 1]]
  refine zf 9 [.mv 2] ?_
  exact zu 1 h
 refine zf 9 [.matc 0 0 1 1,.mv 1,.mv 2] ?_
 exact zu 1 h
end Go.RX.L

namespace Go.RX.L
open Go Go.RX
theorem cP4 (P r:List Int) (k:Nat):List.drop (P.length+k) (P++r)=r.drop k:=by
 rw [List.drop_append,List.drop_of_length_le (by omega),List.nil_append];congr 1;omega
theorem ea3 (P r:List Int) (k:Nat):(P++r)[P.length+k]? =r[k]? :=by
 rw [List.getElem?_append_right (by omega)];congr 1;omega
theorem dR2 {b:List Int}{at_ ln cp:Nat} (h:at_+ln≤b.length) (hm:b.length≤F6):aC6 at_ ln cp b=some ((b.drop at_).take ln):=by
 have e:(List.take ln (List.drop at_ (List.map (d7 .u8) b))).length=ln:=by simp;omega
 have c:decide ((0+ln)*1≤i7)=true:=D3 (by simp only [F6] at hm;omega)
 simp only [aC6,e,show Nat.beq ln ln=true from Nat.beq_refl ln,cond_true,c,List.nil_append]
theorem dP5 {b:List Int}{ln cp:Nat} (h:ln≤b.length) (hm:b.length≤F6):am5 ln cp b=some (b.take ln):=by
 have e:(List.take ln (List.drop 0 (List.map (d7 .u8) b))).length=ln:=by simp;omega
 have c:decide ((0+ln)*1≤i7)=true:=D3 (by simp only [F6] at hm;omega)
 unfold am5
 rw [e]
 simp only [show Nat.beq ln ln=true from Nat.beq_refl ln,cond_true,c,List.nil_append,List.drop_zero]
theorem bc4 (at_:Int) (b:List Int) (e n:Int) (x y z:Nat) (h:e≠0):P8 at_ b e n x y z=some (0,[],0,e):=by
 have:(e !=0)=true:=by simp [h]
 simp only [P8,this,cond_true]
theorem dG3 {P rest:List Int} (hb:r6 rest) (hm:P.length+rest.length≤F6) (h0:rest= []∨rest.head? =some 247):ag0 P.length (P++rest) P.length rest.length rest.length false=some (rF P.length (pF rest)):=by
 have hm0:=hm
 simp only [F6] at hm
 have w1:IntKind.i64.wrap (IntKind.i64.wrap (((rest.length:Nat):Int)-4)-4)=(rest.length:Int)-8:=by
  rw [u4 (n:=((rest.length:Nat):Int)-4) (by omega) (by omega),u4 (by omega) (by omega)];omega
 by_cases h8:rest.length<8
 ·have c1:decide (((rest.length:Nat):Int)<8)=true:=by simp;omega
  have e:pF rest= .inl 31:=by
   rcases h0 with rfl | h0
   ·rfl
   ·cases rest with
    | nil=>rfl
    | cons m l=>
     obtain rfl:=Option.some.inj h0
     exact dD5 (by simp at h8;omega)
  simp only [ag0,cond_false,c1,cond_true,bc4 _ _ _ _ _ _ _ (by decide:(31:Int)≠0),e,rF]
 ·have c1:decide (((rest.length:Nat):Int)<8)=false:=by simp;omega
  have c2:decide ((4:Int)≤((rest.length:Nat):Int))=true:=by simp;omega
  have hx:∃k a c r,rest=247::k::a::c::r:=by
   match rest,h8,h0 with
   | m::k::a::c::r,_,h0=>
    rcases h0 with h0 | h0
    ·cases h0
    ·obtain rfl:=Option.some.inj h0;exact ⟨k,a,c,r,rfl⟩
   | [],h,_=>simp at h
   | [_],h,_=>simp at h
   | [_,_],h,_=>simp at h
   | [_,_,_],h,_=>simp at h
  obtain ⟨k,a',c',r,hrest⟩:=hx
  have ha:=hb a' (by simp [hrest])
  have hc:=hb c' (by simp [hrest])
  obtain ⟨a,rfl⟩:=Int.eq_ofNat_of_zero_le ha.1
  obtain ⟨c,rfl⟩:=Int.eq_ofNat_of_zero_le hc.1
  have hbr:r6 r:=fun x hx=>hb x (by simp [hrest,hx])
  have hk:=hb k (by simp [hrest])
  have hlr:rest.length=r.length+4:=by rw [hrest];simp
  have hr4:4≤r.length:=by omega
  have n1:aF1 [(a:Int),(c:Int)]=some ((a*256+c:Nat):Int):=by
   have:=cG8 (b:= [(a:Int),(c:Int)]) (fun x hx=>by simp only [List.mem_cons,List.not_mem_nil,or_false] at hx;rcases hx with rfl | rfl<;>assumption) (by simp)
   rw [this];simp [P4]
  have d1:List.take 2 (List.drop (P.length+2) (P++rest))= [(a:Int),(c:Int)]:=by rw [cP4,hrest];simp
  have b1:Nat.ble (P.length+2+2) (List.map (d7 .u8) (P++rest)).length=true:=by simp;omega
  generalize hn:a*256+c=n at*
  simp only [ag0,cond_false,c1,c2,cond_true,b1,d1,n1,Option.bind_some,w1]
  by_cases hbig:8192<n
  ·have c3:decide ((n:Int)>8192)=true:=by simp;omega
   rw [hrest,dL1 hr4 (by omega)]
   simp only [c3,cond_true,bc4 _ _ _ _ _ _ _ (by decide:(2:Int)≠0),rF]
  ·have c3:decide ((n:Int)>8192)=false:=by simp;omega
   by_cases hs:r.length<n+4
   ·have c4:decide ((n:Int)>(rest.length:Int)-8)=true:=by simp;omega
    have e:pF rest= .inl 31:=by rw [hrest];exact dN9 hr4 (by omega) (by omega)
    rw [e]
    simp only [c3,c4,cond_true,cond_false,bc4 _ _ _ _ _ _ _ (by decide:(31:Int)≠0),rF]
   ·have c4:decide ((n:Int)>(rest.length:Int)-8)=false:=by simp;omega
    have w2:IntKind.i64.wrap ((4:Int)+(n:Int))=((n+4:Nat):Int):=by rw [u4 (by omega) (by omega)];omega
    have w3:IntKind.i64.wrap (((n+4:Nat):Int)+4)=((n+8:Nat):Int):=by rw [u4 (by omega) (by omega)];omega
    have c5:(decide (((0:Nat):Int)≤((n+4:Nat):Int))&&decide (((n+4:Nat):Int)≤(rest.length:Int)))=true:=by simp;omega
    have c6:decide ((1:Int)≤(((n+4:Nat):Nat):Int))=true:=by simp;omega
    have c6' :decide ((4:Int)≤(((n+4:Nat):Nat):Int))=true:=by simp;omega
    have c7:(decide (((0:Nat):Int)≤((n+8:Nat):Int))&&decide (((n+8:Nat):Int)≤(rest.length:Int)))=true:=by simp;omega
    have c8:(decide (((0:Nat):Int)≤((n+4:Nat):Int))&&decide (((n+4:Nat):Int)≤((n+8:Nat):Int)))=true:=by simp;omega
    have b2:Nat.ble (P.length+1+(n+4-1)) (List.map (d7 .u8) (P++rest)).length=true:=by simp;omega
    have b3:Nat.ble (P.length+(n+4)+(n+8-(n+4))) (List.map (d7 .u8) (P++rest)).length=true:=by simp;omega
    have d2:List.take (n+4-1) (List.drop (P.length+1) (P++rest))=(k::(a:Int)::(c:Int)::r).take (n+3):=by rw [cP4,hrest];simp
    have d3:List.take (n+8-(n+4)) (List.drop (P.length+(n+4)) (P++rest))=(r.drop n).take 4:=by
     rw [cP4,hrest,show n+8-(n+4)=4 by omega];rfl
    have d4:List.take (n+4-4) (List.drop (P.length+4) (P++rest))=r.take n:=by rw [cP4,hrest];simp
    have hs1:=do4 (b:=(k::(a:Int)::(c:Int)::r).take (n+3)) (cD1 (fun x hx=>hb x (by rw [hrest];exact List.mem_cons_of_mem _ hx)) _) (by rw [List.length_take];omega)
    have hs2:=cG8 (b:=(r.drop n).take 4) (cD1 (aX8 hbr _) _) (by rw [List.length_take];omega)
    have hcl:=cQ4 ((k::(a:Int)::(c:Int)::r).take (n+3))
    have ew:pF rest=if crc ((k::(a:Int)::(c:Int)::r).take (n+3))≠P4 0 ((r.drop n).take 4) then .inl 33 else .inr (k,r.take n,n+8):=by
     rw [hrest,dy1 hr4 (by omega) (by omega),hn]
    rw [ew]
    simp only [c3,c4,cond_true,cond_false,w2,w3,c5,c6,c7,c8,b2,b3,Int.toNat_natCast,d2,d3,hs1,hs2,Option.bind_some,u4 (n:=((crc ((k::(a:Int)::(c:Int)::r).take (n+3)):Nat):Int)) (by omega) (by omega)]
    by_cases hq:crc ((k::(a:Int)::(c:Int)::r).take (n+3))=P4 0 ((r.drop n).take 4)
    ·have q1:((((crc ((k::(a:Int)::(c:Int)::r).take (n+3)):Nat):Int)) !=((P4 0 ((r.drop n).take 4):Nat):Int))=false:=by rw [hq];simp
     rw [q1,if_neg (by simpa using hq)]
     have c9:decide ((1:Int)<(rest.length:Int))=true:=by simp;omega
     have w4:IntKind.i64.wrap (IntKind.i64.wrap (IntKind.i64.wrap ((P.length:Int)+4)+(n:Int))+4)=((P.length+(n+8):Nat):Int):=by
      rw [u4 (n:=(P.length:Int)+4) (by omega) (by omega),u4 (n:=(P.length:Int)+4+(n:Int)) (by omega) (by omega),u4 (by omega) (by omega)];omega
     have cl:=dR2 (b:=P++rest) (at_:=P.length+4) (ln:=n+4-4) (cp:=rest.length-4) (by simp;omega) (by simp;omega)
     have g1:(P++rest)[P.length+1]? =some k:=by rw [ea3,hrest];rfl
     simp only [cond_false,P8,bne_self_eq_false,c9,cond_true,g1,Option.bind_some,w2,c5,c6',Int.toNat_natCast,cl,d4,w4,rF]
    ·have q1:((((crc ((k::(a:Int)::(c:Int)::r).take (n+3)):Nat):Int)) !=((P4 0 ((r.drop n).take 4):Nat):Int))=true:=bne_iff_ne.2 fun h=>hq (Int.ofNat.inj h)
     rw [q1,if_pos (by simpa using hq)]
     simp only [cond_true,bc4 _ _ _ _ _ _ _ (by decide:(33:Int)≠0),rF]
theorem dR7 {P rest:List Int} (hb:r6 rest) (hm:P.length+rest.length≤F6):bc2 P.length (P++rest)=some (rF P.length (pF rest)):=by
 have hm' :=hm
 simp only [F6] at hm'
 have c1:decide ((P.length:Int)<0)=false:=by simp
 have c2:decide ((P.length:Int)>(((P++rest).length:Nat):Int))=false:=by simp;omega
 have c3:(decide (((0:Nat):Int)≤(P.length:Int))&&decide ((P.length:Int)≤(((P++rest).length:Nat):Int)))=true:=by simp;omega
 have e1:(P++rest).length-P.length=rest.length:=by simp
 simp only [bc2,c1,cond_false,List.length_map,c2,aJ8,c3,cond_true,Int.toNat_natCast,e1,Nat.zero_add]
 cases rest with
 | nil=>
  have:=dG3 (P:=P) (rest:= []) hb hm (.inl rfl)
  exact this
 | cons m l=>
  have c4:decide ((((m::l).length:Nat):Int)>0)=true:=by simp
  have c5:decide ((0:Int)<(((m::l).length:Nat):Int))=true:=by simp
  have g0:(P++m::l)[P.length]? =some m:=by simp
  simp only [c4,c5,cond_true,g0,Option.bind_some]
  by_cases hq:m=247
  ·subst hq
   exact dG3 hb hm (.inr rfl)
  ·have:(m !=247)=true:=by simp [hq]
   rw [this,dB6 hq]
   simp only [ag0,cond_true,bc4 _ _ _ _ _ _ _ (by decide:(32:Int)≠0),rF]
/-! ### frames, one behind the other -/
/-- A frame: its kind, its body. -/
abbrev Fr1 := Int × List Int
def bU3 (x:Fr1):Prop:=(0≤x.1∧x.1≤255)∧r6 x.2∧x.2.length≤8192
def J9:List Fr1→List Int
 | []=> []
 | x::l=>G3 x.1 x.2++J9 l
theorem dP9 (a b:List Fr1):J9 (a++b)=J9 a++J9 b:=by
 induction a with
 | nil=>rfl
 | cons x a ih=>simp [J9,ih]
theorem cI3 {l:List Fr1} (h:∀x∈l,bU3 x):r6 (J9 l):=by
 induction l with
 | nil=>intro c hc;simp [J9] at hc
 | cons x l ih=>
  intro c hc
  simp only [J9,List.mem_append] at hc
  obtain ⟨h1,h2,h3⟩:=h x (by simp)
  rcases hc with hc | hc
  ·exact bE7 h1 h2 (by omega) c hc
  ·exact ih (fun y hy=>h y (by simp [hy])) c hc
def bi9:List Int→List Fr1→List (Int×af1)
 | _,[]=> []
 | P,x::l=>(((P++G3 x.1 x.2).length:Int),⟨x.1,x.2⟩)::bi9 (P++G3 x.1 x.2) l
theorem dH3 {J:List Int}{e:Int} (hJ:pF J= .inl e) (hJb:r6 J):∀(l:List Fr1) (P:List Int),(∀x∈l,bU3 x)→P.length+(J9 l++J).length≤F6→EvL U0 (.s1 P.length (P++(J9 l++J))) (bi9 P l)
 | [],P,hl,hm=>by
  refine .done ?_
  have:=dR7 (P:=P) (rest:=J) hJb (by simpa [J9] using hm)
  have he:(e !=0)=true:=by
   have:=dU1 hJ
   rcases this with rfl | rfl | rfl | rfl<;>rfl
  simp only [U0,as2,J9,List.nil_append,this,hJ,rF,Option.bind_some,he,cond_true,bi9]
 | x::l,P,hl,hm=>by
  obtain ⟨h1,h2,h3⟩:=hl x (by simp)
  have hl' :∀y∈l,bU3 y:=fun y hy=>hl y (by simp [hy])
  have hb:r6 (J9 (x::l)++J):=fun c hc=>by
   rcases List.mem_append.1 hc with hc | hc
   ·exact cI3 hl c hc
   ·exact hJb c hc
  have hg:=dR7 (P:=P) hb hm
  have hpf:pF (J9 (x::l)++J)= .inr (x.1,x.2,x.2.length+8):=by
   simp only [J9,List.append_assoc]
   exact cS6 h1 h2 h3 _
  rw [hpf] at hg
  have hlen:((P++G3 x.1 x.2).length:Int)=((P.length+(x.2.length+8):Nat):Int):=by simp [aN6]
  have ih:=dH3 hJ hJb l (P++G3 x.1 x.2) hl' (by simp [J9] at hm ⊢;omega)
  refine EvL.next (l:= [(((P++G3 x.1 x.2).length:Int),(⟨x.1,x.2⟩:af1))]) (s' :=K2.s1 (P++G3 x.1 x.2).length (P++(J9 (x::l)++J))) ?_ ?_
  ·simp only [U0,as2,hg,rF,Option.bind_some,bne_self_eq_false,cond_false,Option.map_some,List.nil_append,hlen]
  ·rw [show P++(J9 (x::l)++J)=P++G3 x.1 x.2++(J9 l++J) by simp [J9]]
   exact ih
theorem cF9 {b:List Int}:∀(l:List Fr1) (P:List Int) (ks:List Int) (bs:List (List Int)),(∀x∈l,bU3 x)→ks.length=bs.length→bs.length+l.length≤1000000000→
  Ev (W9 b) (.s2 (P.length:Int) ks bs (bi9 P l)) (ks++l.map (·.1),bs++l.map (·.2),((P++J9 l).length:Int))
 | [],P,ks,bs,hl,h1,h2=> .done (by simp [W9,bb5,aP4,bi9,J9])
 | x::l,P,ks,bs,hl,h1,h2=>by
  have ih:=cF9 (b:=b) l (P++G3 x.1 x.2) (ks++ [x.1]) (bs++ [x.2]) (fun y hy=>hl y (by simp [hy])) (by simp [h1]) (by simp at h2 ⊢;omega)
  simp only [List.length_cons] at h2
  have l1:decide ((ks.length+1)*1≤i7)=true:=D3 (by omega)
  have l2:decide ((bs.length+1)*24≤i7)=true:=D3 (by omega)
  refine .next (s' :=C8.s2 ((P++G3 x.1 x.2).length:Int) (ks++ [x.1]) (bs++ [x.2]) (bi9 (P++G3 x.1 x.2) l)) ?_ ?_
  ·simp only [W9,bb5,bi9,aQ1,List.length_map,l1,l2,cond_true]
  ·simpa [J9] using ih
theorem ea6 {l:List Fr1}{J:List Int}{e:Int} (hl:∀x∈l,bU3 x) (hJ:pF J= .inl e) (hJb:r6 J) (hm:(J9 l++J).length≤10000000):bS9 (J9 l++J)=some (l.map (·.1),l.map (·.2),((J9 l).length:Int)):=by
 have hn:l.length≤(J9 l).length:=by
  clear hm hl
  induction l with
  | nil=>simp [J9]
  | cons x l ih=>simp [J9,aN6];omega
 have h1:=dH3 hJ hJb l [] hl (by simp only [F6];simp at hm ⊢;omega)
 have h2:=cF9 (b:=J9 l++J) l [] [] [] hl rfl (by simp at hm ⊢;omega)
 have e1:aQ3 (J9 l++J)=some (bi9 [] l):=bC6 (EvL.next (l:= []) (s' :=K2.s1 0 (J9 l++J)) (by simp [U0,aF8]) (by simpa using h1))
 refine u0 (.next (s' :=C8.s1 0 [] []) ?_ (.next (s' :=C8.s2 0 [] [] (bi9 [] l)) ?_ ?_))
 ·simp only [W9,bb3,bj8,Option.bind_some]
 ·simp only [W9,ba3,e1,Option.bind_some]
 ·simpa using h2
end Go.RX.L

namespace Go.RX.L
open Go Go.RX Go.Proofs
attribute [local irreducible] f5
noncomputable def cc5 (y:(List Int)×l8):D×f3:=(.sl false 1 (List.map (d7 .i64) y.1),[some ⟨3,false,[(l8.enc y.2)]⟩])
noncomputable def aa1 (b0:l8):Option ((List Int)×l8):=(bif ((b0.place.e:Int) !=0) then (some ([],b0)) else ((aO4 b0.b b0.place.at_).bind fun y2=>(some (y2.1,(⟨(⟨y2.2.1,y2.2.2⟩:bc0),b0.b⟩:l8)))))
theorem bd3 {b0:l8}{r:(List Int)×l8} (h:aa1 b0=some r):i0 E 89 [.ptr 0 0 0] [some ⟨3,false,[(l8.enc b0)]⟩] (Rs cc5 r):=so (fn:=Tryz.f89) (k:=false) (m:=1) h<| by
 intro r h;unfold aa1 at h
 refine zs 16 h (fun h=> ?_) fun h=> ?_
 ·
  exact zu 5 h [.slot 0 [some 1]]
 refine zd 9 [] h (fun _=>bS1) fun y2 h=> ?_
 exact zu 10 h
end Go.RX.L

namespace Go.RX.L
open Go Go.RX Go.Proofs
attribute [local irreducible] f5
noncomputable def db6 (y:(List Int)×Int×Int):D×f3:=(.tup [.sl false 1 (List.map (d7 .u8) y.1),.int .i64 y.2.1,.int .i64 y.2.2],[])
noncomputable def al8 (b:List Int) (at_:Int):Option ((List Int)×Int×Int):=((J3 b at_ 4096).bind fun y1=>(bif ((y1.2.2:Int) !=0) then (some ([],0,y1.2.2)) else (bif (decide ((y1.1:Int)>(IntKind.i64.wrap ((((List.map (d7 .u8) b).length:Nat):Int)-y1.2.1)))) then (some ([],0,11)) else (bif ((decide (((0:Nat):Int)≤(IntKind.i64.wrap (y1.2.1+y1.1))))&&(decide (((IntKind.i64.wrap (y1.2.1+y1.1)):Int)≤(((List.map (d7 .u8) b).length:Nat):Int)))) then (bif ((decide (((0:Nat):Int)≤y1.2.1))&&(decide ((y1.2.1:Int)≤(((IntKind.i64.wrap (y1.2.1+y1.1)).toNat:Nat):Int)))) then (bif (decide (((List.map (d7 .u8) (List.drop y1.2.1.toNat (List.take ((IntKind.i64.wrap (y1.2.1+y1.1)).toNat) b))).length)*1≤i7)) then (some ((List.drop y1.2.1.toNat (List.take ((IntKind.i64.wrap (y1.2.1+y1.1)).toNat) b)),(IntKind.i64.wrap (y1.2.1+y1.1)),0)) else none) else none) else none))))
theorem cV9 {b:List Int}{at_:Int}{r:(List Int)×Int×Int} (h:al8 b at_=some r):i0 E 120 [.sl false 1 (List.map (d7 .u8) b),.int .i64 at_] [] (Rs db6 r):=so (fn:=Tryz.f120) (k:=false) (m:=0) h<| by
 intro r h;unfold al8 at h
 refine zc 11 [] h (fun _=>bM3) fun y1 h=> ?_
 refine zs 17 h (fun h=> ?_) fun h=> ?_
 ·
  exact zu 8 h [.slot 0 [some 1]]
 refine zs 11 h (fun h=> ?_) fun h=> ?_
 ·
  exact zu 7 h [.slot 0 [some 1]]
 refine zn 10 h fun h=> ?_
 refine zn 0 h fun h=> ?_
 refine zw 0 (a:=(List.drop y1.2.1.toNat (List.take ((IntKind.i64.wrap (y1.2.1+y1.1)).toNat) (List.map (d7 .u8) b)))) (b:=(List.map (d7 .u8) (List.drop y1.2.1.toNat (List.take ((IntKind.i64.wrap (y1.2.1+y1.1)).toNat) b)))) (ci0 _ _ _ _) ?_
 refine zn 1 h fun h=> ?_
 refine zm 9 (b:=(Nat.ble (0+(List.map (d7 .u8) (List.drop y1.2.1.toNat (List.take ((IntKind.i64.wrap (y1.2.1+y1.1)).toNat) b))).length) ((List.map (d7 .u8) (List.drop y1.2.1.toNat (List.take ((IntKind.i64.wrap (y1.2.1+y1.1)).toNat) b))).length))) (u7 _) ?_
 obtain rfl:=Option.some.inj h
 exact ar9 [] (d1:= .tup [.sl false 1 (List.take ((List.map (d7 .u8) (List.drop y1.2.1.toNat (List.take ((IntKind.i64.wrap (y1.2.1+y1.1)).toNat) b))).length) (List.drop 0 (List.map (d7 .u8) (List.drop y1.2.1.toNat (List.take ((IntKind.i64.wrap (y1.2.1+y1.1)).toNat) b))))),.int .i64 (IntKind.i64.wrap (y1.2.1+y1.1)),.int .i64 0]) (d:= .tup [.sl false 1 (List.map (d7 .u8) (List.drop y1.2.1.toNat (List.take ((IntKind.i64.wrap (y1.2.1+y1.1)).toNat) b))),.int .i64 (IntKind.i64.wrap (y1.2.1+y1.1)),.int .i64 0]) (s1:= []) (s:= []) (by kernel_rfl) ⟨by simp [d8.enc,d8.l,i5.enc,i5.l,n5.enc,n5.l,q0.enc,q0.l,e9.enc,e9.l,Op.enc,Op.l,Plan.enc,Plan.l,C6.enc,C6.l,i6.enc,i6.l,n7.enc,n7.l,l8.enc,l8.l,d9.enc,d9.l,List.take_of_length_le,List.map_take,List.map_drop],rfl⟩ ⟨rfl,rfl⟩ Cx.fin_of
end Go.RX.L

namespace Go.RX.L
open Go Go.RX Go.Proofs
attribute [local irreducible] f5
noncomputable def cb7 (y:(List Int)×l8):D×f3:=(.sl false 1 (List.map (d7 .u8) y.1),[some ⟨3,false,[(l8.enc y.2)]⟩])
noncomputable def H8 (b0:l8):Option ((List Int)×l8):=(bif ((b0.place.e:Int) !=0) then (some ([],b0)) else ((al8 b0.b b0.place.at_).bind fun y2=>(some (y2.1,(⟨(⟨y2.2.1,y2.2.2⟩:bc0),b0.b⟩:l8)))))
theorem aB5 {b0:l8}{r:(List Int)×l8} (h:H8 b0=some r):i0 E 91 [.ptr 0 0 0] [some ⟨3,false,[(l8.enc b0)]⟩] (Rs cb7 r):=so (fn:=Tryz.f91) (k:=false) (m:=1) h<| by
 intro r h;unfold H8 at h
 refine zs 16 h (fun h=> ?_) fun h=> ?_
 ·
  exact zu 5 h [.slot 0 [some 1]]
 refine zd 9 [] h (fun _=>cV9) fun y2 h=> ?_
 exact zu 10 h
end Go.RX.L

namespace Go.RX.L
open Go Go.RX Go.Proofs
attribute [local irreducible] f5
noncomputable def an7:=n8 (p6 Tryz.f58)
noncomputable def cd0 (y:Bool):D×f3:=(.bool y,[])
abbrev bx4:=AOk E (Cx.of Tryz.f58 false 0) cd0
noncomputable def cV1 (t30:Bool) (m:e9):M:=⟨[.code (an7 [1,0,0,1,1,1]),.blk 0,.code (an7 [1,1])],[(1,.ptr 0 0 0),(30,.bool t30)],[some ⟨26,false,[(e9.enc m)]⟩]⟩
noncomputable def af8 (t30:Bool) (m:e9):Option Bool:=(bif t30 then (some false) else (bif m.HasPlan then ((ae6 m.Plan).bind fun y3=>(some y3)) else ((aO3 m.Plan (⟨0,0,0,0,0,0,0,0,0,0,[],[]⟩:Plan)).bind fun y4=>(some y4))))
theorem aY4 {t30 m}:bx4 (cV1 t30 m) (af8 t30 m):=by
 intro r h;unfold af8 at h
 refine zs 1 h (fun h=> ?_) fun h=> ?_
 ·
  exact zu 5 h
 refine zs 8 h (fun h=> ?_) fun h=> ?_
 ·
  refine zc 6 [] h (fun _=>ax0) fun y3 h=> ?_
  exact zu 3 h
 refine zc 9 [some 1,some 1] h (fun _=>cS5) fun y4 h=> ?_
 exact zu 3 h
noncomputable def cS4 (t30:Bool) (m:e9):M:=⟨[.code (an7 [1,0,0,1,1,0,1]),.code (an7 [1,0,0,1,1,1]),.blk 0,.code (an7 [1,1])],[(1,.ptr 0 0 0),(30,.bool t30)],[some ⟨26,false,[(e9.enc m)]⟩]⟩
noncomputable def ao6 (t30:Bool) (m:e9):Option Bool:=(bif t30 then (af8 t30 m) else (bif (decide (((((List.map (d7 .u8) m.Session).length:Nat):Int):Int)>64)) then (af8 (decide (((((List.map (d7 .u8) m.Session).length:Nat):Int):Int)>64)) m) else (af8 (decide (((((List.map (d7 .u8) m.Payload).length:Nat):Int):Int)>1024)) m)))
theorem by9 {t30 m}:bx4 (cS4 t30 m) (ao6 t30 m):=by
 intro r h;unfold ao6 at h
 refine zs 1 h (fun h=> ?_) fun h=> ?_
 ·
  exact zg 1 (aY4 h)
 refine zs 10 h (fun h=> ?_) fun h=> ?_
 ·
  exact zg 1 (aY4 h)
 exact zg 8 (aY4 h)
noncomputable def da4 (t3:Bool) (m:e9):M:=⟨[.code (an7 [1,0,0,1]),.blk 0,.code (an7 [1,1])],[(1,.ptr 0 0 0),(3,.bool t3)],[some ⟨26,false,[(e9.enc m)]⟩]⟩
noncomputable def P5 (t3:Bool) (m:e9):Option Bool:=(bif t3 then (some false) else (bif (decide (((((List.map (d7 .i64) m.ID).length:Nat):Int):Int)>0)) then (ao6 (((((List.map (d7 .i64) m.ID).length:Nat):Int):Int) !=3) m) else (ao6 false m)))
theorem ag3 {t3 m}:bx4 (da4 t3 m) (P5 t3 m):=by
 intro r h;unfold P5 at h
 refine zs 1 h (fun h=> ?_) fun h=> ?_
 ·
  exact zu 5 h
 refine zs 10 h (fun h=> ?_) fun h=> ?_
 ·
  exact zg 11 (by9 h)
 exact zg 10 (by9 h)
noncomputable def an6 (m:e9):Option Bool:=(bif (decide ((m.Kind:Int)<1)) then (P5 (decide ((m.Kind:Int)<1)) m) else (bif (decide ((m.Kind:Int)>19)) then (P5 (decide ((m.Kind:Int)>19)) m) else (bif (decide (((z9 (z9 m.From m.To) m.Code):Int)<0)) then (P5 (decide (((z9 (z9 m.From m.To) m.Code):Int)<0)) m) else (bif (decide (((u5 m.From m.To):Int)>255)) then (P5 (decide (((u5 m.From m.To):Int)>255)) m) else (bif (decide ((m.Code:Int)>1000)) then (P5 (decide ((m.Code:Int)>1000)) m) else (P5 (decide ((m.Up:Int)≥65536)) m))))))
theorem br1 {m:e9}{r:Bool} (h:an6 m=some r):i0 E 58 [.agg (e9.enc m)] [] (Rs cd0 r):=so (fn:=Tryz.f58) (k:=false) (m:=0) h<| by
 intro r h;unfold an6 at h
 refine zs 17 h (fun h=> ?_) fun h=> ?_
 ·
  exact zg 1 (ag3 h)
 refine zs 9 h (fun h=> ?_) fun h=> ?_
 ·
  exact zg 1 (ag3 h)
 refine zs 16 h (fun h=> ?_) fun h=> ?_
 ·
  exact zg 1 (ag3 h)
 refine zs 13 h (fun h=> ?_) fun h=> ?_
 ·
  exact zg 1 (ag3 h)
 refine zs 9 h (fun h=> ?_) fun h=> ?_
 ·
  exact zg 1 (ag3 h)
 exact zg 7 (ag3 h)
end Go.RX.L

namespace Go.RX.L
open Go Go.RX Go.Proofs
attribute [local irreducible] f5
noncomputable def br8:=n8 (p6 Tryz.f54)
noncomputable def cR0 (y:e9×Int):D×f3:=(.tup [.agg (e9.enc y.1),.int .i64 y.2],[])
abbrev ck6:=AOk E (Cx.of Tryz.f54 false 0) cR0
noncomputable def dn8 (t149:Bool) (b0 m:e9):M:=⟨[.code (br8 [1,1,1,1,1,1,1,1,1,0,1]),.code (br8 [1,1,1,1,1,1,1,1,1,1])],[(4,.ptr 0 0 0),(8,.ptr 1 0 0),(149,.bool t149)],[some ⟨26,false,[(e9.enc b0)]⟩,some ⟨26,false,[(e9.enc m)]⟩]⟩
noncomputable def aN8 (t149:Bool) (b0 m:e9):Option (e9×Int):=(bif t149 then (some ((⟨0,0,0,0,0,0,0,0,0,0,false,(⟨0,0,0,0,0,0,0,0,0,0,[],[]⟩:Plan),[],[],[]⟩:e9),51)) else (some (m,0)))
theorem by0 {t149 b0 m}:ck6 (dn8 t149 b0 m) (aN8 t149 b0 m):=by
 intro r h;unfold aN8 at h
 refine zs 1 h (fun h=> ?_) fun h=> ?_
 ·
  exact zu 10 h [.slot 0 [some 1,some 1,some 1,some 1,some 1]]
 exact zu 12 h
noncomputable def ds7 (body:List Int) (b0:e9) (r_:l8) (m:e9):M:=⟨[.code (br8 [1,1,1,1,1,1])],[(1,.sl false 1 (List.map (d7 .u8) body)),(4,.ptr 0 0 0),(6,.ptr 1 0 0),(8,.ptr 2 0 0)],[some ⟨26,false,[(e9.enc b0)]⟩,some ⟨3,false,[(l8.enc r_)]⟩,some ⟨26,false,[(e9.enc m)]⟩]⟩
noncomputable def aA6 (body:List Int) (b0:e9) (r_:l8) (m:e9):Option (e9×Int):=((aa1 r_).bind fun y1=>((H8 y1.2).bind fun y2=>((H8 y2.2).bind fun y3=>(bif ((y3.2.place.e:Int) !=0) then (aN8 true b0 (⟨m.Kind,m.From,m.To,m.Epoch,m.Ballot,m.Accepted,m.Nonce,m.Time,m.Up,m.Code,m.HasPlan,m.Plan,y1.1,y2.1,y3.1⟩:e9)) else (bif ((y3.2.place.at_:Int) !=(((List.map (d7 .u8) body).length:Nat):Int)) then (aN8 true b0 (⟨m.Kind,m.From,m.To,m.Epoch,m.Ballot,m.Accepted,m.Nonce,m.Time,m.Up,m.Code,m.HasPlan,m.Plan,y1.1,y2.1,y3.1⟩:e9)) else ((an6 (⟨m.Kind,m.From,m.To,m.Epoch,m.Ballot,m.Accepted,m.Nonce,m.Time,m.Up,m.Code,m.HasPlan,m.Plan,y1.1,y2.1,y3.1⟩:e9)).bind fun y6=>(aN8 (!y6) b0 (⟨m.Kind,m.From,m.To,m.Epoch,m.Ballot,m.Accepted,m.Nonce,m.Time,m.Up,m.Code,m.HasPlan,m.Plan,y1.1,y2.1,y3.1⟩:e9))))))))
theorem ce4 {body b0 r_ m}:ck6 (ds7 body b0 r_ m) (aA6 body b0 r_ m):=by
 intro r h;unfold aA6 at h
 refine zc 4 [] h (fun _=>bd3) fun y1 h=> ?_
 refine zc 9 [] h (fun _=>aB5) fun y2 h=> ?_
 refine zc 9 [] h (fun _=>aB5) fun y3 h=> ?_
 refine zs 17 h (fun h=> ?_) fun h=> ?_
 ·
  exact zg 26 (by0 h)
 refine zs 19 h (fun h=> ?_) fun h=> ?_
 ·
  exact zg 7 (by0 h)
 refine zc 3 [] h (fun _=>br1) fun y6 h=> ?_
 exact zg 5 (by0 h)
noncomputable def dp5 (kind:Int) (body l_:List Int) (t70:Bool) (b0:e9) (r_:l8):M:=⟨[.code (br8 [1,1,1,0,1]),.code (br8 [1,1,1,1])],[(0,.int .u8 kind),(1,.sl false 1 (List.map (d7 .u8) body)),(4,.ptr 0 0 0),(6,.ptr 1 0 0),(7,.sl false 1 (List.map (d7 .i64) l_)),(70,.bool t70)],[some ⟨26,false,[(e9.enc b0)]⟩,some ⟨3,false,[(l8.enc r_)]⟩]⟩
noncomputable def N9 (kind:Int) (body l_:List Int) (t70:Bool) (b0:e9) (r_:l8):Option (e9×Int):=(bif t70 then (some ((⟨0,0,0,0,0,0,0,0,0,0,false,(⟨0,0,0,0,0,0,0,0,0,0,[],[]⟩:Plan),[],[],[]⟩:e9),51)) else (bif (decide ((0:Int)<(((List.map (d7 .i64) l_).length:Nat):Int))) then (((l_)[0]?).bind fun y3=>(bif (decide ((1:Int)<(((List.map (d7 .i64) l_).length:Nat):Int))) then (((l_)[1]?).bind fun y6=>(bif (decide ((2:Int)<(((List.map (d7 .i64) l_).length:Nat):Int))) then (((l_)[2]?).bind fun y9=>(bif (decide ((3:Int)<(((List.map (d7 .i64) l_).length:Nat):Int))) then (((l_)[3]?).bind fun y12=>(bif (decide ((4:Int)<(((List.map (d7 .i64) l_).length:Nat):Int))) then (((l_)[4]?).bind fun y15=>(bif (decide ((5:Int)<(((List.map (d7 .i64) l_).length:Nat):Int))) then (((l_)[5]?).bind fun y18=>(bif (decide ((6:Int)<(((List.map (d7 .i64) l_).length:Nat):Int))) then (((l_)[6]?).bind fun y21=>(bif (decide ((7:Int)<(((List.map (d7 .i64) l_).length:Nat):Int))) then (((l_)[7]?).bind fun y24=>(bif (decide ((8:Int)<(((List.map (d7 .i64) l_).length:Nat):Int))) then (((l_)[8]?).bind fun y27=>(bif (decide ((9:Int)<(((List.map (d7 .i64) l_).length:Nat):Int))) then (((l_)[9]?).bind fun y30=>(bif ((y30:Int)==1) then ((H8 r_).bind fun y33=>((bF7 y33.1).bind fun y34=>(bif ((y34.2:Int) !=0) then (some ((⟨0,0,0,0,0,0,0,0,0,0,false,(⟨0,0,0,0,0,0,0,0,0,0,[],[]⟩:Plan),[],[],[]⟩:e9),51)) else (aA6 body b0 y33.2 (⟨(IntKind.i64.wrap (kind)),y3,y6,y9,y12,y15,y18,y21,(IntKind.u64.wrap (y24)),y27,((y30:Int)==1),y34.1,[],[],[]⟩:e9))))) else (aA6 body b0 r_ (⟨(IntKind.i64.wrap (kind)),y3,y6,y9,y12,y15,y18,y21,(IntKind.u64.wrap (y24)),y27,((y30:Int)==1),(⟨0,0,0,0,0,0,0,0,0,0,[],[]⟩:Plan),[],[],[]⟩:e9)))) else none)) else none)) else none)) else none)) else none)) else none)) else none)) else none)) else none)) else none))
theorem ax8 {kind body l_ t70 b0 r_}:ck6 (dp5 kind body l_ t70 b0 r_) (N9 kind body l_ t70 b0 r_):=by
 intro r h;unfold N9 at h
 refine zs 1 h (fun h=> ?_) fun h=> ?_
 ·
  exact zu 10 h [.slot 0 [some 1,some 1,some 1,some 1,some 1]]
 refine zn 3 h fun h=> ?_
 refine zr 0 (d7 .i64) h fun y3 h=> ?_
 refine zn 0 h fun h=> ?_
 refine zr 0 (d7 .i64) h fun y6 h=> ?_
 refine zn 0 h fun h=> ?_
 refine zr 0 (d7 .i64) h fun y9 h=> ?_
 refine zn 0 h fun h=> ?_
 refine zr 0 (d7 .i64) h fun y12 h=> ?_
 refine zn 0 h fun h=> ?_
 refine zr 0 (d7 .i64) h fun y15 h=> ?_
 refine zn 0 h fun h=> ?_
 refine zr 0 (d7 .i64) h fun y18 h=> ?_
 refine zn 0 h fun h=> ?_
 refine zr 0 (d7 .i64) h fun y21 h=> ?_
 refine zn 0 h fun h=> ?_
 refine zr 0 (d7 .i64) h fun y24 h=> ?_
 refine zn 0 h fun h=> ?_
 refine zr 0 (d7 .i64) h fun y27 h=> ?_
 refine zn 7 h fun h=> ?_
 refine zr 1 (d7 .i64) h fun y30 h=> ?_
 refine zs 13 h (fun h=> ?_) fun h=> ?_
 ·
  refine zc 8 [] h (fun _=>aB5) fun y33 h=> ?_
  refine zc 1 [] h (fun _=>dd3) fun y34 h=> ?_
  refine zs 15 h (fun h=> ?_) fun h=> ?_
  ·
   exact zu 10 h [.slot 0 [some 1,some 1,some 1,some 1,some 1]]
  exact zg 1 (ce4 h) [.blk 2 [some 1,some 1,some 1]]
 exact zg 1 (ce4 h) [.blk 2 [some 1,some 1,some 1,some 1,some 1]]
noncomputable def be2 (kind:Int) (body:List Int):Option (e9×Int):=((aa1 (⟨(⟨0,0⟩:bc0),body⟩:l8)).bind fun y1=>(bif ((y1.2.place.e:Int) !=0) then (N9 kind body y1.1 true (⟨0,0,0,0,0,0,0,0,0,0,false,(⟨0,0,0,0,0,0,0,0,0,0,[],[]⟩:Plan),[],[],[]⟩:e9) y1.2) else (bif (((((List.map (d7 .i64) y1.1).length:Nat):Int):Int) !=10) then (N9 kind body y1.1 true (⟨0,0,0,0,0,0,0,0,0,0,false,(⟨0,0,0,0,0,0,0,0,0,0,[],[]⟩:Plan),[],[],[]⟩:e9) y1.2) else (bif (decide ((0:Int)<(((List.map (d7 .i64) y1.1).length:Nat):Int))) then (((y1.1)[0]?).bind fun y5=>(bif (decide ((1:Int)<(((List.map (d7 .i64) y1.1).length:Nat):Int))) then (((y1.1)[1]?).bind fun y8=>(bif (decide ((7:Int)<(((List.map (d7 .i64) y1.1).length:Nat):Int))) then (((y1.1)[7]?).bind fun y11=>(bif (decide ((8:Int)<(((List.map (d7 .i64) y1.1).length:Nat):Int))) then (((y1.1)[8]?).bind fun y14=>(bif (decide ((9:Int)<(((List.map (d7 .i64) y1.1).length:Nat):Int))) then (((y1.1)[9]?).bind fun y17=>(bif (decide (((z9 (z9 (z9 (z9 y5 y8) y11) y14) y17):Int)<0)) then (N9 kind body y1.1 true (⟨0,0,0,0,0,0,0,0,0,0,false,(⟨0,0,0,0,0,0,0,0,0,0,[],[]⟩:Plan),[],[],[]⟩:e9) y1.2) else (bif (decide ((0:Int)<(((List.map (d7 .i64) y1.1).length:Nat):Int))) then (((y1.1)[0]?).bind fun y21=>(bif (decide ((1:Int)<(((List.map (d7 .i64) y1.1).length:Nat):Int))) then (((y1.1)[1]?).bind fun y24=>(bif (decide (((u5 y21 y24):Int)>255)) then (N9 kind body y1.1 true (⟨0,0,0,0,0,0,0,0,0,0,false,(⟨0,0,0,0,0,0,0,0,0,0,[],[]⟩:Plan),[],[],[]⟩:e9) y1.2) else (bif (decide ((7:Int)<(((List.map (d7 .i64) y1.1).length:Nat):Int))) then (((y1.1)[7]?).bind fun y28=>(bif (decide ((8:Int)<(((List.map (d7 .i64) y1.1).length:Nat):Int))) then (((y1.1)[8]?).bind fun y31=>(bif (decide (((u5 y28 y31):Int)≥65536)) then (N9 kind body y1.1 true (⟨0,0,0,0,0,0,0,0,0,0,false,(⟨0,0,0,0,0,0,0,0,0,0,[],[]⟩:Plan),[],[],[]⟩:e9) y1.2) else (bif (decide ((9:Int)<(((List.map (d7 .i64) y1.1).length:Nat):Int))) then (((y1.1)[9]?).bind fun y35=>(N9 kind body y1.1 (decide ((y35:Int)>1)) (⟨0,0,0,0,0,0,0,0,0,0,false,(⟨0,0,0,0,0,0,0,0,0,0,[],[]⟩:Plan),[],[],[]⟩:e9) y1.2)) else none))) else none)) else none))) else none)) else none))) else none)) else none)) else none)) else none)) else none))))
theorem cF7 {kind:Int}{body:List Int}{r:e9×Int} (h:be2 kind body=some r):i0 E 54 [.int .u8 kind,.sl false 1 (List.map (d7 .u8) body)] [] (Rs cR0 r):=so (fn:=Tryz.f54) (k:=false) (m:=0) h<| by
 intro r h;unfold be2 at h
 refine zc 16 [] h (fun _=>bd3) fun y1 h=> ?_
 refine zs 6 h (fun h=> ?_) fun h=> ?_
 ·
  exact zg 44 (ax8 h) [.blk 0 [some 1,some 1,some 1,some 1,some 1]]
 refine zs 3 h (fun h=> ?_) fun h=> ?_
 ·
  exact zg 40 (ax8 h) [.blk 0 [some 1,some 1,some 1,some 1,some 1]]
 refine zn 1 h fun h=> ?_
 refine zr 1 (d7 .i64) h fun y5 h=> ?_
 refine zn 2 h fun h=> ?_
 refine zr 1 (d7 .i64) h fun y8 h=> ?_
 refine zn 2 h fun h=> ?_
 refine zr 1 (d7 .i64) h fun y11 h=> ?_
 refine zn 2 h fun h=> ?_
 refine zr 1 (d7 .i64) h fun y14 h=> ?_
 refine zn 2 h fun h=> ?_
 refine zr 1 (d7 .i64) h fun y17 h=> ?_
 refine zs 3 h (fun h=> ?_) fun h=> ?_
 ·
  exact zg 22 (ax8 h) [.blk 0 [some 1,some 1,some 1,some 1,some 1]]
 refine zn 1 h fun h=> ?_
 refine zr 1 (d7 .i64) h fun y21 h=> ?_
 refine zn 2 h fun h=> ?_
 refine zr 1 (d7 .i64) h fun y24 h=> ?_
 refine zs 3 h (fun h=> ?_) fun h=> ?_
 ·
  exact zg 13 (ax8 h) [.blk 0 [some 1,some 1,some 1,some 1,some 1]]
 refine zn 1 h fun h=> ?_
 refine zr 1 (d7 .i64) h fun y28 h=> ?_
 refine zn 2 h fun h=> ?_
 refine zr 1 (d7 .i64) h fun y31 h=> ?_
 refine zs 3 h (fun h=> ?_) fun h=> ?_
 ·
  exact zg 4 (ax8 h) [.blk 0 [some 1,some 1,some 1,some 1,some 1]]
 refine zn 1 h fun h=> ?_
 refine zr 1 (d7 .i64) h fun y35 h=> ?_
 exact zg 2 (ax8 h) [.blk 0 [some 1,some 1,some 1,some 1,some 1]]
end Go.RX.L

namespace Go.RX.L
open Go Go.RX Go.Proofs
attribute [local irreducible] f5
noncomputable def cv1 (y:Int×(List Int)):D×f3:=(.tup [(f6 0 (List.map (d7 .u8) y.2)),.int .i64 y.1],[some ⟨1,false,(List.map (d7 .u8) y.2)⟩])
noncomputable def Z3 (s_:List Int):Option (Int×(List Int)):=(bif (decide (((((List.map (d7 .u8) s_).length:Nat):Int):Int)>4096)) then (some (2,[])) else ((ay3 (((List.map (d7 .u8) s_).length:Nat):Int)).bind fun y2=>(bif (decide (((List.map (d7 .u8) y2).length+(List.map (d7 .u8) s_).length)*1≤i7)) then (some (0,(y2++s_))) else none)))
theorem bv6 {s_:List Int}{r:Int×(List Int)} (h:Z3 s_=some r):i0 E 123 [.sl false 1 (List.map (d7 .u8) s_)] [] (Rs cv1 r):=so (fn:=Tryz.f123) (k:=true) (m:=0) h<| by
 intro r h;unfold Z3 at h
 refine zs 13 h (fun h=> ?_) fun h=> ?_
 ·
  exact zu 6 h [.matt 0 0 1]
 refine zc 6 [] h (fun _=>bB8) fun y2 h=> ?_
 refine zn 2 h fun h=> ?_
 refine za 0 (d7 .u8) y2 s_ ?_
 exact zu 4 h
end Go.RX.L

namespace Go.RX.L
open Go Go.RX Go.Proofs
attribute [local irreducible] f5
noncomputable def Q4:=n8 (p6 Tryz.f92)
noncomputable def cr5 (y:Int×(List Int)×Int):D×f3:=(.tup [.int .u8 y.1,.sl false 1 (List.map (d7 .u8) y.2.1),.int .i64 y.2.2],[])
inductive au2 where
 | s0 (m:e9)
 | s3 (m:e9) (l_:List Int)
 | s2 (m:e9) (b:List Int)
 | s1 (t81:Int) (m:e9) (b:List Int) (b2:List (List Int))
noncomputable def cp1:au2→M
 | .s0 m=>A2 Tryz.f92 [.agg (e9.enc m)] []
 | .s3 m l_=>⟨[.code (Q4 [1,1,1,1])],[(1,.ptr 0 0 0),(5,.msl 1 0 ((List.map (d7 .i64) l_).length) ((List.map (d7 .i64) l_).length) true)],[some ⟨26,false,[(e9.enc m)]⟩,some ⟨1,false,(List.map (d7 .i64) l_)⟩]⟩
 | .s2 m b=>⟨[.code (Q4 [1,1,1,1,1,1])],[(1,.ptr 0 0 0),(6,(f6 1 (List.map (d7 .u8) b)))],[some ⟨26,false,[(e9.enc m)]⟩,some ⟨1,false,(List.map (d7 .u8) b)⟩]⟩
 | .s1 t81 m b b2=>⟨[.lpc (Q4 [1,1,1,1,1,1,1,1,0,1,0,0]) 4231240368651202111471682,.blk 0,.code (Q4 [1,1,1,1,1,1,1,1,1])],[(1,.ptr 0 0 0),(6,(f6 1 (List.map (d7 .u8) b))),(79,.msl 2 0 ((List.map (E0 1 (d7 .u8)) b2).length) ((List.map (E0 1 (d7 .u8)) b2).length) true),(80,.int .i64 2),(81,.int .i64 t81)],[some ⟨26,false,[(e9.enc m)]⟩,some ⟨1,false,(List.map (d7 .u8) b)⟩,some ⟨1,false,(List.map (E0 1 (d7 .u8)) b2)⟩]⟩
abbrev bl6:=SOk E (Cx.of Tryz.f92 false 0) cr5 cp1
noncomputable def aR8 (m:e9):Option (au2⊕(Int×(List Int)×Int)):=((an6 m).bind fun y1=>(bif (!y1) then (some (.inr (0,[],51))) else (bif m.HasPlan then (some (.inl (.s3 m ([m.From,m.To,m.Epoch,m.Ballot,m.Accepted,m.Nonce,m.Time,(IntKind.i64.wrap (m.Up)),m.Code,1])))) else (some (.inl (.s3 m ([m.From,m.To,m.Epoch,m.Ballot,m.Accepted,m.Nonce,m.Time,(IntKind.i64.wrap (m.Up)),m.Code,0])))))))
noncomputable def bi7 (m:e9) (l_:List Int):Option (au2⊕(Int×(List Int)×Int)):=((aE9 l_).bind fun y1=>(bif m.HasPlan then ((bG5 m.Plan).bind fun y3=>((Z3 y3.1).bind fun y4=>(bif (decide (((List.map (d7 .u8) y1.2).length+(List.take ((List.map (d7 .u8) y4.2).length) (List.drop 0 (List.map (d7 .u8) y4.2))).length)*1≤i7)) then (some (.inl (.s2 m (y1.2++y4.2)))) else none))) else (some (.inl (.s2 m y1.2)))))
noncomputable def bl9 (m:e9) (b:List Int):Option (au2⊕(Int×(List Int)×Int)):=((aE9 m.ID).bind fun y1=>(bif (decide (((List.map (d7 .u8) b).length+(List.take ((List.map (d7 .u8) y1.2).length) (List.drop 0 (List.map (d7 .u8) y1.2))).length)*1≤i7)) then (some (.inl (.s1 0 m (b++y1.2) ([m.Session,m.Payload])))) else none))
noncomputable def aG5 (t81:Int) (m:e9) (b:List Int) (b2:List (List Int)):Option (au2⊕(Int×(List Int)×Int)):=(bif (decide ((t81:Int)<2)) then (bif ((decide ((0:Int)≤t81))&&(decide ((t81:Int)<(((List.map (E0 1 (d7 .u8)) b2).length:Nat):Int)))) then (((b2)[(0+t81.toNat)]?).bind fun y3=>((Z3 y3).bind fun y5=>(bif (decide (((List.map (d7 .u8) b).length+(List.take ((List.map (d7 .u8) y5.2).length) (List.drop 0 (List.map (d7 .u8) y5.2))).length)*1≤i7)) then (some (.inl (.s1 (IntKind.i64.wrap (t81+1)) m (b++y5.2) b2))) else none))) else none) else (some (.inr ((IntKind.u8.wrap (m.Kind)),b,0))))
noncomputable def M8:au2→Option (au2⊕(Int×(List Int)×Int))
 | .s0 m=>aR8 m
 | .s3 m l_=>bi7 m l_
 | .s2 m b=>bl9 m b
 | .s1 t81 m b b2=>aG5 t81 m b b2
theorem cL6 {m}:bl6 (.s0 m) (aR8 m):=by
 intro r x h ha;unfold aR8 at h
 refine zc 13 [] h (fun _=>br1) fun y1 h=> ?_
 refine zs 3 h (fun h=> ?_) fun h=> ?_
 ·
  exact zt 7 h ha [.slot 0 [some 1]]
 refine zs 42 h (fun h=> ?_) fun h=> ?_
 ·
  refine l5 hm 8 _ ?_
  obtain rfl:=Option.some.inj h
  refine ap9 34 [] (m' :=⟨[.code (Q4 [1,1,1,1])],[(1,.ptr 0 0 0),(5,.msl 1 0 10 10 true)],[some ⟨26,false,[(e9.enc m)]⟩,some ⟨1,false,[[.int .i64 m.From],[.int .i64 m.To],[.int .i64 m.Epoch],[.int .i64 m.Ballot],[.int .i64 m.Accepted],[.int .i64 m.Nonce],[.int .i64 m.Time],[.int .i64 (IntKind.i64.wrap (m.Up))],[.int .i64 m.Code],[.int .i64 1]]⟩]⟩) (by kernel_rfl) ?_
  refine ae9 (n1:=10) (n2:=(List.map (d7 .i64) ([m.From,m.To,m.Epoch,m.Ballot,m.Accepted,m.Nonce,m.Time,(IntKind.i64.wrap (m.Up)),m.Code,1])).length) (fun n_len=> .go ⟨[.code (Q4 [1,1,1,1])],[(1,.ptr 0 0 0),(5,.msl 1 0 n_len n_len true)],[some ⟨26,false,[(e9.enc m)]⟩,some ⟨1,false,[[.int .i64 m.From],[.int .i64 m.To],[.int .i64 m.Epoch],[.int .i64 m.Ballot],[.int .i64 m.Accepted],[.int .i64 m.Nonce],[.int .i64 m.Time],[.int .i64 (IntKind.i64.wrap (m.Up))],[.int .i64 m.Code],[.int .i64 1]]⟩]⟩) (by simp) ?_
  exact ha
 refine l5 hm 1 _ ?_
 obtain rfl:=Option.some.inj h
 refine ap9 34 [] (m' :=⟨[.code (Q4 [1,1,1,1])],[(1,.ptr 0 0 0),(5,.msl 1 0 10 10 true)],[some ⟨26,false,[(e9.enc m)]⟩,some ⟨1,false,[[.int .i64 m.From],[.int .i64 m.To],[.int .i64 m.Epoch],[.int .i64 m.Ballot],[.int .i64 m.Accepted],[.int .i64 m.Nonce],[.int .i64 m.Time],[.int .i64 (IntKind.i64.wrap (m.Up))],[.int .i64 m.Code],[.int .i64 0]]⟩]⟩) (by kernel_rfl) ?_
 refine ae9 (n1:=10) (n2:=(List.map (d7 .i64) ([m.From,m.To,m.Epoch,m.Ballot,m.Accepted,m.Nonce,m.Time,(IntKind.i64.wrap (m.Up)),m.Code,0])).length) (fun n_len=> .go ⟨[.code (Q4 [1,1,1,1])],[(1,.ptr 0 0 0),(5,.msl 1 0 n_len n_len true)],[some ⟨26,false,[(e9.enc m)]⟩,some ⟨1,false,[[.int .i64 m.From],[.int .i64 m.To],[.int .i64 m.Epoch],[.int .i64 m.Ballot],[.int .i64 m.Accepted],[.int .i64 m.Nonce],[.int .i64 m.Time],[.int .i64 (IntKind.i64.wrap (m.Up))],[.int .i64 m.Code],[.int .i64 0]]⟩]⟩) (by simp) ?_
 exact ha
theorem cM7 {m l_}:bl6 (.s3 m l_) (bi7 m l_):=by
 intro r x h ha;unfold bi7 at h
 refine zm 4 (b:=(Nat.ble (0+(List.map (d7 .i64) l_).length) ((List.map (d7 .i64) l_).length))) (u7 _) ?_
 refine zcE 0 [] (args1:= [.sl false 1 (List.take ((List.map (d7 .i64) l_).length) (List.drop 0 (List.map (d7 .i64) l_)))]) h (fun _=>aT5) ⟨by simp [d8.enc,d8.l,i5.enc,i5.l,n5.enc,n5.l,q0.enc,q0.l,e9.enc,e9.l,Op.enc,Op.l,Plan.enc,Plan.l,C6.enc,C6.l,i6.enc,i6.l,n7.enc,n7.l,l8.enc,l8.l,d9.enc,d9.l,List.take_of_length_le,List.map_take,List.map_drop],rfl⟩ fun y1 h=> ?_
 refine zs 14 h (fun h=> ?_) fun h=> ?_
 ·
  refine zc 6 [] h (fun _=>dc9) fun y3 h=> ?_
  refine zc 10 [] h (fun _=>bv6) fun y4 h=> ?_
  refine zm 10 (b:=(Nat.beq ((List.take ((List.map (d7 .u8) y4.2).length) (List.drop 0 (List.map (d7 .u8) y4.2))).length) ((List.map (d7 .u8) y4.2).length))) (by simp) ?_
  refine zn 0 h fun h=> ?_
  refine zm 0 (b:=(Nat.ble (0+(List.map (d7 .u8) y1.2).length) ((List.map (d7 .u8) y1.2).length))) (u7 _) ?_
  refine zw 0 (a:=(List.take ((List.map (d7 .u8) y1.2).length) (List.drop 0 (List.map (d7 .u8) y1.2))++(List.take ((List.map (d7 .u8) y4.2).length) (List.drop 0 (List.map (d7 .u8) y4.2))))) (b:=(List.map (d7 .u8) (y1.2++y4.2))) (by simp only [z7,E3,List.map_append,List.map_take,List.map_drop]) ?_
  exact zk 2 h ha
 exact zk 1 h ha
theorem cK3 {m b}:bl6 (.s2 m b) (bl9 m b):=by
 intro r x h ha;unfold bl9 at h
 refine zc 6 [] h (fun _=>aT5) fun y1 h=> ?_
 refine zm 11 (b:=(Nat.beq ((List.take ((List.map (d7 .u8) y1.2).length) (List.drop 0 (List.map (d7 .u8) y1.2))).length) ((List.map (d7 .u8) y1.2).length))) (by simp) ?_
 refine zn 0 h fun h=> ?_
 refine zm 0 (b:=(Nat.ble (0+(List.map (d7 .u8) b).length) ((List.map (d7 .u8) b).length))) (u7 _) ?_
 refine zw 0 (a:=(List.take ((List.map (d7 .u8) b).length) (List.drop 0 (List.map (d7 .u8) b))++(List.take ((List.map (d7 .u8) y1.2).length) (List.drop 0 (List.map (d7 .u8) y1.2))))) (b:=(List.map (d7 .u8) (b++y1.2))) (by simp only [z7,E3,List.map_append,List.map_take,List.map_drop]) ?_
 refine l5 hm 18 _ ?_
 obtain rfl:=Option.some.inj h
 refine aP7 (q' := .go ⟨[.lpc (Q4 [1,1,1,1,1,1,1,1,0,1,0,0]) 4231240368651202111471682,.blk 0,.code (Q4 [1,1,1,1,1,1,1,1,1])],[(1,.ptr 0 0 0),(6,.msl 1 0 ((List.map (d7 .u8) (b++y1.2)).length) ((List.map (d7 .u8) (b++y1.2)).length) false),(79,.msl 2 0 2 2 true),(80,.int .i64 2),(81,.int .i64 0)],[some ⟨26,false,[(e9.enc m)]⟩,some ⟨1,false,(List.map (d7 .u8) (b++y1.2))⟩,some ⟨1,false,[[.sl false 1 (List.map (d7 .u8) m.Session)],[.sl false 1 (List.map (d7 .u8) m.Payload)]]⟩]⟩) (by kernel_rfl) ?_
 refine ae9 (n1:=2) (n2:=(List.map (E0 1 (d7 .u8)) ([m.Session,m.Payload])).length) (fun n_len=> .go ⟨[.lpc (Q4 [1,1,1,1,1,1,1,1,0,1,0,0]) 4231240368651202111471682,.blk 0,.code (Q4 [1,1,1,1,1,1,1,1,1])],[(1,.ptr 0 0 0),(6,.msl 1 0 ((List.map (d7 .u8) (b++y1.2)).length) ((List.map (d7 .u8) (b++y1.2)).length) false),(79,.msl 2 0 n_len n_len true),(80,.int .i64 2),(81,.int .i64 0)],[some ⟨26,false,[(e9.enc m)]⟩,some ⟨1,false,(List.map (d7 .u8) (b++y1.2))⟩,some ⟨1,false,[[.sl false 1 (List.map (d7 .u8) m.Session)],[.sl false 1 (List.map (d7 .u8) m.Payload)]]⟩]⟩) (by simp) ?_
 exact ha
theorem cM2 {t81 m b b2}:bl6 (.s1 t81 m b b2) (aG5 t81 m b b2):=by
 intro r x h ha;unfold aG5 at h
 refine zs 7 h (fun h=> ?_) fun h=> ?_
 ·
  refine zn 6 h fun h=> ?_
  refine zr 1 (E0 1 (d7 .u8)) h fun y3 h=> ?_
  refine zc 6 [] h (fun _=>bv6) fun y5 h=> ?_
  refine zm 10 (b:=(Nat.beq ((List.take ((List.map (d7 .u8) y5.2).length) (List.drop 0 (List.map (d7 .u8) y5.2))).length) ((List.map (d7 .u8) y5.2).length))) (by simp) ?_
  refine zn 0 h fun h=> ?_
  refine zm 0 (b:=(Nat.ble (0+(List.map (d7 .u8) b).length) ((List.map (d7 .u8) b).length))) (u7 _) ?_
  refine zw 0 (a:=(List.take ((List.map (d7 .u8) b).length) (List.drop 0 (List.map (d7 .u8) b))++(List.take ((List.map (d7 .u8) y5.2).length) (List.drop 0 (List.map (d7 .u8) y5.2))))) (b:=(List.map (d7 .u8) (b++y5.2))) (by simp only [z7,E3,List.map_append,List.map_take,List.map_drop]) ?_
  exact zj 8 h ha
 refine zm 13 (b:=(Nat.ble (0+(List.map (d7 .u8) b).length) ((List.map (d7 .u8) b).length))) (u7 _) ?_
 obtain rfl:=Option.some.inj h
 have hv:=ha
 simp only [aP6] at hv
 subst hv
 exact ar9 [] (d1:= .tup [.int .u8 (IntKind.u8.wrap (m.Kind)),.sl false 1 (List.take ((List.map (d7 .u8) b).length) (List.drop 0 (List.map (d7 .u8) b))),.int .i64 0]) (d:= .tup [.int .u8 (IntKind.u8.wrap (m.Kind)),.sl false 1 (List.map (d7 .u8) b),.int .i64 0]) (s1:= []) (s:= []) (by kernel_rfl) ⟨by simp [d8.enc,d8.l,i5.enc,i5.l,n5.enc,n5.l,q0.enc,q0.l,e9.enc,e9.l,Op.enc,Op.l,Plan.enc,Plan.l,C6.enc,C6.l,i6.enc,i6.l,n7.enc,n7.l,l8.enc,l8.l,d9.enc,d9.l,List.take_of_length_le,List.map_take,List.map_drop],rfl⟩ ⟨rfl,rfl⟩ Cx.fin_of
noncomputable def bF8 (m:e9):Option (Int×(List Int)×Int):=U9 M8 (.s0 m)
theorem dc5 {m:e9}{r:Int×(List Int)×Int} (h:bF8 m=some r):i0 E 92 [.agg (e9.enc m)] [] (Rs cr5 r):=sc (fn:=Tryz.f92) (k:=false) (m:=0) (stM:=cp1) h fun s=>by
 cases s with
 | s0=>exact cL6
 | s3=>exact cM7
 | s2=>exact cK3
 | s1=>exact cM2
end Go.RX.L

namespace Go.RX.L
open Go Go.RX Go.Proofs
attribute [local irreducible] f5
noncomputable def cL2 (y:Bool):D×f3:=(.bool y,[])
abbrev dQ7:=AOk E (Cx.of Tryz.f16 false 0) cL2
end Go.RX.L

namespace Go.RX.L
open Go Go.RX
def J4 (s:List Int):List Int:=ae7 (s.length:Int)++s
def dD8 (s:List Int):Int×List Int:=if s.length≤4096 then (0,J4 s) else (2,[])
def pT (l:List Int):Int⊕(List Int×Nat):=match pI l with
 | .inl e=> .inl e
 | .inr (n,k)=>if n<0∨n>4096 then .inl 2 else if n>(l.length:Int)-k then .inl 11 else .inr ((l.drop k).take n.toNat,k+n.toNat)
theorem cV6 {l:List Int}{e:Int} (h:pI l= .inl e):pT l= .inl e:=by simp only [pT,h]
theorem cT9 {l:List Int}{n:Int}{k:Nat} (h:pI l= .inr (n,k)) (hn:n<0∨n>4096):pT l= .inl 2:=by simp only [pT,h,if_pos hn]
theorem cX5 {l:List Int}{n:Int}{k:Nat} (h:pI l= .inr (n,k)) (hn:¬(n<0∨n>4096)) (h2:n>(l.length:Int)-k):pT l= .inl 11:=by simp only [pT,h,if_neg hn,if_pos h2]
theorem cu4 {l:List Int}{n:Int}{k:Nat} (h:pI l= .inr (n,k)) (hn:¬(n<0∨n>4096)) (h2:¬n>(l.length:Int)-k):pT l= .inr ((l.drop k).take n.toNat,k+n.toNat):=by simp only [pT,h,if_neg hn,if_neg h2]
theorem bJ0 {s:List Int} (h:r6 s):r6 (J4 s):=fun c hc=>(List.mem_append.1 hc).elim (bF1 _ c) (h c)
theorem aX0 {s:List Int} (h:s.length≤4096):(J4 s).length≤s.length+10:=by
 have:=aO1 (bX3 (n:=s.length) (by omega))
 simp only [J4,List.length_append];omega
theorem cY0 {s:List Int} (h:s.length≤4096) (rest:List Int):pT (J4 s++rest)= .inr (s,(J4 s).length):=by
 have h1:=cS3 (bX3 (n:=s.length) (by omega)) (s++rest)
 have e:J4 s++rest=ae7 (s.length:Int)++(s++rest):=by simp [J4]
 rw [e,cu4 h1 (by omega) (by simp only [List.length_append];omega),List.drop_left,Int.toNat_natCast,List.take_left]
 simp only [J4,List.length_append]
theorem cp0 {l s:List Int}{k:Nat} (hb:r6 l) (h:pT l= .inr (s,k)):l.take k=J4 s∧k≤l.length∧k=(J4 s).length∧s.length≤4096∧r6 s:=by
 cases hp:pI l with
 | inl e=>rw [cV6 hp] at h;cases h
 | inr x=>
  obtain ⟨n,j⟩:=x
  by_cases hn:n<0∨n>4096
  ·rw [cT9 hp hn] at h;cases h
  by_cases h2:n>(l.length:Int)-j
  ·rw [cX5 hp hn h2] at h;cases h
  rw [cu4 hp hn h2] at h
  simp only [Sum.inr.injEq,Prod.mk.injEq] at h
  obtain ⟨rfl,rfl⟩:=h
  obtain ⟨a1,a2,a3,a4⟩:=bR4 hb hp
  obtain ⟨m,rfl⟩:=Int.eq_ofNat_of_zero_le (show 0≤n by omega)
  simp only [Int.toNat_natCast]
  have hl:((l.drop j).take m).length=m:=by rw [List.length_take,List.length_drop];omega
  refine ⟨?_,by omega,?_,by rw [hl];omega,cD1 (aX8 hb _) _⟩
  ·rw [List.take_add,a1,J4,hl]
  ·rw [J4,List.length_append,hl,←a3]
theorem dT8 {l:List Int}{e:Int} (h:pT l= .inl e):e≠0:=by
 cases hp:pI l with
 | inl e' =>rw [cV6 hp] at h;obtain rfl:=Sum.inl.inj h;rcases dt6 hp with rfl | rfl<;>decide
 | inr x=>
  obtain ⟨n,j⟩:=x
  by_cases hn:n<0∨n>4096
  ·rw [cT9 hp hn] at h;obtain rfl:=Sum.inl.inj h;decide
  by_cases h2:n>(l.length:Int)-j
  ·rw [cX5 hp hn h2] at h;obtain rfl:=Sum.inl.inj h;decide
  ·rw [cu4 hp hn h2] at h;cases h
theorem bF6 {s:List Int} (hm:s.length≤F6):Z3 s=some (dD8 s):=by
 unfold dD8
 by_cases h:s.length≤4096
 ·rw [if_pos h]
  have hn:=bX3 (n:=s.length) (by omega)
  have hl:=aO1 hn
  have c1:decide (((s.length:Nat):Int)>4096)=false:=by simp;omega
  have c2:decide (((ae7 (s.length:Int)).length+s.length)*1≤i7)=true:=D3 (by omega)
  simp only [Z3,List.length_map,c1,cond_false,cH1 hn,Option.bind_some,c2,cond_true,J4]
 ·rw [if_neg h]
  have c1:decide (((s.length:Nat):Int)>4096)=true:=by simp;omega
  simp only [Z3,List.length_map,c1,cond_true]
theorem dI8 {b:List Int} (hb:r6 b) (hm:b.length≤F6) {at_:Nat} (h:at_≤b.length):al8 b at_=some (rL at_ (pT (b.drop at_))):=by
 have hi:=bD7 hb hm h
 simp only [F6] at hm
 cases hp:pI (b.drop at_) with
 | inl e=>
  rw [hp] at hi
  have he:=bo5 hp
  rw [cV6 hp]
  simp only [al8,J3,hi,rI,Option.bind_some,he,cond_true,rL]
 | inr x=>
  obtain ⟨n,k⟩:=x
  rw [hp] at hi
  obtain ⟨a1,a2,a3,a4⟩:=bR4 (aX8 hb at_) hp
  rw [List.length_drop] at a2
  have a4' :=aa6.1 a4
  have z:((0:Int) !=0)=false:=rfl
  have tw:((2:Int) !=0)=true:=rfl
  by_cases hn:n<0∨n>4096
  ·rw [cT9 hp hn]
   rcases hn with hn | hn
   ·have c1:decide (n<0)=true:=decide_eq_true hn
    simp only [al8,J3,L7,hi,rI,Option.bind_some,z,cond_false,c1,cond_true,tw,rL]
   ·have c1:decide (n<0)=false:=decide_eq_false (by omega)
    have c2:decide (n>4096)=true:=decide_eq_true hn
    simp only [al8,J3,L7,hi,rI,Option.bind_some,z,cond_false,c1,c2,cond_true,tw,rL]
  ·have c1:decide (n<0)=false:=decide_eq_false (by omega)
   have c2:decide (n>4096)=false:=decide_eq_false (by omega)
   have w1:IntKind.i64.wrap (((b.length:Nat):Int)-((at_+k:Nat):Int))=(b.length:Int)-((at_+k:Nat):Int):=u4 (by omega) (by omega)
   by_cases h2:n>((b.drop at_).length:Int)-k
   ·rw [cX5 hp hn h2]
    rw [List.length_drop] at h2
    have c3:decide (n>(b.length:Int)-((at_+k:Nat):Int))=true:=decide_eq_true (by omega)
    simp only [al8,J3,L7,hi,rI,Option.bind_some,z,cond_false,c1,c2,List.length_map,w1,c3,cond_true,rL]
   ·rw [cu4 hp hn h2]
    rw [List.length_drop] at h2
    obtain ⟨m,rfl⟩:=Int.eq_ofNat_of_zero_le (show 0≤n by omega)
    have c3:decide ((m:Int)>(b.length:Int)-((at_+k:Nat):Int))=false:=decide_eq_false (by omega)
    have w2:IntKind.i64.wrap (((at_+k:Nat):Int)+(m:Int))=((at_+k+m:Nat):Int):=by rw [u4 (by omega) (by omega)];omega
    have c4:(decide (((0:Nat):Int)≤((at_+k+m:Nat):Int))&&decide (((at_+k+m:Nat):Int)≤((b.length:Nat):Int)))=true:=by simp;omega
    have c5:(decide (((0:Nat):Int)≤((at_+k:Nat):Int))&&decide (((at_+k:Nat):Int)≤((at_+k+m:Nat):Int)))=true:=by simp;omega
    have d:List.drop (at_+k) (List.take (at_+k+m) b)=((b.drop at_).drop k).take m:=by
     rw [List.drop_take,List.drop_drop,show at_+k+m-(at_+k)=m by omega]
    have c6:decide ((((b.drop at_).drop k).take m).length*1≤i7)=true:=D3 (by rw [List.length_take];omega)
    simp only [al8,J3,L7,hi,rI,Option.bind_some,z,cond_false,c1,c2,List.length_map,w1,c3,cond_true,w2,c4,c5,Int.toNat_natCast,d,c6,rL]
    rw [Nat.add_assoc]
end Go.RX.L

namespace Go.RX.L
open Go Go.RX
/-! ### alike -/
theorem dl8 (a b:List Int) (hl:a.length<9223372036854775807) (hab:a.length=b.length):∀(j k:Nat),k+j=a.length→Ev T3 (.s1 a b k) (decide (a.drop k=b.drop k)):=by
 intro j
 induction j with
 | zero=>
  intro k hk
  refine .done ?_
  rw [List.drop_eq_nil_of_le (by omega),List.drop_eq_nil_of_le (by omega)]
  simp [T3,at0,show ¬(k:Int)<a.length by omega]
 | succ j ih=>
  intro k hk
  have h1:k<a.length:=by omega
  have h2:k<b.length:=by omega
  rw [List.drop_eq_getElem_cons h1,List.drop_eq_getElem_cons h2]
  by_cases h:a[k]=b[k]
  ·refine .next (s' := .s1 a b ((k+1:Nat):Int)) ?_ ?_
   ·have e:(a[k] !=b[k])=false:=by simp [h]
    simp only [T3,at0,List.length_map,K0 h1,K0 h2,S5,Bool.and_self,cond_true,Int.toNat_natCast,List.getE h1,List.getE h2,Option.bind_some,e,cond_false,wS (show k<9223372036854775807 by omega)]
   ·rw [show (decide (a[k]::a.drop (k+1)=b[k]::b.drop (k+1)))=decide (a.drop (k+1)=b.drop (k+1)) by simp only [h,List.cons.injEq,true_and]]
    exact ih (k+1) (by omega)
  ·refine .done ?_
   have e:(a[k] !=b[k])=true:=by simp [h]
   simp only [T3,at0,List.length_map,K0 h1,K0 h2,S5,Bool.and_self,cond_true,Int.toNat_natCast,List.getE h1,List.getE h2,Option.bind_some,e]
   rw [show (decide (a[k]::a.drop (k+1)=b[k]::b.drop (k+1)))=false by simp only [h,List.cons.injEq,false_and,decide_false]]
theorem do8 {a b:List Int} (hl:a.length<9223372036854775807):bK9 a b=some (decide (a=b)):=by
 by_cases hab:a.length=b.length
 ·refine u0 (.next (s' := .s1 a b 0) (by simp [T3,aF0,hab]) ?_)
  simpa using dl8 a b hl hab a.length 0 (by omega)
 ·refine u0 (.done ?_)
  have e:(((a.length:Nat):Int) !=((b.length:Nat):Int))=true:=by simp;omega
  have hne:a≠b:=fun h=>hab (by rw [h])
  simp [T3,aF0,e,hne]
theorem db9 (a b:Plan) (hs:by3 a) (hab:a.Pen.length=b.Pen.length):∀(j k:Nat),k+j=a.Pen.length→Ev O8 (.s2 k a b) (decide (a.Pen.drop k=b.Pen.drop k)&&decide (a.Changes=b.Changes)):=by
 intro j
 have hl:=hs.pen
 induction j with
 | zero=>
  intro k hk
  refine .done ?_
  rw [List.drop_eq_nil_of_le (by omega),List.drop_eq_nil_of_le (by omega)]
  simp only [O8,at3,List.length_map,geB (show a.Pen.length≤k by omega),cond_false,do8 hs.ch,Option.bind_some]
  simp
 | succ j ih=>
  intro k hk
  have h1:k<a.Pen.length:=by omega
  have h2:k<b.Pen.length:=by omega
  rw [List.drop_eq_getElem_cons h1,List.drop_eq_getElem_cons h2]
  by_cases h:a.Pen[k]=b.Pen[k]
  ·refine .next (s' := .s2 ((k+1:Nat):Int) a b) ?_ ?_
   ·have e:(a.Pen[k] !=b.Pen[k])=false:=by simp [h]
    simp only [O8,at3,List.length_map,K0 h1,K0 h2,S5,Bool.and_self,cond_true,Int.toNat_natCast,List.getE h1,List.getE h2,Option.bind_some,e,cond_false,wS (show k<9223372036854775807 by omega)]
   ·rw [show (decide (a.Pen[k]::a.Pen.drop (k+1)=b.Pen[k]::b.Pen.drop (k+1)))=decide (a.Pen.drop (k+1)=b.Pen.drop (k+1)) by simp only [h,List.cons.injEq,true_and]]
    exact ih (k+1) (by omega)
  ·refine .done ?_
   have e:(a.Pen[k] !=b.Pen[k])=true:=by simp [h]
   simp only [O8,at3,List.length_map,K0 h1,K0 h2,S5,Bool.and_self,cond_true,Int.toNat_natCast,List.getE h1,List.getE h2,Option.bind_some,e]
   rw [show (decide (a.Pen[k]::a.Pen.drop (k+1)=b.Pen[k]::b.Pen.drop (k+1)))=false by simp only [h,List.cons.injEq,false_and,decide_false]]
   rfl
def bF2 (a b:Plan):Bool:=decide (a.Epoch=b.Epoch)&&(decide (a.Target=b.Target)&&(decide (a.Prev=b.Prev)&&(decide (a.Spill=b.Spill)&&(decide (a.Percent=b.Percent)&&(decide (a.Stamp=b.Stamp)&&(decide (a.Since=b.Since)&&(decide (a.Ramped=b.Ramped)&&(decide (a.Up=b.Up)&&decide (a.Sup=b.Sup)))))))))
def ba8 (a b:Plan):Bool:=bF2 a b&&(decide (a.Pen=b.Pen)&&decide (a.Changes=b.Changes))
theorem bc5 {a b:Plan}:ba8 a b=true↔a=b:=by
 cases a;cases b
 simp only [ba8,bF2,Bool.and_eq_true,decide_eq_true_eq,Plan.mk.injEq,and_assoc]
theorem ch2 {a b:Plan} (hs:by3 a):aS4 a b=some (ba8 a b):=by
 have bad:Ev O8 (.s1 true a b) false:= .done rfl
 have hstep:O8 (.s0 a b)=some (.inl (.s1 (!(bF2 a b) || !(decide (a.Pen.length=b.Pen.length))) a b)):=by
  have hb:∀x y:Int,(x !=y)= !(decide (x=y)):=fun x y=>by by_cases h:x=y<;>simp [h]
  simp only [O8,aR0,hb,bF2,List.length_map]
  cases decide (a.Epoch=b.Epoch)<;>cases decide (a.Target=b.Target)<;>cases decide (a.Prev=b.Prev)<;>cases decide (a.Spill=b.Spill)<;>cases decide (a.Percent=b.Percent)<;>cases decide (a.Stamp=b.Stamp)<;>cases decide (a.Since=b.Since)<;>cases decide (a.Ramped=b.Ramped)<;>cases decide (a.Up=b.Up)<;>cases decide (a.Sup=b.Sup)<;>first | rfl | (simp;done) | (simp;omega)
 refine u0 (.next hstep ?_)
 unfold ba8
 cases hn:bF2 a b with
 | false=>exact bad
 | true=>
  by_cases hab:a.Pen.length=b.Pen.length
  ·rw [decide_eq_true hab]
   refine .next (s' := .s2 0 a b) rfl ?_
   simpa using db9 a b hs hab a.Pen.length 0 (by omega)
  ·have hne:a.Pen≠b.Pen:=fun h=>hab (by rw [h])
   rw [decide_eq_false hab,decide_eq_false hne]
   exact bad
theorem dt4 {x y:Int} (hx:n4 .u64 x) (hy:n4 .u64 y):(IntKind.i64.wrap x==IntKind.i64.wrap y)=decide (x=y):=by
 obtain ⟨n,rfl⟩:=Int.eq_ofNat_of_zero_le (J7.1 hx).1
 obtain ⟨m,rfl⟩:=Int.eq_ofNat_of_zero_le (J7.1 hy).1
 have h1:=(J7.1 hx).2
 have h2:=(J7.1 hy).2
 rw [ba9 n (by omega),ba9 m (by omega)]
 rw [Bool.eq_iff_iff]
 simp only [beq_iff_eq,decide_eq_true_eq]
 split<;>split<;>omega
theorem cp4 {x y:Int} (hx:n4 .u64 x) (hy:n4 .u64 y):decide (IntKind.i64.wrap x=IntKind.i64.wrap y)=decide (x=y):=by
 rw [←dt4 hx hy,Bool.eq_iff_iff];simp
theorem dQ5 {a b:Plan} (hs:by3 a) (h1:n4 .u64 a.Up) (h2:n4 .u64 b.Up) (h3:n4 .u64 a.Sup) (h4:n4 .u64 b.Sup):aO3 a b=some (ba8 a b):=by
 have hb:∀x y:Int,(x==y)=decide (x=y):=fun x y=>by by_cases h:x=y<;>simp [h]
 simp only [aO3,ah3,Option.bind_some,cp4 h1 h2,cp4 h3 h4,hb,Bool.and_true,dB1 hs.pen,dc7 hs.ch]
 rw [show (decide (a.Epoch=b.Epoch)&&(decide (a.Target=b.Target)&&(decide (a.Prev=b.Prev)&&(decide (a.Spill=b.Spill)&&(decide (a.Percent=b.Percent)&&(decide (a.Stamp=b.Stamp)&&(decide (a.Since=b.Since)&&(decide (a.Ramped=b.Ramped)&&(decide (a.Up=b.Up)&&decide (a.Sup=b.Sup))))))))))=bF2 a b from rfl]
 unfold ba8
 cases bF2 a b with
 | false=>rfl
 | true=>cases decide (a.Pen=b.Pen)<;>rfl
/-! ### the head -/
theorem bytesOf {b:List Int} (h:b.length*1≤reachBytes∧∀y∈b,n4 .u8 y):r6 b∧b.length≤F6:=by
 refine ⟨fun c hc=>dD3.1 (h.2 c hc),?_⟩
 have:reachBytes≤F6:=by decide
 omega
end Go.RX.L

namespace Go.RX.L
open Go Go.RX
/-! ### may it be? -/
def hdM (m:e9):Prop:=1≤m.Kind∧m.Kind≤19∧0≤m.From∧m.From≤255∧0≤m.To∧m.To≤255∧m.Up≤65535∧0≤m.Code∧m.Code≤1000
instance (m:e9):Decidable (hdM m):=by unfold hdM;infer_instance
def txM (m:e9):Prop:=(m.ID.length=0∨m.ID.length=3)∧m.Session.length≤64∧m.Payload.length≤1024
instance (m:e9):Decidable (txM m):=by unfold txM;infer_instance
def bi8 (m:e9):Bool:=bif m.HasPlan then Z5 m.Plan else ba8 m.Plan v7
def C3 (m:e9):Bool:=decide (hdM m)&&(decide (txM m)&&bi8 m)
structure Shm (m:e9):Prop where
 s:by3 m.Plan
 up:n4 .u64 m.Plan.Up
 sup:n4 .u64 m.Plan.Sup
theorem bW3 (a b c:Int):(z9 (z9 a b) c<0)↔a<0∨b<0∨c<0:=by unfold z9;split<;>split<;>omega
theorem cP2 (a b n:Int):(u5 a b>n)↔a>n∨b>n:=by unfold u5;split<;>omega
theorem dH8 (a b n:Int):(u5 a b≥n)↔a≥n∨b≥n:=by unfold u5;split<;>omega
theorem dw8:n4 .u64 (0:Int):=J7.2 (by omega)
theorem dx6 {m:e9} (h:Shm m):af8 false m=some (bi8 m):=by
 have hu:=J7.1 h.up
 have hv:=J7.1 h.sup
 unfold af8 bi8
 cases m.HasPlan
 ·have:=dQ5 (a:=m.Plan) (b:=v7) h.s h.up dw8 h.sup dw8
  simp only [cond_false]
  show (aO3 m.Plan v7).bind _=_
  rw [this];rfl
 ·simp only [cond_false,cond_true,aY1 h.s hu.1 hv.1,Option.bind_some]
theorem dt7 {m:e9} (h:Shm m):P5 false m=some (decide (txM m)&&bi8 m):=by
 have h1:=dx6 h
 have t1:af8 true m=some false:=rfl
 have t2:ao6 true m=some false:=rfl
 have h2:ao6 false m=some (decide (m.Session.length≤64∧m.Payload.length≤1024)&&bi8 m):=by
  simp only [ao6,cond_false,List.length_map]
  by_cases a:m.Session.length≤64
  ·rw [show decide (((m.Session.length:Nat):Int)>64)=false from decide_eq_false (by omega)]
   by_cases b:m.Payload.length≤1024
   ·rw [show decide (((m.Payload.length:Nat):Int)>1024)=false from decide_eq_false (by omega),show decide (m.Session.length≤64∧m.Payload.length≤1024)=true from decide_eq_true ⟨a,b⟩,Bool.true_and];exact h1
   ·rw [show decide (((m.Payload.length:Nat):Int)>1024)=true from decide_eq_true (by omega),show decide (m.Session.length≤64∧m.Payload.length≤1024)=false from decide_eq_false (fun h=>b h.2)];rfl
  ·rw [show decide (((m.Session.length:Nat):Int)>64)=true from decide_eq_true (by omega),show decide (m.Session.length≤64∧m.Payload.length≤1024)=false from decide_eq_false (fun h=>a h.1)];rfl
 simp only [P5,cond_false,List.length_map]
 by_cases a:m.ID.length=0
 ·rw [show decide (((m.ID.length:Nat):Int)>0)=false from decide_eq_false (by omega)]
  rw [show decide (txM m)=decide (m.Session.length≤64∧m.Payload.length≤1024) from decide_eq_decide.2 (by unfold txM;omega)]
  exact h2
 ·rw [show decide (((m.ID.length:Nat):Int)>0)=true from decide_eq_true (by omega)]
  by_cases b:m.ID.length=3
  ·rw [show (((m.ID.length:Nat):Int) !=3)=false from by rw [b];rfl,show decide (txM m)=decide (m.Session.length≤64∧m.Payload.length≤1024) from decide_eq_decide.2 (by unfold txM;omega)]
   exact h2
  ·rw [show (((m.ID.length:Nat):Int) !=3)=true from bne_iff_ne.2 (by omega),show decide (txM m)=false from decide_eq_false (by unfold txM;omega)]
   rfl
theorem bu1 {m:e9} (h:Shm m):an6 m=some (C3 m):=by
 have t3:P5 true m=some false:=rfl
 by_cases hh:hdM m
 ·have h' :=hh
  unfold hdM at h'
  rw [C3,decide_eq_true hh,Bool.true_and,←dt7 h]
  simp only [an6]
  rw [show decide (m.Kind<1)=false from decide_eq_false (by omega),show decide (m.Kind>19)=false from decide_eq_false (by omega),
   show decide (z9 (z9 m.From m.To) m.Code<0)=false from decide_eq_false (by rw [bW3];omega),show decide (u5 m.From m.To>255)=false from decide_eq_false (by rw [cP2];omega),
   show decide (m.Code>1000)=false from decide_eq_false (by omega),show decide (m.Up≥65536)=false from decide_eq_false (by omega)]
  rfl
 ·rw [C3,decide_eq_false hh,Bool.false_and]
  unfold hdM at hh
  simp only [an6]
  cases h1:decide (m.Kind<1)
  ·cases h2:decide (m.Kind>19)
   ·cases h3:decide (z9 (z9 m.From m.To) m.Code<0)
    ·cases h4:decide (u5 m.From m.To>255)
     ·cases h5:decide (m.Code>1000)
      ·rw [decide_eq_false_iff_not] at h1 h2 h3 h4 h5
       rw [bW3] at h3
       rw [cP2] at h4
       rw [show decide (m.Up≥65536)=true from decide_eq_true (by omega)]
       rfl
      ·rfl
     ·rfl
    ·rfl
   ·rfl
  ·rfl
end Go.RX.L

namespace Go.RX.L
open Go Go.RX
/-! ### bytes -/
/-- A message of words. -/
structure al9 (m : e9) : Prop where
  sh : Shm m
  pl : bf8 m.Plan
  w : as7 [m.Epoch, m.Ballot, m.Accepted, m.Nonce, m.Time]
  up : 0 ≤ m.Up
  id : as7 m.ID
  ses : r6 m.Session
  pay : r6 m.Payload
theorem e9.Ok.fine {m:e9} (h:m.Ok):al9 m:=by
 obtain ⟨h1,h2,h3,h4,h5,h6,h7,h8,h9,h10,-,hp,hid,hs,hq⟩:=h
 have hp' :=hp
 obtain ⟨-,-,-,-,-,-,-,-,u1,u2,-,-⟩:=hp
 refine ⟨⟨hp'.shrt,u1,u2⟩,hp'.fine,?_,(J7.1 h9).1,fun x hx=>hid.2 x hx,fun x hx=>dD3.1 (hs.2 x hx),fun x hx=>dD3.1 (hq.2 x hx)⟩
 intro x hx
 simp only [List.mem_cons,List.not_mem_nil,or_false] at hx
 rcases hx with rfl | rfl | rfl | rfl | rfl<;>assumption
def Z8 (m:e9):List Int:= [m.From,m.To,m.Epoch,m.Ballot,m.Accepted,m.Nonce,m.Time,m.Up,m.Code,bif m.HasPlan then 1 else 0]
def by2 (m:e9):List Int:=bif m.HasPlan then J4 (aB1 m.Plan) else []
def ai5 (m:e9):List Int:=encL (Z8 m)++(by2 m++(encL m.ID++(J4 m.Session++J4 m.Payload)))
theorem am6 {m:e9} (h:C3 m=true):hdM m∧txM m∧bi8 m=true:=by
 simpa only [C3,Bool.and_eq_true,decide_eq_true_eq] using h
theorem bj1 {m:e9} (h:C3 m=true) (hp:m.HasPlan=true):Rt m.Plan:=by
 have:=(am6 h).2.2
 rw [bi8,hp] at this
 exact af0.1 this
theorem dm6 {m:e9} (h:C3 m=true) (hp:m.HasPlan=false):m.Plan=v7:=by
 have:=(am6 h).2.2
 rw [bi8,hp] at this
 exact bc5.1 this
theorem cl2 {m:e9} (hf:al9 m) (h:C3 m=true):as7 (Z8 m):=by
 obtain ⟨h1,h2,h3⟩:=am6 h
 unfold hdM at h1
 have hu:=hf.up
 have e1:=aa6.2 (show-9223372036854775808≤m.From∧m.From≤9223372036854775807 by omega)
 have e2:=aa6.2 (show-9223372036854775808≤m.To∧m.To≤9223372036854775807 by omega)
 have e3:=aa6.2 (show-9223372036854775808≤m.Up∧m.Up≤9223372036854775807 by omega)
 have e4:=aa6.2 (show-9223372036854775808≤m.Code∧m.Code≤9223372036854775807 by omega)
 have e5:n4 .i64 (bif m.HasPlan then 1 else 0):=by cases m.HasPlan<;>exact aa6.2 (by decide)
 have hw:=hf.w
 intro x hx
 simp only [Z8,List.mem_cons,List.not_mem_nil,or_false] at hx
 rcases hx with rfl | rfl | rfl | rfl | rfl | rfl | rfl | rfl | rfl | rfl
 ·exact e1
 ·exact e2
 ·exact hw _ (by simp)
 ·exact hw _ (by simp)
 ·exact hw _ (by simp)
 ·exact hw _ (by simp)
 ·exact hw _ (by simp)
 ·exact e3
 ·exact e4
 ·exact e5
theorem dm8 (m:e9):r6 (by2 m):=by
 unfold by2
 cases m.HasPlan
 ·intro c hc;cases hc
 ·exact bJ0 (dj4 _)
theorem di4 {m:e9} (hf:al9 m):r6 (ai5 m):=fun c hc=>by
 simp only [ai5,List.mem_append] at hc
 rcases hc with hc | hc | hc | hc | hc
 ·exact bm3 _ c hc
 ·exact dm8 m c hc
 ·exact bm3 _ c hc
 ·exact bJ0 hf.ses c hc
 ·exact bJ0 hf.pay c hc
theorem cU8 {m:e9} (hf:al9 m) (h:C3 m=true):(by2 m).length≤1960:=by
 unfold by2
 cases hp:m.HasPlan
 ·simp
 ·have h1:=ci2 hf.pl (bj1 h hp)
  have:=aX0 (s:=aB1 m.Plan) (by omega)
  simp only [cond_true];omega
theorem cQ2 {m:e9} (h:C3 m=true):m.ID.length≤3∧m.Session.length≤64∧m.Payload.length≤1024:=by
 have:=(am6 h).2.1
 unfold txM at this
 omega
theorem ci1 {m:e9} (hf:al9 m) (h:C3 m=true):(ai5 m).length≤4400:=by
 have a:=ao0 (cl2 hf h) (by simp [Z8])
 have b:=cU8 hf h
 have hi:=cQ2 h
 have c:=ao0 hf.id (by omega)
 have d:=aX0 (s:=m.Session) (by omega)
 have e:=aX0 (s:=m.Payload) (by omega)
 simp only [ai5,List.length_append]
 omega
def dk7 (m:e9):Int×List Int×Int:=if C3 m=true then (m.Kind,ai5 m,0) else (0,[],51)
theorem dq0 {s:List Int} (h:s.length≤4096):dD8 s=(0,J4 s):=if_pos h
theorem dK2 {m:e9} (hs:m.Session.length≤64) (hq:m.Payload.length≤1024) (hk:0≤m.Kind∧m.Kind≤255) {b:List Int} (hb:b.length≤8000):
  Ev M8 (.s1 0 m b [m.Session,m.Payload]) (m.Kind,b++(J4 m.Session++J4 m.Payload),0):=by
 have n1:=aX0 (s:=m.Session) (by omega)
 have n2:=aX0 (s:=m.Payload) (by omega)
 have k1:=bF6 (s:=m.Session) (by simp only [F6];omega)
 have k2:=bF6 (s:=m.Payload) (by simp only [F6];omega)
 rw [dq0 (by omega)] at k1 k2
 refine .next (s' := .s1 1 m (b++J4 m.Session) [m.Session,m.Payload]) ?_ (.next (s' := .s1 2 m (b++J4 m.Session++J4 m.Payload) [m.Session,m.Payload]) ?_ (.done ?_))
 ·have hl:decide (((List.map (d7 .u8) b).length+(List.map (d7 .u8) (J4 m.Session)).length)*1≤i7)=true:=D3 (by simp only [List.length_map];omega)
  simp only [M8,aG5,z7]
  simp only [show (0+(0:Int).toNat)=0 from rfl,List.getElem?_cons_zero,Option.bind_some,k1,hl]
  rfl
 ·have hl:decide (((List.map (d7 .u8) (b++J4 m.Session)).length+(List.map (d7 .u8) (J4 m.Payload)).length)*1≤i7)=true:=D3 (by simp only [List.length_map,List.length_append];omega)
  simp only [M8,aG5,z7]
  simp only [show (0+(1:Int).toNat)=1 from rfl,List.getElem?_cons_succ,List.getElem?_cons_zero,Option.bind_some,k2,hl]
  rfl
 ·rw [←List.append_assoc]
  simp only [M8,aG5,wU8 hk.1 hk.2]
  rfl
theorem dP8 {m:e9} (hf:al9 m) (h:C3 m=true) {b:List Int} (hb:b.length≤7000):
  Ev M8 (.s2 m b) (m.Kind,b++(encL m.ID++(J4 m.Session++J4 m.Payload)),0):=by
 have hi:=cQ2 h
 have hh:=(am6 h).1
 unfold hdM at hh
 have c:=ao0 hf.id (by omega)
 have hl:decide (((List.map (d7 .u8) b).length+(List.map (d7 .u8) (encL m.ID)).length)*1≤i7)=true:=D3 (by simp only [List.length_map];omega)
 refine .next (s' := .s1 0 m (b++encL m.ID) [m.Session,m.Payload]) ?_ ?_
 ·simp only [M8,bl9,z7,aQ6 hf.id (by omega),Option.bind_some,hl,cond_true]
 ·have:=dK2 (m:=m) (b:=b++encL m.ID) hi.2.1 hi.2.2 (by omega) (by simp only [List.length_append];omega)
  rw [List.append_assoc] at this
  exact this
theorem dO0 {m:e9} (hf:al9 m):bF8 m=some (dk7 m):=by
 unfold dk7
 by_cases h:C3 m=true
 ·rw [if_pos h]
  have hi:=cl2 hf h
  have hu:=hf.up
  have hh:=(am6 h).1
  unfold hdM at hh
  have hw:IntKind.i64.wrap m.Up=m.Up:=u4 (by omega) (by omega)
  have nl:=ao0 hi (by simp [Z8])
  refine u0 (.next (s' := .s3 m (Z8 m)) ?_ ?_)
  ·simp only [M8,aR8,bu1 hf.sh,h,Option.bind_some,Bool.not_true,cond_false,hw,Z8]
   cases m.HasPlan<;>rfl
  ·refine .next (s' := .s2 m (encL (Z8 m)++by2 m)) ?_ ?_
   ·simp only [M8,bi7,aQ6 hi (by simp [Z8]),Option.bind_some,z7]
    unfold by2
    cases hp:m.HasPlan
    ·simp only [cond_false,List.append_nil]
    ·have rp:=bj1 h hp
     have pl:=ci2 hf.pl rp
     have tl:=aX0 (s:=aB1 m.Plan) (by omega)
     have e1:bG5 m.Plan=some (aB1 m.Plan,0):=by rw [dW4 hf.pl,dC0,if_pos (af0.2 rp)]
     have e2:Z3 (aB1 m.Plan)=some (0,J4 (aB1 m.Plan)):=by rw [bF6 (by simp only [F6];omega),dq0 (by omega)]
     have hl:decide (((List.map (d7 .u8) (encL (Z8 m))).length+(List.map (d7 .u8) (J4 (aB1 m.Plan))).length)*1≤i7)=true:=D3 (by simp only [List.length_map];omega)
     simp only [cond_true,e1,e2,Option.bind_some,hl]
   ·have q:=cU8 hf h
    have:=dP8 hf h (b:=encL (Z8 m)++by2 m) (by simp only [List.length_append];omega)
    rw [List.append_assoc] at this
    exact this
 ·rw [if_neg h]
  refine u0 (.done ?_)
  simp only [M8,aR8,bu1 hf.sh,Bool.eq_false_iff.2 h,Option.bind_some,Bool.not_false,cond_true]
end Go.RX.L

namespace Go.RX.L
open Go Go.RX
def aR4:e9:=⟨0,0,0,0,0,0,0,0,0,0,false,v7,[],[],[]⟩
def withT (m:e9) (id s py:List Int):e9:=⟨m.Kind,m.From,m.To,m.Epoch,m.Ballot,m.Accepted,m.Nonce,m.Time,m.Up,m.Code,m.HasPlan,m.Plan,id,s,py⟩
def bb2 (l:List Int):Option (List Int×List Int×List Int):=match pL l with
 | .inl _=>none
 | .inr (id,k1)=>(match pT (l.drop k1) with
  | .inl _=>none
  | .inr (s,k2)=>(match pT (l.drop (k1+k2)) with
   | .inl _=>none
   | .inr (py,k3)=>if k1+k2+k3=l.length then some (id,s,py) else none))
def bD9 (m:e9) (l:List Int):e9×Int:=match bb2 l with
 | none=>(aR4,51)
 | some (id,s,py)=>if C3 (withT m id s py)=true then (withT m id s py,0) else (aR4,51)
theorem dL9 {l:List Int}{e:Int} (h:pL l= .inl e):bb2 l=none:=by simp only [bb2,h]
theorem dJ2 {l id:List Int}{k1:Nat}{e:Int} (h:pL l= .inr (id,k1)) (h2:pT (l.drop k1)= .inl e):bb2 l=none:=by simp only [bb2,h,h2]
theorem dN1 {l id s:List Int}{k1 k2:Nat}{e:Int} (h:pL l= .inr (id,k1)) (h2:pT (l.drop k1)= .inr (s,k2)) (h3:pT (l.drop (k1+k2))= .inl e):bb2 l=none:=by simp only [bb2,h,h2,h3]
theorem de9 {l id s py:List Int}{k1 k2 k3:Nat} (h:pL l= .inr (id,k1)) (h2:pT (l.drop k1)= .inr (s,k2)) (h3:pT (l.drop (k1+k2))= .inr (py,k3)):bb2 l=if k1+k2+k3=l.length then some (id,s,py) else none:=by simp only [bb2,h,h2,h3]
theorem cD7 (x e:Int) (b:List Int) (h:(e !=0)=true):H8 ⟨⟨x,e⟩,b⟩=some ([],⟨⟨x,e⟩,b⟩):=by simp only [H8,h,cond_true]
theorem bY8 {b:List Int} (hb:r6 b) (hm:b.length≤F6) {at_:Nat} (h:at_≤b.length):aa1 ⟨⟨at_,0⟩,b⟩=some ((rL at_ (pL (b.drop at_))).1,⟨⟨(rL at_ (pL (b.drop at_))).2.1,(rL at_ (pL (b.drop at_))).2.2⟩,b⟩):=by
 simp only [aa1,bne_self_eq_false,cond_false,bY1 hb hm h,Option.bind_some]
theorem cA3 {b:List Int} (hb:r6 b) (hm:b.length≤F6) {at_:Nat} (h:at_≤b.length):H8 ⟨⟨at_,0⟩,b⟩=some ((rL at_ (pT (b.drop at_))).1,⟨⟨(rL at_ (pT (b.drop at_))).2.1,(rL at_ (pT (b.drop at_))).2.2⟩,b⟩):=by
 simp only [H8,bne_self_eq_false,cond_false,dI8 hb hm h,Option.bind_some]
theorem Shm.withT {m:e9} (h:Shm m) (id s py:List Int):Shm (withT m id s py):=⟨h.s,h.up,h.sup⟩
theorem pTe {l:List Int}{e:Int} (h:pT l= .inl e):(e !=0)=true:=bne_iff_ne.2 (dT8 h)
theorem dw5 {b:List Int} (hb:r6 b) (hm:b.length≤F6) {at_:Nat} (h:at_≤b.length) (b0:e9) {m:e9} (hs:Shm m):aA6 b b0 ⟨⟨at_,0⟩,b⟩ m=some (bD9 m (b.drop at_)):=by
 have bad:∀(z:e9),aN8 true b0 z=some (aR4,51):=fun z=>rfl
 simp only [aA6,bY8 hb hm h,Option.bind_some]
 unfold bD9
 cases h1:pL (b.drop at_) with
 | inl e=>
  have he:=bV7 h1
  rw [dL9 h1]
  simp only [rL,cD7 _ _ _ he,Option.bind_some,he,cond_true,bad]
 | inr x=>
  obtain ⟨id,k1⟩:=x
  have l1:=cP8 hb h1
  have a1:at_+k1≤b.length:=by omega
  simp only [rL,cA3 hb hm a1,Option.bind_some]
  cases h2:pT (b.drop (at_+k1)) with
  | inl e=>
   have he:=pTe h2
   rw [dJ2 h1 (by rw [List.drop_drop];exact h2)]
   simp only [rL,cD7 _ _ _ he,Option.bind_some,he,cond_true,bad]
  | inr x=>
   obtain ⟨s,k2⟩:=x
   have l2:=(cp0 (aX8 hb _) h2).2.1
   rw [List.length_drop] at l2
   have a2:at_+k1+k2≤b.length:=by omega
   simp only [rL,cA3 hb hm a2,Option.bind_some]
   cases h3:pT (b.drop (at_+k1+k2)) with
   | inl e=>
    have he:=pTe h3
    rw [dN1 h1 (by rw [List.drop_drop];exact h2) (by rw [List.drop_drop,←Nat.add_assoc];exact h3)]
    simp only [rL,he,cond_true,bad]
   | inr x=>
    obtain ⟨py,k3⟩:=x
    have l3:=(cp0 (aX8 hb _) h3).2.1
    rw [List.length_drop] at l3
    rw [de9 h1 (by rw [List.drop_drop];exact h2) (by rw [List.drop_drop,←Nat.add_assoc];exact h3)]
    simp only [rL,bne_self_eq_false,cond_false,List.length_map,List.length_drop]
    by_cases hq:k1+k2+k3=b.length-at_
    ·have c1:(((at_+k1+k2+k3:Nat):Int) !=((b.length:Nat):Int))=false:=by rw [show at_+k1+k2+k3=b.length by omega];simp
     have hr:=bu1 (hs.withT id s py)
     rw [c1,if_pos hq]
     show (Option.bind (an6 (withT m id s py)) fun y6=>aN8 (!y6) b0 (withT m id s py))=_
     rw [hr]
     simp only [Option.bind_some]
     cases hh:C3 (withT m id s py)<;>rfl
    ·have c1:(((at_+k1+k2+k3:Nat):Int) !=((b.length:Nat):Int))=true:=bne_iff_ne.2 (by omega)
     rw [c1,if_neg hq]
     exact bad (withT m id s py)
def aG0 (k:Int) (l:List Int) (p:Plan):e9:=⟨k,l.getD 0 0,l.getD 1 0,l.getD 2 0,l.getD 3 0,l.getD 4 0,l.getD 5 0,l.getD 6 0,l.getD 7 0,l.getD 8 0,l.getD 9 0==1,p,[],[],[]⟩
def bt9 (l:List Int):Prop:=l.length=10∧0≤l.getD 0 0∧l.getD 0 0≤255∧0≤l.getD 1 0∧l.getD 1 0≤255∧0≤l.getD 7 0∧l.getD 7 0≤65535∧0≤l.getD 8 0∧l.getD 8 0≤65535∧0≤l.getD 9 0∧l.getD 9 0≤1
instance (l:List Int):Decidable (bt9 l):=by unfold bt9;infer_instance
def bU4 (k:Int) (l b:List Int):e9×Int:=if l.getD 9 0=1 then (match pT b with
  | .inl _=>(aR4,51)
  | .inr (t,j)=>if (ac4 t).2=0 then bD9 (aG0 k l (ac4 t).1) (b.drop j) else (aR4,51))
 else bD9 (aG0 k l v7) b
def ofM (k:Int) (b:List Int):e9×Int:=match pL b with
 | .inl _=>(aR4,51)
 | .inr (l,n)=>if bt9 l then bU4 k l (b.drop n) else (aR4,51)
theorem dC3 (k:Int) (l:List Int):Shm (aG0 k l v7):=⟨⟨by simp [aG0,v7],by simp [aG0,v7]⟩,J7.2 (by simp [aG0,v7]),J7.2 (by simp [aG0,v7])⟩
theorem dQ3 {t:List Int} (ht:r6 t) (h:(ac4 t).2=0) (k:Int) (l:List Int):Shm (aG0 k l (ac4 t).1):=by
 obtain ⟨h1,h2,h3⟩:=dC2 ht (p:=(ac4 t).1) (by rw [←h])
 have hr:=af0.1 h1
 have a1:=h2.up
 have a2:=h2.sup
 have a3:=hr.up
 have a4:=hr.sup
 exact ⟨h2.s,(J7.2 (by omega):n4 .u64 (ac4 t).1.Up),(J7.2 (by omega):n4 .u64 (ac4 t).1.Sup)⟩
theorem dW0 {t l:List Int}{j:Nat} (hb:r6 l) (h:pT l= .inr (t,j)):t.length≤F6:=by
 have:=(cp0 hb h).2.2.2.1
 simp only [F6];omega
theorem dW2 {k:Int} (hk:0≤k∧k≤255) {b:List Int} (hb:r6 b) (hm:b.length≤F6) {at_:Nat} (h:at_≤b.length) {l:List Int} (hl:bt9 l) (b0:e9):N9 k b l false b0 ⟨⟨at_,0⟩,b⟩=some (bU4 k l (b.drop at_)):=by
 obtain ⟨hlen,hw⟩:=hl
 match l,hlen,hw with
 | [a0,a1,a2,a3,a4,a5,a6,a7,a8,a9],_,hw=>
  simp only [List.getD_cons_zero,List.getD_cons_succ] at hw
  have wk:IntKind.i64.wrap k=k:=u4 (by omega) (by omega)
  have wu:IntKind.u64.wrap a7=a7:=cC9 (by omega) (by omega)
  have e:N9 k b [a0,a1,a2,a3,a4,a5,a6,a7,a8,a9] false b0 ⟨⟨at_,0⟩,b⟩=(bif (a9==1) then ((H8 ⟨⟨at_,0⟩,b⟩).bind fun y33=>((bF7 y33.1).bind fun y34=>(bif ((y34.2:Int) !=0) then some (aR4,51) else
    aA6 b b0 y33.2 ⟨IntKind.i64.wrap k,a0,a1,a2,a3,a4,a5,a6,IntKind.u64.wrap a7,a8,a9==1,y34.1,[],[],[]⟩))) else aA6 b b0 ⟨⟨at_,0⟩,b⟩ ⟨IntKind.i64.wrap k,a0,a1,a2,a3,a4,a5,a6,IntKind.u64.wrap a7,a8,a9==1,v7,[],[],[]⟩):=rfl
  rw [e,wk,wu]
  unfold bU4
  simp only [List.getD_cons_zero,List.getD_cons_succ]
  by_cases h9:a9=1
  ·have c9:(a9==1)=true:=beq_iff_eq.2 h9
   rw [if_pos h9]
   have hd:∀p,(⟨k,a0,a1,a2,a3,a4,a5,a6,a7,a8,a9==1,p,[],[],[]⟩:e9)=aG0 k [a0,a1,a2,a3,a4,a5,a6,a7,a8,a9] p:=fun p=>rfl
   simp only [hd]
   rw [c9,cond_true,cA3 hb hm h]
   simp only [Option.bind_some]
   cases h2:pT (b.drop at_) with
   | inl e=>
    have he:=pTe h2
    have g:=dw1 (b:= []) (fun c hc=>by cases hc) (by simp)
    have g0:ac4 []=(v7,41):=by
     have:aI8 []=none:=by decide
     simp only [ac4,this]
    simp only [rL,g,g0,Option.bind_some]
    rfl
   | inr x=>
    obtain ⟨s,j⟩:=x
    obtain ⟨d1,d2,d3,d4,d5⟩:=cp0 (aX8 hb at_) h2
    rw [List.length_drop] at d2
    have g:=dw1 d5 (dW0 (aX8 hb at_) h2)
    simp only [rL,g,Option.bind_some]
    by_cases hq:(ac4 s).2=0
    ·rw [if_pos hq,show ((ac4 s).2 !=0)=false by rw [hq];rfl,cond_false,dw5 hb hm (by omega) b0 (dQ3 d5 hq k _),List.drop_drop]
    ·rw [if_neg hq,show ((ac4 s).2 !=0)=true from bne_iff_ne.2 hq,cond_true]
  ·have c9:(a9==1)=false:=beq_eq_false_iff_ne.2 h9
   rw [if_neg h9]
   have hd:∀p,(⟨k,a0,a1,a2,a3,a4,a5,a6,a7,a8,a9==1,p,[],[],[]⟩:e9)=aG0 k [a0,a1,a2,a3,a4,a5,a6,a7,a8,a9] p:=fun p=>rfl
   simp only [hd]
   rw [c9,cond_false,dw5 hb hm h b0 (dC3 k _)]
theorem dX1 {k:Int} (hk:0≤k∧k≤255) {b:List Int} (hb:r6 b) (hm:b.length≤F6):be2 k b=some (ofM k b):=by
 have bad:∀l b0 r,N9 k b l true b0 r=some (aR4,51):=fun _ _ _=>rfl
 have hr:=bY8 hb hm (Nat.zero_le b.length)
 simp only [Int.natCast_zero,List.drop_zero] at hr
 unfold ofM
 cases h1:pL b with
 | inl e=>
  have he:=bV7 h1
  rw [h1] at hr
  simp only [be2]
  rw [show (⟨⟨0,0⟩,b⟩:l8)=⟨⟨((0:Nat):Int),0⟩,b⟩ from rfl]
  rw [bY8 hb hm (Nat.zero_le b.length),List.drop_zero,h1]
  simp only [rL,Option.bind_some,he,cond_true,bad]
 | inr x=>
  obtain ⟨l,n⟩:=x
  have hl:=cP8 hb (at_:=0) (b:=b) h1
  simp only [be2]
  rw [show (⟨⟨0,0⟩,b⟩:l8)=⟨⟨((0:Nat):Int),0⟩,b⟩ from rfl]
  rw [bY8 hb hm (Nat.zero_le b.length),List.drop_zero,h1]
  simp only [rL,Option.bind_some,bne_self_eq_false,cond_false,List.length_map,Nat.zero_add]
  by_cases h10:l.length=10
  ·rw [show (((l.length:Nat):Int) !=10)=false by rw [h10];rfl]
   have o1:∀b0,bt9 l→N9 k b l false b0 ⟨⟨((n:Nat):Int),0⟩,b⟩=some (bU4 k l (b.drop n)):=fun b0 hw=>dW2 hk hb hm (by omega) hw b0
   match l,h10,o1 with
   | [a0,a1,a2,a3,a4,a5,a6,a7,a8,a9],_,o1=>
    have ew:bt9 [a0,a1,a2,a3,a4,a5,a6,a7,a8,a9]↔0≤a0∧a0≤255∧0≤a1∧a1≤255∧0≤a7∧a7≤65535∧0≤a8∧a8≤65535∧0≤a9∧a9≤1:=⟨fun h=>h.2,fun h=>⟨rfl,h⟩⟩
    show (bif decide (z9 (z9 (z9 (z9 a0 a1) a7) a8) a9<0) then N9 k b [a0,a1,a2,a3,a4,a5,a6,a7,a8,a9] true _ _ else bif decide (u5 a0 a1>255) then N9 k b [a0,a1,a2,a3,a4,a5,a6,a7,a8,a9] true _ _ else
     bif decide (u5 a7 a8≥65536) then N9 k b [a0,a1,a2,a3,a4,a5,a6,a7,a8,a9] true _ _ else N9 k b [a0,a1,a2,a3,a4,a5,a6,a7,a8,a9] (decide (a9>1)) _ _)=_
    have mn:z9 (z9 (z9 (z9 a0 a1) a7) a8) a9<0↔a0<0∨a1<0∨a7<0∨a8<0∨a9<0:=by
     rw [show z9 (z9 (z9 (z9 a0 a1) a7) a8) a9=z9 (z9 (z9 (z9 a0 a1) a7) a8) a9 from rfl,bW3]
     constructor
     ·rintro (h | h | h)
      ·rw [bW3] at h;omega
      ·omega
      ·omega
     ·intro h
      rw [bW3];omega
    by_cases q1:z9 (z9 (z9 (z9 a0 a1) a7) a8) a9<0
    ·rw [decide_eq_true q1,cond_true,bad,if_neg (by rw [ew];rw [mn] at q1;omega)]
    ·rw [decide_eq_false q1,cond_false]
     by_cases q2:u5 a0 a1>255
     ·rw [decide_eq_true q2,cond_true,bad,if_neg (by rw [ew];rw [cP2] at q2;omega)]
     ·rw [decide_eq_false q2,cond_false]
      by_cases q3:u5 a7 a8≥65536
      ·rw [decide_eq_true q3,cond_true,bad,if_neg (by rw [ew];rw [dH8] at q3;omega)]
      ·rw [decide_eq_false q3,cond_false]
       by_cases q4:a9>1
       ·rw [decide_eq_true q4,bad,if_neg (by rw [ew];omega)]
       ·have hw:bt9 [a0,a1,a2,a3,a4,a5,a6,a7,a8,a9]:=by
         rw [ew];rw [mn] at q1;rw [cP2] at q2;rw [dH8] at q3;omega
        rw [decide_eq_false q4,o1 _ hw,if_pos hw]
  ·rw [show (((l.length:Nat):Int) !=10)=true from bne_iff_ne.2 (by omega),cond_true,bad,if_neg (fun h=>h10 h.1)]
end Go.RX.L

namespace Go.RX.L
open Go Go.RX
/-! ### the document's reader -/
end Go.RX.L

namespace Go.RX.L
open Go Go.RX
/-! ### frames -/
/-! ### what is written is read -/
theorem dr8 {m:e9} (hf:al9 m) (h:C3 m=true) (rest:List Int):bb2 (encL m.ID++(J4 m.Session++(J4 m.Payload++rest)))=if rest= [] then some (m.ID,m.Session,m.Payload) else none:=by
 have hi:=cQ2 h
 have h1:=bV6 hf.id (by omega) (J4 m.Session++(J4 m.Payload++rest))
 have h2:=cY0 (s:=m.Session) (by omega) (J4 m.Payload++rest)
 have h3:=cY0 (s:=m.Payload) (by omega) rest
 rw [de9 h1 (by rw [List.drop_left];exact h2) (by rw [←List.drop_drop,List.drop_left,List.drop_left];exact h3)]
 simp only [List.length_append]
 cases rest with
 | nil=>rw [if_pos (by simp;omega),if_pos rfl]
 | cons x r=>rw [if_neg (by simp;omega),if_neg (by simp)]
theorem dt9 {m:e9} (hf:al9 m) (h:C3 m=true):bt9 (Z8 m):=by
 have hh:=(am6 h).1
 unfold hdM at hh
 have hu:=hf.up
 refine ⟨rfl,?_⟩
 show 0≤m.From∧m.From≤255∧0≤m.To∧m.To≤255∧0≤m.Up∧m.Up≤65535∧0≤m.Code∧m.Code≤65535∧0≤(bif m.HasPlan then (1:Int) else 0)∧(bif m.HasPlan then (1:Int) else 0)≤1
 cases m.HasPlan<;>simp only [cond_true,cond_false]<;>omega
theorem dC8 {m:e9} (hf:al9 m) (h:C3 m=true) (k:Int) (rest:List Int):ofM k (ai5 m++rest)=if rest= []∧C3 ⟨k,m.From,m.To,m.Epoch,m.Ballot,m.Accepted,m.Nonce,m.Time,m.Up,m.Code,m.HasPlan,m.Plan,m.ID,m.Session,m.Payload⟩=true then (⟨k,m.From,m.To,m.Epoch,m.Ballot,m.Accepted,m.Nonce,m.Time,m.Up,m.Code,m.HasPlan,m.Plan,m.ID,m.Session,m.Payload⟩,0) else (aR4,51):=by
 have e0:ai5 m++rest=encL (Z8 m)++(by2 m++(encL m.ID++(J4 m.Session++(J4 m.Payload++rest)))):=by simp [ai5]
 rw [e0]
 unfold ofM
 rw [bV6 (cl2 hf h) (by simp [Z8])]
 simp only [if_pos (dt9 hf h),List.drop_left]
 unfold bU4
 have fin:∀p,p=m.Plan→(Z8 m).getD 9 0=(bif m.HasPlan then (1:Int) else 0)→bD9 (aG0 k (Z8 m) p) (encL m.ID++(J4 m.Session++(J4 m.Payload++rest)))=if rest= []∧C3 ⟨k,m.From,m.To,m.Epoch,m.Ballot,m.Accepted,m.Nonce,m.Time,m.Up,m.Code,m.HasPlan,m.Plan,m.ID,m.Session,m.Payload⟩=true then (⟨k,m.From,m.To,m.Epoch,m.Ballot,m.Accepted,m.Nonce,m.Time,m.Up,m.Code,m.HasPlan,m.Plan,m.ID,m.Session,m.Payload⟩,0) else (aR4,51):=by
  intro p hp h9
  have hb:withT (aG0 k (Z8 m) p) m.ID m.Session m.Payload=⟨k,m.From,m.To,m.Epoch,m.Ballot,m.Accepted,m.Nonce,m.Time,m.Up,m.Code,m.HasPlan,m.Plan,m.ID,m.Session,m.Payload⟩:=by
   subst hp
   have:((Z8 m).getD 9 0==1)=m.HasPlan:=by rw [h9];cases m.HasPlan<;>rfl
   simp only [withT,aG0,this]
   rfl
  unfold bD9
  rw [dr8 hf h]
  by_cases hr:rest= []
  ·rw [if_pos hr]
   simp only [hb,hr,true_and]
  ·rw [if_neg hr]
   simp only [hr,false_and,if_false]
 unfold by2
 cases hp:m.HasPlan with
 | false=>
  have h9:(Z8 m).getD 9 0=0:=by show (bif m.HasPlan then (1:Int) else 0)=0;rw [hp];rfl
  rw [if_neg (by rw [h9];decide)]
  have:=fin v7 (dm6 h hp).symm rfl
  rw [hp] at this
  exact this
 | true=>
  have h9:(Z8 m).getD 9 0=1:=by show (bif m.HasPlan then (1:Int) else 0)=1;rw [hp];rfl
  have rp:=bj1 h hp
  have pl:=ci2 hf.pl rp
  rw [if_pos h9,cond_true,cY0 (by omega)]
  have g:=dy9 hf.pl (af0.2 rp)
  simp only [g,if_true,List.drop_left]
  have:=fin m.Plan rfl rfl
  rw [hp] at this
  exact this
theorem dQ2 {m:e9} (hf:al9 m) (h:C3 m=true):ofM m.Kind (ai5 m)=(m,0):=by
 have:=dC8 hf h m.Kind []
 rw [List.append_nil] at this
 rw [this,if_pos ⟨rfl,h⟩]
/-! ### alike? -/
end Go.RX.L

namespace Go.RX.L
open Go Go.RX
theorem df3 {m:e9} (h:C3 m=true):0≤m.Kind∧m.Kind≤255:=by
 have hh:=(am6 h).1
 unfold hdM at hh
 omega
/-! ### the head -/
theorem dc0 {m:e9} (hf:al9 m) (h:C3 m=true):r6 (G3 m.Kind (ai5 m)):=by
 have hl:=ci1 hf h
 exact bE7 (df3 h) (di4 hf) (by omega)
end Go.RX.L

namespace Go.RX.L
open Go Go.RX Go.Proofs
attribute [local irreducible] f5
noncomputable def bP0 (b1:List Int) (fuse:Int) (down:Bool) (b3 y:List Int):D×f3:=(.tup [],[some ⟨1,true,[[.ptr 2 0 0]]⟩,some ⟨1,false,[[.sl false 1 (List.map (d7 .u8) b1)]]⟩,some ⟨4,true,[[(f6 3 (List.map (d7 .u8) b3)),(f6 5 (List.map (d7 .u8) y)),.int .i64 fuse,.bool down]]⟩,some ⟨1,false,(List.map (d7 .u8) b3)⟩,none,some ⟨1,false,(List.map (d7 .u8) y)⟩])
noncomputable def X0 (b1:List Int) (fuse:Int) (down:Bool) (b3 b4:List Int):Option (List Int):=(bif (decide (((List.map (d7 .u8) b4).length+(List.map (d7 .u8) b1).length)*1≤i7)) then (some (b4++b1)) else none)
theorem aV0 {b1:List Int}{fuse:Int}{down:Bool}{b3 b4 r:List Int} (h:X0 b1 fuse down b3 b4=some r):i0 E 125 [.ptr 0 0 0,.ptr 1 0 0] [some ⟨1,true,[[.ptr 2 0 0]]⟩,some ⟨1,false,[[.sl false 1 (List.map (d7 .u8) b1)]]⟩,some ⟨4,true,[[(f6 3 (List.map (d7 .u8) b3)),(f6 4 (List.map (d7 .u8) b4)),.int .i64 fuse,.bool down]]⟩,some ⟨1,false,(List.map (d7 .u8) b3)⟩,some ⟨1,false,(List.map (d7 .u8) b4)⟩] (Rs (bP0 b1 fuse down b3) r):=so (fn:=Tryz.f125) (k:=true) (m:=5) h<| by
 intro r h;unfold X0 at h
 refine zn 5 h fun h=> ?_
 refine za 0 (d7 .u8) b4 b1 ?_
 exact zu 3 h
end Go.RX.L

namespace Go.RX.L
open Go Go.RX Go.Proofs
attribute [local irreducible] f5
noncomputable def ab9:=n8 (p6 Tryz.f86)
noncomputable def aw1 (b2 b3:List Int) (y:Int×Int×Bool×(List Int)):D×f3:=(.int .i64 y.1,[some ⟨4,true,[[(f6 5 (List.map (d7 .u8) b3)),(f6 6 (List.map (d7 .u8) y.2.2.2)),.int .i64 y.2.1,.bool y.2.2.1]]⟩,some ⟨1,true,[[.ptr 0 0 0]]⟩,some ⟨1,false,[[.sl false 1 (List.map (d7 .u8) b2)]]⟩,none,none,some ⟨1,false,(List.map (d7 .u8) b3)⟩,some ⟨1,false,(List.map (d7 .u8) y.2.2.2)⟩])
abbrev aw3 (fuse:Int) (down:Bool) (b2 b3 b4:List Int):=AOk E (Cx.of Tryz.f86 true 5) (aw1 b2 b3)
noncomputable def bb6 (fuse:Int) (down:Bool) (b2 b3 b4:List Int) (fuse2:Int) (down2:Bool):M:=⟨[.code (ab9 [1,1])],[(0,.ptr 0 0 0),(1,.fn 125 [] [.ptr 1 0 0,.ptr 2 0 0])],[some ⟨4,true,[[(f6 3 (List.map (d7 .u8) b3)),(f6 4 (List.map (d7 .u8) b4)),.int .i64 fuse2,.bool down2]]⟩,some ⟨1,true,[[.ptr 0 0 0]]⟩,some ⟨1,false,[[.sl false 1 (List.map (d7 .u8) b2)]]⟩,some ⟨1,false,(List.map (d7 .u8) b3)⟩,some ⟨1,false,(List.map (d7 .u8) b4)⟩]⟩
noncomputable def B9 (fuse:Int) (down:Bool) (b2 b3 b4:List Int) (fuse2:Int) (down2:Bool):Option (Int×Int×Bool×(List Int)):=(bif down2 then (some (61,fuse2,down2,b4)) else (bif (decide ((fuse2:Int)>0)) then ((X0 b2 (IntKind.i64.wrap (fuse2-1)) down2 b3 b4).bind fun y3=>(some (0,(IntKind.i64.wrap (fuse2-1)),down2,y3))) else ((X0 b2 fuse2 down2 b3 b4).bind fun y4=>(some (0,fuse2,down2,y4)))))
theorem ap5 {fuse down b2 b3 b4 fuse2 down2}:aw3 fuse down b2 b3 b4 (bb6 fuse down b2 b3 b4 fuse2 down2) (B9 fuse down b2 b3 b4 fuse2 down2):=by
 intro r h;unfold B9 at h
 refine zs 10 h (fun h=> ?_) fun h=> ?_
 ·
  refine zf 4 [.mv 3,.mv 4] ?_
  exact zu 1 h
 refine zs 12 h (fun h=> ?_) fun h=> ?_
 ·
  refine zc 17 [] h (fun _=>aV0) fun y3 h=> ?_
  refine zf 5 [.mv 3] ?_
  exact zu 1 h
 refine zc 5 [] h (fun _=>aV0) fun y4 h=> ?_
 refine zf 5 [.mv 3] ?_
 exact zu 1 h
noncomputable def be3 (fuse:Int) (down:Bool) (b2 b3 b4:List Int) (t16:Bool):M:=⟨[.code (ab9 [1,0,1]),.code (ab9 [1,1])],[(0,.ptr 0 0 0),(1,.fn 125 [] [.ptr 1 0 0,.ptr 2 0 0]),(16,.bool t16)],[some ⟨4,true,[[(f6 3 (List.map (d7 .u8) b3)),(f6 4 (List.map (d7 .u8) b4)),.int .i64 fuse,.bool down]]⟩,some ⟨1,true,[[.ptr 0 0 0]]⟩,some ⟨1,false,[[.sl false 1 (List.map (d7 .u8) b2)]]⟩,some ⟨1,false,(List.map (d7 .u8) b3)⟩,some ⟨1,false,(List.map (d7 .u8) b4)⟩]⟩
noncomputable def B7 (fuse:Int) (down:Bool) (b2 b3 b4:List Int) (t16:Bool):Option (Int×Int×Bool×(List Int)):=(bif t16 then (B9 fuse down b2 b3 b4 (-1) true) else (B9 fuse down b2 b3 b4 fuse down))
theorem ap4 {fuse down b2 b3 b4 t16}:aw3 fuse down b2 b3 b4 (be3 fuse down b2 b3 b4 t16) (B7 fuse down b2 b3 b4 t16):=by
 intro r h;unfold B7 at h
 refine zs 1 h (fun h=> ?_) fun h=> ?_
 ·
  exact zg 14 (ap5 h)
 exact zg 1 (ap5 h)
noncomputable def T1 (fuse:Int) (down:Bool) (b2 b3 b4:List Int):Option (Int×Int×Bool×(List Int)):=(bif (!down) then (B7 fuse down b2 b3 b4 ((fuse:Int)==0)) else (B7 fuse down b2 b3 b4 false))
theorem bd1 {fuse:Int}{down:Bool}{b2 b3 b4:List Int}{r:Int×Int×Bool×(List Int)} (h:T1 fuse down b2 b3 b4=some r):i0 E 86 [.ptr 0 0 0,.fn 125 [] [.ptr 1 0 0,.ptr 2 0 0]] [some ⟨4,true,[[(f6 3 (List.map (d7 .u8) b3)),(f6 4 (List.map (d7 .u8) b4)),.int .i64 fuse,.bool down]]⟩,some ⟨1,true,[[.ptr 0 0 0]]⟩,some ⟨1,false,[[.sl false 1 (List.map (d7 .u8) b2)]]⟩,some ⟨1,false,(List.map (d7 .u8) b3)⟩,some ⟨1,false,(List.map (d7 .u8) b4)⟩] (Rs (aw1 b2 b3) r):=so (fn:=Tryz.f86) (k:=true) (m:=5) h<| by
 intro r h;unfold T1 at h
 refine zs 15 h (fun h=> ?_) fun h=> ?_
 ·
  exact zg 12 (ap4 h)
 exact zg 11 (ap4 h)
end Go.RX.L

namespace Go.RX.L
open Go Go.RX Go.Proofs
attribute [local irreducible] f5
noncomputable def ch7 (b1:List Int) (y:Int×Int×Bool×(List Int)):D×f3:=(.int .i64 y.1,[some ⟨4,true,[[(f6 3 (List.map (d7 .u8) b1)),(f6 4 (List.map (d7 .u8) y.2.2.2)),.int .i64 y.2.1,.bool y.2.2.1]]⟩,none,none,some ⟨1,false,(List.map (d7 .u8) b1)⟩,some ⟨1,false,(List.map (d7 .u8) y.2.2.2)⟩])
noncomputable def as3 (kind:Int) (body:List Int) (fuse:Int) (down:Bool) (b1 b2:List Int):Option (Int×Int×Bool×(List Int)):=((bv3 kind body).bind fun y1=>(bif ((y1.2:Int) !=0) then (some (y1.2,fuse,down,b2)) else ((T1 fuse down y1.1 b1 b2).bind fun y3=>(some (y3.1,y3.2.1,y3.2.2.1,y3.2.2.2)))))
theorem cb5 {kind:Int}{body:List Int}{fuse:Int}{down:Bool}{b1 b2:List Int}{r:Int×Int×Bool×(List Int)} (h:as3 kind body fuse down b1 b2=some r):i0 E 93 [.ptr 0 0 0,.int .u8 kind,.sl false 1 (List.map (d7 .u8) body)] [some ⟨4,true,[[(f6 1 (List.map (d7 .u8) b1)),(f6 2 (List.map (d7 .u8) b2)),.int .i64 fuse,.bool down]]⟩,some ⟨1,false,(List.map (d7 .u8) b1)⟩,some ⟨1,false,(List.map (d7 .u8) b2)⟩] (Rs (ch7 b1) r):=so (fn:=Tryz.f93) (k:=true) (m:=3) h<| by
 intro r h;unfold as3 at h
 refine zc 10 [] h (fun _=>cT7) fun y1 h=> ?_
 refine zs 16 h (fun h=> ?_) fun h=> ?_
 ·
  refine zf 5 [.mv 1,.mv 2] ?_
  exact zu 1 h
 refine zc 7 [] h (fun _=>bd1) fun y3 h=> ?_
 exact zu 3 h
end Go.RX.L

namespace Go.RX.L
open Go Go.RX Go.Proofs
attribute [local irreducible] f5
noncomputable def ci8 (fuse:Int) (down:Bool) (b3:List Int) (y:(List Int)×(List Int)):D×f3:=(.tup [],[some ⟨1,true,[[.ptr 1 0 0]]⟩,some ⟨4,true,[[(f6 4 (List.map (d7 .u8) y.1)),(f6 5 (List.map (d7 .u8) y.2)),.int .i64 fuse,.bool down]]⟩,none,some ⟨1,false,(List.map (d7 .u8) b3)⟩,some ⟨1,false,(List.map (d7 .u8) y.1)⟩,some ⟨1,false,(List.map (d7 .u8) y.2)⟩])
noncomputable def ag9 (fuse:Int) (down:Bool) (b2 b3:List Int):Option ((List Int)×(List Int)):=(bif (decide (((List.map (d7 .u8) b2).length+(List.take ((List.map (d7 .u8) b3).length) (List.drop 0 (List.map (d7 .u8) b3))).length)*1≤i7)) then (some ((b2++b3),[])) else none)
theorem bh3 {fuse:Int}{down:Bool}{b2 b3:List Int}{r:(List Int)×(List Int)} (h:ag9 fuse down b2 b3=some r):i0 E 126 [.ptr 0 0 0] [some ⟨1,true,[[.ptr 1 0 0]]⟩,some ⟨4,true,[[(f6 2 (List.map (d7 .u8) b2)),(f6 3 (List.map (d7 .u8) b3)),.int .i64 fuse,.bool down]]⟩,some ⟨1,false,(List.map (d7 .u8) b2)⟩,some ⟨1,false,(List.map (d7 .u8) b3)⟩] (Rs (ci8 fuse down b3) r):=so (fn:=Tryz.f126) (k:=true) (m:=4) h<| by
 intro r h;unfold ag9 at h
 refine zm 7 (b:=(Nat.beq ((List.take ((List.map (d7 .u8) b3).length) (List.drop 0 (List.map (d7 .u8) b3))).length) ((List.map (d7 .u8) b3).length))) (by simp) ?_
 refine zn 0 h fun h=> ?_
 refine zm 0 (b:=(Nat.ble (0+(List.map (d7 .u8) b2).length) ((List.map (d7 .u8) b2).length))) (u7 _) ?_
 refine zw 0 (a:=(List.take ((List.map (d7 .u8) b2).length) (List.drop 0 (List.map (d7 .u8) b2))++(List.take ((List.map (d7 .u8) b3).length) (List.drop 0 (List.map (d7 .u8) b3))))) (b:=(List.map (d7 .u8) (b2++b3))) (by simp only [z7,E3,List.map_append,List.map_take,List.map_drop]) ?_
 refine zf 4 [.matc 1 0 1 1] ?_
 exact zu 1 h
end Go.RX.L

namespace Go.RX.L
open Go Go.RX Go.Proofs
attribute [local irreducible] f5
noncomputable def aj1:=n8 (p6 Tryz.f86)
noncomputable def aB6 (y:Int×Int×Bool×(List Int)×(List Int)):D×f3:=(.int .i64 y.1,[some ⟨4,true,[[(f6 4 (List.map (d7 .u8) y.2.2.2.1)),(f6 5 (List.map (d7 .u8) y.2.2.2.2)),.int .i64 y.2.1,.bool y.2.2.1]]⟩,some ⟨1,true,[[.ptr 0 0 0]]⟩,none,none,some ⟨1,false,(List.map (d7 .u8) y.2.2.2.1)⟩,some ⟨1,false,(List.map (d7 .u8) y.2.2.2.2)⟩])
abbrev aD6 (fuse:Int) (down:Bool) (b2 b3:List Int):=AOk E (Cx.of Tryz.f86 true 4) aB6
noncomputable def bk0 (fuse:Int) (down:Bool) (b2 b3:List Int) (fuse2:Int) (down2:Bool):M:=⟨[.code (aj1 [1,1])],[(0,.ptr 0 0 0),(1,.fn 126 [] [.ptr 1 0 0])],[some ⟨4,true,[[(f6 2 (List.map (d7 .u8) b2)),(f6 3 (List.map (d7 .u8) b3)),.int .i64 fuse2,.bool down2]]⟩,some ⟨1,true,[[.ptr 0 0 0]]⟩,some ⟨1,false,(List.map (d7 .u8) b2)⟩,some ⟨1,false,(List.map (d7 .u8) b3)⟩]⟩
noncomputable def D8 (fuse:Int) (down:Bool) (b2 b3:List Int) (fuse2:Int) (down2:Bool):Option (Int×Int×Bool×(List Int)×(List Int)):=(bif down2 then (some (61,fuse2,down2,b2,b3)) else (bif (decide ((fuse2:Int)>0)) then ((ag9 (IntKind.i64.wrap (fuse2-1)) down2 b2 b3).bind fun y3=>(some (0,(IntKind.i64.wrap (fuse2-1)),down2,y3.1,y3.2))) else ((ag9 fuse2 down2 b2 b3).bind fun y4=>(some (0,fuse2,down2,y4.1,y4.2)))))
theorem at8 {fuse down b2 b3 fuse2 down2}:aD6 fuse down b2 b3 (bk0 fuse down b2 b3 fuse2 down2) (D8 fuse down b2 b3 fuse2 down2):=by
 intro r h;unfold D8 at h
 refine zs 10 h (fun h=> ?_) fun h=> ?_
 ·
  refine zf 4 [.mv 2,.mv 3] ?_
  exact zu 1 h
 refine zs 12 h (fun h=> ?_) fun h=> ?_
 ·
  refine zc 17 [] h (fun _=>bh3) fun y3 h=> ?_
  refine zf 5 [.mv 3] ?_
  exact zu 1 h
 refine zc 5 [] h (fun _=>bh3) fun y4 h=> ?_
 refine zf 5 [.mv 3] ?_
 exact zu 1 h
noncomputable def bm2 (fuse:Int) (down:Bool) (b2 b3:List Int) (t16:Bool):M:=⟨[.code (aj1 [1,0,1]),.code (aj1 [1,1])],[(0,.ptr 0 0 0),(1,.fn 126 [] [.ptr 1 0 0]),(16,.bool t16)],[some ⟨4,true,[[(f6 2 (List.map (d7 .u8) b2)),(f6 3 (List.map (d7 .u8) b3)),.int .i64 fuse,.bool down]]⟩,some ⟨1,true,[[.ptr 0 0 0]]⟩,some ⟨1,false,(List.map (d7 .u8) b2)⟩,some ⟨1,false,(List.map (d7 .u8) b3)⟩]⟩
noncomputable def D7 (fuse:Int) (down:Bool) (b2 b3:List Int) (t16:Bool):Option (Int×Int×Bool×(List Int)×(List Int)):=(bif t16 then (D8 fuse down b2 b3 (-1) true) else (D8 fuse down b2 b3 fuse down))
theorem at5 {fuse down b2 b3 t16}:aD6 fuse down b2 b3 (bm2 fuse down b2 b3 t16) (D7 fuse down b2 b3 t16):=by
 intro r h;unfold D7 at h
 refine zs 1 h (fun h=> ?_) fun h=> ?_
 ·
  exact zg 14 (at8 h)
 exact zg 1 (at8 h)
noncomputable def Y0 (fuse:Int) (down:Bool) (b2 b3:List Int):Option (Int×Int×Bool×(List Int)×(List Int)):=(bif (!down) then (D7 fuse down b2 b3 ((fuse:Int)==0)) else (D7 fuse down b2 b3 false))
theorem bl7 {fuse:Int}{down:Bool}{b2 b3:List Int}{r:Int×Int×Bool×(List Int)×(List Int)} (h:Y0 fuse down b2 b3=some r):i0 E 86 [.ptr 0 0 0,.fn 126 [] [.ptr 1 0 0]] [some ⟨4,true,[[(f6 2 (List.map (d7 .u8) b2)),(f6 3 (List.map (d7 .u8) b3)),.int .i64 fuse,.bool down]]⟩,some ⟨1,true,[[.ptr 0 0 0]]⟩,some ⟨1,false,(List.map (d7 .u8) b2)⟩,some ⟨1,false,(List.map (d7 .u8) b3)⟩] (Rs aB6 r):=so (fn:=Tryz.f86) (k:=true) (m:=4) h<| by
 intro r h;unfold Y0 at h
 refine zs 15 h (fun h=> ?_) fun h=> ?_
 ·
  exact zg 12 (at5 h)
 exact zg 11 (at5 h)
end Go.RX.L

namespace Go.RX.L
open Go Go.RX Go.Proofs
attribute [local irreducible] f5
noncomputable def cz2 (y:Int×Int×Bool×(List Int)×(List Int)):D×f3:=(.int .i64 y.1,[some ⟨4,true,[[(f6 3 (List.map (d7 .u8) y.2.2.2.1)),(f6 4 (List.map (d7 .u8) y.2.2.2.2)),.int .i64 y.2.1,.bool y.2.2.1]]⟩,none,none,some ⟨1,false,(List.map (d7 .u8) y.2.2.2.1)⟩,some ⟨1,false,(List.map (d7 .u8) y.2.2.2.2)⟩])
noncomputable def aB9 (fuse:Int) (down:Bool) (b1 b2:List Int):Option (Int×Int×Bool×(List Int)×(List Int)):=((Y0 fuse down b1 b2).bind fun y1=>(some (y1.1,y1.2.1,y1.2.2.1,y1.2.2.2.1,y1.2.2.2.2)))
theorem cp3 {fuse:Int}{down:Bool}{b1 b2:List Int}{r:Int×Int×Bool×(List Int)×(List Int)} (h:aB9 fuse down b1 b2=some r):i0 E 94 [.ptr 0 0 0] [some ⟨4,true,[[(f6 1 (List.map (d7 .u8) b1)),(f6 2 (List.map (d7 .u8) b2)),.int .i64 fuse,.bool down]]⟩,some ⟨1,false,(List.map (d7 .u8) b1)⟩,some ⟨1,false,(List.map (d7 .u8) b2)⟩] (Rs cz2 r):=so (fn:=Tryz.f94) (k:=true) (m:=3) h<| by
 intro r h;unfold aB9 at h
 refine zc 11 [] h (fun _=>bl7) fun y1 h=> ?_
 exact zu 3 h
end Go.RX.L

namespace Go.RX.L
open Go Go.RX Go.Proofs
attribute [local irreducible] f5
noncomputable def cq2 (b2:List Int) (y:Int×Bool×(List Int)×(List Int)):D×f3:=(.tup [],[some ⟨4,true,[[(f6 3 (List.map (d7 .u8) y.2.2.1)),(f6 4 (List.map (d7 .u8) y.2.2.2)),.int .i64 y.1,.bool y.2.1]]⟩,none,some ⟨1,false,(List.map (d7 .u8) b2)⟩,some ⟨1,false,(List.map (d7 .u8) y.2.2.1)⟩,some ⟨1,false,(List.map (d7 .u8) y.2.2.2)⟩])
noncomputable def al4 (keep fuse:Int) (down:Bool) (b1 b2:List Int):Option (Int×Bool×(List Int)×(List Int)):=(bif ((decide (((0:Nat):Int)≤(z9 (u5 keep 0) (((List.map (d7 .u8) b2).length:Nat):Int))))&&(decide (((z9 (u5 keep 0) (((List.map (d7 .u8) b2).length:Nat):Int)):Int)≤(((List.map (d7 .u8) b2).length:Nat):Int)))) then (bif (Nat.beq ((List.take ((z9 (u5 keep 0) (((List.map (d7 .u8) b2).length:Nat):Int)).toNat) (List.drop 0 (List.map (d7 .u8) b2))).length) ((z9 (u5 keep 0) (((List.map (d7 .u8) b2).length:Nat):Int)).toNat)) then (bif (decide (((List.map (d7 .u8) b1).length+(List.take ((z9 (u5 keep 0) (((List.map (d7 .u8) b2).length:Nat):Int)).toNat) (List.drop 0 (List.map (d7 .u8) b2))).length)*1≤i7)) then (some ((-1),true,(b1++(List.take ((z9 (u5 keep 0) (((List.map (d7 .u8) b2).length:Nat):Int)).toNat) (List.drop 0 b2))),[])) else none) else none) else none)
theorem ck8 {keep fuse:Int}{down:Bool}{b1 b2:List Int}{r:Int×Bool×(List Int)×(List Int)} (h:al4 keep fuse down b1 b2=some r):i0 E 30 [.ptr 0 0 0,.int .i64 keep] [some ⟨4,true,[[(f6 1 (List.map (d7 .u8) b1)),(f6 2 (List.map (d7 .u8) b2)),.int .i64 fuse,.bool down]]⟩,some ⟨1,false,(List.map (d7 .u8) b1)⟩,some ⟨1,false,(List.map (d7 .u8) b2)⟩] (Rs (cq2 b2) r):=so (fn:=Tryz.f30) (k:=true) (m:=3) h<| by
 intro r h;unfold al4 at h
 refine zn 17 h fun h=> ?_
 refine zn 0 h fun h=> ?_
 refine zn 0 h fun h=> ?_
 refine zm 0 (b:=(Nat.ble (0+(List.map (d7 .u8) b1).length) ((List.map (d7 .u8) b1).length))) (u7 _) ?_
 refine zw 0 (a:=(List.take ((List.map (d7 .u8) b1).length) (List.drop 0 (List.map (d7 .u8) b1))++(List.take ((z9 (u5 keep 0) (((List.map (d7 .u8) b2).length:Nat):Int)).toNat) (List.drop 0 (List.map (d7 .u8) b2))))) (b:=(List.map (d7 .u8) (b1++(List.take ((z9 (u5 keep 0) (((List.map (d7 .u8) b2).length:Nat):Int)).toNat) (List.drop 0 b2))))) (by simp only [z7,E3,List.map_append,List.map_take,List.map_drop]) ?_
 refine zf 22 [.matc 0 0 1 1] ?_
 exact zu 1 h
end Go.RX.L

namespace Go.RX.L
open Go Go.RX Go.Proofs
attribute [local irreducible] f5
noncomputable def cv6 (down:Bool) (b1 b2:List Int) (y:Int):D×f3:=(.tup [],[some ⟨4,true,[[(f6 1 (List.map (d7 .u8) b1)),(f6 2 (List.map (d7 .u8) b2)),.int .i64 y,.bool down]]⟩,some ⟨1,false,(List.map (d7 .u8) b1)⟩,some ⟨1,false,(List.map (d7 .u8) b2)⟩])
noncomputable def aU4 (n fuse:Int) (down:Bool) (b1 b2:List Int):Option Int:=(some (u5 n (-1)))
theorem cq4 {n fuse:Int}{down:Bool}{b1 b2:List Int}{r:Int} (h:aU4 n fuse down b1 b2=some r):i0 E 29 [.ptr 0 0 0,.int .i64 n] [some ⟨4,true,[[(f6 1 (List.map (d7 .u8) b1)),(f6 2 (List.map (d7 .u8) b2)),.int .i64 fuse,.bool down]]⟩,some ⟨1,false,(List.map (d7 .u8) b1)⟩,some ⟨1,false,(List.map (d7 .u8) b2)⟩] (Rs (cv6 down b1 b2) r):=so (fn:=Tryz.f29) (k:=false) (m:=3) h<| by
 intro r h;unfold aU4 at h
 exact zu 11 h
end Go.RX.L

namespace Go.RX.L
open Go Go.RX
def eff (fuse:Int) (down:Bool):Option Int:=if down=true∨fuse=0 then none else some (if 0<fuse then fuse-1 else fuse)
def fd (fuse:Int) (down:Bool):Int:=bif down then fuse else-1
def V7 (f:Int):Prop:= -1≤f∧f≤9223372036854775807
theorem dQ8 {f g:Int}{d:Bool} (h:eff f d=some g):d=false∧f≠0∧g=if 0<f then f-1 else f:=by
 unfold eff at h
 split at h
 ·cases h
 ·rename_i hn
  simp only [not_or,Bool.not_eq_true] at hn
  exact ⟨hn.1,hn.2,(Option.some.inj h).symm⟩
theorem ck7 {f g:Int}{d:Bool} (hf:V7 f) (h:eff f d=some g):V7 g:=by
 obtain ⟨-,h1,rfl⟩:=dQ8 h
 unfold V7 at*
 split<;>omega
theorem cx1 {f:Int}{d:Bool} (hf:V7 f):V7 (fd f d):=by
 cases d<;>simp [fd,V7] at* <;>omega
theorem dE9 {n:Nat} (h:n≤20000000):decide (n*1≤i7)=true:=D3 (by omega)
theorem dO8 {k:Int}{body:List Int} (hk:0≤k∧k≤255) (hb:r6 body) (hl:body.length≤8192) {fuse:Int} (hf:V7 fuse) {down:Bool}{s t:List Int} (ht:t.length≤10000000):
  as3 k body fuse down s t=some (match eff fuse down with | some f=>(0,f,false,t++G3 k body) | none=>(61,fd fuse down,true,t)):=by
 have hp:bv3 k body=some (G3 k body,0):=by rw [dc8 hk hb (by simp only [F6];omega),dz9,if_pos hl]
 have hlen:=aN6 k body
 have app:∀f d,X0 (G3 k body) f d s t=some (t++G3 k body):=fun f d=>by
  simp only [X0,List.length_map,dE9 (show t.length+(G3 k body).length≤20000000 by omega),cond_true]
 unfold V7 at hf
 simp only [as3,hp,Option.bind_some,bne_self_eq_false,cond_false,T1]
 cases down with
 | true=>simp only [Bool.not_true,cond_false,B7,B9,cond_true,Option.bind_some,eff,fd,true_or,if_true]
 | false=>
  simp only [Bool.not_false,cond_true]
  by_cases h0:fuse=0
  ·subst h0
   simp only [beq_self_eq_true,B7,cond_true,B9,Option.bind_some,eff,fd,or_true,if_true,cond_false]
  ·have e0:((fuse:Int)==0)=false:=by simpa using h0
   simp only [e0,B7,cond_false,B9,app,Option.bind_some,eff,fd,h0,Bool.false_eq_true,or_self,if_false]
   by_cases hp:0<fuse
   ·have:decide (fuse>0)=true:=decide_eq_true hp
    rw [u4 (n:=fuse-1) (by omega) (by omega)]
    simp only [this,cond_true,Option.bind_some,if_pos hp]
   ·have:decide (fuse>0)=false:=decide_eq_false (by omega)
    simp only [this,cond_false,Option.bind_some,if_neg hp]
theorem dZ1 {fuse:Int} (hf:V7 fuse) {down:Bool}{s t:List Int} (ht:s.length+t.length≤20000000):
  aB9 fuse down s t=some (match eff fuse down with | some f=>(0,f,false,s++t,[]) | none=>(61,fd fuse down,true,s,t)):=by
 have app:∀f d,ag9 f d s t=some (s++t,[]):=fun f d=>by
  have e:(List.take t.length (List.drop 0 (List.map (d7 .u8) t))).length=t.length:=by simp
  simp only [ag9,List.length_map]
  rw [e,dE9 ht];rfl
 unfold V7 at hf
 simp only [aB9,Y0]
 cases down with
 | true=>simp only [Bool.not_true,cond_false,D7,D8,cond_true,Option.bind_some,eff,fd,true_or,if_true]
 | false=>
  simp only [Bool.not_false,cond_true]
  by_cases h0:fuse=0
  ·subst h0
   simp only [beq_self_eq_true,D7,cond_true,D8,Option.bind_some,eff,fd,or_true,if_true,cond_false]
  ·have e0:((fuse:Int)==0)=false:=by simpa using h0
   simp only [e0,D7,cond_false,D8,app,Option.bind_some,eff,fd,h0,Bool.false_eq_true,or_self,if_false]
   by_cases hp:0<fuse
   ·have:decide (fuse>0)=true:=decide_eq_true hp
    rw [u4 (n:=fuse-1) (by omega) (by omega)]
    simp only [this,cond_true,Option.bind_some,if_pos hp]
   ·have:decide (fuse>0)=false:=decide_eq_false (by omega)
    simp only [this,cond_false,Option.bind_some,if_neg hp]
def ba1 (keep:Int) (t:List Int):List Int:=t.take (min (max keep 0) (t.length:Int)).toNat
theorem dS3 {keep fuse:Int}{down:Bool}{s t:List Int} (ht:s.length+t.length≤20000000):al4 keep fuse down s t=some (-1,true,s++ba1 keep t,[]):=by
 have e:z9 (u5 keep 0) ((t.length:Nat):Int)=((min (max keep 0) (t.length:Int)).toNat:Int):=by
  unfold z9 u5
  split<;>split<;>omega
 generalize hk:(min (max keep 0) (t.length:Int)).toNat=n at e
 have hn:n≤t.length:=by omega
 have c1:(decide (((0:Nat):Int)≤(n:Int))&&decide ((n:Int)≤((t.length:Nat):Int)))=true:=by simp;omega
 have c2:(List.take n (List.drop 0 (List.map (d7 .u8) t))).length=n:=by simp;omega
 simp only [al4,List.length_map,e,c1,cond_true,Int.toNat_natCast]
 rw [c2]
 simp only [show Nat.beq n n=true from Nat.beq_refl n,dE9 (show s.length+n≤20000000 by omega),List.drop_zero,ba1,hk,cond_true]
theorem dY5 {l:List Fr1}{J:List Int}{e:Int} (hl:∀x∈l,bU3 x) (hJ:pF J= .inl e) (hJb:r6 J) (hm:(J9 l++J).length≤10000000) {fuse:Int} (hf:V7 fuse) {down:Bool}{t:List Int}:
  Z6 fuse down (J9 l++J) t=some (if J= [] then (l.map (·.1),l.map (·.2),(0:Int),fuse,false,J9 l,([]:List Int)) else (match eff fuse false with | some f=>(l.map (·.1),l.map (·.2),0,f,false,J9 l,[]) | none=>([],[],61,fd fuse false,true,J9 l++J,[]))):=by
 have ha:=ea6 hl hJ hJb hm
 have cut:∀f d (u:List Int),ag5 ((J9 l).length:Int) f d (J9 l++J) u=some (J9 l):=fun f d u=>by
  have c1:(decide (((0:Nat):Int)≤((J9 l).length:Int))&&decide (((J9 l).length:Int)≤(((J9 l++J).length:Nat):Int)))=true:=by simp;omega
  have:=dP5 (b:=J9 l++J) (ln:=(J9 l).length) (cp:=(J9 l++J).length) (by simp) (by simp only [F6];omega)
  simp only [ag5,List.length_map,c1,cond_true,Int.toNat_natCast,this,Option.bind_some,List.take_left]
 simp only [Z6,ha,Option.bind_some,List.length_map]
 by_cases hJ0:J= []
 ·subst hJ0
  simp only [List.append_nil,Int.lt_irrefl,decide_false,cond_false,if_true]
 ·have hpos:0<J.length:=List.length_pos_iff.2 hJ0
  have:decide (((J9 l).length:Int)<(((J9 l++J).length:Nat):Int))=true:=by simp;omega
  unfold V7 at hf
  simp only [this,cond_true,if_neg hJ0,Y2,Bool.not_false]
  by_cases h0:fuse=0
  ·subst h0
   simp [H1,H0,eff,fd]
  ·have e0:((fuse:Int)==0)=false:=by simpa using h0
   simp only [e0,H1,cond_false,H0,cut,Option.bind_some,eff,fd,h0,Bool.false_eq_true,or_self,if_false]
   by_cases hp:0<fuse
   ·have:decide (fuse>0)=true:=decide_eq_true hp
    rw [u4 (n:=fuse-1) (by omega) (by omega)]
    simp only [this,cond_true,Option.bind_some,if_pos hp,bne_self_eq_false,cond_false]
   ·have:decide (fuse>0)=false:=decide_eq_false (by omega)
    simp only [this,cond_false,Option.bind_some,if_neg hp,bne_self_eq_false]
/-! ### records -/
def bw7 (m:e9):Prop:=al9 m∧C3 m=true
def be9 (m:e9):Fr1:=(m.Kind,ai5 m)
theorem bw7.fr {m:e9} (h:bw7 m):bU3 (be9 m):=by
 refine ⟨df3 h.2,fun c hc=> ?_,by have:=ci1 h.1 h.2;simp only [be9];omega⟩
 have:=dc0 h.1 h.2
 have hc' :c∈ai5 m:=hc
 exact this c (by simp only [G3,S8];simp [hc'])
def Y8 (rs:List e9):List Int:=J9 (rs.map be9)
theorem dg5 (a b:List e9):Y8 (a++b)=Y8 a++Y8 b:=by simp [Y8,dP9]
theorem cA7 (m:e9):Y8 [m]=G3 m.Kind (ai5 m):=by simp [Y8,J9,be9]
theorem dG6 {rs:List e9} (h:∀m∈rs,bw7 m):∀x∈rs.map be9,bU3 x:=fun x hx=>by
 obtain ⟨m,hm,rfl⟩:=List.mem_map.1 hx
 exact (h m hm).fr
theorem dt3 {rs:List e9} (h:∀m∈rs,bw7 m):r6 (Y8 rs):=cI3 (dG6 h)
/-- A disk: its records; what is cut; what is not synced. -/
structure bo2 (rs : List e9) (J : List Int) (s : List Int) : Prop where
  ok : ∀ m ∈ rs, bw7 m
  eq : s = Y8 rs ++ J
  cut : ∃ e, pF J = .inl e
  jb : r6 J
theorem bo2.nil:bo2 [] [] []:=⟨fun m h=>by simp at h,rfl,⟨_,rfl⟩,fun c hc=>by simp at hc⟩
theorem bo2.crash {rs:List e9}{s:List Int} (h:bo2 rs [] s) {m:e9} (hm:bw7 m) (keep:Int):(bo2 (rs++ [m]) [] (s++ba1 keep (Y8 [m])))∨(∃J,bo2 rs J (s++ba1 keep (Y8 [m]))):=by
 have hl:(Y8 [m]).length=(ai5 m).length+8:=by rw [cA7,aN6]
 obtain ⟨h1,h2,h3⟩:=hm.fr
 unfold ba1
 generalize hn:(min (max keep 0) ((Y8 [m]).length:Int)).toNat=n
 by_cases hf:n=(Y8 [m]).length
 ·left
  refine ⟨fun x hx=> ?_,?_,⟨_,rfl⟩,fun c hc=>by simp at hc⟩
  ·rcases List.mem_append.1 hx with hx | hx
   ·exact h.ok x hx
   ·rw [List.mem_singleton.1 hx];exact hm
  ·rw [hf,List.take_length,h.eq,dg5];simp
 ·right
  refine ⟨(Y8 [m]).take n,h.ok,by rw [h.eq];simp,?_,fun c hc=>dt3 (rs:= [m]) (fun x hx=>by rw [List.mem_singleton.1 hx];exact hm) c (List.mem_of_mem_take hc)⟩
  have:=dR5 h1 h2 h3 (j:=n) (by simp only [be9];omega)
  rw [cA7]
  simpa only [be9] using this
theorem bo2.crash0 {rs:List e9}{J s:List Int} (h:bo2 rs J s) (keep:Int):bo2 rs J (s++ba1 keep []):=by
 simpa [ba1] using h
end Go.RX.L

namespace Go.RX.L
open Go Go.RX Go.Proofs
attribute [local irreducible] f5
noncomputable def ak0:=n8 (p6 Tryz.f55)
noncomputable def bL2 (y:Int×Int×Int×Bool×(List Int)×(List Int)):D×f3:=(.tup [.int .i64 y.1,.int .i64 y.2.1],[some ⟨4,true,[[(f6 3 (List.map (d7 .u8) y.2.2.2.2.1)),(f6 4 (List.map (d7 .u8) y.2.2.2.2.2)),.int .i64 y.2.2.1,.bool y.2.2.2.1]]⟩,none,none,some ⟨1,false,(List.map (d7 .u8) y.2.2.2.2.1)⟩,some ⟨1,false,(List.map (d7 .u8) y.2.2.2.2.2)⟩])
inductive aj7 where
 | s0 (fuse:Int) (down:Bool) (b1 b2:List Int)
 | s1 (bodies:List (List Int)) (last:Int) (t24:List Int) (t25 t26 fuse2:Int) (down2:Bool) (b3 b4:List Int)
 | s2 (bodies:List (List Int)) (last:Int) (t24:List Int) (t25 t26:Int) (t46:Bool) (fuse2:Int) (down2:Bool) (m:e9) (b4 b5:List Int)
noncomputable def bL9:aj7→M
 | .s0 fuse down b1 b2=>A2 Tryz.f55 [.ptr 0 0 0] [some ⟨4,true,[[(f6 1 (List.map (d7 .u8) b1)),(f6 2 (List.map (d7 .u8) b2)),.int .i64 fuse,.bool down]]⟩,some ⟨1,false,(List.map (d7 .u8) b1)⟩,some ⟨1,false,(List.map (d7 .u8) b2)⟩]
 | .s1 bodies last t24 t25 t26 fuse2 down2 b3 b4=>⟨[.lpc (ak0 [1,1,1,1,0,1,0,0]) 117440673,.blk 0,.code (ak0 [1,1,1,1,1])],[(0,.ptr 0 0 0),(5,.sl false 1 (List.map (E0 1 (d7 .u8)) bodies)),(7,.int .i64 last),(24,.sl false 1 (List.map (d7 .u8) t24)),(25,.int .i64 t25),(26,.int .i64 t26)],[some ⟨4,true,[[(f6 3 (List.map (d7 .u8) b3)),(f6 4 (List.map (d7 .u8) b4)),.int .i64 fuse2,.bool down2]]⟩,none,none,some ⟨1,false,(List.map (d7 .u8) b3)⟩,some ⟨1,false,(List.map (d7 .u8) b4)⟩]⟩
 | .s2 bodies last t24 t25 t26 t46 fuse2 down2 m b4 b5=>⟨[.code (ak0 [1,1,1,1,0,1,0,0,1,1,0,0,1,1,1]),.blk 1,.code (ak0 [1,1,1,1,0,1,0,0,1,1,1]),.lp (ak0 [1,1,1,1,0,1,0,0]) 117440673,.blk 0,.code (ak0 [1,1,1,1,1])],[(0,.ptr 0 0 0),(5,.sl false 1 (List.map (E0 1 (d7 .u8)) bodies)),(7,.int .i64 last),(10,.ptr 3 0 0),(24,.sl false 1 (List.map (d7 .u8) t24)),(25,.int .i64 t25),(26,.int .i64 t26),(46,.bool t46)],[some ⟨4,true,[[(f6 4 (List.map (d7 .u8) b4)),(f6 5 (List.map (d7 .u8) b5)),.int .i64 fuse2,.bool down2]]⟩,none,none,some ⟨26,false,[(e9.enc m)]⟩,some ⟨1,false,(List.map (d7 .u8) b4)⟩,some ⟨1,false,(List.map (d7 .u8) b5)⟩]⟩
abbrev bg0:=SOk E (Cx.of Tryz.f55 true 3) bL2 bL9
noncomputable def aw9 (fuse:Int) (down:Bool) (b1 b2:List Int):Option (aj7⊕(Int×Int×Int×Bool×(List Int)×(List Int))):=((Z6 fuse down b1 b2).bind fun y1=>(bif ((y1.2.2.1:Int) !=0) then (some (.inr (0,y1.2.2.1,y1.2.2.2.1,y1.2.2.2.2.1,y1.2.2.2.2.2.1,y1.2.2.2.2.2.2))) else (some (.inl (.s1 y1.2.1 0 y1.1 (((List.map (d7 .u8) y1.1).length:Nat):Int) 0 y1.2.2.2.1 y1.2.2.2.2.1 y1.2.2.2.2.2.1 y1.2.2.2.2.2.2)))))
noncomputable def U8 (bodies:List (List Int)) (last:Int) (t24:List Int) (t25 t26 fuse2:Int) (down2:Bool) (b3 b4:List Int):Option (aj7⊕(Int×Int×Int×Bool×(List Int)×(List Int))):=(bif (decide ((t26:Int)<t25)) then (bif ((decide ((0:Int)≤t26))&&(decide ((t26:Int)<(((List.map (d7 .u8) t24).length:Nat):Int)))) then (((t24)[t26.toNat]?).bind fun y3=>(bif ((decide ((0:Int)≤t26))&&(decide ((t26:Int)<(((List.map (E0 1 (d7 .u8)) bodies).length:Nat):Int)))) then (((bodies)[t26.toNat]?).bind fun y6=>((be2 y3 y6).bind fun y8=>(bif ((y8.2:Int)==0) then (some (.inl (.s2 bodies last t24 t25 t26 ((y8.1.Kind:Int)==17) fuse2 down2 y8.1 b3 b4))) else (some (.inl (.s2 bodies last t24 t25 t26 false fuse2 down2 y8.1 b3 b4)))))) else none)) else none) else (bif (decide ((last:Int)≥1099511627776)) then (some (.inr (0,2,fuse2,down2,b3,b4))) else ((bF8 (⟨17,0,0,0,0,0,(IntKind.i64.wrap (last+1)),0,0,0,false,(⟨0,0,0,0,0,0,0,0,0,0,[],[]⟩:Plan),[],[],[]⟩:e9)).bind fun y11=>((as3 y11.1 y11.2.1 fuse2 down2 b3 b4).bind fun y12=>(bif ((y12.1:Int) !=0) then (some (.inr (0,y12.1,y12.2.1,y12.2.2.1,b3,y12.2.2.2))) else ((aB9 y12.2.1 y12.2.2.1 b3 y12.2.2.2).bind fun y14=>(bif ((y14.1:Int) !=0) then (some (.inr (0,y14.1,y14.2.1,y14.2.2.1,y14.2.2.2.1,y14.2.2.2.2))) else (some (.inr ((IntKind.i64.wrap (last+1)),0,y14.2.1,y14.2.2.1,y14.2.2.2.1,y14.2.2.2.2))))))))))
noncomputable def aM0 (bodies:List (List Int)) (last:Int) (t24:List Int) (t25 t26:Int) (t46:Bool) (fuse2:Int) (down2:Bool) (m:e9) (b4 b5:List Int):Option (aj7⊕(Int×Int×Int×Bool×(List Int)×(List Int))):=(bif t46 then (some (.inl (.s1 bodies (u5 last m.Nonce) t24 t25 (IntKind.i64.wrap (t26+1)) fuse2 down2 b4 b5))) else (some (.inl (.s1 bodies last t24 t25 (IntKind.i64.wrap (t26+1)) fuse2 down2 b4 b5))))
noncomputable def M1:aj7→Option (aj7⊕(Int×Int×Int×Bool×(List Int)×(List Int)))
 | .s0 fuse down b1 b2=>aw9 fuse down b1 b2
 | .s1 bodies last t24 t25 t26 fuse2 down2 b3 b4=>U8 bodies last t24 t25 t26 fuse2 down2 b3 b4
 | .s2 bodies last t24 t25 t26 t46 fuse2 down2 m b4 b5=>aM0 bodies last t24 t25 t26 t46 fuse2 down2 m b4 b5
theorem cg9 {fuse down b1 b2}:bg0 (.s0 fuse down b1 b2) (aw9 fuse down b1 b2):=by
 intro r x h ha;unfold aw9 at h
 refine zc 9 [] h (fun _=>bw5) fun y1 h=> ?_
 refine zs 15 h (fun h=> ?_) fun h=> ?_
 ·
  exact zt 7 h ha
 exact zj 15 h ha
theorem cg5 {bodies last t24 t25 t26 fuse2 down2 b3 b4}:bg0 (.s1 bodies last t24 t25 t26 fuse2 down2 b3 b4) (U8 bodies last t24 t25 t26 fuse2 down2 b3 b4):=by
 intro r x h ha;unfold U8 at h
 refine zs 7 h (fun h=> ?_) fun h=> ?_
 ·
  refine zn 7 h fun h=> ?_
  refine zr 1 (d7 .u8) h fun y3 h=> ?_
  refine zn 9 h fun h=> ?_
  refine zr 1 (E0 1 (d7 .u8)) h fun y6 h=> ?_
  refine zc 1 [] h (fun _=>cF7) fun y8 h=> ?_
  refine zs 15 h (fun h=> ?_) fun h=> ?_
  ·
   exact zk 8 h ha
  exact zk 7 h ha
 refine zs 8 h (fun h=> ?_) fun h=> ?_
 ·
  exact zt 6 h ha
 refine zc 7 [some 1,some 1,some 1,some 1,some 1] h (fun _=>dc5) fun y11 h=> ?_
 refine zc 15 [] h (fun _=>cb5) fun y12 h=> ?_
 refine zs 8 h (fun h=> ?_) fun h=> ?_
 ·
  exact zt 7 h ha
 refine zc 6 [] h (fun _=>cp3) fun y14 h=> ?_
 refine zs 8 h (fun h=> ?_) fun h=> ?_
 ·
  exact zt 7 h ha
 exact zt 9 h ha
theorem cj7 {bodies last t24 t25 t26 t46 fuse2 down2 m b4 b5}:bg0 (.s2 bodies last t24 t25 t26 t46 fuse2 down2 m b4 b5) (aM0 bodies last t24 t25 t26 t46 fuse2 down2 m b4 b5):=by
 intro r x h ha;unfold aM0 at h
 refine zs 1 h (fun h=> ?_) fun h=> ?_
 ·
  exact zj 14 h ha
 exact zj 7 h ha
noncomputable def bb0 (fuse:Int) (down:Bool) (b1 b2:List Int):Option (Int×Int×Int×Bool×(List Int)×(List Int)):=U9 M1 (.s0 fuse down b1 b2)
theorem cB3 {fuse:Int}{down:Bool}{b1 b2:List Int}{r:Int×Int×Int×Bool×(List Int)×(List Int)} (h:bb0 fuse down b1 b2=some r):i0 E 55 [.ptr 0 0 0] [some ⟨4,true,[[(f6 1 (List.map (d7 .u8) b1)),(f6 2 (List.map (d7 .u8) b2)),.int .i64 fuse,.bool down]]⟩,some ⟨1,false,(List.map (d7 .u8) b1)⟩,some ⟨1,false,(List.map (d7 .u8) b2)⟩] (Rs bL2 r):=sc (fn:=Tryz.f55) (k:=true) (m:=3) (stM:=bL9) h fun s=>by
 cases s with
 | s0=>exact cg9
 | s1=>exact cg5
 | s2=>exact cj7
end Go.RX.L
