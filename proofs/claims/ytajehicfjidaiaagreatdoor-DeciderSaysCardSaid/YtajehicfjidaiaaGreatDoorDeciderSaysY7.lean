/-
  Words and walks for DeciderSays. No condition.
-/
import Derived.Test.YtajehicfjidaiaaGreatDoorDeciderSaysY6
set_option linter.unusedSectionVars false
set_option linter.unnecessarySimpa false
set_option linter.unusedSimpArgs false
set_option linter.unusedVariables false
set_option maxRecDepth 100000
set_option maxHeartbeats 4000000
namespace Go.RX.L
open Go Go.RX Go.Proofs
attribute [local irreducible] i0
noncomputable def cJ8:=p7 (q0 Tryz.f161)
noncomputable def cL2 (y:Int):D×f4:=(.int .u32 y,[])
inductive bf9 where
 | s0 (sum:Int) (b:List Int)
 | s1 (r_:Int) (t10:List Int) (t11 t12:Int)
noncomputable def cK2:bf9→M
 | .s0 sum b=>A6 Tryz.f161 [.int .u32 sum,.sl false 1 (List.map (d8 .u8) b)] []
 | .s1 r_ t10 t11 t12=>⟨[.lpc (cJ8 [1,1,0,1,0,0]) 7200,.blk 0,.code (cJ8 [1,1,1])],[(5,.int .u32 r_),(10,.sl false 1 (List.map (d8 .u8) t10)),(11,.int .i64 t11),(12,.int .i64 t12)],[]⟩
abbrev cJ0:=SOk E (Cx.of Tryz.f161 false 0) cL2 cK2
noncomputable def bz1 (sum:Int) (b:List Int):Option (bf9⊕Int):=(some (.inl (.s1 (O8 .u32 4294967295 sum) b (((List.map (d8 .u8) b).length:Nat):Int) 0)))
noncomputable def bg3 (r_:Int) (t10:List Int) (t11 t12:Int):Option (bf9⊕Int):=(bif (decide ((t12:Int)<t11)) then (bif ((decide ((0:Int)≤t12))&&(decide ((t12:Int)<(((List.map (d8 .u8) t10).length:Nat):Int)))) then (((t10)[t12.toNat]?).bind fun y3=>(bif ((decide ((0:Int)≤(k7 .u32 (O8 .u32 r_ (IntKind.u32.wrap (y3))) 15)))&&(decide (((k7 .u32 (O8 .u32 r_ (IntKind.u32.wrap (y3))) 15):Int)<((16:Nat):Int)))) then (((gl_four)[(0+(k7 .u32 (O8 .u32 r_ (IntKind.u32.wrap (y3))) 15).toNat)]?).bind fun y6=>(bif ((decide ((0:Int)≤(k7 .u32 (O8 .u32 (n5 .u32 (O8 .u32 r_ (IntKind.u32.wrap (y3))) 4) y6) 15)))&&(decide (((k7 .u32 (O8 .u32 (n5 .u32 (O8 .u32 r_ (IntKind.u32.wrap (y3))) 4) y6) 15):Int)<((16:Nat):Int)))) then (((gl_four)[(0+(k7 .u32 (O8 .u32 (n5 .u32 (O8 .u32 r_ (IntKind.u32.wrap (y3))) 4) y6) 15).toNat)]?).bind fun y9=>(some (.inl (.s1 (O8 .u32 (n5 .u32 (O8 .u32 (n5 .u32 (O8 .u32 r_ (IntKind.u32.wrap (y3))) 4) y6) 4) y9) t10 t11 (IntKind.i64.wrap (t12+1)))))) else none)) else none)) else none) else (some (.inr (O8 .u32 4294967295 r_))))
noncomputable def aH7:bf9→Option (bf9⊕Int)
 | .s0 sum b=>bz1 sum b
 | .s1 r_ t10 t11 t12=>bg3 r_ t10 t11 t12
theorem da8 {sum b}:cJ0 (.s0 sum b) (bz1 sum b):=by
 intro r x h ha;unfold bz1 at h
 exact zj 20 h ha
theorem de8 {r_ t10 t11 t12}:cJ0 (.s1 r_ t10 t11 t12) (bg3 r_ t10 t11 t12):=by
 intro r x h ha;unfold bg3 at h
 refine zs 7 h (fun h=> ?_) fun h=> ?_
 ·
  refine zn 6 h fun h=> ?_
  refine zr 1 (d8 .u8) h fun y3 h=> ?_
  refine zn 18 h fun h=> ?_
  refine zr 1 (d8 .u32) h fun y6 h=> ?_
  refine zn 10 h fun h=> ?_
  refine zr 1 (d8 .u32) h fun y9 h=> ?_
  exact zj 9 h ha
 exact zt 8 h ha
noncomputable def cE7 (sum:Int) (b:List Int):Option Int:=T8 aH7 (.s0 sum b)
theorem dn5 {sum:Int}{b:List Int}{r:Int} (h:cE7 sum b=some r):i4 E 161 [.int .u32 sum,.sl false 1 (List.map (d8 .u8) b)] [] (Rs cL2 r):=sc (fn:=Tryz.f161) (k:=false) (m:=0) (stM:=cK2) h fun s=>by
 cases s with
 | s0=>exact da8
 | s1=>exact de8
end Go.RX.L

namespace Go.RX.L
open Go Go.RX Go.Proofs
attribute [local irreducible] i0
noncomputable def dE7 (y:Int):D×f4:=(.int .u32 y,[])
noncomputable def bp5 (b:List Int):Option Int:=((cE7 0 b).bind fun y1=>(some y1))
theorem cs5 {b:List Int}{r:Int} (h:bp5 b=some r):i4 E 153 [.sl false 1 (List.map (d8 .u8) b)] [] (Rs dE7 r):=so (fn:=Tryz.f153) (k:=false) (m:=0) h<| by
 intro r h;unfold bp5 at h
 refine zc 8 [] h (fun _=>dn5) fun y1 h=> ?_
 exact zu 3 h
end Go.RX.L

namespace Go.RX.L
open Go Go.RX Go.Proofs
attribute [local irreducible] i0
noncomputable def ci1:=p7 (q0 Tryz.f124)
noncomputable def ch7 (y:(List Int)×Int):D×f4:=(.tup [.sl false 1 (List.map (d8 .u8) y.1),.int .i64 y.2],[])
inductive aL4 where
 | s0 (kind:Int) (body:List Int)
 | s1 (sum shift:Int) (b:List Int)
noncomputable def ci7:aL4→M
 | .s0 kind body=>A6 Tryz.f124 [.int .u8 kind,.sl false 1 (List.map (d8 .u8) body)] []
 | .s1 sum shift b=>⟨[.lpc (ci1 [1,1,1,1,1,0,1,0,0]) 896,.blk 0,.code (ci1 [1,1,1,1,1,1])],[(7,(f6 0 (List.map (d8 .u8) b))),(8,.int .u32 sum),(9,.int .i64 shift)],[some ⟨1,false,(List.map (d8 .u8) b)⟩]⟩
abbrev cj8:=SOk E (Cx.of Tryz.f124 false 0) ch7 ci7
noncomputable def aN7 (kind:Int) (body:List Int):Option (aL4⊕((List Int)×Int)):=(bif (decide (((((List.map (d8 .u8) body).length:Nat):Int):Int)>8192)) then (some (.inr ([],2))) else (bif (decide ((4+(List.map (d8 .u8) body).length)*1≤i7)) then (bif (decide ((1:Int)≤(((List.map (d8 .u8) ([247,kind,(IntKind.u8.wrap ((n5 .i64 (((List.map (d8 .u8) body).length:Nat):Int) 8))),(IntKind.u8.wrap ((((List.map (d8 .u8) body).length:Nat):Int)))]++body)).length:Nat):Int))) then (bif (Nat.ble (1+((List.map (d8 .u8) ([247,kind,(IntKind.u8.wrap ((n5 .i64 (((List.map (d8 .u8) body).length:Nat):Int) 8))),(IntKind.u8.wrap ((((List.map (d8 .u8) body).length:Nat):Int)))]++body)).length-1)) ((List.map (d8 .u8) ([247,kind,(IntKind.u8.wrap ((n5 .i64 (((List.map (d8 .u8) body).length:Nat):Int) 8))),(IntKind.u8.wrap ((((List.map (d8 .u8) body).length:Nat):Int)))]++body)).length)) then ((bp5 (List.take ((List.map (d8 .u8) ([247,kind,(IntKind.u8.wrap ((n5 .i64 (((List.map (d8 .u8) body).length:Nat):Int) 8))),(IntKind.u8.wrap ((((List.map (d8 .u8) body).length:Nat):Int)))]++body)).length-1) (List.drop 1 ([247,kind,(IntKind.u8.wrap ((n5 .i64 (((List.map (d8 .u8) body).length:Nat):Int) 8))),(IntKind.u8.wrap ((((List.map (d8 .u8) body).length:Nat):Int)))]++body)))).bind fun y5=>(some (.inl (.s1 y5 24 ([247,kind,(IntKind.u8.wrap ((n5 .i64 (((List.map (d8 .u8) body).length:Nat):Int) 8))),(IntKind.u8.wrap ((((List.map (d8 .u8) body).length:Nat):Int)))]++body))))) else none) else none) else none))
noncomputable def aq8 (sum shift:Int) (b:List Int):Option (aL4⊕((List Int)×Int)):=(bif (decide ((shift:Int)≥0)) then (bif (!decide ((shift:Int)<0)) then (bif (decide (((List.map (d8 .u8) b).length+1)*1≤i7)) then (some (.inl (.s1 sum (IntKind.i64.wrap (shift-8)) (b++ [(IntKind.u8.wrap ((n5 .u32 sum shift)))])))) else none) else none) else (some (.inr (b,0))))
noncomputable def S5:aL4→Option (aL4⊕((List Int)×Int))
 | .s0 kind body=>aN7 kind body
 | .s1 sum shift b=>aq8 sum shift b
theorem cA2 {kind body}:cj8 (.s0 kind body) (aN7 kind body):=by
 intro r x h ha;unfold aN7 at h
 refine zs 18 h (fun h=> ?_) fun h=> ?_
 ·
  exact zt 6 h ha [.slot 0 [some 1]]
 refine zn 13 h fun h=> ?_
 refine zw 1 (a:=((List.map (d8 .u8) ([247,kind,(IntKind.u8.wrap ((n5 .i64 (((List.map (d8 .u8) body).length:Nat):Int) 8))),(IntKind.u8.wrap ((((List.map (d8 .u8) body).length:Nat):Int)))]))++(List.map (d8 .u8) body))) (b:=(List.map (d8 .u8) ([247,kind,(IntKind.u8.wrap ((n5 .i64 (((List.map (d8 .u8) body).length:Nat):Int) 8))),(IntKind.u8.wrap ((((List.map (d8 .u8) body).length:Nat):Int)))]++body))) (by simp only [A1,E8,List.map_append,List.map_take,List.map_drop]) ?_
 refine zn 6 h fun h=> ?_
 refine zn 1 h fun h=> ?_
 refine zcE 0 [] (args1:= [.sl false 1 (List.take ((List.map (d8 .u8) ([247,kind,(IntKind.u8.wrap ((n5 .i64 (((List.map (d8 .u8) body).length:Nat):Int) 8))),(IntKind.u8.wrap ((((List.map (d8 .u8) body).length:Nat):Int)))]++body)).length-1) (List.drop 1 (List.map (d8 .u8) ([247,kind,(IntKind.u8.wrap ((n5 .i64 (((List.map (d8 .u8) body).length:Nat):Int) 8))),(IntKind.u8.wrap ((((List.map (d8 .u8) body).length:Nat):Int)))]++body))))]) h (fun _=>cs5) ⟨by simp [d9.enc,d9.l,i8.enc,i8.l,n9.enc,n9.l,r6.enc,r6.l,f3.enc,f3.l,Op.enc,Op.l,Plan.enc,Plan.l,D0.enc,D0.l,i9.enc,i9.l,p6.enc,p6.l,m9.enc,m9.l,e9.enc,e9.l,List.take_of_length_le,List.map_take,List.map_drop],rfl⟩ fun y5 h=> ?_
 exact zj 10 h ha
theorem cI5 {sum shift b}:cj8 (.s1 sum shift b) (aq8 sum shift b):=by
 intro r x h ha;unfold aq8 at h
 refine zs 8 h (fun h=> ?_) fun h=> ?_
 ·
  refine zn 8 h fun h=> ?_
  refine zn 4 h fun h=> ?_
  refine za 0 (d8 .u8) b ([(IntKind.u8.wrap ((n5 .u32 sum shift)))]) ?_
  exact zj 9 h ha
 refine zm 8 (b:=(Nat.ble (0+(List.map (d8 .u8) b).length) ((List.map (d8 .u8) b).length))) (v6 _) ?_
 obtain rfl:=Option.some.inj h
 have hv:=ha
 simp only [aV6] at hv
 subst hv
 exact au6 [] (d1:= .tup [.sl false 1 (List.take ((List.map (d8 .u8) b).length) (List.drop 0 (List.map (d8 .u8) b))),.int .i64 0]) (d:= .tup [.sl false 1 (List.map (d8 .u8) b),.int .i64 0]) (s1:= []) (s:= []) (by kernel_rfl) ⟨by simp [d9.enc,d9.l,i8.enc,i8.l,n9.enc,n9.l,r6.enc,r6.l,f3.enc,f3.l,Op.enc,Op.l,Plan.enc,Plan.l,D0.enc,D0.l,i9.enc,i9.l,p6.enc,p6.l,m9.enc,m9.l,e9.enc,e9.l,List.take_of_length_le,List.map_take,List.map_drop],rfl⟩ ⟨rfl,rfl⟩ Cx.fin_of
noncomputable def by4 (kind:Int) (body:List Int):Option ((List Int)×Int):=T8 S5 (.s0 kind body)
theorem cY2 {kind:Int}{body:List Int}{r:(List Int)×Int} (h:by4 kind body=some r):i4 E 124 [.int .u8 kind,.sl false 1 (List.map (d8 .u8) body)] [] (Rs ch7 r):=sc (fn:=Tryz.f124) (k:=false) (m:=0) (stM:=ci7) h fun s=>by
 cases s with
 | s0=>exact cA2
 | s1=>exact cI5
end Go.RX.L

namespace Go.RX.L
open Go Go.RX Go.Proofs
attribute [local irreducible] i0
noncomputable def cD3 (b0 y:List Int):D×f4:=((f6 1 (List.map (d8 .u8) y)),[some ⟨1,false,(List.map (d8 .u8) b0)⟩,some ⟨1,false,(List.map (d8 .u8) y)⟩])
noncomputable def aF5 (b_at b_ln b_cp:Nat) (b0:List Int):Option (List Int):=(bif (Nat.beq ((List.take b_ln (List.drop b_at (List.map (d8 .u8) b0))).length) b_ln) then (bif (decide ((0+(List.take b_ln (List.drop b_at (List.map (d8 .u8) b0))).length)*1≤i7)) then (some ([]++(List.take b_ln (List.drop b_at b0)))) else none) else none)
theorem cy2 {b_at b_ln b_cp:Nat}{b0 r:List Int} (h:aF5 b_at b_ln b_cp b0=some r):i4 E 88 [.msl 0 b_at b_ln b_cp false] [some ⟨1,false,(List.map (d8 .u8) b0)⟩] (Rs (cD3 b0) r):=so (fn:=Tryz.f88) (k:=true) (m:=1) h<| by
 intro r h;unfold aF5 at h
 refine l6 hm 9 _ ?_
 refine cr4 (Nat.beq b_ln 0) (by kernel_rfl) ?_ (fun h1=> ?_)
 ·--it is not nil
  refine zn 9 h fun h=> ?_
  refine zn 0 h fun h=> ?_
  refine zw 1 (a:=((List.map (d8 .u8) ([]))++(List.take b_ln (List.drop b_at (List.map (d8 .u8) b0))))) (b:=(List.map (d8 .u8) ([]++(List.take b_ln (List.drop b_at b0))))) (by simp only [A1,E8,List.map_append,List.map_take,List.map_drop]) ?_
  exact zu 3 h
 ·--nil
  obtain rfl:b_ln=0:=Nat.eq_of_beq_eq_true h1
  simp [i7] at h
  first | subst h | (obtain ⟨_,h⟩:=h;subst h)
  refine l6 hm 8 _ ?_
  exact aL7 [.mat 0 1] (d:= .msl 1 0 0 0 false) (s:= [some ⟨1,false,(List.map (d8 .u8) b0)⟩,some ⟨1,false,[]⟩]) (by kernel_rfl) Cx.fin_of ⟨rfl,rfl⟩
end Go.RX.L

namespace Go.RX.L
open Go Go.RX Go.Proofs
attribute [local irreducible] i0
noncomputable def cf4 (b0 y:List Int):D×f4:=((f6 1 (List.map (d8 .u8) y)),[some ⟨1,false,(List.map (d8 .u8) b0)⟩,some ⟨1,false,(List.map (d8 .u8) y)⟩])
noncomputable def an4 (b_ln b_cp:Nat) (b0:List Int):Option (List Int):=(bif (Nat.beq ((List.take b_ln (List.drop 0 (List.map (d8 .u8) b0))).length) b_ln) then (bif (decide ((0+(List.take b_ln (List.drop 0 (List.map (d8 .u8) b0))).length)*1≤i7)) then (some ([]++(List.take b_ln (List.drop 0 b0)))) else none) else none)
theorem bT1 {b_ln b_cp:Nat}{b0 r:List Int} (h:an4 b_ln b_cp b0=some r):i4 E 88 [.msl 0 0 b_ln b_cp false] [some ⟨1,false,(List.map (d8 .u8) b0)⟩] (Rs (cf4 b0) r):=so (fn:=Tryz.f88) (k:=true) (m:=1) h<| by
 intro r h;unfold an4 at h
 refine l6 hm 9 _ ?_
 refine cr4 (Nat.beq b_ln 0) (by kernel_rfl) ?_ (fun h1=> ?_)
 ·--it is not nil
  refine zn 9 h fun h=> ?_
  refine zn 0 h fun h=> ?_
  refine zw 1 (a:=((List.map (d8 .u8) ([]))++(List.take b_ln (List.drop 0 (List.map (d8 .u8) b0))))) (b:=(List.map (d8 .u8) ([]++(List.take b_ln (List.drop 0 b0))))) (by simp only [A1,E8,List.map_append,List.map_take,List.map_drop]) ?_
  exact zu 3 h
 ·--nil
  obtain rfl:b_ln=0:=Nat.eq_of_beq_eq_true h1
  simp [i7] at h
  first | subst h | (obtain ⟨_,h⟩:=h;subst h)
  refine l6 hm 8 _ ?_
  exact aL7 [.mat 0 1] (d:= .msl 1 0 0 0 false) (s:= [some ⟨1,false,(List.map (d8 .u8) b0)⟩,some ⟨1,false,[]⟩]) (by kernel_rfl) Cx.fin_of ⟨rfl,rfl⟩
end Go.RX.L

namespace Go.RX.L
open Go Go.RX Go.Proofs
attribute [local irreducible] i0
noncomputable def db2 (b0:List Int) (y:Unit):D×f4:=(.fn 146 [] [.ptr 1 0 0],[some ⟨1,false,(List.map (d8 .u8) b0)⟩,some ⟨1,true,[[(f6 0 (List.map (d8 .u8) b0))]]⟩])
noncomputable def bn4 (b0:List Int):Option Unit:=(some ())
theorem cR9 {b0:List Int}{r:Unit} (h:bn4 b0=some r):i4 E 117 [(f6 0 (List.map (d8 .u8) b0))] [some ⟨1,false,(List.map (d8 .u8) b0)⟩] (Rs (db2 b0) r):=so (fn:=Tryz.f117) (k:=true) (m:=1) h<| by
 intro r h;unfold bn4 at h
 exact zu 11 h
end Go.RX.L

namespace Go.RX.L
open Go Go.RX Go.Proofs
attribute [local irreducible] i0
noncomputable def bG5:=p7 (q0 Tryz.f159)
noncomputable def bC0 (y:Int):D×f4:=(.int .i64 y,[])
inductive as1 where
 | s0 (b:List Int)
 | s1 (n:Int) (t6:List Int) (t7 t8:Int)
noncomputable def bF6:as1→M
 | .s0 b=>A6 Tryz.f159 [.sl false 1 (List.map (d8 .u8) b)] []
 | .s1 n t6 t7 t8=>⟨[.lpc (bG5 [1,1,0,1,0,0]) 456,.blk 0,.code (bG5 [1,1,1])],[(3,.int .i64 n),(6,.sl false 1 (List.map (d8 .u8) t6)),(7,.int .i64 t7),(8,.int .i64 t8)],[]⟩
abbrev bC1:=SOk E (Cx.of Tryz.f159 false 0) bC0 bF6
noncomputable def aI9 (b:List Int):Option (as1⊕Int):=(some (.inl (.s1 0 b (((List.map (d8 .u8) b).length:Nat):Int) 0)))
noncomputable def av0 (n:Int) (t6:List Int) (t7 t8:Int):Option (as1⊕Int):=(bif (decide ((t8:Int)<t7)) then (bif ((decide ((0:Int)≤t8))&&(decide ((t8:Int)<(((List.map (d8 .u8) t6).length:Nat):Int)))) then (((t6)[t8.toNat]?).bind fun y3=>(some (.inl (.s1 (IntKind.i64.wrap ((F3 .i64 n 8)+(IntKind.i64.wrap (y3)))) t6 t7 (IntKind.i64.wrap (t8+1)))))) else none) else (some (.inr n)))
noncomputable def V2:as1→Option (as1⊕Int)
 | .s0 b=>aI9 b
 | .s1 n t6 t7 t8=>av0 n t6 t7 t8
theorem ce9 {b}:bC1 (.s0 b) (aI9 b):=by
 intro r x h ha;unfold aI9 at h
 exact zj 18 h ha
theorem cf7 {n t6 t7 t8}:bC1 (.s1 n t6 t7 t8) (av0 n t6 t7 t8):=by
 intro r x h ha;unfold av0 at h
 refine zs 7 h (fun h=> ?_) fun h=> ?_
 ·
  refine zn 6 h fun h=> ?_
  refine zr 1 (d8 .u8) h fun y3 h=> ?_
  exact zj 17 h ha
 exact zt 7 h ha
noncomputable def aE6 (b:List Int):Option Int:=T8 V2 (.s0 b)
theorem bx2 {b:List Int}{r:Int} (h:aE6 b=some r):i4 E 159 [.sl false 1 (List.map (d8 .u8) b)] [] (Rs bC0 r):=sc (fn:=Tryz.f159) (k:=false) (m:=0) (stM:=bF6) h fun s=>by
 cases s with
 | s0=>exact ce9
 | s1=>exact cf7
end Go.RX.L

namespace Go.RX.L
open Go Go.RX Go.Proofs
attribute [local irreducible] i0
noncomputable def aL6:=p7 (q0 Tryz.f147)
noncomputable def ch8 (b0:List Int) (y:Int×(List Int)×Int×Int):D×f4:=(.tup [.int .u8 y.1,.sl false 1 (List.map (d8 .u8) y.2.1),.int .i64 y.2.2.1,.int .i64 y.2.2.2],[some ⟨1,false,(List.map (d8 .u8) b0)⟩])
abbrev bA5 (at_:Int) (b0:List Int):=AOk E (Cx.of Tryz.f147 false 1) (ch8 b0)
noncomputable def de2 (at_:Int) (b0:List Int) (e n:Int) (restlo restln restcp:Nat):M:=⟨[.code (aL6 [1,1,1,1,1])],[(1,.int .i64 at_),(8,.int .i64 e),(9,.int .i64 n),(10,.msl 0 restlo restln restcp false)],[some ⟨1,false,(List.map (d8 .u8) b0)⟩]⟩
noncomputable def Q3 (at_:Int) (b0:List Int) (e n:Int) (restlo restln restcp:Nat):Option (Int×(List Int)×Int×Int):=(bif ((e:Int) !=0) then (some (0,[],0,e)) else (bif (decide ((1:Int)<((restln:Nat):Int))) then (((b0)[(restlo+1)]?).bind fun y3=>(bif ((decide (((0:Nat):Int)≤(IntKind.i64.wrap ((4:Int)+n))))&&(decide (((IntKind.i64.wrap ((4:Int)+n)):Int)≤((restcp:Nat):Int)))) then (bif (decide ((4:Int)≤(((IntKind.i64.wrap ((4:Int)+n)).toNat:Nat):Int))) then ((aF5 (restlo+4) ((IntKind.i64.wrap ((4:Int)+n)).toNat-4) (restcp-4) b0).bind fun y7=>(some (y3,y7,(IntKind.i64.wrap ((IntKind.i64.wrap ((IntKind.i64.wrap (at_+4))+n))+4)),0))) else none) else none)) else none))
theorem ai0 {at_ b0 e n restlo restln restcp}:bA5 at_ b0 (de2 at_ b0 e n restlo restln restcp) (Q3 at_ b0 e n restlo restln restcp):=by
 intro r h;unfold Q3 at h
 refine zs 7 h (fun h=> ?_) fun h=> ?_
 ·
  exact zu 9 h [.slot 0 [some 1]]
 refine zn 3 h fun h=> ?_
 refine zr 0 (d8 .u8) h fun y3 h=> ?_
 refine zn 0 h fun h=> ?_
 refine zn 0 h fun h=> ?_
 refine zdR 0 [] h (fun _=>cy2) fun y7 h=> ?_
 refine zm 1 (b:=(Nat.ble (0+(List.map (d8 .u8) y7).length) ((List.map (d8 .u8) y7).length))) (v6 _) ?_
 obtain rfl:=Option.some.inj h
 exact au6 [] (d1:= .tup [.int .u8 y3,.sl false 1 (List.take ((List.map (d8 .u8) y7).length) (List.drop 0 (List.map (d8 .u8) y7))),.int .i64 (IntKind.i64.wrap ((IntKind.i64.wrap ((IntKind.i64.wrap (at_+4))+n))+4)),.int .i64 0]) (d:= .tup [.int .u8 y3,.sl false 1 (List.map (d8 .u8) y7),.int .i64 (IntKind.i64.wrap ((IntKind.i64.wrap ((IntKind.i64.wrap (at_+4))+n))+4)),.int .i64 0]) (s1:= [some ⟨1,false,(List.map (d8 .u8) b0)⟩]) (s:= [some ⟨1,false,(List.map (d8 .u8) b0)⟩]) (by kernel_rfl) ⟨by simp [d9.enc,d9.l,i8.enc,i8.l,n9.enc,n9.l,r6.enc,r6.l,f3.enc,f3.l,Op.enc,Op.l,Plan.enc,Plan.l,D0.enc,D0.l,i9.enc,i9.l,p6.enc,p6.l,m9.enc,m9.l,e9.enc,e9.l,List.take_of_length_le,List.map_take,List.map_drop],rfl⟩ ⟨rfl,rfl⟩ Cx.fin_of
noncomputable def dg0 (at_:Int) (b0:List Int) (restlo restln restcp:Nat) (t48:Bool):M:=⟨[.code (aL6 [1,1,1,1,0,0,1]),.blk 0,.code (aL6 [1,1,1,1,1])],[(1,.int .i64 at_),(8,.int .i64 0),(9,.int .i64 0),(10,.msl 0 restlo restln restcp false),(48,.bool t48)],[some ⟨1,false,(List.map (d8 .u8) b0)⟩]⟩
noncomputable def ah2 (at_:Int) (b0:List Int) (restlo restln restcp:Nat) (t48:Bool):Option (Int×(List Int)×Int×Int):=(bif t48 then (Q3 at_ b0 32 0 restlo restln restcp) else (bif (decide ((((restln:Nat):Int):Int)<8)) then (Q3 at_ b0 31 0 restlo restln restcp) else (bif (decide ((4:Int)≤((restcp:Nat):Int))) then (bif (Nat.ble ((restlo+2)+2) ((List.map (d8 .u8) b0).length)) then ((aE6 (List.take 2 (List.drop (restlo+2) b0))).bind fun y5=>(bif (decide ((y5:Int)>8192)) then (Q3 at_ b0 2 y5 restlo restln restcp) else (bif (decide ((y5:Int)>(IntKind.i64.wrap ((IntKind.i64.wrap (((restln:Nat):Int)-4))-4)))) then (Q3 at_ b0 31 y5 restlo restln restcp) else (bif ((decide (((0:Nat):Int)≤(IntKind.i64.wrap ((4:Int)+y5))))&&(decide (((IntKind.i64.wrap ((4:Int)+y5)):Int)≤((restcp:Nat):Int)))) then (bif (decide ((1:Int)≤(((IntKind.i64.wrap ((4:Int)+y5)).toNat:Nat):Int))) then (bif (Nat.ble ((restlo+1)+((IntKind.i64.wrap ((4:Int)+y5)).toNat-1)) ((List.map (d8 .u8) b0).length)) then ((bp5 (List.take ((IntKind.i64.wrap ((4:Int)+y5)).toNat-1) (List.drop (restlo+1) b0))).bind fun y11=>(bif ((decide (((0:Nat):Int)≤(IntKind.i64.wrap ((IntKind.i64.wrap ((4:Int)+y5))+4))))&&(decide (((IntKind.i64.wrap ((IntKind.i64.wrap ((4:Int)+y5))+4)):Int)≤((restcp:Nat):Int)))) then (bif ((decide (((0:Nat):Int)≤(IntKind.i64.wrap ((4:Int)+y5))))&&(decide (((IntKind.i64.wrap ((4:Int)+y5)):Int)≤(((IntKind.i64.wrap ((IntKind.i64.wrap ((4:Int)+y5))+4)).toNat:Nat):Int)))) then (bif (Nat.ble ((restlo+(IntKind.i64.wrap ((4:Int)+y5)).toNat)+((IntKind.i64.wrap ((IntKind.i64.wrap ((4:Int)+y5))+4)).toNat-(IntKind.i64.wrap ((4:Int)+y5)).toNat)) ((List.map (d8 .u8) b0).length)) then ((aE6 (List.take ((IntKind.i64.wrap ((IntKind.i64.wrap ((4:Int)+y5))+4)).toNat-(IntKind.i64.wrap ((4:Int)+y5)).toNat) (List.drop (restlo+(IntKind.i64.wrap ((4:Int)+y5)).toNat) b0))).bind fun y15=>(bif (((IntKind.i64.wrap (y11)):Int) !=y15) then (Q3 at_ b0 33 y5 restlo restln restcp) else (Q3 at_ b0 0 y5 restlo restln restcp))) else none) else none) else none)) else none) else none) else none)))) else none) else none)))
theorem bC2 {at_ b0 restlo restln restcp t48}:bA5 at_ b0 (dg0 at_ b0 restlo restln restcp t48) (ah2 at_ b0 restlo restln restcp t48):=by
 intro r h;unfold ah2 at h
 refine zs 1 h (fun h=> ?_) fun h=> ?_
 ·
  exact zg 4 (ai0 h)
 refine zs 8 h (fun h=> ?_) fun h=> ?_
 ·
  exact zg 4 (ai0 h)
 refine zn 4 h fun h=> ?_
 refine zn 2 h fun h=> ?_
 refine zcE 0 [] (args1:= [.sl false 1 (List.take 2 (List.drop (restlo+2) (List.map (d8 .u8) b0)))]) h (fun _=>bx2) ⟨by simp [d9.enc,d9.l,i8.enc,i8.l,n9.enc,n9.l,r6.enc,r6.l,f3.enc,f3.l,Op.enc,Op.l,Plan.enc,Plan.l,D0.enc,D0.l,i9.enc,i9.l,p6.enc,p6.l,m9.enc,m9.l,e9.enc,e9.l,List.take_of_length_le,List.map_take,List.map_drop],rfl⟩ fun y5 h=> ?_
 refine zs 8 h (fun h=> ?_) fun h=> ?_
 ·
  exact zg 4 (ai0 h)
 refine zs 10 h (fun h=> ?_) fun h=> ?_
 ·
  exact zg 4 (ai0 h)
 refine zn 2 h fun h=> ?_
 refine zn 0 h fun h=> ?_
 refine zn 0 h fun h=> ?_
 refine zdE 0 [] (args1:= [.sl false 1 (List.take ((IntKind.i64.wrap ((4:Int)+y5)).toNat-1) (List.drop (restlo+1) (List.map (d8 .u8) b0)))]) h (fun _=>cs5) (by simp [d9.enc,d9.l,i8.enc,i8.l,n9.enc,n9.l,r6.enc,r6.l,f3.enc,f3.l,Op.enc,Op.l,Plan.enc,Plan.l,D0.enc,D0.l,i9.enc,i9.l,p6.enc,p6.l,m9.enc,m9.l,e9.enc,e9.l,List.take_of_length_le,List.map_take,List.map_drop]) fun y11 h=> ?_
 refine zn 0 h fun h=> ?_
 refine zn 0 h fun h=> ?_
 refine zn 0 h fun h=> ?_
 refine zdE 0 [] (args1:= [.sl false 1 (List.take ((IntKind.i64.wrap ((IntKind.i64.wrap ((4:Int)+y5))+4)).toNat-(IntKind.i64.wrap ((4:Int)+y5)).toNat) (List.drop (restlo+(IntKind.i64.wrap ((4:Int)+y5)).toNat) (List.map (d8 .u8) b0)))]) h (fun _=>bx2) (by simp [d9.enc,d9.l,i8.enc,i8.l,n9.enc,n9.l,r6.enc,r6.l,f3.enc,f3.l,Op.enc,Op.l,Plan.enc,Plan.l,D0.enc,D0.l,i9.enc,i9.l,p6.enc,p6.l,m9.enc,m9.l,e9.enc,e9.l,List.take_of_length_le,List.map_take,List.map_drop]) fun y15 h=> ?_
 refine zs 1 h (fun h=> ?_) fun h=> ?_
 ·
  exact zg 4 (ai0 h)
 exact zg 2 (ai0 h)
noncomputable def dc6 (at_:Int) (b0:List Int) (t18:Bool):M:=⟨[.code (aL6 [1,0,1]),.code (aL6 [1,1])],[(0,(f6 0 (List.map (d8 .u8) b0))),(1,.int .i64 at_),(18,.bool t18)],[some ⟨1,false,(List.map (d8 .u8) b0)⟩]⟩
noncomputable def aM5 (at_:Int) (b0:List Int) (t18:Bool):Option (Int×(List Int)×Int×Int):=(bif t18 then (some (0,[],0,1)) else (bif ((decide (((0:Nat):Int)≤at_))&&(decide ((at_:Int)≤(((List.map (d8 .u8) b0).length:Nat):Int)))) then (bif (decide ((((((List.map (d8 .u8) b0).length-at_.toNat):Nat):Int):Int)>0)) then (bif (decide ((0:Int)<((((List.map (d8 .u8) b0).length-at_.toNat):Nat):Int))) then (((b0)[(0+at_.toNat)]?).bind fun y5=>(ah2 at_ b0 (0+at_.toNat) ((List.map (d8 .u8) b0).length-at_.toNat) ((List.map (d8 .u8) b0).length-at_.toNat) ((y5:Int) !=247))) else none) else (ah2 at_ b0 (0+at_.toNat) ((List.map (d8 .u8) b0).length-at_.toNat) ((List.map (d8 .u8) b0).length-at_.toNat) false)) else none))
theorem bF8 {at_ b0 t18}:bA5 at_ b0 (dc6 at_ b0 t18) (aM5 at_ b0 t18):=by
 intro r h;unfold aM5 at h
 refine zs 1 h (fun h=> ?_) fun h=> ?_
 ·
  exact zu 8 h [.slot 0 [some 1]]
 refine zn 11 h fun h=> ?_
 refine zs 11 h (fun h=> ?_) fun h=> ?_
 ·
  refine zn 2 h fun h=> ?_
  refine zr 2 (d8 .u8) h fun y5 h=> ?_
  exact zg 6 (bC2 h)
 exact zg 10 (bC2 h)
noncomputable def bf2 (at_:Int) (b0:List Int):Option (Int×(List Int)×Int×Int):=(bif (decide ((at_:Int)<0)) then (aM5 at_ b0 true) else (aM5 at_ b0 (decide ((at_:Int)>(((List.map (d8 .u8) b0).length:Nat):Int)))))
theorem de6 {at_:Int}{b0:List Int}{r:Int×(List Int)×Int×Int} (h:bf2 at_ b0=some r):i4 E 147 [(f6 0 (List.map (d8 .u8) b0)),.int .i64 at_] [some ⟨1,false,(List.map (d8 .u8) b0)⟩] (Rs (ch8 b0) r):=so (fn:=Tryz.f147) (k:=false) (m:=1) h<| by
 intro r h;unfold bf2 at h
 refine zs 14 h (fun h=> ?_) fun h=> ?_
 ·
  exact zg 9 (bF8 h)
 exact zg 9 (bF8 h)
end Go.RX.L

namespace Go.RX.L
open Go Go.RX Go.Proofs
attribute [local irreducible] i0
noncomputable def cA0:=p7 (q0 Tryz.f146)
def Q0 (y:Int×ah0):List D:= [D.int .i64 y.1,D.agg [D.int .u8 y.2.kind,D.sl false 1 (List.map (d8 .u8) y.2.body)]]
inductive L0 where
 | s0 (b1:List Int)
 | s1 (at_:Int) (b12:List Int)
noncomputable def Z0 (l:Nat):L0→M
 | .s0 b1=>⟨[.code (q0 Tryz.f146)],[(0,D.yld l),(1,D.ptr 0 0 0)],[some ⟨1,true,[[(f6 1 (List.map (d8 .u8) b1))]]⟩,some ⟨1,false,(List.map (d8 .u8) b1)⟩]⟩
 | .s1 at_ b12=>⟨[.lpc (cA0 [1,0,0]) 11,.blk 0],[(0,D.yld l),(1,D.ptr 0 0 0),(3,D.int .i64 at_)],[some ⟨1,true,[[(f6 1 (List.map (d8 .u8) b12))]]⟩,some ⟨1,false,(List.map (d8 .u8) b12)⟩]⟩
noncomputable def aJ2 (b1:List Int):Option (List (Int×ah0)×Option L0):=(some ([],some (.s1 0 b1)))
noncomputable def as3 (at_:Int) (b12:List Int):Option (List (Int×ah0)×Option L0):=((bf2 at_ b12).bind fun y1=>(bif ((y1.2.2.2:Int) !=0) then (some ([],none)) else (Option.map (fun p=>((y1.2.2.1,(⟨y1.1,y1.2.1⟩:ah0))::p.1,p.2)) (some ([],some (.s1 y1.2.2.1 b12))))))
noncomputable def ao0:L0→f4
 | .s0 b1=> [some ⟨1,true,[[(f6 1 (List.map (d8 .u8) b1))]]⟩,some ⟨1,false,(List.map (d8 .u8) b1)⟩]
 | .s1 at_ b12=> [some ⟨1,true,[[(f6 1 (List.map (d8 .u8) b12))]]⟩,some ⟨1,false,(List.map (d8 .u8) b12)⟩]
noncomputable def V0:L0→Option (List (Int×ah0)×Option L0)
 | .s0 b1=>aJ2 b1
 | .s1 at_ b12=>as3 at_ b12
theorem cf8 {l:Nat}{ln:f4}{φ0:q8}{J:Option (List (List D))→World→(Nat→Prop)→(Nat→Prop)→Prop}{b1:List Int}{x:List (Int×ah0)×Option L0}{Y:List (List D)} (hl:ao0 (.s0 b1)=ln) (h:aJ2 b1=some x) (ha:aa5 E ln (Cx.seq Tryz.f146 2 ln l φ0 J) Q0 (Z0 l) ao0 x Y):i0 E (Cx.seq Tryz.f146 2 ln l φ0 J (some Y)) (fun _ s=>P0 ln s) (.go (Z0 l (.s0 b1))):=by
 subst hl
 unfold aJ2 at h
 refine l6 hm 7 _ ?_
 obtain rfl:=Option.some.inj h
 exact aR3 (q' := .go (Z0 l (.s1 0 b1))) (by kernel_rfl) (L1 (by kernel_rfl) ha)
theorem ce1 {l:Nat}{ln:f4}{φ0:q8}{J:Option (List (List D))→World→(Nat→Prop)→(Nat→Prop)→Prop}{at_:Int}{b12:List Int}{x:List (Int×ah0)×Option L0}{Y:List (List D)} (hl:ao0 (.s1 at_ b12)=ln) (h:as3 at_ b12=some x) (ha:aa5 E ln (Cx.seq Tryz.f146 2 ln l φ0 J) Q0 (Z0 l) ao0 x Y):i0 E (Cx.seq Tryz.f146 2 ln l φ0 J (some Y)) (fun _ s=>P0 ln s) (.go (Z0 l (.s1 at_ b12))):=by
 subst hl
 unfold as3 at h
 refine zc 8 [] h (fun _=>de6) fun y1 h=> ?_
 refine zs 17 h (fun h=> ?_) fun h=> ?_
 ·
  refine l6 hm 18 _ ?_
  obtain rfl:=Option.some.inj h
  exact bD8 (d:=D.tup []) (s:= [some ⟨1,true,[[(f6 1 (List.map (d8 .u8) b12))]]⟩,some ⟨1,false,(List.map (d8 .u8) b12)⟩]) (by kernel_rfl) (by kernel_rfl) ha
 refine l6 hm 10 _ ?_
 refine bH9 (x:=(y1.2.2.1,(⟨y1.1,y1.2.1⟩:ah0))) (s:= [some ⟨1,true,[[(f6 1 (List.map (d8 .u8) b12))]]⟩,some ⟨1,false,(List.map (d8 .u8) b12)⟩]) h ha (by kernel_rfl) (by kernel_rfl) ?_ (fun p Y h ha=> ?_)
 · --it is stopped
   refine l6 hm 8 _ ?_
   exact bt5 (d:=D.tup []) (s:= [some ⟨1,true,[[(f6 1 (List.map (d8 .u8) b12))]]⟩,some ⟨1,false,(List.map (d8 .u8) b12)⟩]) (by kernel_rfl) (by kernel_rfl)
 · --it goes on
   refine l6 hm 14 _ ?_
   obtain rfl:=Option.some.inj h
   exact aR3 (q' := .go (Z0 l (.s1 y1.2.2.1 b12))) (by kernel_rfl) (L1 (by kernel_rfl) ha)
noncomputable def aU4 (b1:List Int):Option (List (Int×ah0)):=evl V0 (.s0 b1)
theorem cu6 {b1:List Int}{r:List (Int×ah0)} (h:aU4 b1=some r):aj2 E 146 [D.ptr 0 0 0] [some ⟨1,true,[[(f6 1 (List.map (d8 .u8) b1))]]⟩,some ⟨1,false,(List.map (d8 .u8) b1)⟩] [some ⟨1,true,[[(f6 1 (List.map (d8 .u8) b1))]]⟩,some ⟨1,false,(List.map (d8 .u8) b1)⟩] (List.map Q0 r):=
 bE1 (m:=fun l=>Z0 l (.s0 b1)) (fn:=Tryz.f146) (by kernel_rfl) (fun l=>by kernel_rfl) (show List.take _ _=_ by kernel_rfl) (show B7 _ _=_ by kernel_rfl) (fun l φ0 J=>bq0 (step:=V0) (lnS:=ao0) (fun s x Y hl hs ha=>by
  cases s with
  | s0=>exact cf8 hl hs ha
  | s1=>exact ce1 hl hs ha) (by kernel_rfl) (bH4 h))
end Go.RX.L

namespace Go.RX
open Go
/-! ### one bit of a check sum -/
def bm2 (r:Nat):Nat:=if r%2=1 then r/2^^^3988292384 else r/2
def R8:Nat→Nat→Nat
 | 0,r=>r
 | n+1,r=>R8 n (bm2 r)
theorem dH6 {r:Nat} (h:r<4294967296):bm2 r<4294967296:=by
 unfold bm2
 split
 ·exact Nat.xor_lt_two_pow (n:=32) (by omega) (by decide)
 ·omega
theorem bJ0:∀(n:Nat) {r:Nat},r<4294967296→R8 n r<4294967296
 | 0,_,h=>h
 | n+1,_,h=>bJ0 n (dH6 h)
theorem dy5 (a b:Nat):bm2 (a^^^b)=bm2 a^^^bm2 b:=by
 have h1:(a^^^b)/2=a/2^^^b/2:=Nat.xor_div_two
 have h2:(a^^^b)%2=(a+b)%2:=by
  have h:=Nat.xor_mod_two_pow (a:=a) (b:=b) (n:=1)
  rw [show 2^1=2 from rfl] at h
  rw [h]
  rcases Nat.mod_two_eq_zero_or_one a with ha | ha<;>rcases Nat.mod_two_eq_zero_or_one b with hb | hb<;>rw [ha,hb]
  ·show 0=_;omega
  ·show 1=_;omega
  ·show 1=_;omega
  ·show 0=_;omega
 unfold bm2
 rw [h1,h2]
 rcases Nat.mod_two_eq_zero_or_one a with ha | ha<;>rcases Nat.mod_two_eq_zero_or_one b with hb | hb
 ·rw [if_neg (by omega),if_neg (by omega),if_neg (by omega)]
 ·rw [if_pos (by omega),if_neg (by omega),if_pos hb,Nat.xor_assoc]
 ·rw [if_pos (by omega),if_pos ha,if_neg (by omega),Nat.xor_assoc,Nat.xor_assoc,Nat.xor_comm (b/2)]
 ·rw [if_neg (by omega),if_pos ha,if_pos hb,Nat.xor_assoc,Nat.xor_comm (b/2) 3988292384,←Nat.xor_assoc 3988292384,Nat.xor_self,Nat.zero_xor]
theorem cK3:∀(n a b:Nat),R8 n (a^^^b)=R8 n a^^^R8 n b
 | 0,_,_=>rfl
 | n+1,a,b=>by simp only [R8,dy5,cK3 n]
theorem cj5:∀(n a:Nat),R8 n (2^n*a)=a
 | 0,a=>by simp [R8]
 | n+1,a=>by
  have:bm2 (2^(n+1)*a)=2^n*a:=by
   rw [Nat.pow_succ,Nat.mul_comm (2^n) 2,Nat.mul_assoc]
   unfold bm2
   rw [if_neg (by omega)]
   omega
  simp only [R8,this,cj5 n a]
theorem dy2 (r:Nat):r=16*(r/16)^^^r%16:=by
 have h:=Nat.two_pow_add_eq_or_of_lt (i:=4) (b:=r%16) (by omega) (r/16)
 have e:2^4*(r/16)^^^r%16=2^4*(r/16) ||| r%16:=by
  refine Nat.eq_of_testBit_eq fun j=> ?_
  rw [Nat.testBit_xor,Nat.testBit_or]
  by_cases hj:j<4
  ·have:(2^4*(r/16)).testBit j=false:=by rw [Nat.testBit_two_pow_mul];simp;omega
   rw [this];simp
  ·have:(r%16).testBit j=false:=Nat.testBit_lt_two_pow (Nat.lt_of_lt_of_le (show r%16<2^4 by omega) (Nat.pow_le_pow_right (by decide) (by omega)))
   rw [this];simp
 rw [show (16:Nat)=2^4 from rfl] at*
 omega
theorem dr2 (r:Nat):R8 4 r=r/16^^^R8 4 (r%16):=by
 conv=>lhs;rw [dy2 r]
 rw [cK3,show (16:Nat)=2^4 from rfl,cj5]
theorem cL6:∀(m n r:Nat),R8 (m+n) r=R8 n (R8 m r)
 | 0,n,r=>by simp [R8]
 | m+1,n,r=>by rw [show m+1+n=(m+n)+1 by omega];simp only [R8,cL6 m n]
/-! ### a byte, bytes -/
def dF0 (r:Nat) (c:Int):Nat:=R8 8 (r^^^c.toNat)
def bI2:Nat→List Int→Nat
 | r,[]=>r
 | r,c::l=>bI2 (dF0 r c) l
def da3 (s:Nat) (l:List Int):Nat:=4294967295-bI2 (4294967295-s) l
def crc (l:List Int):Nat:=da3 0 l
theorem db3 (l:List Int):crc l<4294967296:=by unfold crc da3;omega
/-! ### four bytes of a number -/
def be4 (s:Nat):List Int:= [((s/16777216%256:Nat):Int),((s/65536%256:Nat):Int),((s/256%256:Nat):Int),((s%256:Nat):Int)]
def Q2:Nat→List Int→Nat
 | n,[]=>n
 | n,c::l=>Q2 (n*256+c.toNat) l
theorem dE1 (s:Nat):s9 (be4 s):=fun c hc=>by
 simp only [be4,List.mem_cons,List.not_mem_nil,or_false] at hc
 rcases hc with rfl | rfl | rfl | rfl<;>omega
theorem dI5 {s:Nat} (h:s<4294967296):Q2 0 (be4 s)=s:=by
 simp only [be4,Q2,Int.toNat_natCast]
 omega
theorem dV0 {a b c d:Int} (ha:0≤a∧a≤255) (hb:0≤b∧b≤255) (hc:0≤c∧c≤255) (hd:0≤d∧d≤255):be4 (Q2 0 [a,b,c,d])= [a,b,c,d]:=by
 simp only [Q2,be4,List.cons.injEq,and_true]
 omega
/-! ### frames -/
def U7 (k:Int) (body:List Int):List Int:=k::((body.length/256:Nat):Int)::((body.length%256:Nat):Int)::body
def H0 (k:Int) (body:List Int):List Int:=247::(U7 k body++be4 (crc (U7 k body)))
def pF (l:List Int):Int⊕(Int×List Int×Nat):=match l with
 | []=> .inl 31
 | m::_=>if m≠247 then .inl 32 else if l.length<8 then .inl 31 else
  if 8192<Q2 0 [l.getD 2 0,l.getD 3 0] then .inl 2 else
  if l.length<Q2 0 [l.getD 2 0,l.getD 3 0]+8 then .inl 31 else
  if crc ((l.drop 1).take (Q2 0 [l.getD 2 0,l.getD 3 0]+3))≠Q2 0 ((l.drop (Q2 0 [l.getD 2 0,l.getD 3 0]+4)).take 4) then .inl 33 else
  .inr (l.getD 1 0,(l.drop 4).take (Q2 0 [l.getD 2 0,l.getD 3 0]),Q2 0 [l.getD 2 0,l.getD 3 0]+8)
theorem aR5 (k:Int) (body:List Int):(U7 k body).length=body.length+3:=by simp [U7]
theorem aQ2 (k:Int) (body:List Int):(H0 k body).length=body.length+8:=by simp [H0,aR5,be4]
theorem ck0 {k:Int}{body:List Int} (hk:0≤k∧k≤255) (hb:s9 body) (hl:body.length≤65535):s9 (U7 k body):=fun c hc=>by
 simp only [U7,List.mem_cons] at hc
 rcases hc with rfl | rfl | rfl | hc
 ·exact hk
 ·omega
 ·omega
 ·exact hb c hc
theorem bM5 {k:Int}{body:List Int} (hk:0≤k∧k≤255) (hb:s9 body) (hl:body.length≤65535):s9 (H0 k body):=fun c hc=>by
 simp only [H0,List.mem_cons,List.mem_append] at hc
 rcases hc with rfl | hc | hc
 ·omega
 ·exact ck0 hk hb hl c hc
 ·exact dE1 _ c hc
theorem cV6 {k:Int}{body:List Int} (hk:0≤k∧k≤255) (hb:s9 body) (hl:body.length≤8192) (rest:List Int):pF (H0 k body++rest)= .inr (k,body,body.length+8):=by
 have hn:Q2 0 [((body.length/256:Nat):Int),((body.length%256:Nat):Int)]=body.length:=by
  simp only [Q2,Int.toNat_natCast];omega
 have e2:(H0 k body++rest).getD 2 0=((body.length/256:Nat):Int):=rfl
 have e3:(H0 k body++rest).getD 3 0=((body.length%256:Nat):Int):=rfl
 have e1:(H0 k body++rest).getD 1 0=k:=rfl
 have hlen:(H0 k body++rest).length=body.length+8+rest.length:=by rw [List.length_append,aQ2]
 have d1:((H0 k body++rest).drop 1).take (body.length+3)=U7 k body:=by
  show ((U7 k body++be4 _)++rest).take (body.length+3)=U7 k body
  rw [List.append_assoc,←aR5 k body,List.take_left]
 have d2:((H0 k body++rest).drop (body.length+4)).take 4=be4 (crc (U7 k body)):=by
  show (((U7 k body++be4 _)++rest).drop (body.length+3)).take 4=_
  rw [List.append_assoc,←aR5 k body,List.drop_left]
  rfl
 have d3:((H0 k body++rest).drop 4).take body.length=body:=by
  show (((body++be4 _)++rest)).take body.length=body
  rw [List.append_assoc,List.take_left]
 have hx:∃x,H0 k body++rest=247::x:=⟨_,rfl⟩
 obtain ⟨x,hx⟩:=hx
 have key:pF (247::x)= .inr (k,body,body.length+8):=by
  rw [hx] at e1 e2 e3 hlen d1 d2 d3
  simp only [pF,e1,e2,e3,hn,hlen,d1,d2,d3]
  rw [if_neg (by simp),if_neg (by omega),if_neg (by omega),if_neg (by omega),if_neg (by rw [dI5 (db3 _)];simp)]
 rw [hx];exact key
theorem ee7:∀{l:List Int},3≤l.length→∃a b c r,l=a::b::c::r
 | a::b::c::r,_=>⟨a,b,c,r,rfl⟩
 | [],h=>by simp at h
 | [_],h=>by simp at h
 | [_,_],h=>by simp at h
theorem eg6:∀{l:List Int},l.length=4→∃a b c d,l= [a,b,c,d]
 | [a,b,c,d],_=>⟨a,b,c,d,rfl⟩
theorem dY5 {l:List Int}{k:Int}{body:List Int}{m:Nat} (hb:s9 l) (h:pF l= .inr (k,body,m)):l.take m=H0 k body∧m≤l.length∧m=body.length+8∧body.length≤8192∧(0≤k∧k≤255)∧s9 body:=by
 unfold pF at h
 split at h
 ·cases h
 ·rename_i m0 l0
  split at h
  ·cases h
  ·rename_i h1
   split at h
   ·cases h
   ·rename_i h2
    split at h
    ·cases h
    ·rename_i h3
     split at h
     ·cases h
     ·rename_i h4
      split at h
      ·cases h
      ·rename_i h5
       simp only [Sum.inr.injEq,Prod.mk.injEq] at h
       obtain ⟨rfl,rfl,rfl⟩:=h
       simp only [ne_eq,Decidable.not_not] at h1 h5
       subst h1
       obtain ⟨k,a,b,r,rfl⟩:=ee7 (l:=l0) (by simp only [List.length_cons] at h2;omega)
       have ha:=hb a (by simp)
       have hbb:=hb b (by simp)
       have hk:=hb k (by simp)
       simp only [List.getD_cons_succ,List.getD_cons_zero,List.length_cons,List.drop_succ_cons,List.drop_zero] at h2 h3 h4 h5 ⊢
       generalize hn:Q2 0 [a,b]=n at*
       have hn' :n=a.toNat*256+b.toNat:=by rw [←hn];simp [Q2]
       have hlen:(r.take n).length=n:=by rw [List.length_take];omega
       have e1:((n/256:Nat):Int)=a:=by omega
       have e2:((n%256:Nat):Int)=b:=by omega
       have hin:U7 k (r.take n)=(k::a::b::r).take (n+3):=by
        simp only [U7,hlen,e1,e2,List.take_succ_cons]
       have h4b:∃x y z u,(r.drop n).take 4= [x,y,z,u]:=by
        exact eg6 (by rw [List.length_take,List.length_drop];omega)
       obtain ⟨x,y,z,u,hxyz⟩:=h4b
       have hmem:∀c∈ [x,y,z,u],0≤c∧c≤255:=fun c hc=>hb c (by
        rw [←hxyz] at hc
        simp only [List.mem_cons]
        exact .inr (.inr (.inr (.inr (List.mem_of_mem_drop (List.mem_of_mem_take hc))))))
       refine ⟨?_,by omega,by omega,by omega,hk,fun c hc=>hb c (by simp only [List.mem_cons];exact .inr (.inr (.inr (.inr (List.mem_of_mem_take hc)))))⟩
       unfold H0
       rw [hin,h5,hxyz,dV0 (hmem x (by simp)) (hmem y (by simp)) (hmem z (by simp)) (hmem u (by simp)),←hxyz]
       rw [show n+8=(n+7)+1 from rfl,List.take_succ_cons,show n+7=(n+3)+4 from rfl,List.take_add]
       rfl
theorem dZ3 {l:List Int}{e:Int} (h:pF l= .inl e):e=31∨e=32∨e=2∨e=33:=by
 unfold pF at h
 split at h
 ·simp at h;omega
 ·split at h
  ·simp at h;omega
  ·split at h
   ·simp at h;omega
   ·split at h
    ·simp at h;omega
    ·split at h
     ·simp at h;omega
     ·split at h
      ·simp at h;omega
      ·cases h
theorem eb2 {k:Int}{body:List Int} (hk:0≤k∧k≤255) (hb:s9 body) (hl:body.length≤8192) {j:Nat} (hj:j<body.length+8):∃e,pF ((H0 k body).take j)= .inl e:=by
 cases h:pF ((H0 k body).take j) with
 | inl e=>exact ⟨e,rfl⟩
 | inr x=>
  exfalso
  obtain ⟨k',body',m⟩:=x
  have hbb:s9 ((H0 k body).take j):=fun c hc=>bM5 hk hb (by omega) c (List.mem_of_mem_take hc)
  obtain ⟨a1,a2,a3,a4,a5,a6⟩:=dY5 hbb h
  have h1:=cV6 hk hb hl []
  rw [List.append_nil] at h1
  have hs:H0 k body=H0 k' body' ++(H0 k body).drop m:=by
   rw [←a1,List.take_take,Nat.min_eq_left (by rw [List.length_take] at a2;omega),List.take_append_drop]
  rw [hs,cV6 a5 a6 a4] at h1
  simp only [Sum.inr.injEq,Prod.mk.injEq] at h1
  rw [List.length_take,aQ2] at a2
  omega
end Go.RX

namespace Go.RX.L
open Go Go.RX
theorem bD7 {n:Nat} (h:n<4294967296):(BitVec.ofInt IntKind.u32.bits (n:Int)).toNat=n:=by
 rw [BitVec.ofInt_natCast,show IntKind.u32.bits=32 from rfl,BitVec.toNat_ofNat,Nat.mod_eq_of_lt (by omega)]
theorem cd1 {n:Nat} (h:n<4294967296):IntKind.u32.wrap (n:Int)=n:=ei0 (by omega) (by omega)
theorem dB7 {a b:Nat} (ha:a<4294967296) (hb:b<4294967296):O8 .u32 a b=((a^^^b:Nat):Int):=by
 unfold O8
 rw [BitVec.toNat_xor,bD7 ha,bD7 hb,cd1 (Nat.xor_lt_two_pow (n:=32) ha hb)]
theorem cK4 {a:Nat} (ha:a<4294967296):k7 .u32 a 15=((a%16:Nat):Int):=by
 unfold k7
 rw [show (15:Int)=((15:Nat):Int) from rfl,BitVec.toNat_and,bD7 ha,bD7 (by omega),show (15:Nat)=2^4-1 from rfl,Nat.and_two_pow_sub_one_eq_mod,cd1 (by omega)]
theorem bU7 {a k:Nat} (hk:k≤32):n5 .u32 a k=((a/2^k:Nat):Int):=by
 unfold n5
 have e:min (k:Int).toNat IntKind.u32.bits=k:=by simp [IntKind.bits];omega
 rw [e,Int.fdiv_eq_ediv_of_nonneg _ (by exact Int.le_of_lt (Int.pow_pos (by decide)))]
 norm_cast
theorem dl3 {n:Nat} (h:n<4294967296):O8 .u32 4294967295 n=((4294967295-n:Nat):Int):=by
 unfold O8
 have e:BitVec.ofInt IntKind.u32.bits 4294967295=BitVec.allOnes IntKind.u32.bits:=by decide
 rw [BitVec.xor_comm,e,BitVec.xor_allOnes,BitVec.toNat_not,bD7 h,show IntKind.u32.bits=32 from rfl,show 2^32-1-n=4294967295-n by omega,cd1 (by omega)]
/-! ### the program's: four bits at once -/
theorem cX0:∀i,i<16→gl_four[i]? =some ((R8 4 i:Nat):Int):=by decide+kernel
theorem nib {r:Nat} (h:r<4294967296):O8 .u32 (n5 .u32 r 4) ((R8 4 (r%16):Nat):Int)=((R8 4 r:Nat):Int):=by
 have e:n5 .u32 r 4=((r/16:Nat):Int):=bU7 (a:=r) (k:=4) (by decide)
 rw [e,dB7 (by omega) (bJ0 4 (by omega)),dr2 r]
theorem eb6 (r:Nat):decide (((r%16:Nat):Int)<((16:Nat):Int))=true:=F2 (by omega)
theorem dL2 {b:List Int} (hb:s9 b) (hm:b.length<9223372036854775807):∀(j k r:Nat),k+j=b.length→r<4294967296→Ev aH7 (.s1 r b b.length k) ((4294967295-bI2 r (b.drop k):Nat):Int):=by
 intro j
 induction j with
 | zero=>
  intro k r hk hr
  have e:bI2 r (b.drop k)=r:=by rw [List.drop_of_length_le (by omega)];rfl
  rw [e]
  refine .done ?_
  simp only [aH7,bg3,geB (show b.length≤k by omega),cond_false,dl3 hr]
 | succ j ih=>
  intro k r hk hr
  have hlt:k<b.length:=by omega
  obtain ⟨c,hc⟩:∃c:Nat,b[k]=(c:Int):=⟨_,(Int.toNat_of_nonneg (hb _ (List.getElem_mem hlt)).1).symm⟩
  have hc' :=hb _ (List.getElem_mem hlt)
  rw [hc] at hc'
  have h1:r^^^c<4294967296:=Nat.xor_lt_two_pow (n:=32) hr (by omega)
  have h2:=bJ0 4 h1
  have e1:O8 .u32 r (IntKind.u32.wrap (c:Int))=((r^^^c:Nat):Int):=by rw [cd1 (by omega),dB7 hr (by omega)]
  have hd:b.drop k=(c:Int)::b.drop (k+1):=by rw [←hc,List.drop_eq_getElem_cons hlt]
  have hs:bI2 r (b.drop k)=bI2 (R8 4 (R8 4 (r^^^c))) (b.drop (k+1)):=by
   rw [hd]
   show bI2 (dF0 r c) _=_
   rw [dF0,Int.toNat_natCast,show 8=4+4 from rfl,cL6]
  rw [hs]
  refine .next (s' := .s1 ((R8 4 (R8 4 (r^^^c)):Nat):Int) b b.length ((k+1:Nat):Int)) ?_ (ih (k+1) _ (by omega) (bJ0 4 h2))
  simp only [aH7,bg3,F2 hlt,cond_true,List.length_map,ixB hlt,M7,Bool.and_self,Int.toNat_natCast,List.getE hlt,Option.bind_some,hc,e1,cK4 h1,eb6]
  simp only [Nat.zero_add,cX0 _ (Nat.mod_lt (r^^^c) (by decide:0<16)),Option.bind_some,nib h1,cK4 h2,eb6,M7,Bool.and_self,cond_true,Int.toNat_natCast]
  simp only [cX0 _ (Nat.mod_lt (R8 4 (r^^^c)) (by decide:0<16)),Option.bind_some,nib h2,wS (show k<9223372036854775807 by omega)]
theorem dx1 {b:List Int} (hb:s9 b) (hm:b.length<9223372036854775807):bp5 b=some (crc b:Int):=by
 have h:cE7 0 b=some (crc b:Int):=by
  refine u6 (.next (s' := .s1 ((4294967295:Nat):Int) b b.length ((0:Nat):Int)) ?_ ?_)
  ·have:=dl3 (n:=0) (by decide)
   simp only [aH7,bz1,List.length_map]
   rw [show (0:Int)=((0:Nat):Int) from rfl,this]
  ·have:=dL2 hb hm b.length 0 4294967295 (by omega) (by decide)
   simpa [crc,da3] using this
 simp only [bp5,h,Option.bind_some]
/-! ### the document's: one bit after the other -/
end Go.RX.L

namespace Go.RX.L
open Go Go.RX
theorem ef2 {a:Nat} (h:a<36028797018963968):F3 .i64 a 8=((a*256:Nat):Int):=by
 unfold F3
 rw [show min (8:Int).toNat IntKind.i64.bits=8 from rfl,show ((a:Int)*(2:Int)^8)=((a*256:Nat):Int) by norm_cast,u7 (by omega) (by omega)]
/-! ### writing -/
def dI3 (k:Int) (body:List Int):List Int×Int:=if body.length≤8192 then (H0 k body,0) else ([],2)
theorem ei4 {n:Nat}:n5 .i64 n 8=((n/256:Nat):Int):=by
 unfold n5
 rw [show min (8:Int).toNat IntKind.i64.bits=8 from rfl,Int.fdiv_eq_ediv_of_nonneg _ (by decide)]
 norm_cast
theorem ee1 (k:Int) {body:List Int} (h:body.length≤8192): [247,k,(IntKind.u8.wrap ((n5 .i64 ((body.length:Nat):Int) 8))),(IntKind.u8.wrap (((body.length:Nat):Int)))]++body=247::U7 k body:=by
 rw [ei4,aw8,aw8,Nat.mod_eq_of_lt (a:=body.length/256) (by omega)]
 rfl
theorem eh5 {k:Int}{body:List Int} (h:body.length≤8192):List.take ((247::U7 k body).length-1) (List.drop 1 (247::U7 k body))=U7 k body:=by
 simp
theorem dq4 {s:Nat} (hs:s<4294967296) {b:List Int} (hb:b.length≤8300):Ev S5 (.s1 s 24 b) (b++be4 s,0):=by
 have e24:n5 .u32 s 24=((s/16777216:Nat):Int):=bU7 (a:=s) (k:=24) (by decide)
 have e16:n5 .u32 s 16=((s/65536:Nat):Int):=bU7 (a:=s) (k:=16) (by decide)
 have e8:n5 .u32 s 8=((s/256:Nat):Int):=bU7 (a:=s) (k:=8) (by decide)
 have e0:n5 .u32 s 0=(s:Int):=by have:=bU7 (a:=s) (k:=0) (by decide);simpa using this
 have lim:∀n,n≤8310→decide ((n+1)*1≤i7)=true:=fun n hn=>D1 (by omega)
 refine .next (s' := .s1 s 16 (b++ [((s/16777216%256:Nat):Int)])) ?_ (.next (s' := .s1 s 8 (b++ [((s/16777216%256:Nat):Int),((s/65536%256:Nat):Int)])) ?_ (.next (s' := .s1 s 0 (b++ [((s/16777216%256:Nat):Int),((s/65536%256:Nat):Int),((s/256%256:Nat):Int)])) ?_ (.next (s' := .s1 s (-8) (b++be4 s)) ?_ (.done ?_))))
 ·simp only [S5,aq8,e24,aw8,List.length_map,lim b.length (by omega)]
  rfl
 ·simp only [S5,aq8,e16,aw8,List.length_map,List.length_append,List.length_cons,List.length_nil,lim (b.length+(0+1)) (by omega),List.append_assoc,List.cons_append,List.nil_append]
  rfl
 ·simp only [S5,aq8,e8,aw8,List.length_map,List.length_append,List.length_cons,List.length_nil,lim (b.length+(0+1+1)) (by omega),List.append_assoc,List.cons_append,List.nil_append]
  rfl
 ·simp only [S5,aq8,e0,aw8,List.length_map,List.length_append,List.length_cons,List.length_nil,lim (b.length+(0+1+1+1)) (by omega),List.append_assoc,List.cons_append,List.nil_append]
  rfl
 ·rfl
theorem dg8 {k:Int}{body:List Int} (hk:0≤k∧k≤255) (hb:s9 body) (hm:body.length≤G3):by4 k body=some (dI3 k body):=by
 unfold dI3
 by_cases h:body.length≤8192
 ·rw [if_pos h]
  have hs:=dx1 (ck0 hk hb (by omega)) (by rw [aR5];omega)
  refine u6 (.next (s' := .s1 (crc (U7 k body):Int) 24 (247::U7 k body)) ?_ ?_)
  ·have c1:decide (((body.length:Nat):Int)>8192)=false:=by simp;omega
   have c2:decide ((4+body.length)*1≤i7)=true:=D1 (by omega)
   have c3:decide ((1:Int)≤(((247::U7 k body).length:Nat):Int))=true:=by simp [aR5];omega
   have c4:Nat.ble (1+((247::U7 k body).length-1)) (247::U7 k body).length=true:=by simp;omega
   simp only [S5,aN7,List.length_map,c1,c2,ee1 k h,c3,c4,cond_false,cond_true,eh5 h,hs,Option.bind_some]
  ·exact dq4 (db3 _) (by simp [aR5];omega)
 ·rw [if_neg h]
  refine u6 (.done ?_)
  have c1:decide (((body.length:Nat):Int)>8192)=true:=by simp;omega
  simp only [S5,aN7,List.length_map,c1,cond_true]
end Go.RX.L

namespace Go.RX.L
open Go Go.RX
def rF (at_:Nat) (x:Int⊕(Int×List Int×Nat)):Int×List Int×Int×Int:=match x with
 | .inl e=>(0,[],0,e)
 | .inr (k,body,m)=>(k,body,((at_+m:Nat):Int),0)
theorem dK1 {m:Int}{l:List Int} (h:m≠247):pF (m::l)= .inl 32:=by simp only [pF,if_pos h]
theorem dH1 {l:List Int} (h:l.length<7):pF (247::l)= .inl 31:=by
 simp only [pF,if_neg (show ¬((247:Int)≠247) by simp),if_pos (show (247::l).length<8 by simp;omega)]
theorem dQ2 {k:Int}{a c:Nat}{r:List Int} (h:4≤r.length) (hn:8192<a*256+c):pF (247::k::(a:Int)::(c:Int)::r)= .inl 2:=by
 have hl:¬(247::k::(a:Int)::(c:Int)::r).length<8:=by simp;omega
 have hn' :Q2 0 [(a:Int),(c:Int)]=a*256+c:=by simp [Q2]
 simp only [pF,if_neg (show ¬((247:Int)≠247) by simp),if_neg hl,List.getD_cons_succ,List.getD_cons_zero,hn',if_pos hn]
theorem dR1 {k:Int}{a c:Nat}{r:List Int} (h:4≤r.length) (hn:a*256+c≤8192) (hc:r.length<a*256+c+4):pF (247::k::(a:Int)::(c:Int)::r)= .inl 31:=by
 have hl:¬(247::k::(a:Int)::(c:Int)::r).length<8:=by simp;omega
 have hn' :Q2 0 [(a:Int),(c:Int)]=a*256+c:=by simp [Q2]
 have h2:(247::k::(a:Int)::(c:Int)::r).length<a*256+c+8:=by simp;omega
 simp only [pF,if_neg (show ¬((247:Int)≠247) by simp),if_neg hl,List.getD_cons_succ,List.getD_cons_zero,hn',if_neg (show ¬8192<a*256+c by omega),if_pos h2]
theorem dL3 {k:Int}{a c:Nat}{r:List Int} (h:4≤r.length) (hn:a*256+c≤8192) (hc:a*256+c+4≤r.length):pF (247::k::(a:Int)::(c:Int)::r)=
  if crc ((k::(a:Int)::(c:Int)::r).take (a*256+c+3))≠Q2 0 ((r.drop (a*256+c)).take 4) then .inl 33 else .inr (k,r.take (a*256+c),a*256+c+8):=by
 have hl:¬(247::k::(a:Int)::(c:Int)::r).length<8:=by simp;omega
 have hn' :Q2 0 [(a:Int),(c:Int)]=a*256+c:=by simp [Q2]
 have h2:¬(247::k::(a:Int)::(c:Int)::r).length<a*256+c+8:=by simp;omega
 simp only [pF,if_neg (show ¬((247:Int)≠247) by simp),if_neg hl,List.getD_cons_succ,List.getD_cons_zero,hn',if_neg (show ¬8192<a*256+c by omega),if_neg h2,List.drop_succ_cons,List.drop_zero]
theorem dh3 {b:List Int} (hb:s9 b) (h4:b.length≤4):∀(j k n:Nat),k+j=b.length→n<256^k→Ev V2 (.s1 n b b.length k) ((Q2 n (b.drop k):Nat):Int):=by
 intro j
 induction j with
 | zero=>
  intro k n hk hn
  refine .done ?_
  rw [List.drop_of_length_le (by omega)]
  simp only [V2,av0,geB (show b.length≤k by omega),cond_false,Q2]
 | succ j ih=>
  intro k n hk hn
  have hlt:k<b.length:=by omega
  have hc:=hb _ (List.getElem_mem hlt)
  obtain ⟨c,hc'⟩:∃c:Nat,b[k]=(c:Int):=⟨_,(Int.toNat_of_nonneg hc.1).symm⟩
  rw [hc'] at hc
  have hk4:256^k≤256^3:=Nat.pow_le_pow_right (by decide) (by omega)
  have hd:b.drop k=(c:Int)::b.drop (k+1):=by rw [←hc',List.drop_eq_getElem_cons hlt]
  have e1:IntKind.i64.wrap (F3 .i64 (n:Int) 8+IntKind.i64.wrap (c:Int))=((n*256+c:Nat):Int):=by
   rw [ef2 (by omega),u7 (n:=(c:Int)) (by omega) (by omega),u7 (by omega) (by omega)];norm_cast
  rw [hd]
  refine .next (s' := .s1 ((n*256+c:Nat):Int) b b.length ((k+1:Nat):Int)) ?_ (by
   show Ev V2 _ ((Q2 (n*256+(c:Int).toNat) (b.drop (k+1)):Nat):Int)
   rw [Int.toNat_natCast]
   exact ih (k+1) _ (by omega) (by rw [Nat.pow_succ];omega))
  simp only [V2,av0,F2 hlt,cond_true,List.length_map,ixB hlt,M7,Bool.and_self,Int.toNat_natCast,List.getE hlt,Option.bind_some,hc',e1,wS (show k<9223372036854775807 by omega)]
theorem cM7 {b:List Int} (hb:s9 b) (h4:b.length≤4):aE6 b=some ((Q2 0 b:Nat):Int):=by
 refine u6 (.next (s' := .s1 ((0:Nat):Int) b b.length ((0:Nat):Int)) ?_ ?_)
 ·simp only [V2,aI9,List.length_map];rfl
 ·have:=dh3 hb h4 b.length 0 0 (by omega) (by decide)
  simpa using this
theorem cD9 {l:List Int} (hb:s9 l) (n:Nat):s9 (l.take n):=fun c hc=>hb c (List.mem_of_mem_take hc)
theorem bc1 {l:List Int} (hb:s9 l) (n:Nat):s9 (l.drop n):=fun c hc=>hb c (List.mem_of_mem_drop hc)
/-! ### the document's reader -/
end Go.RX.L

namespace Go.RX.L
open Go Go.RX Go.Proofs
attribute [local irreducible] i0
noncomputable def A8:=p7 (q0 Tryz.f85)
noncomputable def T6 (b0:List Int) (y:(List Int)×(List (List Int))×Int):D×f4:=(.tup [.sl false 1 (List.map (d8 .u8) y.1),.sl false 1 (List.map (E5 1 (d8 .u8)) y.2.1),.int .i64 y.2.2],[some ⟨1,false,(List.map (d8 .u8) b0)⟩])
inductive D3 where
 | s0
 | s1 (behind:Int) (b5:List Int) (b6:List (List Int))
 | s2 (behind:Int) (b5:List Int) (b6:List (List Int)) (Y:List (Int×ah0))
noncomputable def aL8 (b0:List Int):D3→M
 | .s0=>A6 Tryz.f85 [(f6 0 (List.map (d8 .u8) b0))] [some ⟨1,false,(List.map (d8 .u8) b0)⟩]
 | .s1 behind b5 b6=>⟨[.code (A8 [1,1,1,1,0,1,0]),.blk 0,.code (A8 [1,1,1,1,1])],[(5,.ptr 1 0 0),(6,.ptr 2 0 0),(7,.ptr 3 0 0),(11,.fn 146 [] [.ptr 4 0 0])],[some ⟨1,false,(List.map (d8 .u8) b0)⟩,some ⟨1,true,[[(f6 5 (List.map (d8 .u8) b5))]]⟩,some ⟨1,true,[[(f6 6 (List.map (E5 1 (d8 .u8)) b6))]]⟩,some ⟨1,false,[[.int .i64 behind]]⟩,some ⟨1,true,[[(f6 0 (List.map (d8 .u8) b0))]]⟩,some ⟨1,false,(List.map (d8 .u8) b5)⟩,some ⟨1,false,(List.map (E5 1 (d8 .u8)) b6)⟩]⟩
 | .s2 behind b5 b6 Y=>⟨[.blk 0,.code (A8 [1,1,1,1,1])],[(5,.ptr 1 0 0),(6,.ptr 2 0 0),(7,.ptr 3 0 0),(11,.fn 146 [] [.ptr 4 0 0])],[some ⟨1,false,(List.map (d8 .u8) b0)⟩,some ⟨1,true,[[(f6 5 (List.map (d8 .u8) b5))]]⟩,some ⟨1,true,[[(f6 6 (List.map (E5 1 (d8 .u8)) b6))]]⟩,some ⟨1,false,[[.int .i64 behind]]⟩,some ⟨1,true,[[(f6 0 (List.map (d8 .u8) b0))]]⟩,some ⟨1,false,(List.map (d8 .u8) b5)⟩,some ⟨1,false,(List.map (E5 1 (d8 .u8)) b6)⟩]⟩
noncomputable def av1 (b0:List Int):D3→((List Int)×(List (List Int))×Int)→Prop
 | .s0,r_=>i0 E (Cx.of Tryz.f85 false 1) (QW (Rs (T6 b0) r_)) (.go ((aL8 b0) (.s0)))
 | .s1 behind b5 b6,r_=>i0 E (Cx.of Tryz.f85 false 1) (QW (Rs (T6 b0) r_)) (.go ((aL8 b0) (.s1 behind b5 b6)))
 | .s2 behind b5 b6 Y,r_=>M2 E (Cx.of Tryz.f85 false 1) (QW (Rs (T6 b0) r_)) 5 (A8 [1,1,1,1,0,1,0]) [.blk 0,.code (A8 [1,1,1,1,1])] [(5,.ptr 1 0 0),(6,.ptr 2 0 0),(7,.ptr 3 0 0),(11,.fn 146 [] [.ptr 4 0 0])] [4,0] [some ⟨1,true,[[(f6 0 (List.map (d8 .u8) b0))]]⟩,some ⟨1,false,(List.map (d8 .u8) b0)⟩] (List.map Q0 Y) [some ⟨1,false,(List.map (d8 .u8) b0)⟩,some ⟨1,true,[[(f6 5 (List.map (d8 .u8) b5))]]⟩,some ⟨1,true,[[(f6 6 (List.map (E5 1 (d8 .u8)) b6))]]⟩,some ⟨1,false,[[.int .i64 behind]]⟩,some ⟨1,true,[[(f6 0 (List.map (d8 .u8) b0))]]⟩,some ⟨1,false,(List.map (d8 .u8) b5)⟩,some ⟨1,false,(List.map (E5 1 (d8 .u8)) b6)⟩]
noncomputable def be6 (b0:List Int):Option (D3⊕((List Int)×(List (List Int))×Int)):=((bn4 b0).bind fun y1=>(some (.inl (.s1 0 ([]) ([])))))
noncomputable def be2 (b0:List Int) (behind:Int) (b5:List Int) (b6:List (List Int)):Option (D3⊕((List Int)×(List (List Int))×Int)):=((aU4 b0).bind fun y1=>(some (.inl (.s2 behind b5 b6 y1))))
noncomputable def aW3 (b0:List Int) (behind:Int) (b5:List Int) (b6:List (List Int)):Option (D3⊕((List Int)×(List (List Int))×Int)):=(some (.inr (b5,b6,behind)))
noncomputable def aU3 (b0:List Int) (behind:Int) (b5:List Int) (b6:List (List Int)) (y:Int×ah0) (Y:List (Int×ah0)):Option (D3⊕((List Int)×(List (List Int))×Int)):=(bif (decide (((List.map (d8 .u8) b5).length+1)*1≤i7)) then (bif (decide (((List.map (E5 1 (d8 .u8)) b6).length+1)*24≤i7)) then (some (.inl (.s2 y.1 (b5++ [y.2.kind]) (b6++ [y.2.body]) Y))) else none) else none)
noncomputable def bd8 (b0:List Int) (behind:Int) (b5:List Int) (b6:List (List Int)):List (Int×ah0)→Option (D3⊕((List Int)×(List (List Int))×Int))
 | []=>aW3 b0 behind b5 b6
 | y::Y=>aU3 b0 behind b5 b6 y Y
noncomputable def Y3 (b0:List Int):D3→Option (D3⊕((List Int)×(List (List Int))×Int))
 | .s0=>be6 b0
 | .s1 behind b5 b6=>be2 b0 behind b5 b6
 | .s2 behind b5 b6 Y=>bd8 b0 behind b5 b6 Y
theorem cG2 {b0:List Int}{r:(List Int)×(List (List Int))×Int}{x:D3⊕((List Int)×(List (List Int))×Int)} (h:be6 b0=some x) (ha:z8 (av1 b0) r x):i0 E (Cx.of Tryz.f85 false 1) (QW (Rs (T6 b0) r)) (.go ((aL8 b0) (.s0))):=by
 unfold be6 at h
 refine zc 26 [] h (fun _=>cR9) fun y1 h=> ?_
 refine l6 hm 2 _ ?_
 obtain rfl:=Option.some.inj h
 refine ar4 14560 [.matc 1 0 0 1,.matc 2 0 0 1] (m' :=⟨[.code (A8 [1,1,1,1,0,1,0]),.blk 0,.code (A8 [1,1,1,1,1])],[(5,.ptr 1 0 0),(6,.ptr 2 0 0),(7,.ptr 3 0 0),(11,.fn 146 [] [.ptr 4 0 0])],[some ⟨1,false,(List.map (d8 .u8) b0)⟩,some ⟨1,true,[[.msl 5 0 0 0 false]]⟩,some ⟨1,true,[[.msl 6 0 0 0 false]]⟩,some ⟨1,false,[[.int .i64 0]]⟩,some ⟨1,true,[[(f6 0 (List.map (d8 .u8) b0))]]⟩,some ⟨1,false,[]⟩,some ⟨1,false,[]⟩]⟩) (by kernel_rfl) ?_
 refine ac8 (n1:=0) (n2:=(List.map (d8 .u8) ([])).length) (fun n_len=> .go ⟨[.code (A8 [1,1,1,1,0,1,0]),.blk 0,.code (A8 [1,1,1,1,1])],[(5,.ptr 1 0 0),(6,.ptr 2 0 0),(7,.ptr 3 0 0),(11,.fn 146 [] [.ptr 4 0 0])],[some ⟨1,false,(List.map (d8 .u8) b0)⟩,some ⟨1,true,[[.msl 5 0 n_len n_len false]]⟩,some ⟨1,true,[[.msl 6 0 0 0 false]]⟩,some ⟨1,false,[[.int .i64 0]]⟩,some ⟨1,true,[[(f6 0 (List.map (d8 .u8) b0))]]⟩,some ⟨1,false,[]⟩,some ⟨1,false,[]⟩]⟩) (by simp) ?_
 refine ac8 (n1:=0) (n2:=(List.map (E5 1 (d8 .u8)) ([])).length) (fun n_len=> .go ⟨[.code (A8 [1,1,1,1,0,1,0]),.blk 0,.code (A8 [1,1,1,1,1])],[(5,.ptr 1 0 0),(6,.ptr 2 0 0),(7,.ptr 3 0 0),(11,.fn 146 [] [.ptr 4 0 0])],[some ⟨1,false,(List.map (d8 .u8) b0)⟩,some ⟨1,true,[[.msl 5 0 ((List.map (d8 .u8) ([])).length) ((List.map (d8 .u8) ([])).length) false]]⟩,some ⟨1,true,[[.msl 6 0 n_len n_len false]]⟩,some ⟨1,false,[[.int .i64 0]]⟩,some ⟨1,true,[[(f6 0 (List.map (d8 .u8) b0))]]⟩,some ⟨1,false,[]⟩,some ⟨1,false,[]⟩]⟩) (by simp) ?_
 exact ha
theorem cB9 {b0:List Int}{behind:Int}{b5:List Int}{b6:List (List Int)}{r:(List Int)×(List (List Int))×Int}{x:D3⊕((List Int)×(List (List Int))×Int)} (h:be2 b0 behind b5 b6=some x) (ha:z8 (av1 b0) r x):i0 E (Cx.of Tryz.f85 false 1) (QW (Rs (T6 b0) r)) (.go ((aL8 b0) (.s1 behind b5 b6))):=by
 unfold be2 at h
 refine l6 hm 1 _ ?_
 have ok1:=fun (y:List (Int×ah0)) (hy:aU4 b0=some y)=>cu6 hy
 refine dg1 (m:=5) (c:=A8 [1,1,1,1,0,1,0]) (t:= [.blk 0,.code (A8 [1,1,1,1,1])]) (fr:= [(5,.ptr 1 0 0),(6,.ptr 2 0 0),(7,.ptr 3 0 0),(11,.fn 146 [] [.ptr 4 0 0])]) (σ:= [some ⟨1,false,(List.map (d8 .u8) b0)⟩,some ⟨1,true,[[(f6 5 (List.map (d8 .u8) b5))]]⟩,some ⟨1,true,[[(f6 6 (List.map (E5 1 (d8 .u8)) b6))]]⟩,some ⟨1,false,[[.int .i64 behind]]⟩,some ⟨1,true,[[(f6 0 (List.map (d8 .u8) b0))]]⟩,some ⟨1,false,(List.map (d8 .u8) b5)⟩,some ⟨1,false,(List.map (E5 1 (d8 .u8)) b6)⟩]) (ids:= [4,0]) (bs:= [some ⟨1,true,[[(f6 0 (List.map (d8 .u8) b0))]]⟩,some ⟨1,false,(List.map (d8 .u8) b0)⟩]) (caps1:= [.ptr 0 0 0]) (caps:= [.ptr 0 0 0]) (sub1:= [some ⟨1,true,[[(f6 1 (List.map (d8 .u8) b0))]]⟩,some ⟨1,false,(List.map (d8 .u8) b0)⟩]) (sub:= [some ⟨1,true,[[(f6 1 (List.map (d8 .u8) b0))]]⟩,some ⟨1,false,(List.map (d8 .u8) b0)⟩]) Q0 h (by kernel_rfl) ⟨rfl,rfl⟩ (by kernel_rfl) (by kernel_rfl) (by kernel_rfl) (by kernel_rfl) (by kernel_rfl) ok1 (fun y1 h1 h=> ?_)
 obtain rfl:=Option.some.inj h
 exact ha
theorem cr6 {b0:List Int}{behind:Int}{b5:List Int}{b6:List (List Int)}{r:(List Int)×(List (List Int))×Int}{x:D3⊕((List Int)×(List (List Int))×Int)} (h:aW3 b0 behind b5 b6=some x) (ha:z8 (av1 b0) r x):M2 E (Cx.of Tryz.f85 false 1) (QW (Rs (T6 b0) r)) 5 (A8 [1,1,1,1,0,1,0]) [.blk 0,.code (A8 [1,1,1,1,1])] [(5,.ptr 1 0 0),(6,.ptr 2 0 0),(7,.ptr 3 0 0),(11,.fn 146 [] [.ptr 4 0 0])] [4,0] [some ⟨1,true,[[(f6 0 (List.map (d8 .u8) b0))]]⟩,some ⟨1,false,(List.map (d8 .u8) b0)⟩] ([]) [some ⟨1,false,(List.map (d8 .u8) b0)⟩,some ⟨1,true,[[(f6 5 (List.map (d8 .u8) b5))]]⟩,some ⟨1,true,[[(f6 6 (List.map (E5 1 (d8 .u8)) b6))]]⟩,some ⟨1,false,[[.int .i64 behind]]⟩,some ⟨1,true,[[(f6 0 (List.map (d8 .u8) b0))]]⟩,some ⟨1,false,(List.map (d8 .u8) b5)⟩,some ⟨1,false,(List.map (E5 1 (d8 .u8)) b6)⟩]:=by
 unfold aW3 at h
 refine aZ4 ?_
 refine zm 7 (b:=(Nat.ble (0+(List.map (d8 .u8) b5).length) ((List.map (d8 .u8) b5).length))) (v6 _) ?_
 refine zm 0 (b:=(Nat.ble (0+(List.map (E5 1 (d8 .u8)) b6).length) ((List.map (E5 1 (d8 .u8)) b6).length))) (v6 _) ?_
 obtain rfl:=Option.some.inj h
 have hv:=ha
 simp only [z8] at hv
 subst hv
 exact au6 [] (d1:= .tup [.sl false 1 (List.take ((List.map (d8 .u8) b5).length) (List.drop 0 (List.map (d8 .u8) b5))),.sl false 1 (List.take ((List.map (E5 1 (d8 .u8)) b6).length) (List.drop 0 (List.map (E5 1 (d8 .u8)) b6))),.int .i64 behind]) (d:= .tup [.sl false 1 (List.map (d8 .u8) b5),.sl false 1 (List.map (E5 1 (d8 .u8)) b6),.int .i64 behind]) (s1:= [some ⟨1,false,(List.map (d8 .u8) b0)⟩]) (s:= [some ⟨1,false,(List.map (d8 .u8) b0)⟩]) (by kernel_rfl) ⟨by simp [d9.enc,d9.l,i8.enc,i8.l,n9.enc,n9.l,r6.enc,r6.l,f3.enc,f3.l,Op.enc,Op.l,Plan.enc,Plan.l,D0.enc,D0.l,i9.enc,i9.l,p6.enc,p6.l,m9.enc,m9.l,e9.enc,e9.l,List.take_of_length_le,List.map_take,List.map_drop],rfl⟩ ⟨rfl,rfl⟩ Cx.fin_of
theorem cv7 {b0:List Int}{behind:Int}{b5:List Int}{b6:List (List Int)}{y:Int×ah0}{Y:List (Int×ah0)}{r:(List Int)×(List (List Int))×Int}{x:D3⊕((List Int)×(List (List Int))×Int)} (h:aU3 b0 behind b5 b6 y Y=some x) (ha:z8 (av1 b0) r x):M2 E (Cx.of Tryz.f85 false 1) (QW (Rs (T6 b0) r)) 5 (A8 [1,1,1,1,0,1,0]) [.blk 0,.code (A8 [1,1,1,1,1])] [(5,.ptr 1 0 0),(6,.ptr 2 0 0),(7,.ptr 3 0 0),(11,.fn 146 [] [.ptr 4 0 0])] [4,0] [some ⟨1,true,[[(f6 0 (List.map (d8 .u8) b0))]]⟩,some ⟨1,false,(List.map (d8 .u8) b0)⟩] (Q0 y::List.map Q0 Y) [some ⟨1,false,(List.map (d8 .u8) b0)⟩,some ⟨1,true,[[(f6 5 (List.map (d8 .u8) b5))]]⟩,some ⟨1,true,[[(f6 6 (List.map (E5 1 (d8 .u8)) b6))]]⟩,some ⟨1,false,[[.int .i64 behind]]⟩,some ⟨1,true,[[(f6 0 (List.map (d8 .u8) b0))]]⟩,some ⟨1,false,(List.map (d8 .u8) b5)⟩,some ⟨1,false,(List.map (E5 1 (d8 .u8)) b6)⟩]:=by
 unfold aU3 at h
 refine aQ1 ?_
 refine zn 4 h fun h=> ?_
 refine za 0 (d8 .u8) b5 ([y.2.kind]) ?_
 refine zn 2 h fun h=> ?_
 refine za 0 (E5 1 (d8 .u8)) b6 ([y.2.body]) ?_
 refine l6 hm 8 _ ?_
 obtain rfl:=Option.some.inj h
 exact aH8 [] (s1:= [some ⟨1,false,(List.map (d8 .u8) b0)⟩,some ⟨1,true,[[.msl 5 0 ((List.map (d8 .u8) (b5++ [y.2.kind])).length) ((List.map (d8 .u8) (b5++ [y.2.kind])).length) false]]⟩,some ⟨1,true,[[.msl 6 0 ((List.map (E5 1 (d8 .u8)) (b6++ [y.2.body])).length) ((List.map (E5 1 (d8 .u8)) (b6++ [y.2.body])).length) false]]⟩,some ⟨1,false,[[.int .i64 y.1]]⟩,some ⟨1,true,[[(f6 0 (List.map (d8 .u8) b0))]]⟩,some ⟨1,false,(List.map (d8 .u8) (b5++ [y.2.kind]))⟩,some ⟨1,false,(List.map (E5 1 (d8 .u8)) (b6++ [y.2.body]))⟩]) (s:= [some ⟨1,false,(List.map (d8 .u8) b0)⟩,some ⟨1,true,[[.msl 5 0 ((List.map (d8 .u8) (b5++ [y.2.kind])).length) ((List.map (d8 .u8) (b5++ [y.2.kind])).length) false]]⟩,some ⟨1,true,[[.msl 6 0 ((List.map (E5 1 (d8 .u8)) (b6++ [y.2.body])).length) ((List.map (E5 1 (d8 .u8)) (b6++ [y.2.body])).length) false]]⟩,some ⟨1,false,[[.int .i64 y.1]]⟩,some ⟨1,true,[[(f6 0 (List.map (d8 .u8) b0))]]⟩,some ⟨1,false,(List.map (d8 .u8) (b5++ [y.2.kind]))⟩,some ⟨1,false,(List.map (E5 1 (d8 .u8)) (b6++ [y.2.body]))⟩]) (by kernel_rfl) (rfl) (by kernel_rfl) ha
theorem cH7 {b0:List Int}{behind:Int}{b5:List Int}{b6:List (List Int)}{Y:List (Int×ah0)}{r:(List Int)×(List (List Int))×Int}{x:D3⊕((List Int)×(List (List Int))×Int)} (h:bd8 b0 behind b5 b6 Y=some x) (ha:z8 (av1 b0) r x):M2 E (Cx.of Tryz.f85 false 1) (QW (Rs (T6 b0) r)) 5 (A8 [1,1,1,1,0,1,0]) [.blk 0,.code (A8 [1,1,1,1,1])] [(5,.ptr 1 0 0),(6,.ptr 2 0 0),(7,.ptr 3 0 0),(11,.fn 146 [] [.ptr 4 0 0])] [4,0] [some ⟨1,true,[[(f6 0 (List.map (d8 .u8) b0))]]⟩,some ⟨1,false,(List.map (d8 .u8) b0)⟩] (List.map Q0 Y) [some ⟨1,false,(List.map (d8 .u8) b0)⟩,some ⟨1,true,[[(f6 5 (List.map (d8 .u8) b5))]]⟩,some ⟨1,true,[[(f6 6 (List.map (E5 1 (d8 .u8)) b6))]]⟩,some ⟨1,false,[[.int .i64 behind]]⟩,some ⟨1,true,[[(f6 0 (List.map (d8 .u8) b0))]]⟩,some ⟨1,false,(List.map (d8 .u8) b5)⟩,some ⟨1,false,(List.map (E5 1 (d8 .u8)) b6)⟩]:=by
 cases Y with
 | nil=>exact cr6 h ha
 | cons y Y=>exact cv7 h ha
noncomputable def cb0 (b0:List Int):Option ((List Int)×(List (List Int))×Int):=T8 (Y3 b0) (.s0)
theorem cY4 {b0:List Int}{r:(List Int)×(List (List Int))×Int} (h:Ev (Y3 b0) (.s0) r):i4 E 85 [(f6 0 (List.map (d8 .u8) b0))] [some ⟨1,false,(List.map (d8 .u8) b0)⟩] (Rs (T6 b0) r):=
 ao1 (m:=(aL8 b0) (.s0)) (fn:=Tryz.f85) (by kernel_rfl) (by kernel_rfl) (bc3 (Pd:=(av1 b0)) (fun s x r hs ha=>by
  cases s with
  | s0=>exact cG2 hs ha
  | s1=>exact cB9 hs ha
  | s2=>exact cH7 hs ha) h)
theorem dc1 {b0:List Int}{r:(List Int)×(List (List Int))×Int} (h:cb0 b0=some r):i4 E 85 [(f6 0 (List.map (d8 .u8) b0))] [some ⟨1,false,(List.map (d8 .u8) b0)⟩] (Rs (T6 b0) r):=cY4 (bf3 h)
end Go.RX.L

namespace Go.RX.L
open Go Go.RX Go.Proofs
attribute [local irreducible] i0
noncomputable def co8 (b1 fuse:Int) (down:Bool) (b3 b4 y:List Int):D×f4:=(.tup [],[some ⟨1,true,[[.ptr 2 0 0]]⟩,some ⟨1,false,[[.int .i64 b1]]⟩,some ⟨4,true,[[(f6 5 (List.map (d8 .u8) y)),.msl 4 0 0 0 false,.int .i64 fuse,.bool down]]⟩,some ⟨1,false,(List.map (d8 .u8) b3)⟩,some ⟨1,false,(List.map (d8 .u8) b4)⟩,some ⟨1,false,(List.map (d8 .u8) y)⟩])
noncomputable def ai1 (b1 fuse:Int) (down:Bool) (b3 b4:List Int):Option (List Int):=(bif ((decide (((0:Nat):Int)≤b1))&&(decide ((b1:Int)≤(((List.map (d8 .u8) b3).length:Nat):Int)))) then ((an4 b1.toNat ((List.map (d8 .u8) b3).length) b3).bind fun y2=>(some y2)) else none)
theorem bl2 {b1 fuse:Int}{down:Bool}{b3 b4 r:List Int} (h:ai1 b1 fuse down b3 b4=some r):i4 E 87 [.ptr 0 0 0,.ptr 1 0 0] [some ⟨1,true,[[.ptr 2 0 0]]⟩,some ⟨1,false,[[.int .i64 b1]]⟩,some ⟨4,true,[[(f6 3 (List.map (d8 .u8) b3)),.msl 4 0 0 0 false,.int .i64 fuse,.bool down]]⟩,some ⟨1,false,(List.map (d8 .u8) b3)⟩,some ⟨1,false,(List.map (d8 .u8) b4)⟩] (Rs (co8 b1 fuse down b3 b4) r):=so (fn:=Tryz.f87) (k:=true) (m:=5) h<| by
 intro r h;unfold ai1 at h
 refine zn 5 h fun h=> ?_
 refine zdR 0 [] h (fun _=>bT1) fun y2 h=> ?_
 exact zu 3 h
end Go.RX.L

namespace Go.RX.L
open Go Go.RX Go.Proofs
attribute [local irreducible] i0
noncomputable def ai9:=p7 (q0 Tryz.f86)
noncomputable def aE3 (b2:Int) (b4:List Int) (y:Int×Int×Bool×(List Int)):D×f4:=(.int .i64 y.1,[some ⟨4,true,[[(f6 5 (List.map (d8 .u8) y.2.2.2)),.msl 6 0 0 0 false,.int .i64 y.2.1,.bool y.2.2.1]]⟩,some ⟨1,true,[[.ptr 0 0 0]]⟩,some ⟨1,false,[[.int .i64 b2]]⟩,none,none,some ⟨1,false,(List.map (d8 .u8) y.2.2.2)⟩,some ⟨1,false,(List.map (d8 .u8) b4)⟩])
abbrev aE4 (fuse:Int) (down:Bool) (b2:Int) (b3 b4:List Int):=AOk E (Cx.of Tryz.f86 true 5) (aE3 b2 b4)
noncomputable def bn8 (fuse:Int) (down:Bool) (b2:Int) (b3 b4:List Int) (fuse2:Int) (down2:Bool):M:=⟨[.code (ai9 [1,1])],[(0,.ptr 0 0 0),(1,.fn 87 [] [.ptr 1 0 0,.ptr 2 0 0])],[some ⟨4,true,[[(f6 3 (List.map (d8 .u8) b3)),.msl 4 0 0 0 false,.int .i64 fuse2,.bool down2]]⟩,some ⟨1,true,[[.ptr 0 0 0]]⟩,some ⟨1,false,[[.int .i64 b2]]⟩,some ⟨1,false,(List.map (d8 .u8) b3)⟩,some ⟨1,false,(List.map (d8 .u8) b4)⟩]⟩
noncomputable def I6 (fuse:Int) (down:Bool) (b2:Int) (b3 b4:List Int) (fuse2:Int) (down2:Bool):Option (Int×Int×Bool×(List Int)):=(bif down2 then (some (61,fuse2,down2,b3)) else (bif (decide ((fuse2:Int)>0)) then ((ai1 b2 (IntKind.i64.wrap (fuse2-1)) down2 b3 b4).bind fun y3=>(some (0,(IntKind.i64.wrap (fuse2-1)),down2,y3))) else ((ai1 b2 fuse2 down2 b3 b4).bind fun y4=>(some (0,fuse2,down2,y4)))))
theorem av4 {fuse down b2 b3 b4 fuse2 down2}:aE4 fuse down b2 b3 b4 (bn8 fuse down b2 b3 b4 fuse2 down2) (I6 fuse down b2 b3 b4 fuse2 down2):=by
 intro r h;unfold I6 at h
 refine zs 10 h (fun h=> ?_) fun h=> ?_
 ·
  refine zf 4 [.mv 3,.mv 4] ?_
  exact zu 1 h
 refine zs 12 h (fun h=> ?_) fun h=> ?_
 ·
  refine zc 17 [] h (fun _=>bl2) fun y3 h=> ?_
  refine zf 5 [.mv 3,.mv 4] ?_
  exact zu 1 h
 refine zc 5 [] h (fun _=>bl2) fun y4 h=> ?_
 refine zf 5 [.mv 3,.mv 4] ?_
 exact zu 1 h
noncomputable def bm5 (fuse:Int) (down:Bool) (b2:Int) (b3 b4:List Int) (t16:Bool):M:=⟨[.code (ai9 [1,0,1]),.code (ai9 [1,1])],[(0,.ptr 0 0 0),(1,.fn 87 [] [.ptr 1 0 0,.ptr 2 0 0]),(16,.bool t16)],[some ⟨4,true,[[(f6 3 (List.map (d8 .u8) b3)),.msl 4 0 0 0 false,.int .i64 fuse,.bool down]]⟩,some ⟨1,true,[[.ptr 0 0 0]]⟩,some ⟨1,false,[[.int .i64 b2]]⟩,some ⟨1,false,(List.map (d8 .u8) b3)⟩,some ⟨1,false,(List.map (d8 .u8) b4)⟩]⟩
noncomputable def I0 (fuse:Int) (down:Bool) (b2:Int) (b3 b4:List Int) (t16:Bool):Option (Int×Int×Bool×(List Int)):=(bif t16 then (I6 fuse down b2 b3 b4 (-1) true) else (I6 fuse down b2 b3 b4 fuse down))
theorem aw0 {fuse down b2 b3 b4 t16}:aE4 fuse down b2 b3 b4 (bm5 fuse down b2 b3 b4 t16) (I0 fuse down b2 b3 b4 t16):=by
 intro r h;unfold I0 at h
 refine zs 1 h (fun h=> ?_) fun h=> ?_
 ·
  exact zg 14 (av4 h)
 exact zg 1 (av4 h)
noncomputable def Z7 (fuse:Int) (down:Bool) (b2:Int) (b3 b4:List Int):Option (Int×Int×Bool×(List Int)):=(bif (!down) then (I0 fuse down b2 b3 b4 ((fuse:Int)==0)) else (I0 fuse down b2 b3 b4 false))
theorem bo8 {fuse:Int}{down:Bool}{b2:Int}{b3 b4:List Int}{r:Int×Int×Bool×(List Int)} (h:Z7 fuse down b2 b3 b4=some r):i4 E 86 [.ptr 0 0 0,.fn 87 [] [.ptr 1 0 0,.ptr 2 0 0]] [some ⟨4,true,[[(f6 3 (List.map (d8 .u8) b3)),.msl 4 0 0 0 false,.int .i64 fuse,.bool down]]⟩,some ⟨1,true,[[.ptr 0 0 0]]⟩,some ⟨1,false,[[.int .i64 b2]]⟩,some ⟨1,false,(List.map (d8 .u8) b3)⟩,some ⟨1,false,(List.map (d8 .u8) b4)⟩] (Rs (aE3 b2 b4) r):=so (fn:=Tryz.f86) (k:=true) (m:=5) h<| by
 intro r h;unfold Z7 at h
 refine zs 15 h (fun h=> ?_) fun h=> ?_
 ·
  exact zg 12 (aw0 h)
 exact zg 11 (aw0 h)
end Go.RX.L

namespace Go.RX.L
open Go Go.RX Go.Proofs
attribute [local irreducible] i0
noncomputable def cE8 (y:(List Int)×(List (List Int))×Int×Int×Bool×(List Int)×(List Int)):D×f4:=(.tup [.sl false 1 (List.map (d8 .u8) y.1),.sl false 1 (List.map (E5 1 (d8 .u8)) y.2.1),.int .i64 y.2.2.1],[some ⟨4,true,[[(f6 3 (List.map (d8 .u8) y.2.2.2.2.2.1)),(f6 4 (List.map (d8 .u8) y.2.2.2.2.2.2)),.int .i64 y.2.2.2.1,.bool y.2.2.2.2.1]]⟩,none,none,some ⟨1,false,(List.map (d8 .u8) y.2.2.2.2.2.1)⟩,some ⟨1,false,(List.map (d8 .u8) y.2.2.2.2.2.2)⟩])
noncomputable def aa4 (fuse:Int) (down:Bool) (b1 b2:List Int):Option ((List Int)×(List (List Int))×Int×Int×Bool×(List Int)×(List Int)):=((cb0 b1).bind fun y1=>(bif (decide ((y1.2.2:Int)<(((List.map (d8 .u8) b1).length:Nat):Int))) then ((Z7 fuse false y1.2.2 b1 ([])).bind fun y3=>(bif ((y3.1:Int) !=0) then (some ([],[],y3.1,y3.2.1,y3.2.2.1,y3.2.2.2,([]))) else (some (y1.1,y1.2.1,0,y3.2.1,y3.2.2.1,y3.2.2.2,([]))))) else (some (y1.1,y1.2.1,0,fuse,false,b1,[]))))
theorem by8 {fuse:Int}{down:Bool}{b1 b2:List Int}{r:(List Int)×(List (List Int))×Int×Int×Bool×(List Int)×(List Int)} (h:aa4 fuse down b1 b2=some r):i4 E 53 [.ptr 0 0 0] [some ⟨4,true,[[(f6 1 (List.map (d8 .u8) b1)),(f6 2 (List.map (d8 .u8) b2)),.int .i64 fuse,.bool down]]⟩,some ⟨1,false,(List.map (d8 .u8) b1)⟩,some ⟨1,false,(List.map (d8 .u8) b2)⟩] (Rs cE8 r):=so (fn:=Tryz.f53) (k:=true) (m:=3) h<| by
 intro r h;unfold aa4 at h
 refine zc 24 [] h (fun _=>dc1) fun y1 h=> ?_
 refine zs 18 h (fun h=> ?_) fun h=> ?_
 ·
  refine zcx 6 [] [.matc 0 0 1 1] h (fun _=>bo8) (fun y3 h=> ?_)
  refine zs 8 h (fun h=> ?_) fun h=> ?_
  ·
   refine zf 7 [.mv 2] ?_
   exact zu 1 h [.slot 0 [some 1,some 1]]
  refine zf 9 [.mv 2] ?_
  exact zu 1 h
 refine zf 9 [.matc 0 0 1 1,.mv 1,.mv 2] ?_
 exact zu 1 h
end Go.RX.L

namespace Go.RX.L
open Go Go.RX
theorem cU9 (P r:List Int) (k:Nat):List.drop (P.length+k) (P++r)=r.drop k:=by
 rw [List.drop_append,List.drop_of_length_le (by omega),List.nil_append];congr 1;omega
theorem eh7 (P r:List Int) (k:Nat):(P++r)[P.length+k]? =r[k]? :=by
 rw [List.getElem?_append_right (by omega)];congr 1;omega
theorem ed0 {b:List Int}{at_ ln cp:Nat} (h:at_+ln≤b.length) (hm:b.length≤G3):aF5 at_ ln cp b=some ((b.drop at_).take ln):=by
 have e:(List.take ln (List.drop at_ (List.map (d8 .u8) b))).length=ln:=by simp;omega
 have c:decide ((0+ln)*1≤i7)=true:=D1 (by simp only [G3] at hm;omega)
 simp only [aF5,e,show Nat.beq ln ln=true from Nat.beq_refl ln,cond_true,c,List.nil_append]
theorem dS6 {b:List Int}{ln cp:Nat} (h:ln≤b.length) (hm:b.length≤G3):an4 ln cp b=some (b.take ln):=by
 have e:(List.take ln (List.drop 0 (List.map (d8 .u8) b))).length=ln:=by simp;omega
 have c:decide ((0+ln)*1≤i7)=true:=D1 (by simp only [G3] at hm;omega)
 unfold an4
 rw [e]
 simp only [show Nat.beq ln ln=true from Nat.beq_refl ln,cond_true,c,List.nil_append,List.drop_zero]
theorem bh1 (at_:Int) (b:List Int) (e n:Int) (x y z:Nat) (h:e≠0):Q3 at_ b e n x y z=some (0,[],0,e):=by
 have:(e !=0)=true:=by simp [h]
 simp only [Q3,this,cond_true]
theorem dO0 {P rest:List Int} (hb:s9 rest) (hm:P.length+rest.length≤G3) (h0:rest= []∨rest.head? =some 247):ah2 P.length (P++rest) P.length rest.length rest.length false=some (rF P.length (pF rest)):=by
 have hm0:=hm
 simp only [G3] at hm
 have w1:IntKind.i64.wrap (IntKind.i64.wrap (((rest.length:Nat):Int)-4)-4)=(rest.length:Int)-8:=by
  rw [u7 (n:=((rest.length:Nat):Int)-4) (by omega) (by omega),u7 (by omega) (by omega)];omega
 by_cases h8:rest.length<8
 ·have c1:decide (((rest.length:Nat):Int)<8)=true:=by simp;omega
  have e:pF rest= .inl 31:=by
   rcases h0 with rfl | h0
   ·rfl
   ·cases rest with
    | nil=>rfl
    | cons m l=>
     obtain rfl:=Option.some.inj h0
     exact dH1 (by simp at h8;omega)
  simp only [ah2,cond_false,c1,cond_true,bh1 _ _ _ _ _ _ _ (by decide:(31:Int)≠0),e,rF]
 ·have c1:decide (((rest.length:Nat):Int)<8)=false:=by simp;omega
  have c2:decide ((4:Int)≤((rest.length:Nat):Int))=true:=by simp;omega
  have hx:∃k a c r,rest=247::k::a::c::r:=by
   match rest,h8,h0 with
   | m::k::a::c::r,_,h0=>
    rcases h0 with h0 | h0
    ·cases h0
    ·obtain rfl:=Option.some.inj h0;exact ⟨k,a,c,r,rfl⟩
   | [],h,_=>simp at h
   | [_],h,_=>simp at h
   | [_,_],h,_=>simp at h
   | [_,_,_],h,_=>simp at h
  obtain ⟨k,a',c',r,hrest⟩:=hx
  have ha:=hb a' (by simp [hrest])
  have hc:=hb c' (by simp [hrest])
  obtain ⟨a,rfl⟩:=Int.eq_ofNat_of_zero_le ha.1
  obtain ⟨c,rfl⟩:=Int.eq_ofNat_of_zero_le hc.1
  have hbr:s9 r:=fun x hx=>hb x (by simp [hrest,hx])
  have hk:=hb k (by simp [hrest])
  have hlr:rest.length=r.length+4:=by rw [hrest];simp
  have hr4:4≤r.length:=by omega
  have n1:aE6 [(a:Int),(c:Int)]=some ((a*256+c:Nat):Int):=by
   have:=cM7 (b:= [(a:Int),(c:Int)]) (fun x hx=>by simp only [List.mem_cons,List.not_mem_nil,or_false] at hx;rcases hx with rfl | rfl<;>assumption) (by simp)
   rw [this];simp [Q2]
  have d1:List.take 2 (List.drop (P.length+2) (P++rest))= [(a:Int),(c:Int)]:=by rw [cU9,hrest];simp
  have b1:Nat.ble (P.length+2+2) (List.map (d8 .u8) (P++rest)).length=true:=by simp;omega
  generalize hn:a*256+c=n at*
  simp only [ah2,cond_false,c1,c2,cond_true,b1,d1,n1,Option.bind_some,w1]
  by_cases hbig:8192<n
  ·have c3:decide ((n:Int)>8192)=true:=by simp;omega
   rw [hrest,dQ2 hr4 (by omega)]
   simp only [c3,cond_true,bh1 _ _ _ _ _ _ _ (by decide:(2:Int)≠0),rF]
  ·have c3:decide ((n:Int)>8192)=false:=by simp;omega
   by_cases hs:r.length<n+4
   ·have c4:decide ((n:Int)>(rest.length:Int)-8)=true:=by simp;omega
    have e:pF rest= .inl 31:=by rw [hrest];exact dR1 hr4 (by omega) (by omega)
    rw [e]
    simp only [c3,c4,cond_true,cond_false,bh1 _ _ _ _ _ _ _ (by decide:(31:Int)≠0),rF]
   ·have c4:decide ((n:Int)>(rest.length:Int)-8)=false:=by simp;omega
    have w2:IntKind.i64.wrap ((4:Int)+(n:Int))=((n+4:Nat):Int):=by rw [u7 (by omega) (by omega)];omega
    have w3:IntKind.i64.wrap (((n+4:Nat):Int)+4)=((n+8:Nat):Int):=by rw [u7 (by omega) (by omega)];omega
    have c5:(decide (((0:Nat):Int)≤((n+4:Nat):Int))&&decide (((n+4:Nat):Int)≤(rest.length:Int)))=true:=by simp;omega
    have c6:decide ((1:Int)≤(((n+4:Nat):Nat):Int))=true:=by simp;omega
    have c6' :decide ((4:Int)≤(((n+4:Nat):Nat):Int))=true:=by simp;omega
    have c7:(decide (((0:Nat):Int)≤((n+8:Nat):Int))&&decide (((n+8:Nat):Int)≤(rest.length:Int)))=true:=by simp;omega
    have c8:(decide (((0:Nat):Int)≤((n+4:Nat):Int))&&decide (((n+4:Nat):Int)≤((n+8:Nat):Int)))=true:=by simp;omega
    have b2:Nat.ble (P.length+1+(n+4-1)) (List.map (d8 .u8) (P++rest)).length=true:=by simp;omega
    have b3:Nat.ble (P.length+(n+4)+(n+8-(n+4))) (List.map (d8 .u8) (P++rest)).length=true:=by simp;omega
    have d2:List.take (n+4-1) (List.drop (P.length+1) (P++rest))=(k::(a:Int)::(c:Int)::r).take (n+3):=by rw [cU9,hrest];simp
    have d3:List.take (n+8-(n+4)) (List.drop (P.length+(n+4)) (P++rest))=(r.drop n).take 4:=by
     rw [cU9,hrest,show n+8-(n+4)=4 by omega];rfl
    have d4:List.take (n+4-4) (List.drop (P.length+4) (P++rest))=r.take n:=by rw [cU9,hrest];simp
    have hs1:=dx1 (b:=(k::(a:Int)::(c:Int)::r).take (n+3)) (cD9 (fun x hx=>hb x (by rw [hrest];exact List.mem_cons_of_mem _ hx)) _) (by rw [List.length_take];omega)
    have hs2:=cM7 (b:=(r.drop n).take 4) (cD9 (bc1 hbr _) _) (by rw [List.length_take];omega)
    have hcl:=db3 ((k::(a:Int)::(c:Int)::r).take (n+3))
    have ew:pF rest=if crc ((k::(a:Int)::(c:Int)::r).take (n+3))≠Q2 0 ((r.drop n).take 4) then .inl 33 else .inr (k,r.take n,n+8):=by
     rw [hrest,dL3 hr4 (by omega) (by omega),hn]
    rw [ew]
    simp only [c3,c4,cond_true,cond_false,w2,w3,c5,c6,c7,c8,b2,b3,Int.toNat_natCast,d2,d3,hs1,hs2,Option.bind_some,u7 (n:=((crc ((k::(a:Int)::(c:Int)::r).take (n+3)):Nat):Int)) (by omega) (by omega)]
    by_cases hq:crc ((k::(a:Int)::(c:Int)::r).take (n+3))=Q2 0 ((r.drop n).take 4)
    ·have q1:((((crc ((k::(a:Int)::(c:Int)::r).take (n+3)):Nat):Int)) !=((Q2 0 ((r.drop n).take 4):Nat):Int))=false:=by rw [hq];simp
     rw [q1,if_neg (by simpa using hq)]
     have c9:decide ((1:Int)<(rest.length:Int))=true:=by simp;omega
     have w4:IntKind.i64.wrap (IntKind.i64.wrap (IntKind.i64.wrap ((P.length:Int)+4)+(n:Int))+4)=((P.length+(n+8):Nat):Int):=by
      rw [u7 (n:=(P.length:Int)+4) (by omega) (by omega),u7 (n:=(P.length:Int)+4+(n:Int)) (by omega) (by omega),u7 (by omega) (by omega)];omega
     have cl:=ed0 (b:=P++rest) (at_:=P.length+4) (ln:=n+4-4) (cp:=rest.length-4) (by simp;omega) (by simp;omega)
     have g1:(P++rest)[P.length+1]? =some k:=by rw [eh7,hrest];rfl
     simp only [cond_false,Q3,bne_self_eq_false,c9,cond_true,g1,Option.bind_some,w2,c5,c6',Int.toNat_natCast,cl,d4,w4,rF]
    ·have q1:((((crc ((k::(a:Int)::(c:Int)::r).take (n+3)):Nat):Int)) !=((Q2 0 ((r.drop n).take 4):Nat):Int))=true:=bne_iff_ne.2 fun h=>hq (Int.ofNat.inj h)
     rw [q1,if_pos (by simpa using hq)]
     simp only [cond_true,bh1 _ _ _ _ _ _ _ (by decide:(33:Int)≠0),rF]
theorem ed3 {P rest:List Int} (hb:s9 rest) (hm:P.length+rest.length≤G3):bf2 P.length (P++rest)=some (rF P.length (pF rest)):=by
 have hm' :=hm
 simp only [G3] at hm'
 have c1:decide ((P.length:Int)<0)=false:=by simp
 have c2:decide ((P.length:Int)>(((P++rest).length:Nat):Int))=false:=by simp;omega
 have c3:(decide (((0:Nat):Int)≤(P.length:Int))&&decide ((P.length:Int)≤(((P++rest).length:Nat):Int)))=true:=by simp;omega
 have e1:(P++rest).length-P.length=rest.length:=by simp
 simp only [bf2,c1,cond_false,List.length_map,c2,aM5,c3,cond_true,Int.toNat_natCast,e1,Nat.zero_add]
 cases rest with
 | nil=>
  have:=dO0 (P:=P) (rest:= []) hb hm (.inl rfl)
  exact this
 | cons m l=>
  have c4:decide ((((m::l).length:Nat):Int)>0)=true:=by simp
  have c5:decide ((0:Int)<(((m::l).length:Nat):Int))=true:=by simp
  have g0:(P++m::l)[P.length]? =some m:=by simp
  simp only [c4,c5,cond_true,g0,Option.bind_some]
  by_cases hq:m=247
  ·subst hq
   exact dO0 hb hm (.inr rfl)
  ·have:(m !=247)=true:=by simp [hq]
   rw [this,dK1 hq]
   simp only [ah2,cond_true,bh1 _ _ _ _ _ _ _ (by decide:(32:Int)≠0),rF]
/-! ### frames, one behind the other -/
/-- A frame: its kind, its body. -/
abbrev Fr1 := Int × List Int
def bW6 (x:Fr1):Prop:=(0≤x.1∧x.1≤255)∧s9 x.2∧x.2.length≤8192
def K9:List Fr1→List Int
 | []=> []
 | x::l=>H0 x.1 x.2++K9 l
theorem dU9 (a b:List Fr1):K9 (a++b)=K9 a++K9 b:=by
 induction a with
 | nil=>rfl
 | cons x a ih=>simp [K9,ih]
theorem cK5 {l:List Fr1} (h:∀x∈l,bW6 x):s9 (K9 l):=by
 induction l with
 | nil=>intro c hc;simp [K9] at hc
 | cons x l ih=>
  intro c hc
  simp only [K9,List.mem_append] at hc
  obtain ⟨h1,h2,h3⟩:=h x (by simp)
  rcases hc with hc | hc
  ·exact bM5 h1 h2 (by omega) c hc
  ·exact ih (fun y hy=>h y (by simp [hy])) c hc
def bn9:List Int→List Fr1→List (Int×ah0)
 | _,[]=> []
 | P,x::l=>(((P++H0 x.1 x.2).length:Int),⟨x.1,x.2⟩)::bn9 (P++H0 x.1 x.2) l
theorem dN1 {J:List Int}{e:Int} (hJ:pF J= .inl e) (hJb:s9 J):∀(l:List Fr1) (P:List Int),(∀x∈l,bW6 x)→P.length+(K9 l++J).length≤G3→EvL V0 (.s1 P.length (P++(K9 l++J))) (bn9 P l)
 | [],P,hl,hm=>by
  refine .done ?_
  have:=ed3 (P:=P) (rest:=J) hJb (by simpa [K9] using hm)
  have he:(e !=0)=true:=by
   have:=dZ3 hJ
   rcases this with rfl | rfl | rfl | rfl<;>rfl
  simp only [V0,as3,K9,List.nil_append,this,hJ,rF,Option.bind_some,he,cond_true,bn9]
 | x::l,P,hl,hm=>by
  obtain ⟨h1,h2,h3⟩:=hl x (by simp)
  have hl' :∀y∈l,bW6 y:=fun y hy=>hl y (by simp [hy])
  have hb:s9 (K9 (x::l)++J):=fun c hc=>by
   rcases List.mem_append.1 hc with hc | hc
   ·exact cK5 hl c hc
   ·exact hJb c hc
  have hg:=ed3 (P:=P) hb hm
  have hpf:pF (K9 (x::l)++J)= .inr (x.1,x.2,x.2.length+8):=by
   simp only [K9,List.append_assoc]
   exact cV6 h1 h2 h3 _
  rw [hpf] at hg
  have hlen:((P++H0 x.1 x.2).length:Int)=((P.length+(x.2.length+8):Nat):Int):=by simp [aQ2]
  have ih:=dN1 hJ hJb l (P++H0 x.1 x.2) hl' (by simp [K9] at hm ⊢;omega)
  refine EvL.next (l:= [(((P++H0 x.1 x.2).length:Int),(⟨x.1,x.2⟩:ah0))]) (s' :=L0.s1 (P++H0 x.1 x.2).length (P++(K9 (x::l)++J))) ?_ ?_
  ·simp only [V0,as3,hg,rF,Option.bind_some,bne_self_eq_false,cond_false,Option.map_some,List.nil_append,hlen]
  ·rw [show P++(K9 (x::l)++J)=P++H0 x.1 x.2++(K9 l++J) by simp [K9]]
   exact ih
theorem cM1 {b:List Int}:∀(l:List Fr1) (P:List Int) (ks:List Int) (bs:List (List Int)),(∀x∈l,bW6 x)→ks.length=bs.length→bs.length+l.length≤1000000000→
  Ev (Y3 b) (.s2 (P.length:Int) ks bs (bn9 P l)) (ks++l.map (·.1),bs++l.map (·.2),((P++K9 l).length:Int))
 | [],P,ks,bs,hl,h1,h2=> .done (by simp [Y3,bd8,aW3,bn9,K9])
 | x::l,P,ks,bs,hl,h1,h2=>by
  have ih:=cM1 (b:=b) l (P++H0 x.1 x.2) (ks++ [x.1]) (bs++ [x.2]) (fun y hy=>hl y (by simp [hy])) (by simp [h1]) (by simp at h2 ⊢;omega)
  simp only [List.length_cons] at h2
  have l1:decide ((ks.length+1)*1≤i7)=true:=D1 (by omega)
  have l2:decide ((bs.length+1)*24≤i7)=true:=D1 (by omega)
  refine .next (s' :=D3.s2 ((P++H0 x.1 x.2).length:Int) (ks++ [x.1]) (bs++ [x.2]) (bn9 (P++H0 x.1 x.2) l)) ?_ ?_
  ·simp only [Y3,bd8,bn9,aU3,List.length_map,l1,l2,cond_true]
  ·simpa [K9] using ih
theorem ei1 {l:List Fr1}{J:List Int}{e:Int} (hl:∀x∈l,bW6 x) (hJ:pF J= .inl e) (hJb:s9 J) (hm:(K9 l++J).length≤10000000):cb0 (K9 l++J)=some (l.map (·.1),l.map (·.2),((K9 l).length:Int)):=by
 have hn:l.length≤(K9 l).length:=by
  clear hm hl
  induction l with
  | nil=>simp [K9]
  | cons x l ih=>simp [K9,aQ2];omega
 have h1:=dN1 hJ hJb l [] hl (by simp only [G3];simp at hm ⊢;omega)
 have h2:=cM1 (b:=K9 l++J) l [] [] [] hl rfl (by simp at hm ⊢;omega)
 have e1:aU4 (K9 l++J)=some (bn9 [] l):=bC7 (EvL.next (l:= []) (s' :=L0.s1 0 (K9 l++J)) (by simp [V0,aJ2]) (by simpa using h1))
 refine u6 (.next (s' :=D3.s1 0 [] []) ?_ (.next (s' :=D3.s2 0 [] [] (bn9 [] l)) ?_ ?_))
 ·simp only [Y3,be6,bn4,Option.bind_some]
 ·simp only [Y3,be2,e1,Option.bind_some]
 ·simpa using h2
end Go.RX.L

namespace Go.RX.L
open Go Go.RX Go.Proofs
attribute [local irreducible] i0
noncomputable def ce5 (y:(List Int)×m9):D×f4:=(.sl false 1 (List.map (d8 .i64) y.1),[some ⟨3,false,[(m9.enc y.2)]⟩])
noncomputable def ac4 (b0:m9):Option ((List Int)×m9):=(bif ((b0.place.e:Int) !=0) then (some ([],b0)) else ((aS2 b0.b b0.place.at_).bind fun y2=>(some (y2.1,(⟨(⟨y2.2.1,y2.2.2⟩:bf8),b0.b⟩:m9)))))
theorem bh2 {b0:m9}{r:(List Int)×m9} (h:ac4 b0=some r):i4 E 89 [.ptr 0 0 0] [some ⟨3,false,[(m9.enc b0)]⟩] (Rs ce5 r):=so (fn:=Tryz.f89) (k:=false) (m:=1) h<| by
 intro r h;unfold ac4 at h
 refine zs 16 h (fun h=> ?_) fun h=> ?_
 ·
  exact zu 5 h [.slot 0 [some 1]]
 refine zd 9 [] h (fun _=>bX4) fun y2 h=> ?_
 exact zu 10 h
end Go.RX.L

namespace Go.RX.L
open Go Go.RX Go.Proofs
attribute [local irreducible] i0
noncomputable def di4 (y:(List Int)×Int×Int):D×f4:=(.tup [.sl false 1 (List.map (d8 .u8) y.1),.int .i64 y.2.1,.int .i64 y.2.2],[])
noncomputable def an7 (b:List Int) (at_:Int):Option ((List Int)×Int×Int):=((K2 b at_ 4096).bind fun y1=>(bif ((y1.2.2:Int) !=0) then (some ([],0,y1.2.2)) else (bif (decide ((y1.1:Int)>(IntKind.i64.wrap ((((List.map (d8 .u8) b).length:Nat):Int)-y1.2.1)))) then (some ([],0,11)) else (bif ((decide (((0:Nat):Int)≤(IntKind.i64.wrap (y1.2.1+y1.1))))&&(decide (((IntKind.i64.wrap (y1.2.1+y1.1)):Int)≤(((List.map (d8 .u8) b).length:Nat):Int)))) then (bif ((decide (((0:Nat):Int)≤y1.2.1))&&(decide ((y1.2.1:Int)≤(((IntKind.i64.wrap (y1.2.1+y1.1)).toNat:Nat):Int)))) then (bif (decide (((List.map (d8 .u8) (List.drop y1.2.1.toNat (List.take ((IntKind.i64.wrap (y1.2.1+y1.1)).toNat) b))).length)*1≤i7)) then (some ((List.drop y1.2.1.toNat (List.take ((IntKind.i64.wrap (y1.2.1+y1.1)).toNat) b)),(IntKind.i64.wrap (y1.2.1+y1.1)),0)) else none) else none) else none))))
theorem da0 {b:List Int}{at_:Int}{r:(List Int)×Int×Int} (h:an7 b at_=some r):i4 E 120 [.sl false 1 (List.map (d8 .u8) b),.int .i64 at_] [] (Rs di4 r):=so (fn:=Tryz.f120) (k:=false) (m:=0) h<| by
 intro r h;unfold an7 at h
 refine zc 11 [] h (fun _=>bQ7) fun y1 h=> ?_
 refine zs 17 h (fun h=> ?_) fun h=> ?_
 ·
  exact zu 8 h [.slot 0 [some 1]]
 refine zs 11 h (fun h=> ?_) fun h=> ?_
 ·
  exact zu 7 h [.slot 0 [some 1]]
 refine zn 10 h fun h=> ?_
 refine zn 0 h fun h=> ?_
 refine zw 0 (a:=(List.drop y1.2.1.toNat (List.take ((IntKind.i64.wrap (y1.2.1+y1.1)).toNat) (List.map (d8 .u8) b)))) (b:=(List.map (d8 .u8) (List.drop y1.2.1.toNat (List.take ((IntKind.i64.wrap (y1.2.1+y1.1)).toNat) b)))) (ck2 _ _ _ _) ?_
 refine zn 1 h fun h=> ?_
 refine zm 9 (b:=(Nat.ble (0+(List.map (d8 .u8) (List.drop y1.2.1.toNat (List.take ((IntKind.i64.wrap (y1.2.1+y1.1)).toNat) b))).length) ((List.map (d8 .u8) (List.drop y1.2.1.toNat (List.take ((IntKind.i64.wrap (y1.2.1+y1.1)).toNat) b))).length))) (v6 _) ?_
 obtain rfl:=Option.some.inj h
 exact au6 [] (d1:= .tup [.sl false 1 (List.take ((List.map (d8 .u8) (List.drop y1.2.1.toNat (List.take ((IntKind.i64.wrap (y1.2.1+y1.1)).toNat) b))).length) (List.drop 0 (List.map (d8 .u8) (List.drop y1.2.1.toNat (List.take ((IntKind.i64.wrap (y1.2.1+y1.1)).toNat) b))))),.int .i64 (IntKind.i64.wrap (y1.2.1+y1.1)),.int .i64 0]) (d:= .tup [.sl false 1 (List.map (d8 .u8) (List.drop y1.2.1.toNat (List.take ((IntKind.i64.wrap (y1.2.1+y1.1)).toNat) b))),.int .i64 (IntKind.i64.wrap (y1.2.1+y1.1)),.int .i64 0]) (s1:= []) (s:= []) (by kernel_rfl) ⟨by simp [d9.enc,d9.l,i8.enc,i8.l,n9.enc,n9.l,r6.enc,r6.l,f3.enc,f3.l,Op.enc,Op.l,Plan.enc,Plan.l,D0.enc,D0.l,i9.enc,i9.l,p6.enc,p6.l,m9.enc,m9.l,e9.enc,e9.l,List.take_of_length_le,List.map_take,List.map_drop],rfl⟩ ⟨rfl,rfl⟩ Cx.fin_of
end Go.RX.L

namespace Go.RX.L
open Go Go.RX Go.Proofs
attribute [local irreducible] i0
noncomputable def ce7 (y:(List Int)×m9):D×f4:=(.sl false 1 (List.map (d8 .u8) y.1),[some ⟨3,false,[(m9.enc y.2)]⟩])
noncomputable def J0 (b0:m9):Option ((List Int)×m9):=(bif ((b0.place.e:Int) !=0) then (some ([],b0)) else ((an7 b0.b b0.place.at_).bind fun y2=>(some (y2.1,(⟨(⟨y2.2.1,y2.2.2⟩:bf8),b0.b⟩:m9)))))
theorem aH4 {b0:m9}{r:(List Int)×m9} (h:J0 b0=some r):i4 E 91 [.ptr 0 0 0] [some ⟨3,false,[(m9.enc b0)]⟩] (Rs ce7 r):=so (fn:=Tryz.f91) (k:=false) (m:=1) h<| by
 intro r h;unfold J0 at h
 refine zs 16 h (fun h=> ?_) fun h=> ?_
 ·
  exact zu 5 h [.slot 0 [some 1]]
 refine zd 9 [] h (fun _=>da0) fun y2 h=> ?_
 exact zu 10 h
end Go.RX.L

namespace Go.RX.L
open Go Go.RX Go.Proofs
attribute [local irreducible] i0
noncomputable def aq9:=p7 (q0 Tryz.f58)
noncomputable def cj3 (y:Bool):D×f4:=(.bool y,[])
abbrev bA2:=AOk E (Cx.of Tryz.f58 false 0) cj3
noncomputable def dd6 (t30:Bool) (m:f3):M:=⟨[.code (aq9 [1,0,0,1,1,1]),.blk 0,.code (aq9 [1,1])],[(1,.ptr 0 0 0),(30,.bool t30)],[some ⟨26,false,[(f3.enc m)]⟩]⟩
noncomputable def ah4 (t30:Bool) (m:f3):Option Bool:=(bif t30 then (some false) else (bif m.HasPlan then ((ag9 m.Plan).bind fun y3=>(some y3)) else ((aS1 m.Plan (⟨0,0,0,0,0,0,0,0,0,0,[],[]⟩:Plan)).bind fun y4=>(some y4))))
theorem aZ7 {t30 m}:bA2 (dd6 t30 m) (ah4 t30 m):=by
 intro r h;unfold ah4 at h
 refine zs 1 h (fun h=> ?_) fun h=> ?_
 ·
  exact zu 5 h
 refine zs 8 h (fun h=> ?_) fun h=> ?_
 ·
  refine zc 6 [] h (fun _=>ax8) fun y3 h=> ?_
  exact zu 3 h
 refine zc 9 [some 1,some 1] h (fun _=>dd8) fun y4 h=> ?_
 exact zu 3 h
noncomputable def cZ1 (t30:Bool) (m:f3):M:=⟨[.code (aq9 [1,0,0,1,1,0,1]),.code (aq9 [1,0,0,1,1,1]),.blk 0,.code (aq9 [1,1])],[(1,.ptr 0 0 0),(30,.bool t30)],[some ⟨26,false,[(f3.enc m)]⟩]⟩
noncomputable def ap9 (t30:Bool) (m:f3):Option Bool:=(bif t30 then (ah4 t30 m) else (bif (decide (((((List.map (d8 .u8) m.Session).length:Nat):Int):Int)>64)) then (ah4 (decide (((((List.map (d8 .u8) m.Session).length:Nat):Int):Int)>64)) m) else (ah4 (decide (((((List.map (d8 .u8) m.Payload).length:Nat):Int):Int)>1024)) m)))
theorem bG1 {t30 m}:bA2 (cZ1 t30 m) (ap9 t30 m):=by
 intro r h;unfold ap9 at h
 refine zs 1 h (fun h=> ?_) fun h=> ?_
 ·
  exact zg 1 (aZ7 h)
 refine zs 10 h (fun h=> ?_) fun h=> ?_
 ·
  exact zg 1 (aZ7 h)
 exact zg 8 (aZ7 h)
noncomputable def df8 (t3:Bool) (m:f3):M:=⟨[.code (aq9 [1,0,0,1]),.blk 0,.code (aq9 [1,1])],[(1,.ptr 0 0 0),(3,.bool t3)],[some ⟨26,false,[(f3.enc m)]⟩]⟩
noncomputable def Q6 (t3:Bool) (m:f3):Option Bool:=(bif t3 then (some false) else (bif (decide (((((List.map (d8 .i64) m.ID).length:Nat):Int):Int)>0)) then (ap9 (((((List.map (d8 .i64) m.ID).length:Nat):Int):Int) !=3) m) else (ap9 false m)))
theorem ah9 {t3 m}:bA2 (df8 t3 m) (Q6 t3 m):=by
 intro r h;unfold Q6 at h
 refine zs 1 h (fun h=> ?_) fun h=> ?_
 ·
  exact zu 5 h
 refine zs 10 h (fun h=> ?_) fun h=> ?_
 ·
  exact zg 11 (bG1 h)
 exact zg 10 (bG1 h)
noncomputable def an5 (m:f3):Option Bool:=(bif (decide ((m.Kind:Int)<1)) then (Q6 (decide ((m.Kind:Int)<1)) m) else (bif (decide ((m.Kind:Int)>19)) then (Q6 (decide ((m.Kind:Int)>19)) m) else (bif (decide (((A3 (A3 m.From m.To) m.Code):Int)<0)) then (Q6 (decide (((A3 (A3 m.From m.To) m.Code):Int)<0)) m) else (bif (decide (((u9 m.From m.To):Int)>255)) then (Q6 (decide (((u9 m.From m.To):Int)>255)) m) else (bif (decide ((m.Code:Int)>1000)) then (Q6 (decide ((m.Code:Int)>1000)) m) else (Q6 (decide ((m.Up:Int)≥65536)) m))))))
theorem bs9 {m:f3}{r:Bool} (h:an5 m=some r):i4 E 58 [.agg (f3.enc m)] [] (Rs cj3 r):=so (fn:=Tryz.f58) (k:=false) (m:=0) h<| by
 intro r h;unfold an5 at h
 refine zs 17 h (fun h=> ?_) fun h=> ?_
 ·
  exact zg 1 (ah9 h)
 refine zs 9 h (fun h=> ?_) fun h=> ?_
 ·
  exact zg 1 (ah9 h)
 refine zs 16 h (fun h=> ?_) fun h=> ?_
 ·
  exact zg 1 (ah9 h)
 refine zs 13 h (fun h=> ?_) fun h=> ?_
 ·
  exact zg 1 (ah9 h)
 refine zs 9 h (fun h=> ?_) fun h=> ?_
 ·
  exact zg 1 (ah9 h)
 exact zg 7 (ah9 h)
end Go.RX.L

namespace Go.RX.L
open Go Go.RX Go.Proofs
attribute [local irreducible] i0
noncomputable def bv0:=p7 (q0 Tryz.f54)
noncomputable def cX5 (y:f3×Int):D×f4:=(.tup [.agg (f3.enc y.1),.int .i64 y.2],[])
abbrev cl6:=AOk E (Cx.of Tryz.f54 false 0) cX5
noncomputable def dx2 (t149:Bool) (b0 m:f3):M:=⟨[.code (bv0 [1,1,1,1,1,1,1,1,1,0,1]),.code (bv0 [1,1,1,1,1,1,1,1,1,1])],[(4,.ptr 0 0 0),(8,.ptr 1 0 0),(149,.bool t149)],[some ⟨26,false,[(f3.enc b0)]⟩,some ⟨26,false,[(f3.enc m)]⟩]⟩
noncomputable def aQ8 (t149:Bool) (b0 m:f3):Option (f3×Int):=(bif t149 then (some ((⟨0,0,0,0,0,0,0,0,0,0,false,(⟨0,0,0,0,0,0,0,0,0,0,[],[]⟩:Plan),[],[],[]⟩:f3),51)) else (some (m,0)))
theorem bA8 {t149 b0 m}:cl6 (dx2 t149 b0 m) (aQ8 t149 b0 m):=by
 intro r h;unfold aQ8 at h
 refine zs 1 h (fun h=> ?_) fun h=> ?_
 ·
  exact zu 10 h [.slot 0 [some 1,some 1,some 1,some 1,some 1]]
 exact zu 12 h
noncomputable def dw7 (body:List Int) (b0:f3) (r_:m9) (m:f3):M:=⟨[.code (bv0 [1,1,1,1,1,1])],[(1,.sl false 1 (List.map (d8 .u8) body)),(4,.ptr 0 0 0),(6,.ptr 1 0 0),(8,.ptr 2 0 0)],[some ⟨26,false,[(f3.enc b0)]⟩,some ⟨3,false,[(m9.enc r_)]⟩,some ⟨26,false,[(f3.enc m)]⟩]⟩
noncomputable def aD2 (body:List Int) (b0:f3) (r_:m9) (m:f3):Option (f3×Int):=((ac4 r_).bind fun y1=>((J0 y1.2).bind fun y2=>((J0 y2.2).bind fun y3=>(bif ((y3.2.place.e:Int) !=0) then (aQ8 true b0 (⟨m.Kind,m.From,m.To,m.Epoch,m.Ballot,m.Accepted,m.Nonce,m.Time,m.Up,m.Code,m.HasPlan,m.Plan,y1.1,y2.1,y3.1⟩:f3)) else (bif ((y3.2.place.at_:Int) !=(((List.map (d8 .u8) body).length:Nat):Int)) then (aQ8 true b0 (⟨m.Kind,m.From,m.To,m.Epoch,m.Ballot,m.Accepted,m.Nonce,m.Time,m.Up,m.Code,m.HasPlan,m.Plan,y1.1,y2.1,y3.1⟩:f3)) else ((an5 (⟨m.Kind,m.From,m.To,m.Epoch,m.Ballot,m.Accepted,m.Nonce,m.Time,m.Up,m.Code,m.HasPlan,m.Plan,y1.1,y2.1,y3.1⟩:f3)).bind fun y6=>(aQ8 (!y6) b0 (⟨m.Kind,m.From,m.To,m.Epoch,m.Ballot,m.Accepted,m.Nonce,m.Time,m.Up,m.Code,m.HasPlan,m.Plan,y1.1,y2.1,y3.1⟩:f3))))))))
theorem ci9 {body b0 r_ m}:cl6 (dw7 body b0 r_ m) (aD2 body b0 r_ m):=by
 intro r h;unfold aD2 at h
 refine zc 4 [] h (fun _=>bh2) fun y1 h=> ?_
 refine zc 9 [] h (fun _=>aH4) fun y2 h=> ?_
 refine zc 9 [] h (fun _=>aH4) fun y3 h=> ?_
 refine zs 17 h (fun h=> ?_) fun h=> ?_
 ·
  exact zg 26 (bA8 h)
 refine zs 19 h (fun h=> ?_) fun h=> ?_
 ·
  exact zg 7 (bA8 h)
 refine zc 3 [] h (fun _=>bs9) fun y6 h=> ?_
 exact zg 5 (bA8 h)
noncomputable def dv5 (kind:Int) (body l_:List Int) (t70:Bool) (b0:f3) (r_:m9):M:=⟨[.code (bv0 [1,1,1,0,1]),.code (bv0 [1,1,1,1])],[(0,.int .u8 kind),(1,.sl false 1 (List.map (d8 .u8) body)),(4,.ptr 0 0 0),(6,.ptr 1 0 0),(7,.sl false 1 (List.map (d8 .i64) l_)),(70,.bool t70)],[some ⟨26,false,[(f3.enc b0)]⟩,some ⟨3,false,[(m9.enc r_)]⟩]⟩
noncomputable def P5 (kind:Int) (body l_:List Int) (t70:Bool) (b0:f3) (r_:m9):Option (f3×Int):=(bif t70 then (some ((⟨0,0,0,0,0,0,0,0,0,0,false,(⟨0,0,0,0,0,0,0,0,0,0,[],[]⟩:Plan),[],[],[]⟩:f3),51)) else (bif (decide ((0:Int)<(((List.map (d8 .i64) l_).length:Nat):Int))) then (((l_)[0]?).bind fun y3=>(bif (decide ((1:Int)<(((List.map (d8 .i64) l_).length:Nat):Int))) then (((l_)[1]?).bind fun y6=>(bif (decide ((2:Int)<(((List.map (d8 .i64) l_).length:Nat):Int))) then (((l_)[2]?).bind fun y9=>(bif (decide ((3:Int)<(((List.map (d8 .i64) l_).length:Nat):Int))) then (((l_)[3]?).bind fun y12=>(bif (decide ((4:Int)<(((List.map (d8 .i64) l_).length:Nat):Int))) then (((l_)[4]?).bind fun y15=>(bif (decide ((5:Int)<(((List.map (d8 .i64) l_).length:Nat):Int))) then (((l_)[5]?).bind fun y18=>(bif (decide ((6:Int)<(((List.map (d8 .i64) l_).length:Nat):Int))) then (((l_)[6]?).bind fun y21=>(bif (decide ((7:Int)<(((List.map (d8 .i64) l_).length:Nat):Int))) then (((l_)[7]?).bind fun y24=>(bif (decide ((8:Int)<(((List.map (d8 .i64) l_).length:Nat):Int))) then (((l_)[8]?).bind fun y27=>(bif (decide ((9:Int)<(((List.map (d8 .i64) l_).length:Nat):Int))) then (((l_)[9]?).bind fun y30=>(bif ((y30:Int)==1) then ((J0 r_).bind fun y33=>((bK3 y33.1).bind fun y34=>(bif ((y34.2:Int) !=0) then (some ((⟨0,0,0,0,0,0,0,0,0,0,false,(⟨0,0,0,0,0,0,0,0,0,0,[],[]⟩:Plan),[],[],[]⟩:f3),51)) else (aD2 body b0 y33.2 (⟨(IntKind.i64.wrap (kind)),y3,y6,y9,y12,y15,y18,y21,(IntKind.u64.wrap (y24)),y27,((y30:Int)==1),y34.1,[],[],[]⟩:f3))))) else (aD2 body b0 r_ (⟨(IntKind.i64.wrap (kind)),y3,y6,y9,y12,y15,y18,y21,(IntKind.u64.wrap (y24)),y27,((y30:Int)==1),(⟨0,0,0,0,0,0,0,0,0,0,[],[]⟩:Plan),[],[],[]⟩:f3)))) else none)) else none)) else none)) else none)) else none)) else none)) else none)) else none)) else none)) else none))
theorem aA0 {kind body l_ t70 b0 r_}:cl6 (dv5 kind body l_ t70 b0 r_) (P5 kind body l_ t70 b0 r_):=by
 intro r h;unfold P5 at h
 refine zs 1 h (fun h=> ?_) fun h=> ?_
 ·
  exact zu 10 h [.slot 0 [some 1,some 1,some 1,some 1,some 1]]
 refine zn 3 h fun h=> ?_
 refine zr 0 (d8 .i64) h fun y3 h=> ?_
 refine zn 0 h fun h=> ?_
 refine zr 0 (d8 .i64) h fun y6 h=> ?_
 refine zn 0 h fun h=> ?_
 refine zr 0 (d8 .i64) h fun y9 h=> ?_
 refine zn 0 h fun h=> ?_
 refine zr 0 (d8 .i64) h fun y12 h=> ?_
 refine zn 0 h fun h=> ?_
 refine zr 0 (d8 .i64) h fun y15 h=> ?_
 refine zn 0 h fun h=> ?_
 refine zr 0 (d8 .i64) h fun y18 h=> ?_
 refine zn 0 h fun h=> ?_
 refine zr 0 (d8 .i64) h fun y21 h=> ?_
 refine zn 0 h fun h=> ?_
 refine zr 0 (d8 .i64) h fun y24 h=> ?_
 refine zn 0 h fun h=> ?_
 refine zr 0 (d8 .i64) h fun y27 h=> ?_
 refine zn 7 h fun h=> ?_
 refine zr 1 (d8 .i64) h fun y30 h=> ?_
 refine zs 13 h (fun h=> ?_) fun h=> ?_
 ·
  refine zc 8 [] h (fun _=>aH4) fun y33 h=> ?_
  refine zc 1 [] h (fun _=>dj0) fun y34 h=> ?_
  refine zs 15 h (fun h=> ?_) fun h=> ?_
  ·
   exact zu 10 h [.slot 0 [some 1,some 1,some 1,some 1,some 1]]
  exact zg 1 (ci9 h) [.blk 2 [some 1,some 1,some 1]]
 exact zg 1 (ci9 h) [.blk 2 [some 1,some 1,some 1,some 1,some 1]]
noncomputable def bg5 (kind:Int) (body:List Int):Option (f3×Int):=((ac4 (⟨(⟨0,0⟩:bf8),body⟩:m9)).bind fun y1=>(bif ((y1.2.place.e:Int) !=0) then (P5 kind body y1.1 true (⟨0,0,0,0,0,0,0,0,0,0,false,(⟨0,0,0,0,0,0,0,0,0,0,[],[]⟩:Plan),[],[],[]⟩:f3) y1.2) else (bif (((((List.map (d8 .i64) y1.1).length:Nat):Int):Int) !=10) then (P5 kind body y1.1 true (⟨0,0,0,0,0,0,0,0,0,0,false,(⟨0,0,0,0,0,0,0,0,0,0,[],[]⟩:Plan),[],[],[]⟩:f3) y1.2) else (bif (decide ((0:Int)<(((List.map (d8 .i64) y1.1).length:Nat):Int))) then (((y1.1)[0]?).bind fun y5=>(bif (decide ((1:Int)<(((List.map (d8 .i64) y1.1).length:Nat):Int))) then (((y1.1)[1]?).bind fun y8=>(bif (decide ((7:Int)<(((List.map (d8 .i64) y1.1).length:Nat):Int))) then (((y1.1)[7]?).bind fun y11=>(bif (decide ((8:Int)<(((List.map (d8 .i64) y1.1).length:Nat):Int))) then (((y1.1)[8]?).bind fun y14=>(bif (decide ((9:Int)<(((List.map (d8 .i64) y1.1).length:Nat):Int))) then (((y1.1)[9]?).bind fun y17=>(bif (decide (((A3 (A3 (A3 (A3 y5 y8) y11) y14) y17):Int)<0)) then (P5 kind body y1.1 true (⟨0,0,0,0,0,0,0,0,0,0,false,(⟨0,0,0,0,0,0,0,0,0,0,[],[]⟩:Plan),[],[],[]⟩:f3) y1.2) else (bif (decide ((0:Int)<(((List.map (d8 .i64) y1.1).length:Nat):Int))) then (((y1.1)[0]?).bind fun y21=>(bif (decide ((1:Int)<(((List.map (d8 .i64) y1.1).length:Nat):Int))) then (((y1.1)[1]?).bind fun y24=>(bif (decide (((u9 y21 y24):Int)>255)) then (P5 kind body y1.1 true (⟨0,0,0,0,0,0,0,0,0,0,false,(⟨0,0,0,0,0,0,0,0,0,0,[],[]⟩:Plan),[],[],[]⟩:f3) y1.2) else (bif (decide ((7:Int)<(((List.map (d8 .i64) y1.1).length:Nat):Int))) then (((y1.1)[7]?).bind fun y28=>(bif (decide ((8:Int)<(((List.map (d8 .i64) y1.1).length:Nat):Int))) then (((y1.1)[8]?).bind fun y31=>(bif (decide (((u9 y28 y31):Int)≥65536)) then (P5 kind body y1.1 true (⟨0,0,0,0,0,0,0,0,0,0,false,(⟨0,0,0,0,0,0,0,0,0,0,[],[]⟩:Plan),[],[],[]⟩:f3) y1.2) else (bif (decide ((9:Int)<(((List.map (d8 .i64) y1.1).length:Nat):Int))) then (((y1.1)[9]?).bind fun y35=>(P5 kind body y1.1 (decide ((y35:Int)>1)) (⟨0,0,0,0,0,0,0,0,0,0,false,(⟨0,0,0,0,0,0,0,0,0,0,[],[]⟩:Plan),[],[],[]⟩:f3) y1.2)) else none))) else none)) else none))) else none)) else none))) else none)) else none)) else none)) else none)) else none))))
theorem cJ9 {kind:Int}{body:List Int}{r:f3×Int} (h:bg5 kind body=some r):i4 E 54 [.int .u8 kind,.sl false 1 (List.map (d8 .u8) body)] [] (Rs cX5 r):=so (fn:=Tryz.f54) (k:=false) (m:=0) h<| by
 intro r h;unfold bg5 at h
 refine zc 16 [] h (fun _=>bh2) fun y1 h=> ?_
 refine zs 6 h (fun h=> ?_) fun h=> ?_
 ·
  exact zg 44 (aA0 h) [.blk 0 [some 1,some 1,some 1,some 1,some 1]]
 refine zs 3 h (fun h=> ?_) fun h=> ?_
 ·
  exact zg 40 (aA0 h) [.blk 0 [some 1,some 1,some 1,some 1,some 1]]
 refine zn 1 h fun h=> ?_
 refine zr 1 (d8 .i64) h fun y5 h=> ?_
 refine zn 2 h fun h=> ?_
 refine zr 1 (d8 .i64) h fun y8 h=> ?_
 refine zn 2 h fun h=> ?_
 refine zr 1 (d8 .i64) h fun y11 h=> ?_
 refine zn 2 h fun h=> ?_
 refine zr 1 (d8 .i64) h fun y14 h=> ?_
 refine zn 2 h fun h=> ?_
 refine zr 1 (d8 .i64) h fun y17 h=> ?_
 refine zs 3 h (fun h=> ?_) fun h=> ?_
 ·
  exact zg 22 (aA0 h) [.blk 0 [some 1,some 1,some 1,some 1,some 1]]
 refine zn 1 h fun h=> ?_
 refine zr 1 (d8 .i64) h fun y21 h=> ?_
 refine zn 2 h fun h=> ?_
 refine zr 1 (d8 .i64) h fun y24 h=> ?_
 refine zs 3 h (fun h=> ?_) fun h=> ?_
 ·
  exact zg 13 (aA0 h) [.blk 0 [some 1,some 1,some 1,some 1,some 1]]
 refine zn 1 h fun h=> ?_
 refine zr 1 (d8 .i64) h fun y28 h=> ?_
 refine zn 2 h fun h=> ?_
 refine zr 1 (d8 .i64) h fun y31 h=> ?_
 refine zs 3 h (fun h=> ?_) fun h=> ?_
 ·
  exact zg 4 (aA0 h) [.blk 0 [some 1,some 1,some 1,some 1,some 1]]
 refine zn 1 h fun h=> ?_
 refine zr 1 (d8 .i64) h fun y35 h=> ?_
 exact zg 2 (aA0 h) [.blk 0 [some 1,some 1,some 1,some 1,some 1]]
end Go.RX.L

namespace Go.RX.L
open Go Go.RX Go.Proofs
attribute [local irreducible] i0
noncomputable def cA5 (y:Int×(List Int)):D×f4:=(.tup [(f6 0 (List.map (d8 .u8) y.2)),.int .i64 y.1],[some ⟨1,false,(List.map (d8 .u8) y.2)⟩])
noncomputable def ab1 (s_:List Int):Option (Int×(List Int)):=(bif (decide (((((List.map (d8 .u8) s_).length:Nat):Int):Int)>4096)) then (some (2,[])) else ((az9 (((List.map (d8 .u8) s_).length:Nat):Int)).bind fun y2=>(bif (decide (((List.map (d8 .u8) y2).length+(List.map (d8 .u8) s_).length)*1≤i7)) then (some (0,(y2++s_))) else none)))
theorem by5 {s_:List Int}{r:Int×(List Int)} (h:ab1 s_=some r):i4 E 123 [.sl false 1 (List.map (d8 .u8) s_)] [] (Rs cA5 r):=so (fn:=Tryz.f123) (k:=true) (m:=0) h<| by
 intro r h;unfold ab1 at h
 refine zs 13 h (fun h=> ?_) fun h=> ?_
 ·
  exact zu 6 h [.matt 0 0 1]
 refine zc 6 [] h (fun _=>bH1) fun y2 h=> ?_
 refine zn 2 h fun h=> ?_
 refine za 0 (d8 .u8) y2 s_ ?_
 exact zu 4 h
end Go.RX.L

namespace Go.RX.L
open Go Go.RX Go.Proofs
attribute [local irreducible] i0
noncomputable def R2:=p7 (q0 Tryz.f92)
noncomputable def cy1 (y:Int×(List Int)×Int):D×f4:=(.tup [.int .u8 y.1,.sl false 1 (List.map (d8 .u8) y.2.1),.int .i64 y.2.2],[])
inductive aw1 where
 | s0 (m:f3)
 | s3 (m:f3) (l_:List Int)
 | s2 (m:f3) (b:List Int)
 | s1 (t81:Int) (m:f3) (b:List Int) (b2:List (List Int))
noncomputable def cy7:aw1→M
 | .s0 m=>A6 Tryz.f92 [.agg (f3.enc m)] []
 | .s3 m l_=>⟨[.code (R2 [1,1,1,1])],[(1,.ptr 0 0 0),(5,.msl 1 0 ((List.map (d8 .i64) l_).length) ((List.map (d8 .i64) l_).length) true)],[some ⟨26,false,[(f3.enc m)]⟩,some ⟨1,false,(List.map (d8 .i64) l_)⟩]⟩
 | .s2 m b=>⟨[.code (R2 [1,1,1,1,1,1])],[(1,.ptr 0 0 0),(6,(f6 1 (List.map (d8 .u8) b)))],[some ⟨26,false,[(f3.enc m)]⟩,some ⟨1,false,(List.map (d8 .u8) b)⟩]⟩
 | .s1 t81 m b b2=>⟨[.lpc (R2 [1,1,1,1,1,1,1,1,0,1,0,0]) 4231240368651202111471682,.blk 0,.code (R2 [1,1,1,1,1,1,1,1,1])],[(1,.ptr 0 0 0),(6,(f6 1 (List.map (d8 .u8) b))),(79,.msl 2 0 ((List.map (E5 1 (d8 .u8)) b2).length) ((List.map (E5 1 (d8 .u8)) b2).length) true),(80,.int .i64 2),(81,.int .i64 t81)],[some ⟨26,false,[(f3.enc m)]⟩,some ⟨1,false,(List.map (d8 .u8) b)⟩,some ⟨1,false,(List.map (E5 1 (d8 .u8)) b2)⟩]⟩
abbrev bm9:=SOk E (Cx.of Tryz.f92 false 0) cy1 cy7
noncomputable def aX2 (m:f3):Option (aw1⊕(Int×(List Int)×Int)):=((an5 m).bind fun y1=>(bif (!y1) then (some (.inr (0,[],51))) else (bif m.HasPlan then (some (.inl (.s3 m ([m.From,m.To,m.Epoch,m.Ballot,m.Accepted,m.Nonce,m.Time,(IntKind.i64.wrap (m.Up)),m.Code,1])))) else (some (.inl (.s3 m ([m.From,m.To,m.Epoch,m.Ballot,m.Accepted,m.Nonce,m.Time,(IntKind.i64.wrap (m.Up)),m.Code,0])))))))
noncomputable def bn7 (m:f3) (l_:List Int):Option (aw1⊕(Int×(List Int)×Int)):=((aE7 l_).bind fun y1=>(bif m.HasPlan then ((bL7 m.Plan).bind fun y3=>((ab1 y3.1).bind fun y4=>(bif (decide (((List.map (d8 .u8) y1.2).length+(List.take ((List.map (d8 .u8) y4.2).length) (List.drop 0 (List.map (d8 .u8) y4.2))).length)*1≤i7)) then (some (.inl (.s2 m (y1.2++y4.2)))) else none))) else (some (.inl (.s2 m y1.2)))))
noncomputable def bn6 (m:f3) (b:List Int):Option (aw1⊕(Int×(List Int)×Int)):=((aE7 m.ID).bind fun y1=>(bif (decide (((List.map (d8 .u8) b).length+(List.take ((List.map (d8 .u8) y1.2).length) (List.drop 0 (List.map (d8 .u8) y1.2))).length)*1≤i7)) then (some (.inl (.s1 0 m (b++y1.2) ([m.Session,m.Payload])))) else none))
noncomputable def aJ9 (t81:Int) (m:f3) (b:List Int) (b2:List (List Int)):Option (aw1⊕(Int×(List Int)×Int)):=(bif (decide ((t81:Int)<2)) then (bif ((decide ((0:Int)≤t81))&&(decide ((t81:Int)<(((List.map (E5 1 (d8 .u8)) b2).length:Nat):Int)))) then (((b2)[(0+t81.toNat)]?).bind fun y3=>((ab1 y3).bind fun y5=>(bif (decide (((List.map (d8 .u8) b).length+(List.take ((List.map (d8 .u8) y5.2).length) (List.drop 0 (List.map (d8 .u8) y5.2))).length)*1≤i7)) then (some (.inl (.s1 (IntKind.i64.wrap (t81+1)) m (b++y5.2) b2))) else none))) else none) else (some (.inr ((IntKind.u8.wrap (m.Kind)),b,0))))
noncomputable def N4:aw1→Option (aw1⊕(Int×(List Int)×Int))
 | .s0 m=>aX2 m
 | .s3 m l_=>bn7 m l_
 | .s2 m b=>bn6 m b
 | .s1 t81 m b b2=>aJ9 t81 m b b2
theorem cT6 {m}:bm9 (.s0 m) (aX2 m):=by
 intro r x h ha;unfold aX2 at h
 refine zc 13 [] h (fun _=>bs9) fun y1 h=> ?_
 refine zs 3 h (fun h=> ?_) fun h=> ?_
 ·
  exact zt 7 h ha [.slot 0 [some 1]]
 refine zs 42 h (fun h=> ?_) fun h=> ?_
 ·
  refine l6 hm 8 _ ?_
  obtain rfl:=Option.some.inj h
  refine ar4 34 [] (m' :=⟨[.code (R2 [1,1,1,1])],[(1,.ptr 0 0 0),(5,.msl 1 0 10 10 true)],[some ⟨26,false,[(f3.enc m)]⟩,some ⟨1,false,[[.int .i64 m.From],[.int .i64 m.To],[.int .i64 m.Epoch],[.int .i64 m.Ballot],[.int .i64 m.Accepted],[.int .i64 m.Nonce],[.int .i64 m.Time],[.int .i64 (IntKind.i64.wrap (m.Up))],[.int .i64 m.Code],[.int .i64 1]]⟩]⟩) (by kernel_rfl) ?_
  refine ac8 (n1:=10) (n2:=(List.map (d8 .i64) ([m.From,m.To,m.Epoch,m.Ballot,m.Accepted,m.Nonce,m.Time,(IntKind.i64.wrap (m.Up)),m.Code,1])).length) (fun n_len=> .go ⟨[.code (R2 [1,1,1,1])],[(1,.ptr 0 0 0),(5,.msl 1 0 n_len n_len true)],[some ⟨26,false,[(f3.enc m)]⟩,some ⟨1,false,[[.int .i64 m.From],[.int .i64 m.To],[.int .i64 m.Epoch],[.int .i64 m.Ballot],[.int .i64 m.Accepted],[.int .i64 m.Nonce],[.int .i64 m.Time],[.int .i64 (IntKind.i64.wrap (m.Up))],[.int .i64 m.Code],[.int .i64 1]]⟩]⟩) (by simp) ?_
  exact ha
 refine l6 hm 1 _ ?_
 obtain rfl:=Option.some.inj h
 refine ar4 34 [] (m' :=⟨[.code (R2 [1,1,1,1])],[(1,.ptr 0 0 0),(5,.msl 1 0 10 10 true)],[some ⟨26,false,[(f3.enc m)]⟩,some ⟨1,false,[[.int .i64 m.From],[.int .i64 m.To],[.int .i64 m.Epoch],[.int .i64 m.Ballot],[.int .i64 m.Accepted],[.int .i64 m.Nonce],[.int .i64 m.Time],[.int .i64 (IntKind.i64.wrap (m.Up))],[.int .i64 m.Code],[.int .i64 0]]⟩]⟩) (by kernel_rfl) ?_
 refine ac8 (n1:=10) (n2:=(List.map (d8 .i64) ([m.From,m.To,m.Epoch,m.Ballot,m.Accepted,m.Nonce,m.Time,(IntKind.i64.wrap (m.Up)),m.Code,0])).length) (fun n_len=> .go ⟨[.code (R2 [1,1,1,1])],[(1,.ptr 0 0 0),(5,.msl 1 0 n_len n_len true)],[some ⟨26,false,[(f3.enc m)]⟩,some ⟨1,false,[[.int .i64 m.From],[.int .i64 m.To],[.int .i64 m.Epoch],[.int .i64 m.Ballot],[.int .i64 m.Accepted],[.int .i64 m.Nonce],[.int .i64 m.Time],[.int .i64 (IntKind.i64.wrap (m.Up))],[.int .i64 m.Code],[.int .i64 0]]⟩]⟩) (by simp) ?_
 exact ha
theorem cR3 {m l_}:bm9 (.s3 m l_) (bn7 m l_):=by
 intro r x h ha;unfold bn7 at h
 refine zm 4 (b:=(Nat.ble (0+(List.map (d8 .i64) l_).length) ((List.map (d8 .i64) l_).length))) (v6 _) ?_
 refine zcE 0 [] (args1:= [.sl false 1 (List.take ((List.map (d8 .i64) l_).length) (List.drop 0 (List.map (d8 .i64) l_)))]) h (fun _=>aU1) ⟨by simp [d9.enc,d9.l,i8.enc,i8.l,n9.enc,n9.l,r6.enc,r6.l,f3.enc,f3.l,Op.enc,Op.l,Plan.enc,Plan.l,D0.enc,D0.l,i9.enc,i9.l,p6.enc,p6.l,m9.enc,m9.l,e9.enc,e9.l,List.take_of_length_le,List.map_take,List.map_drop],rfl⟩ fun y1 h=> ?_
 refine zs 14 h (fun h=> ?_) fun h=> ?_
 ·
  refine zc 6 [] h (fun _=>dg4) fun y3 h=> ?_
  refine zc 10 [] h (fun _=>by5) fun y4 h=> ?_
  refine zm 10 (b:=(Nat.beq ((List.take ((List.map (d8 .u8) y4.2).length) (List.drop 0 (List.map (d8 .u8) y4.2))).length) ((List.map (d8 .u8) y4.2).length))) (by simp) ?_
  refine zn 0 h fun h=> ?_
  refine zm 0 (b:=(Nat.ble (0+(List.map (d8 .u8) y1.2).length) ((List.map (d8 .u8) y1.2).length))) (v6 _) ?_
  refine zw 0 (a:=(List.take ((List.map (d8 .u8) y1.2).length) (List.drop 0 (List.map (d8 .u8) y1.2))++(List.take ((List.map (d8 .u8) y4.2).length) (List.drop 0 (List.map (d8 .u8) y4.2))))) (b:=(List.map (d8 .u8) (y1.2++y4.2))) (by simp only [A1,E8,List.map_append,List.map_take,List.map_drop]) ?_
  exact zk 2 h ha
 exact zk 1 h ha
theorem cO6 {m b}:bm9 (.s2 m b) (bn6 m b):=by
 intro r x h ha;unfold bn6 at h
 refine zc 6 [] h (fun _=>aU1) fun y1 h=> ?_
 refine zm 11 (b:=(Nat.beq ((List.take ((List.map (d8 .u8) y1.2).length) (List.drop 0 (List.map (d8 .u8) y1.2))).length) ((List.map (d8 .u8) y1.2).length))) (by simp) ?_
 refine zn 0 h fun h=> ?_
 refine zm 0 (b:=(Nat.ble (0+(List.map (d8 .u8) b).length) ((List.map (d8 .u8) b).length))) (v6 _) ?_
 refine zw 0 (a:=(List.take ((List.map (d8 .u8) b).length) (List.drop 0 (List.map (d8 .u8) b))++(List.take ((List.map (d8 .u8) y1.2).length) (List.drop 0 (List.map (d8 .u8) y1.2))))) (b:=(List.map (d8 .u8) (b++y1.2))) (by simp only [A1,E8,List.map_append,List.map_take,List.map_drop]) ?_
 refine l6 hm 18 _ ?_
 obtain rfl:=Option.some.inj h
 refine aR3 (q' := .go ⟨[.lpc (R2 [1,1,1,1,1,1,1,1,0,1,0,0]) 4231240368651202111471682,.blk 0,.code (R2 [1,1,1,1,1,1,1,1,1])],[(1,.ptr 0 0 0),(6,.msl 1 0 ((List.map (d8 .u8) (b++y1.2)).length) ((List.map (d8 .u8) (b++y1.2)).length) false),(79,.msl 2 0 2 2 true),(80,.int .i64 2),(81,.int .i64 0)],[some ⟨26,false,[(f3.enc m)]⟩,some ⟨1,false,(List.map (d8 .u8) (b++y1.2))⟩,some ⟨1,false,[[.sl false 1 (List.map (d8 .u8) m.Session)],[.sl false 1 (List.map (d8 .u8) m.Payload)]]⟩]⟩) (by kernel_rfl) ?_
 refine ac8 (n1:=2) (n2:=(List.map (E5 1 (d8 .u8)) ([m.Session,m.Payload])).length) (fun n_len=> .go ⟨[.lpc (R2 [1,1,1,1,1,1,1,1,0,1,0,0]) 4231240368651202111471682,.blk 0,.code (R2 [1,1,1,1,1,1,1,1,1])],[(1,.ptr 0 0 0),(6,.msl 1 0 ((List.map (d8 .u8) (b++y1.2)).length) ((List.map (d8 .u8) (b++y1.2)).length) false),(79,.msl 2 0 n_len n_len true),(80,.int .i64 2),(81,.int .i64 0)],[some ⟨26,false,[(f3.enc m)]⟩,some ⟨1,false,(List.map (d8 .u8) (b++y1.2))⟩,some ⟨1,false,[[.sl false 1 (List.map (d8 .u8) m.Session)],[.sl false 1 (List.map (d8 .u8) m.Payload)]]⟩]⟩) (by simp) ?_
 exact ha
theorem cO2 {t81 m b b2}:bm9 (.s1 t81 m b b2) (aJ9 t81 m b b2):=by
 intro r x h ha;unfold aJ9 at h
 refine zs 7 h (fun h=> ?_) fun h=> ?_
 ·
  refine zn 6 h fun h=> ?_
  refine zr 1 (E5 1 (d8 .u8)) h fun y3 h=> ?_
  refine zc 6 [] h (fun _=>by5) fun y5 h=> ?_
  refine zm 10 (b:=(Nat.beq ((List.take ((List.map (d8 .u8) y5.2).length) (List.drop 0 (List.map (d8 .u8) y5.2))).length) ((List.map (d8 .u8) y5.2).length))) (by simp) ?_
  refine zn 0 h fun h=> ?_
  refine zm 0 (b:=(Nat.ble (0+(List.map (d8 .u8) b).length) ((List.map (d8 .u8) b).length))) (v6 _) ?_
  refine zw 0 (a:=(List.take ((List.map (d8 .u8) b).length) (List.drop 0 (List.map (d8 .u8) b))++(List.take ((List.map (d8 .u8) y5.2).length) (List.drop 0 (List.map (d8 .u8) y5.2))))) (b:=(List.map (d8 .u8) (b++y5.2))) (by simp only [A1,E8,List.map_append,List.map_take,List.map_drop]) ?_
  exact zj 8 h ha
 refine zm 13 (b:=(Nat.ble (0+(List.map (d8 .u8) b).length) ((List.map (d8 .u8) b).length))) (v6 _) ?_
 obtain rfl:=Option.some.inj h
 have hv:=ha
 simp only [aV6] at hv
 subst hv
 exact au6 [] (d1:= .tup [.int .u8 (IntKind.u8.wrap (m.Kind)),.sl false 1 (List.take ((List.map (d8 .u8) b).length) (List.drop 0 (List.map (d8 .u8) b))),.int .i64 0]) (d:= .tup [.int .u8 (IntKind.u8.wrap (m.Kind)),.sl false 1 (List.map (d8 .u8) b),.int .i64 0]) (s1:= []) (s:= []) (by kernel_rfl) ⟨by simp [d9.enc,d9.l,i8.enc,i8.l,n9.enc,n9.l,r6.enc,r6.l,f3.enc,f3.l,Op.enc,Op.l,Plan.enc,Plan.l,D0.enc,D0.l,i9.enc,i9.l,p6.enc,p6.l,m9.enc,m9.l,e9.enc,e9.l,List.take_of_length_le,List.map_take,List.map_drop],rfl⟩ ⟨rfl,rfl⟩ Cx.fin_of
noncomputable def bO5 (m:f3):Option (Int×(List Int)×Int):=T8 N4 (.s0 m)
theorem di7 {m:f3}{r:Int×(List Int)×Int} (h:bO5 m=some r):i4 E 92 [.agg (f3.enc m)] [] (Rs cy1 r):=sc (fn:=Tryz.f92) (k:=false) (m:=0) (stM:=cy7) h fun s=>by
 cases s with
 | s0=>exact cT6
 | s3=>exact cR3
 | s2=>exact cO6
 | s1=>exact cO2
end Go.RX.L

namespace Go.RX.L
open Go Go.RX Go.Proofs
attribute [local irreducible] i0
noncomputable def aO7:=p7 (q0 Tryz.f16)
noncomputable def bR2 (y:Bool):D×f4:=(.bool y,[])
abbrev bQ8:=AOk E (Cx.of Tryz.f16 false 0) bR2
noncomputable def cB6 (t67:Bool) (m:f3):M:=⟨[.code (aO7 [1,1,0,1]),.code (aO7 [1,1,1])],[(1,.ptr 0 0 0),(67,.bool t67)],[some ⟨26,false,[(f3.enc m)]⟩]⟩
noncomputable def H5 (t67:Bool) (m:f3):Option Bool:=(bif t67 then (some false) else (bif m.HasPlan then ((bA1 m.Plan).bind fun y3=>(some y3)) else ((bo1 m.Plan (⟨0,0,0,0,0,0,0,0,0,0,[],[]⟩:Plan)).bind fun y4=>(some y4))))
theorem ai8 {t67 m}:bQ8 (cB6 t67 m) (H5 t67 m):=by
 intro r h;unfold H5 at h
 refine zs 1 h (fun h=> ?_) fun h=> ?_
 ·
  exact zu 5 h
 refine zs 9 h (fun h=> ?_) fun h=> ?_
 ·
  refine zc 6 [] h (fun _=>cB7) fun y3 h=> ?_
  exact zu 3 h
 refine zc 8 [some 1,some 1] h (fun _=>cR4) fun y4 h=> ?_
 exact zu 3 h
noncomputable def cG7 (t45:Bool) (m:f3):M:=⟨[.code (aO7 [1,0,1]),.code (aO7 [1,1])],[(1,.ptr 0 0 0),(45,.bool t45)],[some ⟨26,false,[(f3.enc m)]⟩]⟩
noncomputable def D8 (t45:Bool) (m:f3):Option Bool:=(bif t45 then (some false) else (bif (((((List.map (d8 .i64) m.ID).length:Nat):Int):Int) !=0) then (bif (((((List.map (d8 .i64) m.ID).length:Nat):Int):Int) !=3) then (H5 true m) else (bif (decide (((((List.map (d8 .u8) m.Session).length:Nat):Int):Int)>64)) then (H5 true m) else (H5 (decide (((((List.map (d8 .u8) m.Payload).length:Nat):Int):Int)>1024)) m))) else (bif (decide (((((List.map (d8 .u8) m.Session).length:Nat):Int):Int)>64)) then (H5 true m) else (H5 (decide (((((List.map (d8 .u8) m.Payload).length:Nat):Int):Int)>1024)) m))))
theorem K6 {t45 m}:bQ8 (cG7 t45 m) (D8 t45 m):=by
 intro r h;unfold D8 at h
 refine zs 1 h (fun h=> ?_) fun h=> ?_
 ·
  exact zu 5 h
 refine zs 11 h (fun h=> ?_) fun h=> ?_
 ·
  refine zs 11 h (fun h=> ?_) fun h=> ?_
  ·
   exact zg 20 (ai8 h)
  refine zs 11 h (fun h=> ?_) fun h=> ?_
  ·
   exact zg 9 (ai8 h)
  exact zg 10 (ai8 h)
 refine zs 22 h (fun h=> ?_) fun h=> ?_
 ·
  exact zg 9 (ai8 h)
 exact zg 10 (ai8 h)
noncomputable def aA3 (m:f3):Option Bool:=(bif (decide ((m.Kind:Int)<1)) then (D8 true m) else (bif (decide ((m.Kind:Int)>19)) then (D8 true m) else (bif (decide ((m.From:Int)<0)) then (D8 true m) else (bif (decide ((m.From:Int)>255)) then (D8 true m) else (bif (decide ((m.To:Int)<0)) then (D8 true m) else (bif (decide ((m.To:Int)>255)) then (D8 true m) else (bif (decide ((m.Up:Int)>65535)) then (D8 true m) else (bif (decide ((m.Code:Int)<0)) then (D8 true m) else (D8 (decide ((m.Code:Int)>1000)) m)))))))))
theorem cI1 {m:f3}{r:Bool} (h:aA3 m=some r):i4 E 16 [.agg (f3.enc m)] [] (Rs bR2 r):=so (fn:=Tryz.f16) (k:=false) (m:=0) h<| by
 intro r h;unfold aA3 at h
 refine zs 14 h (fun h=> ?_) fun h=> ?_
 ·
  exact zg 70 (K6 h)
 refine zs 9 h (fun h=> ?_) fun h=> ?_
 ·
  exact zg 61 (K6 h)
 refine zs 9 h (fun h=> ?_) fun h=> ?_
 ·
  exact zg 52 (K6 h)
 refine zs 9 h (fun h=> ?_) fun h=> ?_
 ·
  exact zg 43 (K6 h)
 refine zs 9 h (fun h=> ?_) fun h=> ?_
 ·
  exact zg 34 (K6 h)
 refine zs 9 h (fun h=> ?_) fun h=> ?_
 ·
  exact zg 25 (K6 h)
 refine zs 9 h (fun h=> ?_) fun h=> ?_
 ·
  exact zg 16 (K6 h)
 refine zs 9 h (fun h=> ?_) fun h=> ?_
 ·
  exact zg 7 (K6 h)
 exact zg 8 (K6 h)
end Go.RX.L

namespace Go.RX.L
open Go Go.RX
def K3 (s:List Int):List Int:=ag5 (s.length:Int)++s
def dG3 (s:List Int):Int×List Int:=if s.length≤4096 then (0,K3 s) else (2,[])
def pT (l:List Int):Int⊕(List Int×Nat):=match pI l with
 | .inl e=> .inl e
 | .inr (n,k)=>if n<0∨n>4096 then .inl 2 else if n>(l.length:Int)-k then .inl 11 else .inr ((l.drop k).take n.toNat,k+n.toNat)
theorem cZ9 {l:List Int}{e:Int} (h:pI l= .inl e):pT l= .inl e:=by simp only [pT,h]
theorem da9 {l:List Int}{n:Int}{k:Nat} (h:pI l= .inr (n,k)) (hn:n<0∨n>4096):pT l= .inl 2:=by simp only [pT,h,if_pos hn]
theorem cW2 {l:List Int}{n:Int}{k:Nat} (h:pI l= .inr (n,k)) (hn:¬(n<0∨n>4096)) (h2:n>(l.length:Int)-k):pT l= .inl 11:=by simp only [pT,h,if_neg hn,if_pos h2]
theorem cz2 {l:List Int}{n:Int}{k:Nat} (h:pI l= .inr (n,k)) (hn:¬(n<0∨n>4096)) (h2:¬n>(l.length:Int)-k):pT l= .inr ((l.drop k).take n.toNat,k+n.toNat):=by simp only [pT,h,if_neg hn,if_neg h2]
theorem bK1 {s:List Int} (h:s9 s):s9 (K3 s):=fun c hc=>(List.mem_append.1 hc).elim (bO3 _ c) (h c)
theorem ba3 {s:List Int} (h:s.length≤4096):(K3 s).length≤s.length+10:=by
 have:=aQ7 (cc9 (n:=s.length) (by omega))
 simp only [K3,List.length_append];omega
theorem cV8 {s:List Int} (h:s.length≤4096) (rest:List Int):pT (K3 s++rest)= .inr (s,(K3 s).length):=by
 have h1:=de1 (cc9 (n:=s.length) (by omega)) (s++rest)
 have e:K3 s++rest=ag5 (s.length:Int)++(s++rest):=by simp [K3]
 rw [e,cz2 h1 (by omega) (by simp only [List.length_append];omega),List.drop_left,Int.toNat_natCast,List.take_left]
 simp only [K3,List.length_append]
theorem cz0 {l s:List Int}{k:Nat} (hb:s9 l) (h:pT l= .inr (s,k)):l.take k=K3 s∧k≤l.length∧k=(K3 s).length∧s.length≤4096∧s9 s:=by
 cases hp:pI l with
 | inl e=>rw [cZ9 hp] at h;cases h
 | inr x=>
  obtain ⟨n,j⟩:=x
  by_cases hn:n<0∨n>4096
  ·rw [da9 hp hn] at h;cases h
  by_cases h2:n>(l.length:Int)-j
  ·rw [cW2 hp hn h2] at h;cases h
  rw [cz2 hp hn h2] at h
  simp only [Sum.inr.injEq,Prod.mk.injEq] at h
  obtain ⟨rfl,rfl⟩:=h
  obtain ⟨a1,a2,a3,a4⟩:=bZ7 hb hp
  obtain ⟨m,rfl⟩:=Int.eq_ofNat_of_zero_le (show 0≤n by omega)
  simp only [Int.toNat_natCast]
  have hl:((l.drop j).take m).length=m:=by rw [List.length_take,List.length_drop];omega
  refine ⟨?_,by omega,?_,by rw [hl];omega,cD9 (bc1 hb _) _⟩
  ·rw [List.take_add,a1,K3,hl]
  ·rw [K3,List.length_append,hl,←a3]
theorem ea8 {l:List Int}{e:Int} (h:pT l= .inl e):e≠0:=by
 cases hp:pI l with
 | inl e' =>rw [cZ9 hp] at h;obtain rfl:=Sum.inl.inj h;rcases dD4 hp with rfl | rfl<;>decide
 | inr x=>
  obtain ⟨n,j⟩:=x
  by_cases hn:n<0∨n>4096
  ·rw [da9 hp hn] at h;obtain rfl:=Sum.inl.inj h;decide
  by_cases h2:n>(l.length:Int)-j
  ·rw [cW2 hp hn h2] at h;obtain rfl:=Sum.inl.inj h;decide
  ·rw [cz2 hp hn h2] at h;cases h
theorem bN2 {s:List Int} (hm:s.length≤G3):ab1 s=some (dG3 s):=by
 unfold dG3
 by_cases h:s.length≤4096
 ·rw [if_pos h]
  have hn:=cc9 (n:=s.length) (by omega)
  have hl:=aQ7 hn
  have c1:decide (((s.length:Nat):Int)>4096)=false:=by simp;omega
  have c2:decide (((ag5 (s.length:Int)).length+s.length)*1≤i7)=true:=D1 (by omega)
  simp only [ab1,List.length_map,c1,cond_false,cM5 hn,Option.bind_some,c2,cond_true,K3]
 ·rw [if_neg h]
  have c1:decide (((s.length:Nat):Int)>4096)=true:=by simp;omega
  simp only [ab1,List.length_map,c1,cond_true]
theorem dU4 {b:List Int} (hb:s9 b) (hm:b.length≤G3) {at_:Nat} (h:at_≤b.length):an7 b at_=some (rL at_ (pT (b.drop at_))):=by
 have hi:=bG7 hb hm h
 simp only [G3] at hm
 cases hp:pI (b.drop at_) with
 | inl e=>
  rw [hp] at hi
  have he:=bs3 hp
  rw [cZ9 hp]
  simp only [an7,K2,hi,rI,Option.bind_some,he,cond_true,rL]
 | inr x=>
  obtain ⟨n,k⟩:=x
  rw [hp] at hi
  obtain ⟨a1,a2,a3,a4⟩:=bZ7 (bc1 hb at_) hp
  rw [List.length_drop] at a2
  have a4' :=ac6.1 a4
  have z:((0:Int) !=0)=false:=rfl
  have tw:((2:Int) !=0)=true:=rfl
  by_cases hn:n<0∨n>4096
  ·rw [da9 hp hn]
   rcases hn with hn | hn
   ·have c1:decide (n<0)=true:=decide_eq_true hn
    simp only [an7,K2,M8,hi,rI,Option.bind_some,z,cond_false,c1,cond_true,tw,rL]
   ·have c1:decide (n<0)=false:=decide_eq_false (by omega)
    have c2:decide (n>4096)=true:=decide_eq_true hn
    simp only [an7,K2,M8,hi,rI,Option.bind_some,z,cond_false,c1,c2,cond_true,tw,rL]
  ·have c1:decide (n<0)=false:=decide_eq_false (by omega)
   have c2:decide (n>4096)=false:=decide_eq_false (by omega)
   have w1:IntKind.i64.wrap (((b.length:Nat):Int)-((at_+k:Nat):Int))=(b.length:Int)-((at_+k:Nat):Int):=u7 (by omega) (by omega)
   by_cases h2:n>((b.drop at_).length:Int)-k
   ·rw [cW2 hp hn h2]
    rw [List.length_drop] at h2
    have c3:decide (n>(b.length:Int)-((at_+k:Nat):Int))=true:=decide_eq_true (by omega)
    simp only [an7,K2,M8,hi,rI,Option.bind_some,z,cond_false,c1,c2,List.length_map,w1,c3,cond_true,rL]
   ·rw [cz2 hp hn h2]
    rw [List.length_drop] at h2
    obtain ⟨m,rfl⟩:=Int.eq_ofNat_of_zero_le (show 0≤n by omega)
    have c3:decide ((m:Int)>(b.length:Int)-((at_+k:Nat):Int))=false:=decide_eq_false (by omega)
    have w2:IntKind.i64.wrap (((at_+k:Nat):Int)+(m:Int))=((at_+k+m:Nat):Int):=by rw [u7 (by omega) (by omega)];omega
    have c4:(decide (((0:Nat):Int)≤((at_+k+m:Nat):Int))&&decide (((at_+k+m:Nat):Int)≤((b.length:Nat):Int)))=true:=by simp;omega
    have c5:(decide (((0:Nat):Int)≤((at_+k:Nat):Int))&&decide (((at_+k:Nat):Int)≤((at_+k+m:Nat):Int)))=true:=by simp;omega
    have d:List.drop (at_+k) (List.take (at_+k+m) b)=((b.drop at_).drop k).take m:=by
     rw [List.drop_take,List.drop_drop,show at_+k+m-(at_+k)=m by omega]
    have c6:decide ((((b.drop at_).drop k).take m).length*1≤i7)=true:=D1 (by rw [List.length_take];omega)
    simp only [an7,K2,M8,hi,rI,Option.bind_some,z,cond_false,c1,c2,List.length_map,w1,c3,cond_true,w2,c4,c5,Int.toNat_natCast,d,c6,rL]
    rw [Nat.add_assoc]
end Go.RX.L

namespace Go.RX.L
open Go Go.RX
/-! ### alike -/
theorem dr6 (a b:List Int) (hl:a.length<9223372036854775807) (hab:a.length=b.length):∀(j k:Nat),k+j=a.length→Ev U6 (.s1 a b k) (decide (a.drop k=b.drop k)):=by
 intro j
 induction j with
 | zero=>
  intro k hk
  refine .done ?_
  rw [List.drop_eq_nil_of_le (by omega),List.drop_eq_nil_of_le (by omega)]
  simp [U6,at2,show ¬(k:Int)<a.length by omega]
 | succ j ih=>
  intro k hk
  have h1:k<a.length:=by omega
  have h2:k<b.length:=by omega
  rw [List.drop_eq_getElem_cons h1,List.drop_eq_getElem_cons h2]
  by_cases h:a[k]=b[k]
  ·refine .next (s' := .s1 a b ((k+1:Nat):Int)) ?_ ?_
   ·have e:(a[k] !=b[k])=false:=by simp [h]
    simp only [U6,at2,List.length_map,F2 h1,F2 h2,M7,Bool.and_self,cond_true,Int.toNat_natCast,List.getE h1,List.getE h2,Option.bind_some,e,cond_false,wS (show k<9223372036854775807 by omega)]
   ·rw [show (decide (a[k]::a.drop (k+1)=b[k]::b.drop (k+1)))=decide (a.drop (k+1)=b.drop (k+1)) by simp only [h,List.cons.injEq,true_and]]
    exact ih (k+1) (by omega)
  ·refine .done ?_
   have e:(a[k] !=b[k])=true:=by simp [h]
   simp only [U6,at2,List.length_map,F2 h1,F2 h2,M7,Bool.and_self,cond_true,Int.toNat_natCast,List.getE h1,List.getE h2,Option.bind_some,e]
   rw [show (decide (a[k]::a.drop (k+1)=b[k]::b.drop (k+1)))=false by simp only [h,List.cons.injEq,false_and,decide_false]]
theorem dA0 {a b:List Int} (hl:a.length<9223372036854775807):bI1 a b=some (decide (a=b)):=by
 by_cases hab:a.length=b.length
 ·refine u6 (.next (s' := .s1 a b 0) (by simp [U6,aD0,hab]) ?_)
  simpa using dr6 a b hl hab a.length 0 (by omega)
 ·refine u6 (.done ?_)
  have e:(((a.length:Nat):Int) !=((b.length:Nat):Int))=true:=by simp;omega
  have hne:a≠b:=fun h=>hab (by rw [h])
  simp [U6,aD0,e,hne]
theorem dh8 (a b:Plan) (hs:ba2 a) (hab:a.Pen.length=b.Pen.length):∀(j k:Nat),k+j=a.Pen.length→Ev P9 (.s2 k a b) (decide (a.Pen.drop k=b.Pen.drop k)&&decide (a.Changes=b.Changes)):=by
 intro j
 have hl:=hs.pen
 induction j with
 | zero=>
  intro k hk
  refine .done ?_
  rw [List.drop_eq_nil_of_le (by omega),List.drop_eq_nil_of_le (by omega)]
  simp only [P9,at0,List.length_map,geB (show a.Pen.length≤k by omega),cond_false,dA0 hs.ch,Option.bind_some]
  simp
 | succ j ih=>
  intro k hk
  have h1:k<a.Pen.length:=by omega
  have h2:k<b.Pen.length:=by omega
  rw [List.drop_eq_getElem_cons h1,List.drop_eq_getElem_cons h2]
  by_cases h:a.Pen[k]=b.Pen[k]
  ·refine .next (s' := .s2 ((k+1:Nat):Int) a b) ?_ ?_
   ·have e:(a.Pen[k] !=b.Pen[k])=false:=by simp [h]
    simp only [P9,at0,List.length_map,F2 h1,F2 h2,M7,Bool.and_self,cond_true,Int.toNat_natCast,List.getE h1,List.getE h2,Option.bind_some,e,cond_false,wS (show k<9223372036854775807 by omega)]
   ·rw [show (decide (a.Pen[k]::a.Pen.drop (k+1)=b.Pen[k]::b.Pen.drop (k+1)))=decide (a.Pen.drop (k+1)=b.Pen.drop (k+1)) by simp only [h,List.cons.injEq,true_and]]
    exact ih (k+1) (by omega)
  ·refine .done ?_
   have e:(a.Pen[k] !=b.Pen[k])=true:=by simp [h]
   simp only [P9,at0,List.length_map,F2 h1,F2 h2,M7,Bool.and_self,cond_true,Int.toNat_natCast,List.getE h1,List.getE h2,Option.bind_some,e]
   rw [show (decide (a.Pen[k]::a.Pen.drop (k+1)=b.Pen[k]::b.Pen.drop (k+1)))=false by simp only [h,List.cons.injEq,false_and,decide_false]]
   rfl
def bK4 (a b:Plan):Bool:=decide (a.Epoch=b.Epoch)&&(decide (a.Target=b.Target)&&(decide (a.Prev=b.Prev)&&(decide (a.Spill=b.Spill)&&(decide (a.Percent=b.Percent)&&(decide (a.Stamp=b.Stamp)&&(decide (a.Since=b.Since)&&(decide (a.Ramped=b.Ramped)&&(decide (a.Up=b.Up)&&decide (a.Sup=b.Sup)))))))))
def bN5 (a b:Plan):Bool:=bK4 a b&&(decide (a.Pen=b.Pen)&&decide (a.Changes=b.Changes))
theorem bY5 {a b:Plan}:bN5 a b=true↔a=b:=by
 cases a;cases b
 simp only [bN5,bK4,Bool.and_eq_true,decide_eq_true_eq,Plan.mk.injEq,and_assoc]
theorem dH0 {a b:Plan} (hs:ba2 a):bo1 a b=some (bN5 a b):=by
 have bad:Ev P9 (.s1 true a b) false:= .done rfl
 have hstep:P9 (.s0 a b)=some (.inl (.s1 (!(bK4 a b) || !(decide (a.Pen.length=b.Pen.length))) a b)):=by
  have hb:∀x y:Int,(x !=y)= !(decide (x=y)):=fun x y=>by by_cases h:x=y<;>simp [h]
  simp only [P9,aU9,hb,bK4,List.length_map]
  cases decide (a.Epoch=b.Epoch)<;>cases decide (a.Target=b.Target)<;>cases decide (a.Prev=b.Prev)<;>cases decide (a.Spill=b.Spill)<;>cases decide (a.Percent=b.Percent)<;>cases decide (a.Stamp=b.Stamp)<;>cases decide (a.Since=b.Since)<;>cases decide (a.Ramped=b.Ramped)<;>cases decide (a.Up=b.Up)<;>cases decide (a.Sup=b.Sup)<;>first | rfl | (simp;done) | (simp;omega)
 refine u6 (.next hstep ?_)
 unfold bN5
 cases hn:bK4 a b with
 | false=>exact bad
 | true=>
  by_cases hab:a.Pen.length=b.Pen.length
  ·rw [decide_eq_true hab]
   refine .next (s' := .s2 0 a b) rfl ?_
   simpa using dh8 a b hs hab a.Pen.length 0 (by omega)
  ·have hne:a.Pen≠b.Pen:=fun h=>hab (by rw [h])
   rw [decide_eq_false hab,decide_eq_false hne]
   exact bad
theorem dE3 {x y:Int} (hx:n8 .u64 x) (hy:n8 .u64 y):(IntKind.i64.wrap x==IntKind.i64.wrap y)=decide (x=y):=by
 obtain ⟨n,rfl⟩:=Int.eq_ofNat_of_zero_le (G0.1 hx).1
 obtain ⟨m,rfl⟩:=Int.eq_ofNat_of_zero_le (G0.1 hy).1
 have h1:=(G0.1 hx).2
 have h2:=(G0.1 hy).2
 rw [bd5 n (by omega),bd5 m (by omega)]
 rw [Bool.eq_iff_iff]
 simp only [beq_iff_eq,decide_eq_true_eq]
 split<;>split<;>omega
theorem cw4 {x y:Int} (hx:n8 .u64 x) (hy:n8 .u64 y):decide (IntKind.i64.wrap x=IntKind.i64.wrap y)=decide (x=y):=by
 rw [←dE3 hx hy,Bool.eq_iff_iff];simp
theorem dP6 {a b:Plan} (hs:ba2 a) (h1:n8 .u64 a.Up) (h2:n8 .u64 b.Up) (h3:n8 .u64 a.Sup) (h4:n8 .u64 b.Sup):aS1 a b=some (bN5 a b):=by
 have hb:∀x y:Int,(x==y)=decide (x=y):=fun x y=>by by_cases h:x=y<;>simp [h]
 simp only [aS1,ak2,Option.bind_some,cw4 h1 h2,cw4 h3 h4,hb,Bool.and_true,dF2 hs.pen,dh0 hs.ch]
 rw [show (decide (a.Epoch=b.Epoch)&&(decide (a.Target=b.Target)&&(decide (a.Prev=b.Prev)&&(decide (a.Spill=b.Spill)&&(decide (a.Percent=b.Percent)&&(decide (a.Stamp=b.Stamp)&&(decide (a.Since=b.Since)&&(decide (a.Ramped=b.Ramped)&&(decide (a.Up=b.Up)&&decide (a.Sup=b.Sup))))))))))=bK4 a b from rfl]
 unfold bN5
 cases bK4 a b with
 | false=>rfl
 | true=>cases decide (a.Pen=b.Pen)<;>rfl
/-! ### the head -/
theorem bytesOf {b:List Int} (h:b.length*1≤reachBytes∧∀y∈b,n8 .u8 y):s9 b∧b.length≤G3:=by
 refine ⟨fun c hc=>dF1.1 (h.2 c hc),?_⟩
 have:reachBytes≤G3:=by decide
 omega
end Go.RX.L

namespace Go.RX.L
open Go Go.RX
/-! ### may it be? -/
def hdM (m:f3):Prop:=1≤m.Kind∧m.Kind≤19∧0≤m.From∧m.From≤255∧0≤m.To∧m.To≤255∧m.Up≤65535∧0≤m.Code∧m.Code≤1000
instance (m:f3):Decidable (hdM m):=by unfold hdM;infer_instance
def txM (m:f3):Prop:=(m.ID.length=0∨m.ID.length=3)∧m.Session.length≤64∧m.Payload.length≤1024
instance (m:f3):Decidable (txM m):=by unfold txM;infer_instance
def as0 (m:f3):Bool:=bif m.HasPlan then U5 m.Plan else bN5 m.Plan v7
def A0 (m:f3):Bool:=decide (hdM m)&&(decide (txM m)&&as0 m)
structure Shm (m:f3):Prop where
 s:ba2 m.Plan
 up:n8 .u64 m.Plan.Up
 sup:n8 .u64 m.Plan.Sup
theorem bT7 (a b c:Int):(A3 (A3 a b) c<0)↔a<0∨b<0∨c<0:=by unfold A3;split<;>split<;>omega
theorem cU4 (a b n:Int):(u9 a b>n)↔a>n∨b>n:=by unfold u9;split<;>omega
theorem dP1 (a b n:Int):(u9 a b≥n)↔a≥n∨b≥n:=by unfold u9;split<;>omega
theorem dB4:n8 .u64 (0:Int):=G0.2 (by omega)
theorem dA5 {m:f3} (h:Shm m):ah4 false m=some (as0 m):=by
 have hu:=G0.1 h.up
 have hv:=G0.1 h.sup
 unfold ah4 as0
 cases m.HasPlan
 ·have:=dP6 (a:=m.Plan) (b:=v7) h.s h.up dB4 h.sup dB4
  simp only [cond_false]
  show (aS1 m.Plan v7).bind _=_
  rw [this];rfl
 ·simp only [cond_false,cond_true,bc5 h.s hu.1 hv.1,Option.bind_some]
theorem du7 {m:f3} (h:Shm m):Q6 false m=some (decide (txM m)&&as0 m):=by
 have h1:=dA5 h
 have t1:ah4 true m=some false:=rfl
 have t2:ap9 true m=some false:=rfl
 have h2:ap9 false m=some (decide (m.Session.length≤64∧m.Payload.length≤1024)&&as0 m):=by
  simp only [ap9,cond_false,List.length_map]
  by_cases a:m.Session.length≤64
  ·rw [show decide (((m.Session.length:Nat):Int)>64)=false from decide_eq_false (by omega)]
   by_cases b:m.Payload.length≤1024
   ·rw [show decide (((m.Payload.length:Nat):Int)>1024)=false from decide_eq_false (by omega),show decide (m.Session.length≤64∧m.Payload.length≤1024)=true from decide_eq_true ⟨a,b⟩,Bool.true_and];exact h1
   ·rw [show decide (((m.Payload.length:Nat):Int)>1024)=true from decide_eq_true (by omega),show decide (m.Session.length≤64∧m.Payload.length≤1024)=false from decide_eq_false (fun h=>b h.2)];rfl
  ·rw [show decide (((m.Session.length:Nat):Int)>64)=true from decide_eq_true (by omega),show decide (m.Session.length≤64∧m.Payload.length≤1024)=false from decide_eq_false (fun h=>a h.1)];rfl
 simp only [Q6,cond_false,List.length_map]
 by_cases a:m.ID.length=0
 ·rw [show decide (((m.ID.length:Nat):Int)>0)=false from decide_eq_false (by omega)]
  rw [show decide (txM m)=decide (m.Session.length≤64∧m.Payload.length≤1024) from decide_eq_decide.2 (by unfold txM;omega)]
  exact h2
 ·rw [show decide (((m.ID.length:Nat):Int)>0)=true from decide_eq_true (by omega)]
  by_cases b:m.ID.length=3
  ·rw [show (((m.ID.length:Nat):Int) !=3)=false from by rw [b];rfl,show decide (txM m)=decide (m.Session.length≤64∧m.Payload.length≤1024) from decide_eq_decide.2 (by unfold txM;omega)]
   exact h2
  ·rw [show (((m.ID.length:Nat):Int) !=3)=true from bne_iff_ne.2 (by omega),show decide (txM m)=false from decide_eq_false (by unfold txM;omega)]
   rfl
theorem bz6 {m:f3} (h:Shm m):an5 m=some (A0 m):=by
 have t3:Q6 true m=some false:=rfl
 by_cases hh:hdM m
 ·have h' :=hh
  unfold hdM at h'
  rw [A0,decide_eq_true hh,Bool.true_and,←du7 h]
  simp only [an5]
  rw [show decide (m.Kind<1)=false from decide_eq_false (by omega),show decide (m.Kind>19)=false from decide_eq_false (by omega),
   show decide (A3 (A3 m.From m.To) m.Code<0)=false from decide_eq_false (by rw [bT7];omega),show decide (u9 m.From m.To>255)=false from decide_eq_false (by rw [cU4];omega),
   show decide (m.Code>1000)=false from decide_eq_false (by omega),show decide (m.Up≥65536)=false from decide_eq_false (by omega)]
  rfl
 ·rw [A0,decide_eq_false hh,Bool.false_and]
  unfold hdM at hh
  simp only [an5]
  cases h1:decide (m.Kind<1)
  ·cases h2:decide (m.Kind>19)
   ·cases h3:decide (A3 (A3 m.From m.To) m.Code<0)
    ·cases h4:decide (u9 m.From m.To>255)
     ·cases h5:decide (m.Code>1000)
      ·rw [decide_eq_false_iff_not] at h1 h2 h3 h4 h5
       rw [bT7] at h3
       rw [cU4] at h4
       rw [show decide (m.Up≥65536)=true from decide_eq_true (by omega)]
       rfl
      ·rfl
     ·rfl
    ·rfl
   ·rfl
  ·rfl
theorem ds7 {m:f3} (h:Shm m):H5 false m=some (as0 m):=by
 unfold H5 as0
 cases m.HasPlan
 ·have:=dH0 (a:=m.Plan) (b:=v7) h.s
  simp only [cond_false]
  show (bo1 m.Plan v7).bind _=_
  rw [this];rfl
 ·simp only [cond_false,cond_true,dA3 h.s,Option.bind_some]
theorem dq8 {m:f3} (h:Shm m):D8 false m=some (decide (txM m)&&as0 m):=by
 have h1:=ds7 h
 have t2:H5 true m=some false:=rfl
 have h2:(bif decide (((m.Session.length:Nat):Int)>64) then H5 true m else H5 (decide (((m.Payload.length:Nat):Int)>1024)) m)=some (decide (m.Session.length≤64∧m.Payload.length≤1024)&&as0 m):=by
  by_cases a:m.Session.length≤64
  ·rw [show decide (((m.Session.length:Nat):Int)>64)=false from decide_eq_false (by omega)]
   by_cases b:m.Payload.length≤1024
   ·rw [show decide (((m.Payload.length:Nat):Int)>1024)=false from decide_eq_false (by omega),show decide (m.Session.length≤64∧m.Payload.length≤1024)=true from decide_eq_true ⟨a,b⟩,Bool.true_and];exact h1
   ·rw [show decide (((m.Payload.length:Nat):Int)>1024)=true from decide_eq_true (by omega),show decide (m.Session.length≤64∧m.Payload.length≤1024)=false from decide_eq_false (fun h=>b h.2)];rfl
  ·rw [show decide (((m.Session.length:Nat):Int)>64)=true from decide_eq_true (by omega),show decide (m.Session.length≤64∧m.Payload.length≤1024)=false from decide_eq_false (fun h=>a h.1)];rfl
 simp only [D8,cond_false,List.length_map,h2]
 by_cases a:m.ID.length=0
 ·rw [show (((m.ID.length:Nat):Int) !=0)=false from by rw [a];rfl]
  rw [show decide (txM m)=decide (m.Session.length≤64∧m.Payload.length≤1024) from decide_eq_decide.2 (by unfold txM;omega)]
  rfl
 ·rw [show (((m.ID.length:Nat):Int) !=0)=true from bne_iff_ne.2 (by omega)]
  by_cases b:m.ID.length=3
  ·rw [show (((m.ID.length:Nat):Int) !=3)=false from by rw [b];rfl,show decide (txM m)=decide (m.Session.length≤64∧m.Payload.length≤1024) from decide_eq_decide.2 (by unfold txM;omega)]
   rfl
  ·rw [show (((m.ID.length:Nat):Int) !=3)=true from bne_iff_ne.2 (by omega),show decide (txM m)=false from decide_eq_false (by unfold txM;omega)]
   rfl
theorem ds3 {m:f3} (h:Shm m):aA3 m=some (A0 m):=by
 have t3:D8 true m=some false:=rfl
 by_cases hh:hdM m
 ·have h' :=hh
  unfold hdM at h'
  rw [A0,decide_eq_true hh,Bool.true_and,←dq8 h]
  simp only [aA3]
  rw [show decide (m.Kind<1)=false from decide_eq_false (by omega),show decide (m.Kind>19)=false from decide_eq_false (by omega),
   show decide (m.From<0)=false from decide_eq_false (by omega),show decide (m.From>255)=false from decide_eq_false (by omega),
   show decide (m.To<0)=false from decide_eq_false (by omega),show decide (m.To>255)=false from decide_eq_false (by omega),
   show decide (m.Up>65535)=false from decide_eq_false (by omega),show decide (m.Code<0)=false from decide_eq_false (by omega),show decide (m.Code>1000)=false from decide_eq_false (by omega)]
  rfl
 ·rw [A0,decide_eq_false hh,Bool.false_and]
  unfold hdM at hh
  simp only [aA3]
  cases h1:decide (m.Kind<1)
  case true=>rfl
  cases h2:decide (m.Kind>19)
  case true=>rfl
  cases h3:decide (m.From<0)
  case true=>rfl
  cases h4:decide (m.From>255)
  case true=>rfl
  cases h5:decide (m.To<0)
  case true=>rfl
  cases h6:decide (m.To>255)
  case true=>rfl
  cases h7:decide (m.Up>65535)
  case true=>rfl
  cases h8:decide (m.Code<0)
  case true=>rfl
  rw [decide_eq_false_iff_not] at h1 h2 h3 h4 h5 h6 h7 h8
  rw [show decide (m.Code>1000)=true from decide_eq_true (by omega)]
  rfl
end Go.RX.L

namespace Go.RX.L
open Go Go.RX
/-! ### bytes -/
/-- A message of words. -/
structure ak8 (m : f3) : Prop where
  sh : Shm m
  pl : bi4 m.Plan
  w : as8 [m.Epoch, m.Ballot, m.Accepted, m.Nonce, m.Time]
  up : 0 ≤ m.Up
  id : as8 m.ID
  ses : s9 m.Session
  pay : s9 m.Payload
theorem f3.Ok.fine {m:f3} (h:m.Ok):ak8 m:=by
 obtain ⟨h1,h2,h3,h4,h5,h6,h7,h8,h9,h10,-,hp,hid,hs,hq⟩:=h
 have hp' :=hp
 obtain ⟨-,-,-,-,-,-,-,-,u1,u2,-,-⟩:=hp
 refine ⟨⟨hp'.shrt,u1,u2⟩,hp'.fine,?_,(G0.1 h9).1,fun x hx=>hid.2 x hx,fun x hx=>dF1.1 (hs.2 x hx),fun x hx=>dF1.1 (hq.2 x hx)⟩
 intro x hx
 simp only [List.mem_cons,List.not_mem_nil,or_false] at hx
 rcases hx with rfl | rfl | rfl | rfl | rfl<;>assumption
def ab9 (m:f3):List Int:= [m.From,m.To,m.Epoch,m.Ballot,m.Accepted,m.Nonce,m.Time,m.Up,m.Code,bif m.HasPlan then 1 else 0]
def bB7 (m:f3):List Int:=bif m.HasPlan then K3 (aF4 m.Plan) else []
def ak5 (m:f3):List Int:=encL (ab9 m)++(bB7 m++(encL m.ID++(K3 m.Session++K3 m.Payload)))
theorem ao8 {m:f3} (h:A0 m=true):hdM m∧txM m∧as0 m=true:=by
 simpa only [A0,Bool.and_eq_true,decide_eq_true_eq] using h
theorem bp2 {m:f3} (h:A0 m=true) (hp:m.HasPlan=true):Rt m.Plan:=by
 have:=(ao8 h).2.2
 rw [as0,hp] at this
 exact Z5.1 this
theorem dq3 {m:f3} (h:A0 m=true) (hp:m.HasPlan=false):m.Plan=v7:=by
 have:=(ao8 h).2.2
 rw [as0,hp] at this
 exact bY5.1 this
theorem ck7 {m:f3} (hf:ak8 m) (h:A0 m=true):as8 (ab9 m):=by
 obtain ⟨h1,h2,h3⟩:=ao8 h
 unfold hdM at h1
 have hu:=hf.up
 have e1:=ac6.2 (show-9223372036854775808≤m.From∧m.From≤9223372036854775807 by omega)
 have e2:=ac6.2 (show-9223372036854775808≤m.To∧m.To≤9223372036854775807 by omega)
 have e3:=ac6.2 (show-9223372036854775808≤m.Up∧m.Up≤9223372036854775807 by omega)
 have e4:=ac6.2 (show-9223372036854775808≤m.Code∧m.Code≤9223372036854775807 by omega)
 have e5:n8 .i64 (bif m.HasPlan then 1 else 0):=by cases m.HasPlan<;>exact ac6.2 (by decide)
 have hw:=hf.w
 intro x hx
 simp only [ab9,List.mem_cons,List.not_mem_nil,or_false] at hx
 rcases hx with rfl | rfl | rfl | rfl | rfl | rfl | rfl | rfl | rfl | rfl
 ·exact e1
 ·exact e2
 ·exact hw _ (by simp)
 ·exact hw _ (by simp)
 ·exact hw _ (by simp)
 ·exact hw _ (by simp)
 ·exact hw _ (by simp)
 ·exact e3
 ·exact e4
 ·exact e5
theorem dr4 (m:f3):s9 (bB7 m):=by
 unfold bB7
 cases m.HasPlan
 ·intro c hc;cases hc
 ·exact bK1 (ds6 _)
theorem dq0 {m:f3} (hf:ak8 m):s9 (ak5 m):=fun c hc=>by
 simp only [ak5,List.mem_append] at hc
 rcases hc with hc | hc | hc | hc | hc
 ·exact bo0 _ c hc
 ·exact dr4 m c hc
 ·exact bo0 _ c hc
 ·exact bK1 hf.ses c hc
 ·exact bK1 hf.pay c hc
theorem de9 {m:f3} (hf:ak8 m) (h:A0 m=true):(bB7 m).length≤1960:=by
 unfold bB7
 cases hp:m.HasPlan
 ·simp
 ·have h1:=cm3 hf.pl (bp2 h hp)
  have:=ba3 (s:=aF4 m.Plan) (by omega)
  simp only [cond_true];omega
theorem cW0 {m:f3} (h:A0 m=true):m.ID.length≤3∧m.Session.length≤64∧m.Payload.length≤1024:=by
 have:=(ao8 h).2.1
 unfold txM at this
 omega
theorem ck6 {m:f3} (hf:ak8 m) (h:A0 m=true):(ak5 m).length≤4400:=by
 have a:=ap6 (ck7 hf h) (by simp [ab9])
 have b:=de9 hf h
 have hi:=cW0 h
 have c:=ap6 hf.id (by omega)
 have d:=ba3 (s:=m.Session) (by omega)
 have e:=ba3 (s:=m.Payload) (by omega)
 simp only [ak5,List.length_append]
 omega
def dp7 (m:f3):Int×List Int×Int:=if A0 m=true then (m.Kind,ak5 m,0) else (0,[],51)
theorem dw8 {s:List Int} (h:s.length≤4096):dG3 s=(0,K3 s):=if_pos h
theorem dS9 {m:f3} (hs:m.Session.length≤64) (hq:m.Payload.length≤1024) (hk:0≤m.Kind∧m.Kind≤255) {b:List Int} (hb:b.length≤8000):
  Ev N4 (.s1 0 m b [m.Session,m.Payload]) (m.Kind,b++(K3 m.Session++K3 m.Payload),0):=by
 have n1:=ba3 (s:=m.Session) (by omega)
 have n2:=ba3 (s:=m.Payload) (by omega)
 have k1:=bN2 (s:=m.Session) (by simp only [G3];omega)
 have k2:=bN2 (s:=m.Payload) (by simp only [G3];omega)
 rw [dw8 (by omega)] at k1 k2
 refine .next (s' := .s1 1 m (b++K3 m.Session) [m.Session,m.Payload]) ?_ (.next (s' := .s1 2 m (b++K3 m.Session++K3 m.Payload) [m.Session,m.Payload]) ?_ (.done ?_))
 ·have hl:decide (((List.map (d8 .u8) b).length+(List.map (d8 .u8) (K3 m.Session)).length)*1≤i7)=true:=D1 (by simp only [List.length_map];omega)
  simp only [N4,aJ9,A1]
  simp only [show (0+(0:Int).toNat)=0 from rfl,List.getElem?_cons_zero,Option.bind_some,k1,hl]
  rfl
 ·have hl:decide (((List.map (d8 .u8) (b++K3 m.Session)).length+(List.map (d8 .u8) (K3 m.Payload)).length)*1≤i7)=true:=D1 (by simp only [List.length_map,List.length_append];omega)
  simp only [N4,aJ9,A1]
  simp only [show (0+(1:Int).toNat)=1 from rfl,List.getElem?_cons_succ,List.getElem?_cons_zero,Option.bind_some,k2,hl]
  rfl
 ·rw [←List.append_assoc]
  simp only [N4,aJ9,wU8 hk.1 hk.2]
  rfl
theorem dW5 {m:f3} (hf:ak8 m) (h:A0 m=true) {b:List Int} (hb:b.length≤7000):
  Ev N4 (.s2 m b) (m.Kind,b++(encL m.ID++(K3 m.Session++K3 m.Payload)),0):=by
 have hi:=cW0 h
 have hh:=(ao8 h).1
 unfold hdM at hh
 have c:=ap6 hf.id (by omega)
 have hl:decide (((List.map (d8 .u8) b).length+(List.map (d8 .u8) (encL m.ID)).length)*1≤i7)=true:=D1 (by simp only [List.length_map];omega)
 refine .next (s' := .s1 0 m (b++encL m.ID) [m.Session,m.Payload]) ?_ ?_
 ·simp only [N4,bn6,A1,aW8 hf.id (by omega),Option.bind_some,hl,cond_true]
 ·have:=dS9 (m:=m) (b:=b++encL m.ID) hi.2.1 hi.2.2 (by omega) (by simp only [List.length_append];omega)
  rw [List.append_assoc] at this
  exact this
theorem dU0 {m:f3} (hf:ak8 m):bO5 m=some (dp7 m):=by
 unfold dp7
 by_cases h:A0 m=true
 ·rw [if_pos h]
  have hi:=ck7 hf h
  have hu:=hf.up
  have hh:=(ao8 h).1
  unfold hdM at hh
  have hw:IntKind.i64.wrap m.Up=m.Up:=u7 (by omega) (by omega)
  have nl:=ap6 hi (by simp [ab9])
  refine u6 (.next (s' := .s3 m (ab9 m)) ?_ ?_)
  ·simp only [N4,aX2,bz6 hf.sh,h,Option.bind_some,Bool.not_true,cond_false,hw,ab9]
   cases m.HasPlan<;>rfl
  ·refine .next (s' := .s2 m (encL (ab9 m)++bB7 m)) ?_ ?_
   ·simp only [N4,bn7,aW8 hi (by simp [ab9]),Option.bind_some,A1]
    unfold bB7
    cases hp:m.HasPlan
    ·simp only [cond_false,List.append_nil]
    ·have rp:=bp2 h hp
     have pl:=cm3 hf.pl rp
     have tl:=ba3 (s:=aF4 m.Plan) (by omega)
     have e1:bL7 m.Plan=some (aF4 m.Plan,0):=by rw [ea1 hf.pl,dG8,if_pos (Z5.2 rp)]
     have e2:ab1 (aF4 m.Plan)=some (0,K3 (aF4 m.Plan)):=by rw [bN2 (by simp only [G3];omega),dw8 (by omega)]
     have hl:decide (((List.map (d8 .u8) (encL (ab9 m))).length+(List.map (d8 .u8) (K3 (aF4 m.Plan))).length)*1≤i7)=true:=D1 (by simp only [List.length_map];omega)
     simp only [cond_true,e1,e2,Option.bind_some,hl]
   ·have q:=de9 hf h
    have:=dW5 hf h (b:=encL (ab9 m)++bB7 m) (by simp only [List.length_append];omega)
    rw [List.append_assoc] at this
    exact this
 ·rw [if_neg h]
  refine u6 (.done ?_)
  simp only [N4,aX2,bz6 hf.sh,Bool.eq_false_iff.2 h,Option.bind_some,Bool.not_false,cond_true]
end Go.RX.L

namespace Go.RX.L
open Go Go.RX
def aT6:f3:=⟨0,0,0,0,0,0,0,0,0,0,false,v7,[],[],[]⟩
def withT (m:f3) (id s py:List Int):f3:=⟨m.Kind,m.From,m.To,m.Epoch,m.Ballot,m.Accepted,m.Nonce,m.Time,m.Up,m.Code,m.HasPlan,m.Plan,id,s,py⟩
def bd7 (l:List Int):Option (List Int×List Int×List Int):=match pL l with
 | .inl _=>none
 | .inr (id,k1)=>(match pT (l.drop k1) with
  | .inl _=>none
  | .inr (s,k2)=>(match pT (l.drop (k1+k2)) with
   | .inl _=>none
   | .inr (py,k3)=>if k1+k2+k3=l.length then some (id,s,py) else none))
def bG2 (m:f3) (l:List Int):f3×Int:=match bd7 l with
 | none=>(aT6,51)
 | some (id,s,py)=>if A0 (withT m id s py)=true then (withT m id s py,0) else (aT6,51)
theorem dP7 {l:List Int}{e:Int} (h:pL l= .inl e):bd7 l=none:=by simp only [bd7,h]
theorem dQ3 {l id:List Int}{k1:Nat}{e:Int} (h:pL l= .inr (id,k1)) (h2:pT (l.drop k1)= .inl e):bd7 l=none:=by simp only [bd7,h,h2]
theorem dR2 {l id s:List Int}{k1 k2:Nat}{e:Int} (h:pL l= .inr (id,k1)) (h2:pT (l.drop k1)= .inr (s,k2)) (h3:pT (l.drop (k1+k2))= .inl e):bd7 l=none:=by simp only [bd7,h,h2,h3]
theorem dl0 {l id s py:List Int}{k1 k2 k3:Nat} (h:pL l= .inr (id,k1)) (h2:pT (l.drop k1)= .inr (s,k2)) (h3:pT (l.drop (k1+k2))= .inr (py,k3)):bd7 l=if k1+k2+k3=l.length then some (id,s,py) else none:=by simp only [bd7,h,h2,h3]
theorem cN2 (x e:Int) (b:List Int) (h:(e !=0)=true):J0 ⟨⟨x,e⟩,b⟩=some ([],⟨⟨x,e⟩,b⟩):=by simp only [J0,h,cond_true]
theorem cd9 {b:List Int} (hb:s9 b) (hm:b.length≤G3) {at_:Nat} (h:at_≤b.length):ac4 ⟨⟨at_,0⟩,b⟩=some ((rL at_ (pL (b.drop at_))).1,⟨⟨(rL at_ (pL (b.drop at_))).2.1,(rL at_ (pL (b.drop at_))).2.2⟩,b⟩):=by
 simp only [ac4,bne_self_eq_false,cond_false,cc7 hb hm h,Option.bind_some]
theorem cG0 {b:List Int} (hb:s9 b) (hm:b.length≤G3) {at_:Nat} (h:at_≤b.length):J0 ⟨⟨at_,0⟩,b⟩=some ((rL at_ (pT (b.drop at_))).1,⟨⟨(rL at_ (pT (b.drop at_))).2.1,(rL at_ (pT (b.drop at_))).2.2⟩,b⟩):=by
 simp only [J0,bne_self_eq_false,cond_false,dU4 hb hm h,Option.bind_some]
theorem Shm.withT {m:f3} (h:Shm m) (id s py:List Int):Shm (withT m id s py):=⟨h.s,h.up,h.sup⟩
theorem pTe {l:List Int}{e:Int} (h:pT l= .inl e):(e !=0)=true:=bne_iff_ne.2 (ea8 h)
theorem dE4 {b:List Int} (hb:s9 b) (hm:b.length≤G3) {at_:Nat} (h:at_≤b.length) (b0:f3) {m:f3} (hs:Shm m):aD2 b b0 ⟨⟨at_,0⟩,b⟩ m=some (bG2 m (b.drop at_)):=by
 have bad:∀(z:f3),aQ8 true b0 z=some (aT6,51):=fun z=>rfl
 simp only [aD2,cd9 hb hm h,Option.bind_some]
 unfold bG2
 cases h1:pL (b.drop at_) with
 | inl e=>
  have he:=bV4 h1
  rw [dP7 h1]
  simp only [rL,cN2 _ _ _ he,Option.bind_some,he,cond_true,bad]
 | inr x=>
  obtain ⟨id,k1⟩:=x
  have l1:=cU8 hb h1
  have a1:at_+k1≤b.length:=by omega
  simp only [rL,cG0 hb hm a1,Option.bind_some]
  cases h2:pT (b.drop (at_+k1)) with
  | inl e=>
   have he:=pTe h2
   rw [dQ3 h1 (by rw [List.drop_drop];exact h2)]
   simp only [rL,cN2 _ _ _ he,Option.bind_some,he,cond_true,bad]
  | inr x=>
   obtain ⟨s,k2⟩:=x
   have l2:=(cz0 (bc1 hb _) h2).2.1
   rw [List.length_drop] at l2
   have a2:at_+k1+k2≤b.length:=by omega
   simp only [rL,cG0 hb hm a2,Option.bind_some]
   cases h3:pT (b.drop (at_+k1+k2)) with
   | inl e=>
    have he:=pTe h3
    rw [dR2 h1 (by rw [List.drop_drop];exact h2) (by rw [List.drop_drop,←Nat.add_assoc];exact h3)]
    simp only [rL,he,cond_true,bad]
   | inr x=>
    obtain ⟨py,k3⟩:=x
    have l3:=(cz0 (bc1 hb _) h3).2.1
    rw [List.length_drop] at l3
    rw [dl0 h1 (by rw [List.drop_drop];exact h2) (by rw [List.drop_drop,←Nat.add_assoc];exact h3)]
    simp only [rL,bne_self_eq_false,cond_false,List.length_map,List.length_drop]
    by_cases hq:k1+k2+k3=b.length-at_
    ·have c1:(((at_+k1+k2+k3:Nat):Int) !=((b.length:Nat):Int))=false:=by rw [show at_+k1+k2+k3=b.length by omega];simp
     have hr:=bz6 (hs.withT id s py)
     rw [c1,if_pos hq]
     show (Option.bind (an5 (withT m id s py)) fun y6=>aQ8 (!y6) b0 (withT m id s py))=_
     rw [hr]
     simp only [Option.bind_some]
     cases hh:A0 (withT m id s py)<;>rfl
    ·have c1:(((at_+k1+k2+k3:Nat):Int) !=((b.length:Nat):Int))=true:=bne_iff_ne.2 (by omega)
     rw [c1,if_neg hq]
     exact bad (withT m id s py)
def aJ7 (k:Int) (l:List Int) (p:Plan):f3:=⟨k,l.getD 0 0,l.getD 1 0,l.getD 2 0,l.getD 3 0,l.getD 4 0,l.getD 5 0,l.getD 6 0,l.getD 7 0,l.getD 8 0,l.getD 9 0==1,p,[],[],[]⟩
def bx3 (l:List Int):Prop:=l.length=10∧0≤l.getD 0 0∧l.getD 0 0≤255∧0≤l.getD 1 0∧l.getD 1 0≤255∧0≤l.getD 7 0∧l.getD 7 0≤65535∧0≤l.getD 8 0∧l.getD 8 0≤65535∧0≤l.getD 9 0∧l.getD 9 0≤1
instance (l:List Int):Decidable (bx3 l):=by unfold bx3;infer_instance
def bV7 (k:Int) (l b:List Int):f3×Int:=if l.getD 9 0=1 then (match pT b with
  | .inl _=>(aT6,51)
  | .inr (t,j)=>if (ad1 t).2=0 then bG2 (aJ7 k l (ad1 t).1) (b.drop j) else (aT6,51))
 else bG2 (aJ7 k l v7) b
def ofM (k:Int) (b:List Int):f3×Int:=match pL b with
 | .inl _=>(aT6,51)
 | .inr (l,n)=>if bx3 l then bV7 k l (b.drop n) else (aT6,51)
theorem dK8 (k:Int) (l:List Int):Shm (aJ7 k l v7):=⟨⟨by simp [aJ7,v7],by simp [aJ7,v7]⟩,G0.2 (by simp [aJ7,v7]),G0.2 (by simp [aJ7,v7])⟩
theorem dR8 {t:List Int} (ht:s9 t) (h:(ad1 t).2=0) (k:Int) (l:List Int):Shm (aJ7 k l (ad1 t).1):=by
 obtain ⟨h1,h2,h3⟩:=dF8 ht (p:=(ad1 t).1) (by rw [←h])
 have hr:=Z5.1 h1
 have a1:=h2.up
 have a2:=h2.sup
 have a3:=hr.up
 have a4:=hr.sup
 exact ⟨h2.s,(G0.2 (by omega):n8 .u64 (ad1 t).1.Up),(G0.2 (by omega):n8 .u64 (ad1 t).1.Sup)⟩
theorem dX8 {t l:List Int}{j:Nat} (hb:s9 l) (h:pT l= .inr (t,j)):t.length≤G3:=by
 have:=(cz0 hb h).2.2.2.1
 simp only [G3];omega
theorem ea4 {k:Int} (hk:0≤k∧k≤255) {b:List Int} (hb:s9 b) (hm:b.length≤G3) {at_:Nat} (h:at_≤b.length) {l:List Int} (hl:bx3 l) (b0:f3):P5 k b l false b0 ⟨⟨at_,0⟩,b⟩=some (bV7 k l (b.drop at_)):=by
 obtain ⟨hlen,hw⟩:=hl
 match l,hlen,hw with
 | [a0,a1,a2,a3,a4,a5,a6,a7,a8,a9],_,hw=>
  simp only [List.getD_cons_zero,List.getD_cons_succ] at hw
  have wk:IntKind.i64.wrap k=k:=u7 (by omega) (by omega)
  have wu:IntKind.u64.wrap a7=a7:=cD5 (by omega) (by omega)
  have e:P5 k b [a0,a1,a2,a3,a4,a5,a6,a7,a8,a9] false b0 ⟨⟨at_,0⟩,b⟩=(bif (a9==1) then ((J0 ⟨⟨at_,0⟩,b⟩).bind fun y33=>((bK3 y33.1).bind fun y34=>(bif ((y34.2:Int) !=0) then some (aT6,51) else
    aD2 b b0 y33.2 ⟨IntKind.i64.wrap k,a0,a1,a2,a3,a4,a5,a6,IntKind.u64.wrap a7,a8,a9==1,y34.1,[],[],[]⟩))) else aD2 b b0 ⟨⟨at_,0⟩,b⟩ ⟨IntKind.i64.wrap k,a0,a1,a2,a3,a4,a5,a6,IntKind.u64.wrap a7,a8,a9==1,v7,[],[],[]⟩):=rfl
  rw [e,wk,wu]
  unfold bV7
  simp only [List.getD_cons_zero,List.getD_cons_succ]
  by_cases h9:a9=1
  ·have c9:(a9==1)=true:=beq_iff_eq.2 h9
   rw [if_pos h9]
   have hd:∀p,(⟨k,a0,a1,a2,a3,a4,a5,a6,a7,a8,a9==1,p,[],[],[]⟩:f3)=aJ7 k [a0,a1,a2,a3,a4,a5,a6,a7,a8,a9] p:=fun p=>rfl
   simp only [hd]
   rw [c9,cond_true,cG0 hb hm h]
   simp only [Option.bind_some]
   cases h2:pT (b.drop at_) with
   | inl e=>
    have he:=pTe h2
    have g:=dD8 (b:= []) (fun c hc=>by cases hc) (by simp)
    have g0:ad1 []=(v7,41):=by
     have:aL5 []=none:=by decide
     simp only [ad1,this]
    simp only [rL,g,g0,Option.bind_some]
    rfl
   | inr x=>
    obtain ⟨s,j⟩:=x
    obtain ⟨d1,d2,d3,d4,d5⟩:=cz0 (bc1 hb at_) h2
    rw [List.length_drop] at d2
    have g:=dD8 d5 (dX8 (bc1 hb at_) h2)
    simp only [rL,g,Option.bind_some]
    by_cases hq:(ad1 s).2=0
    ·rw [if_pos hq,show ((ad1 s).2 !=0)=false by rw [hq];rfl,cond_false,dE4 hb hm (by omega) b0 (dR8 d5 hq k _),List.drop_drop]
    ·rw [if_neg hq,show ((ad1 s).2 !=0)=true from bne_iff_ne.2 hq,cond_true]
  ·have c9:(a9==1)=false:=beq_eq_false_iff_ne.2 h9
   rw [if_neg h9]
   have hd:∀p,(⟨k,a0,a1,a2,a3,a4,a5,a6,a7,a8,a9==1,p,[],[],[]⟩:f3)=aJ7 k [a0,a1,a2,a3,a4,a5,a6,a7,a8,a9] p:=fun p=>rfl
   simp only [hd]
   rw [c9,cond_false,dE4 hb hm h b0 (dK8 k _)]
theorem ee5 {k:Int} (hk:0≤k∧k≤255) {b:List Int} (hb:s9 b) (hm:b.length≤G3):bg5 k b=some (ofM k b):=by
 have bad:∀l b0 r,P5 k b l true b0 r=some (aT6,51):=fun _ _ _=>rfl
 have hr:=cd9 hb hm (Nat.zero_le b.length)
 simp only [Int.natCast_zero,List.drop_zero] at hr
 unfold ofM
 cases h1:pL b with
 | inl e=>
  have he:=bV4 h1
  rw [h1] at hr
  simp only [bg5]
  rw [show (⟨⟨0,0⟩,b⟩:m9)=⟨⟨((0:Nat):Int),0⟩,b⟩ from rfl]
  rw [cd9 hb hm (Nat.zero_le b.length),List.drop_zero,h1]
  simp only [rL,Option.bind_some,he,cond_true,bad]
 | inr x=>
  obtain ⟨l,n⟩:=x
  have hl:=cU8 hb (at_:=0) (b:=b) h1
  simp only [bg5]
  rw [show (⟨⟨0,0⟩,b⟩:m9)=⟨⟨((0:Nat):Int),0⟩,b⟩ from rfl]
  rw [cd9 hb hm (Nat.zero_le b.length),List.drop_zero,h1]
  simp only [rL,Option.bind_some,bne_self_eq_false,cond_false,List.length_map,Nat.zero_add]
  by_cases h10:l.length=10
  ·rw [show (((l.length:Nat):Int) !=10)=false by rw [h10];rfl]
   have o1:∀b0,bx3 l→P5 k b l false b0 ⟨⟨((n:Nat):Int),0⟩,b⟩=some (bV7 k l (b.drop n)):=fun b0 hw=>ea4 hk hb hm (by omega) hw b0
   match l,h10,o1 with
   | [a0,a1,a2,a3,a4,a5,a6,a7,a8,a9],_,o1=>
    have ew:bx3 [a0,a1,a2,a3,a4,a5,a6,a7,a8,a9]↔0≤a0∧a0≤255∧0≤a1∧a1≤255∧0≤a7∧a7≤65535∧0≤a8∧a8≤65535∧0≤a9∧a9≤1:=⟨fun h=>h.2,fun h=>⟨rfl,h⟩⟩
    show (bif decide (A3 (A3 (A3 (A3 a0 a1) a7) a8) a9<0) then P5 k b [a0,a1,a2,a3,a4,a5,a6,a7,a8,a9] true _ _ else bif decide (u9 a0 a1>255) then P5 k b [a0,a1,a2,a3,a4,a5,a6,a7,a8,a9] true _ _ else
     bif decide (u9 a7 a8≥65536) then P5 k b [a0,a1,a2,a3,a4,a5,a6,a7,a8,a9] true _ _ else P5 k b [a0,a1,a2,a3,a4,a5,a6,a7,a8,a9] (decide (a9>1)) _ _)=_
    have mn:A3 (A3 (A3 (A3 a0 a1) a7) a8) a9<0↔a0<0∨a1<0∨a7<0∨a8<0∨a9<0:=by
     rw [show A3 (A3 (A3 (A3 a0 a1) a7) a8) a9=A3 (A3 (A3 (A3 a0 a1) a7) a8) a9 from rfl,bT7]
     constructor
     ·rintro (h | h | h)
      ·rw [bT7] at h;omega
      ·omega
      ·omega
     ·intro h
      rw [bT7];omega
    by_cases q1:A3 (A3 (A3 (A3 a0 a1) a7) a8) a9<0
    ·rw [decide_eq_true q1,cond_true,bad,if_neg (by rw [ew];rw [mn] at q1;omega)]
    ·rw [decide_eq_false q1,cond_false]
     by_cases q2:u9 a0 a1>255
     ·rw [decide_eq_true q2,cond_true,bad,if_neg (by rw [ew];rw [cU4] at q2;omega)]
     ·rw [decide_eq_false q2,cond_false]
      by_cases q3:u9 a7 a8≥65536
      ·rw [decide_eq_true q3,cond_true,bad,if_neg (by rw [ew];rw [dP1] at q3;omega)]
      ·rw [decide_eq_false q3,cond_false]
       by_cases q4:a9>1
       ·rw [decide_eq_true q4,bad,if_neg (by rw [ew];omega)]
       ·have hw:bx3 [a0,a1,a2,a3,a4,a5,a6,a7,a8,a9]:=by
         rw [ew];rw [mn] at q1;rw [cU4] at q2;rw [dP1] at q3;omega
        rw [decide_eq_false q4,o1 _ hw,if_pos hw]
  ·rw [show (((l.length:Nat):Int) !=10)=true from bne_iff_ne.2 (by omega),cond_true,bad,if_neg (fun h=>h10 h.1)]
end Go.RX.L

namespace Go.RX.L
open Go Go.RX
/-! ### the document's reader -/
end Go.RX.L

namespace Go.RX.L
open Go Go.RX
/-! ### frames -/
/-! ### what is written is read -/
theorem dw2 {m:f3} (hf:ak8 m) (h:A0 m=true) (rest:List Int):bd7 (encL m.ID++(K3 m.Session++(K3 m.Payload++rest)))=if rest= [] then some (m.ID,m.Session,m.Payload) else none:=by
 have hi:=cW0 h
 have h1:=bU6 hf.id (by omega) (K3 m.Session++(K3 m.Payload++rest))
 have h2:=cV8 (s:=m.Session) (by omega) (K3 m.Payload++rest)
 have h3:=cV8 (s:=m.Payload) (by omega) rest
 rw [dl0 h1 (by rw [List.drop_left];exact h2) (by rw [←List.drop_drop,List.drop_left,List.drop_left];exact h3)]
 simp only [List.length_append]
 cases rest with
 | nil=>rw [if_pos (by simp;omega),if_pos rfl]
 | cons x r=>rw [if_neg (by simp;omega),if_neg (by simp)]
theorem dD2 {m:f3} (hf:ak8 m) (h:A0 m=true):bx3 (ab9 m):=by
 have hh:=(ao8 h).1
 unfold hdM at hh
 have hu:=hf.up
 refine ⟨rfl,?_⟩
 show 0≤m.From∧m.From≤255∧0≤m.To∧m.To≤255∧0≤m.Up∧m.Up≤65535∧0≤m.Code∧m.Code≤65535∧0≤(bif m.HasPlan then (1:Int) else 0)∧(bif m.HasPlan then (1:Int) else 0)≤1
 cases m.HasPlan<;>simp only [cond_true,cond_false]<;>omega
theorem dK0 {m:f3} (hf:ak8 m) (h:A0 m=true) (k:Int) (rest:List Int):ofM k (ak5 m++rest)=if rest= []∧A0 ⟨k,m.From,m.To,m.Epoch,m.Ballot,m.Accepted,m.Nonce,m.Time,m.Up,m.Code,m.HasPlan,m.Plan,m.ID,m.Session,m.Payload⟩=true then (⟨k,m.From,m.To,m.Epoch,m.Ballot,m.Accepted,m.Nonce,m.Time,m.Up,m.Code,m.HasPlan,m.Plan,m.ID,m.Session,m.Payload⟩,0) else (aT6,51):=by
 have e0:ak5 m++rest=encL (ab9 m)++(bB7 m++(encL m.ID++(K3 m.Session++(K3 m.Payload++rest)))):=by simp [ak5]
 rw [e0]
 unfold ofM
 rw [bU6 (ck7 hf h) (by simp [ab9])]
 simp only [if_pos (dD2 hf h),List.drop_left]
 unfold bV7
 have fin:∀p,p=m.Plan→(ab9 m).getD 9 0=(bif m.HasPlan then (1:Int) else 0)→bG2 (aJ7 k (ab9 m) p) (encL m.ID++(K3 m.Session++(K3 m.Payload++rest)))=if rest= []∧A0 ⟨k,m.From,m.To,m.Epoch,m.Ballot,m.Accepted,m.Nonce,m.Time,m.Up,m.Code,m.HasPlan,m.Plan,m.ID,m.Session,m.Payload⟩=true then (⟨k,m.From,m.To,m.Epoch,m.Ballot,m.Accepted,m.Nonce,m.Time,m.Up,m.Code,m.HasPlan,m.Plan,m.ID,m.Session,m.Payload⟩,0) else (aT6,51):=by
  intro p hp h9
  have hb:withT (aJ7 k (ab9 m) p) m.ID m.Session m.Payload=⟨k,m.From,m.To,m.Epoch,m.Ballot,m.Accepted,m.Nonce,m.Time,m.Up,m.Code,m.HasPlan,m.Plan,m.ID,m.Session,m.Payload⟩:=by
   subst hp
   have:((ab9 m).getD 9 0==1)=m.HasPlan:=by rw [h9];cases m.HasPlan<;>rfl
   simp only [withT,aJ7,this]
   rfl
  unfold bG2
  rw [dw2 hf h]
  by_cases hr:rest= []
  ·rw [if_pos hr]
   simp only [hb,hr,true_and]
  ·rw [if_neg hr]
   simp only [hr,false_and,if_false]
 unfold bB7
 cases hp:m.HasPlan with
 | false=>
  have h9:(ab9 m).getD 9 0=0:=by show (bif m.HasPlan then (1:Int) else 0)=0;rw [hp];rfl
  rw [if_neg (by rw [h9];decide)]
  have:=fin v7 (dq3 h hp).symm rfl
  rw [hp] at this
  exact this
 | true=>
  have h9:(ab9 m).getD 9 0=1:=by show (bif m.HasPlan then (1:Int) else 0)=1;rw [hp];rfl
  have rp:=bp2 h hp
  have pl:=cm3 hf.pl rp
  rw [if_pos h9,cond_true,cV8 (by omega)]
  have g:=dL7 hf.pl (Z5.2 rp)
  simp only [g,if_true,List.drop_left]
  have:=fin m.Plan rfl rfl
  rw [hp] at this
  exact this
theorem dW6 {m:f3} (hf:ak8 m) (h:A0 m=true):ofM m.Kind (ak5 m)=(m,0):=by
 have:=dK0 hf h m.Kind []
 rw [List.append_nil] at this
 rw [this,if_pos ⟨rfl,h⟩]
/-! ### alike? -/
end Go.RX.L

namespace Go.RX.L
open Go Go.RX
theorem dn1 {m:f3} (h:A0 m=true):0≤m.Kind∧m.Kind≤255:=by
 have hh:=(ao8 h).1
 unfold hdM at hh
 omega
/-! ### the head -/
theorem dh7 {m:f3} (hf:ak8 m) (h:A0 m=true):s9 (H0 m.Kind (ak5 m)):=by
 have hl:=ck6 hf h
 exact bM5 (dn1 h) (dq0 hf) (by omega)
end Go.RX.L

namespace Go.RX.L
open Go Go.RX Go.Proofs
attribute [local irreducible] i0
noncomputable def ca5 (b1:List Int) (fuse:Int) (down:Bool) (b3 y:List Int):D×f4:=(.tup [],[some ⟨1,true,[[.ptr 2 0 0]]⟩,some ⟨1,false,[[.sl false 1 (List.map (d8 .u8) b1)]]⟩,some ⟨4,true,[[(f6 3 (List.map (d8 .u8) b3)),(f6 5 (List.map (d8 .u8) y)),.int .i64 fuse,.bool down]]⟩,some ⟨1,false,(List.map (d8 .u8) b3)⟩,none,some ⟨1,false,(List.map (d8 .u8) y)⟩])
noncomputable def Y5 (b1:List Int) (fuse:Int) (down:Bool) (b3 b4:List Int):Option (List Int):=(bif (decide (((List.map (d8 .u8) b4).length+(List.map (d8 .u8) b1).length)*1≤i7)) then (some (b4++b1)) else none)
theorem aY6 {b1:List Int}{fuse:Int}{down:Bool}{b3 b4 r:List Int} (h:Y5 b1 fuse down b3 b4=some r):i4 E 125 [.ptr 0 0 0,.ptr 1 0 0] [some ⟨1,true,[[.ptr 2 0 0]]⟩,some ⟨1,false,[[.sl false 1 (List.map (d8 .u8) b1)]]⟩,some ⟨4,true,[[(f6 3 (List.map (d8 .u8) b3)),(f6 4 (List.map (d8 .u8) b4)),.int .i64 fuse,.bool down]]⟩,some ⟨1,false,(List.map (d8 .u8) b3)⟩,some ⟨1,false,(List.map (d8 .u8) b4)⟩] (Rs (ca5 b1 fuse down b3) r):=so (fn:=Tryz.f125) (k:=true) (m:=5) h<| by
 intro r h;unfold Y5 at h
 refine zn 5 h fun h=> ?_
 refine za 0 (d8 .u8) b4 b1 ?_
 exact zu 3 h
end Go.RX.L

namespace Go.RX.L
open Go Go.RX Go.Proofs
attribute [local irreducible] i0
noncomputable def ad8:=p7 (q0 Tryz.f86)
noncomputable def ax9 (b2 b3:List Int) (y:Int×Int×Bool×(List Int)):D×f4:=(.int .i64 y.1,[some ⟨4,true,[[(f6 5 (List.map (d8 .u8) b3)),(f6 6 (List.map (d8 .u8) y.2.2.2)),.int .i64 y.2.1,.bool y.2.2.1]]⟩,some ⟨1,true,[[.ptr 0 0 0]]⟩,some ⟨1,false,[[.sl false 1 (List.map (d8 .u8) b2)]]⟩,none,none,some ⟨1,false,(List.map (d8 .u8) b3)⟩,some ⟨1,false,(List.map (d8 .u8) y.2.2.2)⟩])
abbrev ay1 (fuse:Int) (down:Bool) (b2 b3 b4:List Int):=AOk E (Cx.of Tryz.f86 true 5) (ax9 b2 b3)
noncomputable def bg0 (fuse:Int) (down:Bool) (b2 b3 b4:List Int) (fuse2:Int) (down2:Bool):M:=⟨[.code (ad8 [1,1])],[(0,.ptr 0 0 0),(1,.fn 125 [] [.ptr 1 0 0,.ptr 2 0 0])],[some ⟨4,true,[[(f6 3 (List.map (d8 .u8) b3)),(f6 4 (List.map (d8 .u8) b4)),.int .i64 fuse2,.bool down2]]⟩,some ⟨1,true,[[.ptr 0 0 0]]⟩,some ⟨1,false,[[.sl false 1 (List.map (d8 .u8) b2)]]⟩,some ⟨1,false,(List.map (d8 .u8) b3)⟩,some ⟨1,false,(List.map (d8 .u8) b4)⟩]⟩
noncomputable def C5 (fuse:Int) (down:Bool) (b2 b3 b4:List Int) (fuse2:Int) (down2:Bool):Option (Int×Int×Bool×(List Int)):=(bif down2 then (some (61,fuse2,down2,b4)) else (bif (decide ((fuse2:Int)>0)) then ((Y5 b2 (IntKind.i64.wrap (fuse2-1)) down2 b3 b4).bind fun y3=>(some (0,(IntKind.i64.wrap (fuse2-1)),down2,y3))) else ((Y5 b2 fuse2 down2 b3 b4).bind fun y4=>(some (0,fuse2,down2,y4)))))
theorem ar1 {fuse down b2 b3 b4 fuse2 down2}:ay1 fuse down b2 b3 b4 (bg0 fuse down b2 b3 b4 fuse2 down2) (C5 fuse down b2 b3 b4 fuse2 down2):=by
 intro r h;unfold C5 at h
 refine zs 10 h (fun h=> ?_) fun h=> ?_
 ·
  refine zf 4 [.mv 3,.mv 4] ?_
  exact zu 1 h
 refine zs 12 h (fun h=> ?_) fun h=> ?_
 ·
  refine zc 17 [] h (fun _=>aY6) fun y3 h=> ?_
  refine zf 5 [.mv 3] ?_
  exact zu 1 h
 refine zc 5 [] h (fun _=>aY6) fun y4 h=> ?_
 refine zf 5 [.mv 3] ?_
 exact zu 1 h
noncomputable def bf6 (fuse:Int) (down:Bool) (b2 b3 b4:List Int) (t16:Bool):M:=⟨[.code (ad8 [1,0,1]),.code (ad8 [1,1])],[(0,.ptr 0 0 0),(1,.fn 125 [] [.ptr 1 0 0,.ptr 2 0 0]),(16,.bool t16)],[some ⟨4,true,[[(f6 3 (List.map (d8 .u8) b3)),(f6 4 (List.map (d8 .u8) b4)),.int .i64 fuse,.bool down]]⟩,some ⟨1,true,[[.ptr 0 0 0]]⟩,some ⟨1,false,[[.sl false 1 (List.map (d8 .u8) b2)]]⟩,some ⟨1,false,(List.map (d8 .u8) b3)⟩,some ⟨1,false,(List.map (d8 .u8) b4)⟩]⟩
noncomputable def B9 (fuse:Int) (down:Bool) (b2 b3 b4:List Int) (t16:Bool):Option (Int×Int×Bool×(List Int)):=(bif t16 then (C5 fuse down b2 b3 b4 (-1) true) else (C5 fuse down b2 b3 b4 fuse down))
theorem ar2 {fuse down b2 b3 b4 t16}:ay1 fuse down b2 b3 b4 (bf6 fuse down b2 b3 b4 t16) (B9 fuse down b2 b3 b4 t16):=by
 intro r h;unfold B9 at h
 refine zs 1 h (fun h=> ?_) fun h=> ?_
 ·
  exact zg 14 (ar1 h)
 exact zg 1 (ar1 h)
noncomputable def U3 (fuse:Int) (down:Bool) (b2 b3 b4:List Int):Option (Int×Int×Bool×(List Int)):=(bif (!down) then (B9 fuse down b2 b3 b4 ((fuse:Int)==0)) else (B9 fuse down b2 b3 b4 false))
theorem bg4 {fuse:Int}{down:Bool}{b2 b3 b4:List Int}{r:Int×Int×Bool×(List Int)} (h:U3 fuse down b2 b3 b4=some r):i4 E 86 [.ptr 0 0 0,.fn 125 [] [.ptr 1 0 0,.ptr 2 0 0]] [some ⟨4,true,[[(f6 3 (List.map (d8 .u8) b3)),(f6 4 (List.map (d8 .u8) b4)),.int .i64 fuse,.bool down]]⟩,some ⟨1,true,[[.ptr 0 0 0]]⟩,some ⟨1,false,[[.sl false 1 (List.map (d8 .u8) b2)]]⟩,some ⟨1,false,(List.map (d8 .u8) b3)⟩,some ⟨1,false,(List.map (d8 .u8) b4)⟩] (Rs (ax9 b2 b3) r):=so (fn:=Tryz.f86) (k:=true) (m:=5) h<| by
 intro r h;unfold U3 at h
 refine zs 15 h (fun h=> ?_) fun h=> ?_
 ·
  exact zg 12 (ar2 h)
 exact zg 11 (ar2 h)
end Go.RX.L

namespace Go.RX.L
open Go Go.RX Go.Proofs
attribute [local irreducible] i0
noncomputable def cl3 (b1:List Int) (y:Int×Int×Bool×(List Int)):D×f4:=(.int .i64 y.1,[some ⟨4,true,[[(f6 3 (List.map (d8 .u8) b1)),(f6 4 (List.map (d8 .u8) y.2.2.2)),.int .i64 y.2.1,.bool y.2.2.1]]⟩,none,none,some ⟨1,false,(List.map (d8 .u8) b1)⟩,some ⟨1,false,(List.map (d8 .u8) y.2.2.2)⟩])
noncomputable def av3 (kind:Int) (body:List Int) (fuse:Int) (down:Bool) (b1 b2:List Int):Option (Int×Int×Bool×(List Int)):=((by4 kind body).bind fun y1=>(bif ((y1.2:Int) !=0) then (some (y1.2,fuse,down,b2)) else ((U3 fuse down y1.1 b1 b2).bind fun y3=>(some (y3.1,y3.2.1,y3.2.2.1,y3.2.2.2)))))
theorem cf2 {kind:Int}{body:List Int}{fuse:Int}{down:Bool}{b1 b2:List Int}{r:Int×Int×Bool×(List Int)} (h:av3 kind body fuse down b1 b2=some r):i4 E 93 [.ptr 0 0 0,.int .u8 kind,.sl false 1 (List.map (d8 .u8) body)] [some ⟨4,true,[[(f6 1 (List.map (d8 .u8) b1)),(f6 2 (List.map (d8 .u8) b2)),.int .i64 fuse,.bool down]]⟩,some ⟨1,false,(List.map (d8 .u8) b1)⟩,some ⟨1,false,(List.map (d8 .u8) b2)⟩] (Rs (cl3 b1) r):=so (fn:=Tryz.f93) (k:=true) (m:=3) h<| by
 intro r h;unfold av3 at h
 refine zc 10 [] h (fun _=>cY2) fun y1 h=> ?_
 refine zs 16 h (fun h=> ?_) fun h=> ?_
 ·
  refine zf 5 [.mv 1,.mv 2] ?_
  exact zu 1 h
 refine zc 7 [] h (fun _=>bg4) fun y3 h=> ?_
 exact zu 3 h
end Go.RX.L

namespace Go.RX.L
open Go Go.RX Go.Proofs
attribute [local irreducible] i0
noncomputable def cm8 (fuse:Int) (down:Bool) (b3:List Int) (y:(List Int)×(List Int)):D×f4:=(.tup [],[some ⟨1,true,[[.ptr 1 0 0]]⟩,some ⟨4,true,[[(f6 4 (List.map (d8 .u8) y.1)),(f6 5 (List.map (d8 .u8) y.2)),.int .i64 fuse,.bool down]]⟩,none,some ⟨1,false,(List.map (d8 .u8) b3)⟩,some ⟨1,false,(List.map (d8 .u8) y.1)⟩,some ⟨1,false,(List.map (d8 .u8) y.2)⟩])
noncomputable def ai2 (fuse:Int) (down:Bool) (b2 b3:List Int):Option ((List Int)×(List Int)):=(bif (decide (((List.map (d8 .u8) b2).length+(List.take ((List.map (d8 .u8) b3).length) (List.drop 0 (List.map (d8 .u8) b3))).length)*1≤i7)) then (some ((b2++b3),[])) else none)
theorem bj8 {fuse:Int}{down:Bool}{b2 b3:List Int}{r:(List Int)×(List Int)} (h:ai2 fuse down b2 b3=some r):i4 E 126 [.ptr 0 0 0] [some ⟨1,true,[[.ptr 1 0 0]]⟩,some ⟨4,true,[[(f6 2 (List.map (d8 .u8) b2)),(f6 3 (List.map (d8 .u8) b3)),.int .i64 fuse,.bool down]]⟩,some ⟨1,false,(List.map (d8 .u8) b2)⟩,some ⟨1,false,(List.map (d8 .u8) b3)⟩] (Rs (cm8 fuse down b3) r):=so (fn:=Tryz.f126) (k:=true) (m:=4) h<| by
 intro r h;unfold ai2 at h
 refine zm 7 (b:=(Nat.beq ((List.take ((List.map (d8 .u8) b3).length) (List.drop 0 (List.map (d8 .u8) b3))).length) ((List.map (d8 .u8) b3).length))) (by simp) ?_
 refine zn 0 h fun h=> ?_
 refine zm 0 (b:=(Nat.ble (0+(List.map (d8 .u8) b2).length) ((List.map (d8 .u8) b2).length))) (v6 _) ?_
 refine zw 0 (a:=(List.take ((List.map (d8 .u8) b2).length) (List.drop 0 (List.map (d8 .u8) b2))++(List.take ((List.map (d8 .u8) b3).length) (List.drop 0 (List.map (d8 .u8) b3))))) (b:=(List.map (d8 .u8) (b2++b3))) (by simp only [A1,E8,List.map_append,List.map_take,List.map_drop]) ?_
 refine zf 4 [.matc 1 0 1 1] ?_
 exact zu 1 h
end Go.RX.L

namespace Go.RX.L
open Go Go.RX Go.Proofs
attribute [local irreducible] i0
noncomputable def aj7:=p7 (q0 Tryz.f86)
noncomputable def aF3 (y:Int×Int×Bool×(List Int)×(List Int)):D×f4:=(.int .i64 y.1,[some ⟨4,true,[[(f6 4 (List.map (d8 .u8) y.2.2.2.1)),(f6 5 (List.map (d8 .u8) y.2.2.2.2)),.int .i64 y.2.1,.bool y.2.2.1]]⟩,some ⟨1,true,[[.ptr 0 0 0]]⟩,none,none,some ⟨1,false,(List.map (d8 .u8) y.2.2.2.1)⟩,some ⟨1,false,(List.map (d8 .u8) y.2.2.2.2)⟩])
abbrev aH1 (fuse:Int) (down:Bool) (b2 b3:List Int):=AOk E (Cx.of Tryz.f86 true 4) aF3
noncomputable def bo7 (fuse:Int) (down:Bool) (b2 b3:List Int) (fuse2:Int) (down2:Bool):M:=⟨[.code (aj7 [1,1])],[(0,.ptr 0 0 0),(1,.fn 126 [] [.ptr 1 0 0])],[some ⟨4,true,[[(f6 2 (List.map (d8 .u8) b2)),(f6 3 (List.map (d8 .u8) b3)),.int .i64 fuse2,.bool down2]]⟩,some ⟨1,true,[[.ptr 0 0 0]]⟩,some ⟨1,false,(List.map (d8 .u8) b2)⟩,some ⟨1,false,(List.map (d8 .u8) b3)⟩]⟩
noncomputable def E2 (fuse:Int) (down:Bool) (b2 b3:List Int) (fuse2:Int) (down2:Bool):Option (Int×Int×Bool×(List Int)×(List Int)):=(bif down2 then (some (61,fuse2,down2,b2,b3)) else (bif (decide ((fuse2:Int)>0)) then ((ai2 (IntKind.i64.wrap (fuse2-1)) down2 b2 b3).bind fun y3=>(some (0,(IntKind.i64.wrap (fuse2-1)),down2,y3.1,y3.2))) else ((ai2 fuse2 down2 b2 b3).bind fun y4=>(some (0,fuse2,down2,y4.1,y4.2)))))
theorem av6 {fuse down b2 b3 fuse2 down2}:aH1 fuse down b2 b3 (bo7 fuse down b2 b3 fuse2 down2) (E2 fuse down b2 b3 fuse2 down2):=by
 intro r h;unfold E2 at h
 refine zs 10 h (fun h=> ?_) fun h=> ?_
 ·
  refine zf 4 [.mv 2,.mv 3] ?_
  exact zu 1 h
 refine zs 12 h (fun h=> ?_) fun h=> ?_
 ·
  refine zc 17 [] h (fun _=>bj8) fun y3 h=> ?_
  refine zf 5 [.mv 3] ?_
  exact zu 1 h
 refine zc 5 [] h (fun _=>bj8) fun y4 h=> ?_
 refine zf 5 [.mv 3] ?_
 exact zu 1 h
noncomputable def bn5 (fuse:Int) (down:Bool) (b2 b3:List Int) (t16:Bool):M:=⟨[.code (aj7 [1,0,1]),.code (aj7 [1,1])],[(0,.ptr 0 0 0),(1,.fn 126 [] [.ptr 1 0 0]),(16,.bool t16)],[some ⟨4,true,[[(f6 2 (List.map (d8 .u8) b2)),(f6 3 (List.map (d8 .u8) b3)),.int .i64 fuse,.bool down]]⟩,some ⟨1,true,[[.ptr 0 0 0]]⟩,some ⟨1,false,(List.map (d8 .u8) b2)⟩,some ⟨1,false,(List.map (d8 .u8) b3)⟩]⟩
noncomputable def E3 (fuse:Int) (down:Bool) (b2 b3:List Int) (t16:Bool):Option (Int×Int×Bool×(List Int)×(List Int)):=(bif t16 then (E2 fuse down b2 b3 (-1) true) else (E2 fuse down b2 b3 fuse down))
theorem av5 {fuse down b2 b3 t16}:aH1 fuse down b2 b3 (bn5 fuse down b2 b3 t16) (E3 fuse down b2 b3 t16):=by
 intro r h;unfold E3 at h
 refine zs 1 h (fun h=> ?_) fun h=> ?_
 ·
  exact zg 14 (av6 h)
 exact zg 1 (av6 h)
noncomputable def Z8 (fuse:Int) (down:Bool) (b2 b3:List Int):Option (Int×Int×Bool×(List Int)×(List Int)):=(bif (!down) then (E3 fuse down b2 b3 ((fuse:Int)==0)) else (E3 fuse down b2 b3 false))
theorem bm0 {fuse:Int}{down:Bool}{b2 b3:List Int}{r:Int×Int×Bool×(List Int)×(List Int)} (h:Z8 fuse down b2 b3=some r):i4 E 86 [.ptr 0 0 0,.fn 126 [] [.ptr 1 0 0]] [some ⟨4,true,[[(f6 2 (List.map (d8 .u8) b2)),(f6 3 (List.map (d8 .u8) b3)),.int .i64 fuse,.bool down]]⟩,some ⟨1,true,[[.ptr 0 0 0]]⟩,some ⟨1,false,(List.map (d8 .u8) b2)⟩,some ⟨1,false,(List.map (d8 .u8) b3)⟩] (Rs aF3 r):=so (fn:=Tryz.f86) (k:=true) (m:=4) h<| by
 intro r h;unfold Z8 at h
 refine zs 15 h (fun h=> ?_) fun h=> ?_
 ·
  exact zg 12 (av5 h)
 exact zg 11 (av5 h)
end Go.RX.L

namespace Go.RX.L
open Go Go.RX Go.Proofs
attribute [local irreducible] i0
noncomputable def cG3 (y:Int×Int×Bool×(List Int)×(List Int)):D×f4:=(.int .i64 y.1,[some ⟨4,true,[[(f6 3 (List.map (d8 .u8) y.2.2.2.1)),(f6 4 (List.map (d8 .u8) y.2.2.2.2)),.int .i64 y.2.1,.bool y.2.2.1]]⟩,none,none,some ⟨1,false,(List.map (d8 .u8) y.2.2.2.1)⟩,some ⟨1,false,(List.map (d8 .u8) y.2.2.2.2)⟩])
noncomputable def aD6 (fuse:Int) (down:Bool) (b1 b2:List Int):Option (Int×Int×Bool×(List Int)×(List Int)):=((Z8 fuse down b1 b2).bind fun y1=>(some (y1.1,y1.2.1,y1.2.2.1,y1.2.2.2.1,y1.2.2.2.2)))
theorem cu1 {fuse:Int}{down:Bool}{b1 b2:List Int}{r:Int×Int×Bool×(List Int)×(List Int)} (h:aD6 fuse down b1 b2=some r):i4 E 94 [.ptr 0 0 0] [some ⟨4,true,[[(f6 1 (List.map (d8 .u8) b1)),(f6 2 (List.map (d8 .u8) b2)),.int .i64 fuse,.bool down]]⟩,some ⟨1,false,(List.map (d8 .u8) b1)⟩,some ⟨1,false,(List.map (d8 .u8) b2)⟩] (Rs cG3 r):=so (fn:=Tryz.f94) (k:=true) (m:=3) h<| by
 intro r h;unfold aD6 at h
 refine zc 11 [] h (fun _=>bm0) fun y1 h=> ?_
 exact zu 3 h
end Go.RX.L

namespace Go.RX.L
open Go Go.RX Go.Proofs
attribute [local irreducible] i0
noncomputable def cv5 (b2:List Int) (y:Int×Bool×(List Int)×(List Int)):D×f4:=(.tup [],[some ⟨4,true,[[(f6 3 (List.map (d8 .u8) y.2.2.1)),(f6 4 (List.map (d8 .u8) y.2.2.2)),.int .i64 y.1,.bool y.2.1]]⟩,none,some ⟨1,false,(List.map (d8 .u8) b2)⟩,some ⟨1,false,(List.map (d8 .u8) y.2.2.1)⟩,some ⟨1,false,(List.map (d8 .u8) y.2.2.2)⟩])
noncomputable def am7 (keep fuse:Int) (down:Bool) (b1 b2:List Int):Option (Int×Bool×(List Int)×(List Int)):=(bif ((decide (((0:Nat):Int)≤(A3 (u9 keep 0) (((List.map (d8 .u8) b2).length:Nat):Int))))&&(decide (((A3 (u9 keep 0) (((List.map (d8 .u8) b2).length:Nat):Int)):Int)≤(((List.map (d8 .u8) b2).length:Nat):Int)))) then (bif (Nat.beq ((List.take ((A3 (u9 keep 0) (((List.map (d8 .u8) b2).length:Nat):Int)).toNat) (List.drop 0 (List.map (d8 .u8) b2))).length) ((A3 (u9 keep 0) (((List.map (d8 .u8) b2).length:Nat):Int)).toNat)) then (bif (decide (((List.map (d8 .u8) b1).length+(List.take ((A3 (u9 keep 0) (((List.map (d8 .u8) b2).length:Nat):Int)).toNat) (List.drop 0 (List.map (d8 .u8) b2))).length)*1≤i7)) then (some ((-1),true,(b1++(List.take ((A3 (u9 keep 0) (((List.map (d8 .u8) b2).length:Nat):Int)).toNat) (List.drop 0 b2))),[])) else none) else none) else none)
theorem cn0 {keep fuse:Int}{down:Bool}{b1 b2:List Int}{r:Int×Bool×(List Int)×(List Int)} (h:am7 keep fuse down b1 b2=some r):i4 E 30 [.ptr 0 0 0,.int .i64 keep] [some ⟨4,true,[[(f6 1 (List.map (d8 .u8) b1)),(f6 2 (List.map (d8 .u8) b2)),.int .i64 fuse,.bool down]]⟩,some ⟨1,false,(List.map (d8 .u8) b1)⟩,some ⟨1,false,(List.map (d8 .u8) b2)⟩] (Rs (cv5 b2) r):=so (fn:=Tryz.f30) (k:=true) (m:=3) h<| by
 intro r h;unfold am7 at h
 refine zn 17 h fun h=> ?_
 refine zn 0 h fun h=> ?_
 refine zn 0 h fun h=> ?_
 refine zm 0 (b:=(Nat.ble (0+(List.map (d8 .u8) b1).length) ((List.map (d8 .u8) b1).length))) (v6 _) ?_
 refine zw 0 (a:=(List.take ((List.map (d8 .u8) b1).length) (List.drop 0 (List.map (d8 .u8) b1))++(List.take ((A3 (u9 keep 0) (((List.map (d8 .u8) b2).length:Nat):Int)).toNat) (List.drop 0 (List.map (d8 .u8) b2))))) (b:=(List.map (d8 .u8) (b1++(List.take ((A3 (u9 keep 0) (((List.map (d8 .u8) b2).length:Nat):Int)).toNat) (List.drop 0 b2))))) (by simp only [A1,E8,List.map_append,List.map_take,List.map_drop]) ?_
 refine zf 22 [.matc 0 0 1 1] ?_
 exact zu 1 h
end Go.RX.L

namespace Go.RX.L
open Go Go.RX Go.Proofs
attribute [local irreducible] i0
noncomputable def cB8 (down:Bool) (b1 b2:List Int) (y:Int):D×f4:=(.tup [],[some ⟨4,true,[[(f6 1 (List.map (d8 .u8) b1)),(f6 2 (List.map (d8 .u8) b2)),.int .i64 y,.bool down]]⟩,some ⟨1,false,(List.map (d8 .u8) b1)⟩,some ⟨1,false,(List.map (d8 .u8) b2)⟩])
noncomputable def aV4 (n fuse:Int) (down:Bool) (b1 b2:List Int):Option Int:=(some (u9 n (-1)))
theorem cu0 {n fuse:Int}{down:Bool}{b1 b2:List Int}{r:Int} (h:aV4 n fuse down b1 b2=some r):i4 E 29 [.ptr 0 0 0,.int .i64 n] [some ⟨4,true,[[(f6 1 (List.map (d8 .u8) b1)),(f6 2 (List.map (d8 .u8) b2)),.int .i64 fuse,.bool down]]⟩,some ⟨1,false,(List.map (d8 .u8) b1)⟩,some ⟨1,false,(List.map (d8 .u8) b2)⟩] (Rs (cB8 down b1 b2) r):=so (fn:=Tryz.f29) (k:=false) (m:=3) h<| by
 intro r h;unfold aV4 at h
 exact zu 11 h
end Go.RX.L

namespace Go.RX.L
open Go Go.RX
def eff (fuse:Int) (down:Bool):Option Int:=if down=true∨fuse=0 then none else some (if 0<fuse then fuse-1 else fuse)
def fd (fuse:Int) (down:Bool):Int:=bif down then fuse else-1
def Y1 (f:Int):Prop:= -1≤f∧f≤9223372036854775807
theorem eb9 {f g:Int}{d:Bool} (h:eff f d=some g):d=false∧f≠0∧g=if 0<f then f-1 else f:=by
 unfold eff at h
 split at h
 ·cases h
 ·rename_i hn
  simp only [not_or,Bool.not_eq_true] at hn
  exact ⟨hn.1,hn.2,(Option.some.inj h).symm⟩
theorem cl2 {f g:Int}{d:Bool} (hf:Y1 f) (h:eff f d=some g):Y1 g:=by
 obtain ⟨-,h1,rfl⟩:=eb9 h
 unfold Y1 at*
 split<;>omega
theorem cB2 {f:Int}{d:Bool} (hf:Y1 f):Y1 (fd f d):=by
 cases d<;>simp [fd,Y1] at* <;>omega
theorem dI0 {n:Nat} (h:n≤20000000):decide (n*1≤i7)=true:=D1 (by omega)
theorem dT8 {k:Int}{body:List Int} (hk:0≤k∧k≤255) (hb:s9 body) (hl:body.length≤8192) {fuse:Int} (hf:Y1 fuse) {down:Bool}{s t:List Int} (ht:t.length≤10000000):
  av3 k body fuse down s t=some (match eff fuse down with | some f=>(0,f,false,t++H0 k body) | none=>(61,fd fuse down,true,t)):=by
 have hp:by4 k body=some (H0 k body,0):=by rw [dg8 hk hb (by simp only [G3];omega),dI3,if_pos hl]
 have hlen:=aQ2 k body
 have app:∀f d,Y5 (H0 k body) f d s t=some (t++H0 k body):=fun f d=>by
  simp only [Y5,List.length_map,dI0 (show t.length+(H0 k body).length≤20000000 by omega),cond_true]
 unfold Y1 at hf
 simp only [av3,hp,Option.bind_some,bne_self_eq_false,cond_false,U3]
 cases down with
 | true=>simp only [Bool.not_true,cond_false,B9,C5,cond_true,Option.bind_some,eff,fd,true_or,if_true]
 | false=>
  simp only [Bool.not_false,cond_true]
  by_cases h0:fuse=0
  ·subst h0
   simp only [beq_self_eq_true,B9,cond_true,C5,Option.bind_some,eff,fd,or_true,if_true,cond_false]
  ·have e0:((fuse:Int)==0)=false:=by simpa using h0
   simp only [e0,B9,cond_false,C5,app,Option.bind_some,eff,fd,h0,Bool.false_eq_true,or_self,if_false]
   by_cases hp:0<fuse
   ·have:decide (fuse>0)=true:=decide_eq_true hp
    rw [u7 (n:=fuse-1) (by omega) (by omega)]
    simp only [this,cond_true,Option.bind_some,if_pos hp]
   ·have:decide (fuse>0)=false:=decide_eq_false (by omega)
    simp only [this,cond_false,Option.bind_some,if_neg hp]
theorem eg4 {fuse:Int} (hf:Y1 fuse) {down:Bool}{s t:List Int} (ht:s.length+t.length≤20000000):
  aD6 fuse down s t=some (match eff fuse down with | some f=>(0,f,false,s++t,[]) | none=>(61,fd fuse down,true,s,t)):=by
 have app:∀f d,ai2 f d s t=some (s++t,[]):=fun f d=>by
  have e:(List.take t.length (List.drop 0 (List.map (d8 .u8) t))).length=t.length:=by simp
  simp only [ai2,List.length_map]
  rw [e,dI0 ht];rfl
 unfold Y1 at hf
 simp only [aD6,Z8]
 cases down with
 | true=>simp only [Bool.not_true,cond_false,E3,E2,cond_true,Option.bind_some,eff,fd,true_or,if_true]
 | false=>
  simp only [Bool.not_false,cond_true]
  by_cases h0:fuse=0
  ·subst h0
   simp only [beq_self_eq_true,E3,cond_true,E2,Option.bind_some,eff,fd,or_true,if_true,cond_false]
  ·have e0:((fuse:Int)==0)=false:=by simpa using h0
   simp only [e0,E3,cond_false,E2,app,Option.bind_some,eff,fd,h0,Bool.false_eq_true,or_self,if_false]
   by_cases hp:0<fuse
   ·have:decide (fuse>0)=true:=decide_eq_true hp
    rw [u7 (n:=fuse-1) (by omega) (by omega)]
    simp only [this,cond_true,Option.bind_some,if_pos hp]
   ·have:decide (fuse>0)=false:=decide_eq_false (by omega)
    simp only [this,cond_false,Option.bind_some,if_neg hp]
def be8 (keep:Int) (t:List Int):List Int:=t.take (min (max keep 0) (t.length:Int)).toNat
theorem ea2 {keep fuse:Int}{down:Bool}{s t:List Int} (ht:s.length+t.length≤20000000):am7 keep fuse down s t=some (-1,true,s++be8 keep t,[]):=by
 have e:A3 (u9 keep 0) ((t.length:Nat):Int)=((min (max keep 0) (t.length:Int)).toNat:Int):=by
  unfold A3 u9
  split<;>split<;>omega
 generalize hk:(min (max keep 0) (t.length:Int)).toNat=n at e
 have hn:n≤t.length:=by omega
 have c1:(decide (((0:Nat):Int)≤(n:Int))&&decide ((n:Int)≤((t.length:Nat):Int)))=true:=by simp;omega
 have c2:(List.take n (List.drop 0 (List.map (d8 .u8) t))).length=n:=by simp;omega
 simp only [am7,List.length_map,e,c1,cond_true,Int.toNat_natCast]
 rw [c2]
 simp only [show Nat.beq n n=true from Nat.beq_refl n,dI0 (show s.length+n≤20000000 by omega),List.drop_zero,be8,hk,cond_true]
theorem ee8 {l:List Fr1}{J:List Int}{e:Int} (hl:∀x∈l,bW6 x) (hJ:pF J= .inl e) (hJb:s9 J) (hm:(K9 l++J).length≤10000000) {fuse:Int} (hf:Y1 fuse) {down:Bool}{t:List Int}:
  aa4 fuse down (K9 l++J) t=some (if J= [] then (l.map (·.1),l.map (·.2),(0:Int),fuse,false,K9 l,([]:List Int)) else (match eff fuse false with | some f=>(l.map (·.1),l.map (·.2),0,f,false,K9 l,[]) | none=>([],[],61,fd fuse false,true,K9 l++J,[]))):=by
 have ha:=ei1 hl hJ hJb hm
 have cut:∀f d (u:List Int),ai1 ((K9 l).length:Int) f d (K9 l++J) u=some (K9 l):=fun f d u=>by
  have c1:(decide (((0:Nat):Int)≤((K9 l).length:Int))&&decide (((K9 l).length:Int)≤(((K9 l++J).length:Nat):Int)))=true:=by simp;omega
  have:=dS6 (b:=K9 l++J) (ln:=(K9 l).length) (cp:=(K9 l++J).length) (by simp) (by simp only [G3];omega)
  simp only [ai1,List.length_map,c1,cond_true,Int.toNat_natCast,this,Option.bind_some,List.take_left]
 simp only [aa4,ha,Option.bind_some,List.length_map]
 by_cases hJ0:J= []
 ·subst hJ0
  simp only [List.append_nil,Int.lt_irrefl,decide_false,cond_false,if_true]
 ·have hpos:0<J.length:=List.length_pos_iff.2 hJ0
  have:decide (((K9 l).length:Int)<(((K9 l++J).length:Nat):Int))=true:=by simp;omega
  unfold Y1 at hf
  simp only [this,cond_true,if_neg hJ0,Z7,Bool.not_false]
  by_cases h0:fuse=0
  ·subst h0
   simp [I0,I6,eff,fd]
  ·have e0:((fuse:Int)==0)=false:=by simpa using h0
   simp only [e0,I0,cond_false,I6,cut,Option.bind_some,eff,fd,h0,Bool.false_eq_true,or_self,if_false]
   by_cases hp:0<fuse
   ·have:decide (fuse>0)=true:=decide_eq_true hp
    rw [u7 (n:=fuse-1) (by omega) (by omega)]
    simp only [this,cond_true,Option.bind_some,if_pos hp,bne_self_eq_false,cond_false]
   ·have:decide (fuse>0)=false:=decide_eq_false (by omega)
    simp only [this,cond_false,Option.bind_some,if_neg hp,bne_self_eq_false]
/-! ### records -/
def bx1 (m:f3):Prop:=ak8 m∧A0 m=true
def bh8 (m:f3):Fr1:=(m.Kind,ak5 m)
theorem bx1.fr {m:f3} (h:bx1 m):bW6 (bh8 m):=by
 refine ⟨dn1 h.2,fun c hc=> ?_,by have:=ck6 h.1 h.2;simp only [bh8];omega⟩
 have:=dh7 h.1 h.2
 have hc' :c∈ak5 m:=hc
 exact this c (by simp only [H0,U7];simp [hc'])
def log (rs:List f3):List Int:=K9 (rs.map bh8)
theorem dm9 (a b:List f3):log (a++b)=log a++log b:=by simp [log,dU9]
theorem cF2 (m:f3):log [m]=H0 m.Kind (ak5 m):=by simp [log,K9,bh8]
theorem dO9 {rs:List f3} (h:∀m∈rs,bx1 m):∀x∈rs.map bh8,bW6 x:=fun x hx=>by
 obtain ⟨m,hm,rfl⟩:=List.mem_map.1 hx
 exact (h m hm).fr
theorem dC9 {rs:List f3} (h:∀m∈rs,bx1 m):s9 (log rs):=cK5 (dO9 h)
/-- A disk: its records; what is cut; what is not synced. -/
structure bq4 (rs : List f3) (J : List Int) (s : List Int) : Prop where
  ok : ∀ m ∈ rs, bx1 m
  eq : s = log rs ++ J
  cut : ∃ e, pF J = .inl e
  jb : s9 J
theorem bq4.nil:bq4 [] [] []:=⟨fun m h=>by simp at h,rfl,⟨_,rfl⟩,fun c hc=>by simp at hc⟩
theorem bq4.crash {rs:List f3}{s:List Int} (h:bq4 rs [] s) {m:f3} (hm:bx1 m) (keep:Int):(bq4 (rs++ [m]) [] (s++be8 keep (log [m])))∨(∃J,bq4 rs J (s++be8 keep (log [m]))):=by
 have hl:(log [m]).length=(ak5 m).length+8:=by rw [cF2,aQ2]
 obtain ⟨h1,h2,h3⟩:=hm.fr
 unfold be8
 generalize hn:(min (max keep 0) ((log [m]).length:Int)).toNat=n
 by_cases hf:n=(log [m]).length
 ·left
  refine ⟨fun x hx=> ?_,?_,⟨_,rfl⟩,fun c hc=>by simp at hc⟩
  ·rcases List.mem_append.1 hx with hx | hx
   ·exact h.ok x hx
   ·rw [List.mem_singleton.1 hx];exact hm
  ·rw [hf,List.take_length,h.eq,dm9];simp
 ·right
  refine ⟨(log [m]).take n,h.ok,by rw [h.eq];simp,?_,fun c hc=>dC9 (rs:= [m]) (fun x hx=>by rw [List.mem_singleton.1 hx];exact hm) c (List.mem_of_mem_take hc)⟩
  have:=eb2 h1 h2 h3 (j:=n) (by simp only [bh8];omega)
  rw [cF2]
  simpa only [bh8] using this
theorem bq4.crash0 {rs:List f3}{J s:List Int} (h:bq4 rs J s) (keep:Int):bq4 rs J (s++be8 keep []):=by
 simpa [be8] using h
end Go.RX.L
