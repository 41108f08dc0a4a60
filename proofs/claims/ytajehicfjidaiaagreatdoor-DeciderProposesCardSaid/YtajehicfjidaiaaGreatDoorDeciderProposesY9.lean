/-
  Words and walks for DeciderProposes. No condition.
-/
import Derived.Test.YtajehicfjidaiaaGreatDoorDeciderProposesY8
set_option linter.unusedSectionVars false
set_option linter.unnecessarySimpa false
set_option linter.unusedSimpArgs false
set_option linter.unusedVariables false
set_option maxRecDepth 100000
namespace Go.RX.L
open Go Go.RX
theorem eG6 (n:Int):aH0 n=some (O8 n):=by
 unfold aH0 O8
 cases decide (n≥0)<;>rfl
def bL0 (v:i8) (o n f:Int):Bool:=O8 v.At&&(O8 n&&(O8 f&&(!(decide (v.Observer<0))&&(!(decide (v.Observer≥o))&&(decide (n≥v.At)&&decide (v.At≥n-f))))))
theorem cE7 (v:i8) (o n f:Int):aX4 v o n f=some (bL0 v o n f):=by
 unfold aX4 ac2 bL0
 simp only[eG6,Option.bind_some]
 cases h1:O8 v.At with
 | false=>rfl
 | true=>
  cases h2:O8 n with
  | false=>rfl
  | true=>
   cases h3:O8 f with
   | false=>rfl
   | true=>
    simp[O8] at h1 h2 h3
    have hw:IntKind.i64.wrap (n-f)=n-f:=v9 (by omega) (by omega)
    rw[hw]
    by_cases h4:v.Observer<0
    ·simp[h4]
    ·by_cases h5:v.Observer≥o
     ·simp[h4,h5]
     ·by_cases h6:n≥v.At<;>simp[h4,h5,h6]
theorem cL3 (k:Int):∀(l:List i8) (i:Int),(al5 l k i= -1∧True∧∀v∈l,v.Observer≠k)∨∃(j:Nat) (v:i8),l[j]? =some v∧al5 l k i=i+j∧v.Observer=k∧True∧∀(j' :Nat) (u:i8),j' <j→l[j']? =some u→u.Observer≠k
 | [],i=> .inl ⟨rfl,trivial,fun v h=>by simp at h⟩
 | x::r,i=>by
  by_cases h:x.Observer=k
  ·exact .inr ⟨0,x,rfl,by simp[al5,h],h,trivial,fun j' u hj=>by omega⟩
  ·rcases cL3 k r (i+1) with⟨h1,h2,h3⟩ | ⟨j,v,h1,h2,h3,h4,h5⟩
   ·refine .inl ⟨by simp only[al5,if_neg h];exact h1,trivial,fun v hv=> ?_⟩
    rcases List.mem_cons.1 hv with rfl | hv
    ·exact h
    ·exact h3 v hv
   ·refine .inr ⟨j+1,v,by simpa using h1,by simp only[al5,if_neg h,h2];omega,h3,trivial,fun j' u hj hu=> ?_⟩
    cases j' with
    | zero=>simp at hu;subst hu;exact h
    | succ j' =>exact h5 j' u (by omega) (by simpa using hu)
theorem dH8 (l:List i8) (i:Nat) (hi:i<l.length) (hl:l.length≤300000) {w:Int} (hw:l[i].Observer=w) {p:Nat} (hp:al5 l w 0=p) (hpi:p≤i):∀(j k:Nat),k+j=i→(k≤p)→Ev (ae8 l i) (.s1 (k:Nat)) (decide (p=i)):=by
 intro j
 induction j with
 | zero=>
  intro k hk hkp
  obtain rfl:k=i:=by omega
  obtain rfl:k=p:=by omega
  refine .done ?_
  simp[ae8,av3]
 | succ j ih=>
  intro k hk hkp
  have hlt:k<l.length:=by omega
  rcases cL3 w l 0 with⟨h1,-⟩ | ⟨q,u,h1,h2,h3,h4,h5⟩
  ·omega
  obtain rfl:q=p:=by omega
  by_cases he:k=q
  ·subst he
   obtain rfl:l[k]=u:=by rw[List.getElem?_eq_getElem hlt] at h1;exact Option.some.inj h1
   refine .done ?_
   simp[ae8,av3,show k<i by omega,hlt,hi,h3,hw]
   omega
  ·have hne:l[k].Observer≠w:=h5 k _ (by omega) (List.getElem?_eq_getElem hlt)
   have hb:(l[k].Observer==w)=false:=by simpa using hne
   have hwr:IntKind.i64.wrap ((k:Int)+1)=((k+1:Nat):Int):=by rw[v9 (by omega) (by omega)];rfl
   refine .next (s' :=.s1 ((k+1:Nat):Int)) ?_ (ih (k+1) (by omega) (by omega))
   simp only[ae8,av3,hwr]
   simp[show k<i by omega,hlt,hi,hw,hb]
theorem bQ3 (l:List i8) (i:Nat) (hi:i<l.length) (hl:l.length≤300000):bT2 l i=some (!(decide (al5 l l[i].Observer 0<i))):=by
 rcases cL3 l[i].Observer l 0 with⟨-,-,h3⟩ | ⟨q,u,h1,h2,h3,h4,h5⟩
 ·exact absurd rfl (h3 _ (List.getElem_mem hi))
 have hq:q≤i:=by
  rcases Nat.lt_or_ge i q with h | h
  ·exact absurd rfl (h5 i _ h (List.getElem?_eq_getElem hi))
  ·exact h
 have hp:al5 l l[i].Observer 0=q:=by omega
 have e:(!(decide (al5 l l[i].Observer 0<i)))=decide (q=i):=by
  rw[hp,Bool.eq_iff_iff];simp;omega
 rw[e]
 exact z7 (.next (s' :=.s1 ((0:Nat):Int)) (by simp[ae8,ba9]) (dH8 l i hi hl rfl hp hq i 0 (by omega) (by omega)))
theorem ek0 {l:List i8}{o:Nat}{n f:Int} (hl:l.length≤300) (hv:∀v∈l,VOk v) (ho:(o:Int)≤9223372036854775807) {i6 r:Int}{b:Nat} (hb:b<64) (tn:O8 n=true) (tf:O8 f=true)
  (next:Ev (z8 l o n f) (.s2 i6 b (C6 l o n f b l.length) (l.length:Nat)) r):∀(j k:Nat),k+j=l.length→Ev (z8 l o n f) (.s2 i6 b (C6 l o n f b k) k) r:=by
 intro j
 induction j with
 | zero=>
  intro k hk
  obtain rfl:k=l.length:=by omega
  exact next
 | succ j ih=>
  intro k hk
  have hlt:k<l.length:=by omega
  have hc:=bX2 l o n f b k
  have hbit:=dg7 l[k].Up b
  have hup:=(hv _ (List.getElem_mem hlt)).up
  have hw:IntKind.i64.wrap ((k:Int)+1)=((k+1:Nat):Int):=by rw[v9 (by omega) (by omega)];rfl
  have hw2:IntKind.i64.wrap (C6 l o n f b k+1)=C6 l o n f b k+1:=v9 (by omega) (by omega)
  have hbt:(m9 .u64 (r5 .u64 l[k].Up b) 1==1)=l[k].Up.toNat.testBit b:=by
   have e:l[k].Up=((l[k].Up.toNat:Nat):Int):=(Int.toNat_of_nonneg hup.1).symm
   rw[e,dy9 (by omega) (by omega)]
   simp only[Int.toNat_natCast]
   cases l[k].Up.toNat.testBit b<;>rfl
  have hcnt:C6 l o n f b (k+1)=C6 l o n f b k+(if bk2 l o n f k l[k] then bh3 l[k].Up b else 0):=by
   rw[C6,List.getElem?_eq_getElem hlt]
  have hval:bk2 l o n f k l[k]=(!(decide (al5 l l[k].Observer 0<k))&&bL0 l[k] o n f):=by
   unfold bk2 bL0
   rw[tn,tf]
   cases O8 l[k].At<;>cases h1:decide (l[k].Observer<0)<;>cases h2:decide (l[k].Observer≥(o:Int))<;>cases h3:decide (al5 l l[k].Observer 0<(k:Int))<;>simp
   all_goals (first | rfl | (congr 1<;>(rw[Bool.eq_iff_iff];simp;done)) | (rw[Bool.eq_iff_iff];simp;omega))
  have fin:∀t:Bool,z8 l o n f (.s2 i6 b (C6 l o n f b k) k)=some (.inl (.s3 i6 b (C6 l o n f b k) k t))→C6 l o n f b (k+1)=C6 l o n f b k+(if t then 1 else 0)→Ev (z8 l o n f) (.s2 i6 b (C6 l o n f b k) k) r:=fun t h1 h2=>by
   refine .next h1 (.next (s' :=.s2 i6 b (C6 l o n f b (k+1)) ((k+1:Nat):Int)) ?_ (ih (k+1) (by omega)))
   cases t with
   | true=>simp only[z8,av1,hw,hw2,h2];rfl
   | false=>simp only[z8,av1,hw,h2];simp
  cases h1:decide (al5 l l[k].Observer 0<k) with
  | true=>
   refine fin false ?_ (by rw[hcnt,hval,h1];simp)
   simp only[z8,Y3,List.length_map,G4 hlt,cond_true,bQ3 l k hlt (by omega),h1]
   rfl
  | false=>
   cases h2:bL0 l[k] o n f with
   | false=>
    refine fin false ?_ (by rw[hcnt,hval,h1,h2];simp)
    simp only[z8,Y3,bQ3 l k hlt (by omega),h1]
    simp[hlt,cE7,h2]
   | true=>
    refine fin (l[k].Up.toNat.testBit b) ?_ (by rw[hcnt,hval,h1,h2];unfold bh3;simp)
    simp only[z8,Y3,bQ3 l k hlt (by omega),h1]
    simp[hlt,cE7,h2,hbt,show ¬((b:Int)<0) by omega]
theorem en8 {l:List i8}{o:Nat}{n f:Int} (hl:l.length≤300) (hv:∀v∈l,VOk v) (o1:1≤o) (ho:(o:Int)≤9223372036854775807) (tn:O8 n=true) (tf:O8 f=true):
  ∀(j b:Nat),b+j=64→Ev (z8 l o n f) (.s1 (J2 (fun b=>decide (C6 l o n f b l.length>o-C6 l o n f b l.length)) b:Nat) b) (ab2 l o n f:Nat):=by
 have hT:ab2 l o n f=J2 (fun b=>decide (C6 l o n f b l.length>o-C6 l o n f b l.length)) 64:=by
  unfold ab2
  rw[if_pos (by simp[tn,tf];omega)]
 intro j
 induction j with
 | zero=>
  intro b hb
  obtain rfl:b=64:=by omega
  rw[←hT]
  exact .next (s' :=.s4 (ab2 l o n f:Nat) ((64:Nat):Int) false) rfl (.done rfl)
 | succ j ih=>
  intro b hb
  have hb64:b<64:=by omega
  have hu:=aV1 (fun b=>decide (C6 l o n f b l.length>o-C6 l o n f b l.length)) b
  have hp:(2:Nat)^b≤2^63:=Nat.pow_le_pow_right (by decide) (by omega)
  have hw:IntKind.i64.wrap ((b:Int)+1)=((b+1:Nat):Int):=wS (by omega)
  have hc:=bX2 l o n f b l.length
  have hw2:IntKind.i64.wrap ((o:Int)-C6 l o n f b l.length)=o-C6 l o n f b l.length:=v9 (by omega) (by omega)
  refine .next (s' :=.s4 (J2 (fun b=>decide (C6 l o n f b l.length>o-C6 l o n f b l.length)) b:Nat) b true) ?_ ?_
  ·simp only[z8,au4,show decide ((b:Int)<64)=true by simp;omega,cond_true,show decide ((o:Int)>0)=true by simp;omega]
  refine .next (s' :=.s2 (J2 (fun b=>decide (C6 l o n f b l.length>o-C6 l o n f b l.length)) b:Nat) b 0 0) rfl ?_
  have e0:(0:Int)=C6 l o n f b 0:=rfl
  have:=ek0 (r:=(ab2 l o n f:Nat)) (i6:=(J2 (fun b=>decide (C6 l o n f b l.length>o-C6 l o n f b l.length)) b:Nat)) hl hv ho hb64 tn tf ?_ l.length 0 (by omega)
  ·exact this
  ·refine .next (s' :=.s1 (J2 (fun b=>decide (C6 l o n f b l.length>o-C6 l o n f b l.length)) (b+1):Nat) ((b+1:Nat):Int)) ?_ (ih (b+1) (by omega))
   simp only[z8,Y3,List.length_map,geB (Nat.le_refl l.length),cond_false,hw,hw2,nn0,cond_true,aJ6 hb64,bQ6 (show J2 (fun b=>decide (C6 l o n f b l.length>o-C6 l o n f b l.length)) b<18446744073709551616 by omega) (show 2^b<18446744073709551616 by omega)]
   cases hd:decide (C6 l o n f b l.length>o-C6 l o n f b l.length)<;>simp only[J2,hd,cond_true,cond_false]<;>simp
theorem ea5 {l:List i8}{o n f:Int} (hl:l.length≤300) (hv:∀v∈l,VOk v) (ho:o≤9223372036854775807):bs3 l o n f=some (ab2 l o n f:Nat):=by
 refine z7 (.next (s' :=.s1 0 0) rfl ?_)
 by_cases o1:1≤o
 ·obtain⟨p,hp⟩:=Int.eq_ofNat_of_zero_le (show 0≤o by omega)
  subst hp
  by_cases tt:O8 n=true∧O8 f=true
  ·exact en8 hl hv (by omega) ho tt.1 tt.2 64 0 rfl
  ·--nothing is fresh
   have hT:ab2 l p n f=0:=by
    unfold ab2
    rw[if_neg]
    intro h
    simp only[Bool.and_eq_true] at h
    exact tt ⟨h.1,h.2.1⟩
   have hR:∀v:i8,bL0 v p n f=false:=fun v=>by
    unfold bL0
    cases h1:O8 n with
    | false=>simp
    | true=>
     cases h2:O8 f with
     | false=>simp
     | true=>exact absurd ⟨h1,h2⟩ tt
   have Y1:∀(b:Nat) (hb:b<64) (r:Int),Ev (z8 l p n f) (.s2 0 b 0 (l.length:Nat)) r→∀(j k:Nat),k+j=l.length→Ev (z8 l p n f) (.s2 0 b 0 k) r:=by
    intro b hb r next j
    induction j with
    | zero=>
     intro k hk
     obtain rfl:k=l.length:=by omega
     exact next
    | succ j ih=>
     intro k hk
     have hlt:k<l.length:=by omega
     refine .next (s' :=.s3 0 b 0 k false) ?_ (.next (s' :=.s2 0 b 0 ((k+1:Nat):Int)) ?_ (ih (k+1) (by omega)))
     ·simp only[z8,Y3,List.length_map,G4 hlt,cond_true,bQ3 l k hlt (by omega),Option.bind_some,O9,Bool.and_self,Int.toNat_natCast,List.getE hlt,cE7,hR,cond_false]
      cases decide (al5 l l[k].Observer 0<(k:Int))<;>rfl
     ·simp only[z8,av1,wS (show k<9223372036854775807 by omega)];rfl
   have outer:∀(j b:Nat),b+j=64→Ev (z8 l p n f) (.s1 0 b) ((0:Nat):Int):=by
    intro j
    induction j with
    | zero=>
     intro b hb
     obtain rfl:b=64:=by omega
     exact .next (s' :=.s4 0 ((64:Nat):Int) false) rfl (.done rfl)
    | succ j ih=>
     intro b hb
     refine .next (s' :=.s4 0 b true) ?_ (.next (s' :=.s2 0 b 0 0) rfl (Y1 b (by omega) _ ?_ l.length 0 (by omega)))
     ·simp only[z8,au4,show decide ((b:Int)<64)=true by simp;omega,cond_true,show decide ((p:Int)>0)=true by simp;omega]
     ·refine .next (s' :=.s1 0 ((b+1:Nat):Int)) ?_ (ih (b+1) (by omega))
      simp only[z8,Y3,List.length_map,geB (Nat.le_refl l.length),cond_false,wS (show b<9223372036854775807 by omega),v9 (show-9223372036854775808≤(p:Int)-0 by omega) (show(p:Int)-0≤9223372036854775807 by omega),show decide ((0:Int)>(p:Int)-0)=false by simp]
   rw[hT]
   exact outer 64 0 rfl
 ·have hT:ab2 l o n f=0:=by
   unfold ab2
   rw[if_neg]
   intro h
   simp only[Bool.and_eq_true,Bool.not_eq_true',decide_eq_false_iff_not] at h
   omega
  rw[hT]
  refine .next (s' :=.s4 0 0 false) ?_ (.done rfl)
  simp only[z8,au4,show decide ((o:Int)>0)=false by simp;omega]
  rfl
end Go.RX.L

set_option maxHeartbeats 4000000
namespace Go.RX.L
open Go Go.RX Go.Proofs
attribute [local irreducible] i4
noncomputable def dd2 (aa4:f3) (c:d9) (ac9 ae5:Int) (ad1:Bool) (b2 b3:List Int) (y:l7):D×i0:=(.agg (l7.enc y),[some ⟨88,true,[(f3.l aa4 (d9.l c [.int .i64 ac9,.ptr 1 0 0]))]⟩,some ⟨4,true,[[(i5 2 (List.map (d8 .u8) b2)),(i5 3 (List.map (d8 .u8) b3)),.int .i64 ae5,.bool ad1]]⟩,some ⟨1,false,(List.map (d8 .u8) b2)⟩,some ⟨1,false,(List.map (d8 .u8) b3)⟩])
noncomputable def bh9 (aa4:f3) (c:d9) (ac9 ae5:Int) (ad1:Bool) (b2 b3:List Int):Option l7:=(some aa4.prop)
theorem cP0 {aa4:f3}{c:d9}{ac9 ae5:Int}{ad1:Bool}{b2 b3:List Int}{r:l7} (h:bh9 aa4 c ac9 ae5 ad1 b2 b3=some r):i7 E 13 [.ptr 0 0 0] [some ⟨88,true,[(f3.l aa4 (d9.l c [.int .i64 ac9,.ptr 1 0 0]))]⟩,some ⟨4,true,[[(i5 2 (List.map (d8 .u8) b2)),(i5 3 (List.map (d8 .u8) b3)),.int .i64 ae5,.bool ad1]]⟩,some ⟨1,false,(List.map (d8 .u8) b2)⟩,some ⟨1,false,(List.map (d8 .u8) b3)⟩] (Rs (dd2 aa4 c ac9 ae5 ad1 b2 b3) r):=so (fn:=Tryz.f13) (k:=true) (m:=4) h<| by
 intro r h;unfold bh9 at h
 exact zu 18 h
noncomputable def cR0 (aa4:f3) (c:d9) (ac9 ae5:Int) (ad1:Bool) (b2 b3:List Int) (y:List i8):D×i0:=(.sl false 3 (List.map i8.enc y),[some ⟨88,true,[(f3.l aa4 (d9.l c [.int .i64 ac9,.ptr 1 0 0]))]⟩,some ⟨4,true,[[(i5 2 (List.map (d8 .u8) b2)),(i5 3 (List.map (d8 .u8) b3)),.int .i64 ae5,.bool ad1]]⟩,some ⟨1,false,(List.map (d8 .u8) b2)⟩,some ⟨1,false,(List.map (d8 .u8) b3)⟩])
noncomputable def aJ8 (aa4:f3) (c:d9) (ac9 ae5:Int) (ad1:Bool) (b2 b3:List Int):Option (List i8):=((ak0 aa4.votes).bind fun y1=>(some y1))
theorem cL9 {aa4:f3}{c:d9}{ac9 ae5:Int}{ad1:Bool}{b2 b3:List Int}{r:List i8} (h:aJ8 aa4 c ac9 ae5 ad1 b2 b3=some r):i7 E 18 [.ptr 0 0 0] [some ⟨88,true,[(f3.l aa4 (d9.l c [.int .i64 ac9,.ptr 1 0 0]))]⟩,some ⟨4,true,[[(i5 2 (List.map (d8 .u8) b2)),(i5 3 (List.map (d8 .u8) b3)),.int .i64 ae5,.bool ad1]]⟩,some ⟨1,false,(List.map (d8 .u8) b2)⟩,some ⟨1,false,(List.map (d8 .u8) b3)⟩] (Rs (cR0 aa4 c ac9 ae5 ad1 b2 b3) r):=so (fn:=Tryz.f18) (k:=true) (m:=4) h<| by
 intro r h;unfold aJ8 at h
 refine zc 13 [] h (fun _=>bw1) fun y1 h=> ?_
 refine n8 hm 2 _ ?_
 refine bR7 2 (n1:=(0+(List.map i8.enc y1).length)) (n2:=((List.map i8.enc y1).length)) (raw:=(List.take ((List.map i8.enc y1).length) (List.drop 0 (List.map i8.enc y1)))) (rs:=(List.map i8.enc y1)) (by kernel_rfl) (A7 _) (by simp only[C0,E8,List.map_take,List.map_drop]) ?_
 exact zu 1 h
noncomputable def dn9 (y:Bool):D×i0:=(.bool y,[])
noncomputable def aX6 (l_:List Op):Option Bool:=(some (decide (((((List.map Op.enc l_).length:Nat):Int):Int)>200)))
theorem cZ9 {l_:List Op}{r:Bool} (h:aX6 l_=some r):i7 E 9 [.sl false 29 (List.map Op.enc l_)] [] (Rs dn9 r):=so (fn:=Tryz.f9) (k:=false) (m:=0) h<| by
 intro r h;unfold aX6 at h
 exact zu 12 h
noncomputable def G2:=u5 (u6 Tryz.f6)
noncomputable def aW2 (y:Bool):D×i0:=(.bool y,[])
inductive G5 where
 | s0
 | s1 (up:Bool)
 | s2 (up:Bool) (aa4:f3) (ac9 ae5:Int) (ad1:Bool) (b3 b4:List Int)
 | s3 (up:Bool) (i:Int) (aa4:f3) (ac9 ae5:Int) (ad1:Bool) (b3 b4:List Int)
 | s4 (up:Bool) (i:Int) (ak2:List i8) (x_:List f5) (k:Int) (aa4:f3) (ac9:Int) (o:Op) (ag0:Plan) (ae5:Int) (ad1:Bool) (b5 b6:List Int)
noncomputable def aW3 (c:d9) (l_:List Op):G5→M
 | .s0=>C3 Tryz.f6 [.agg (d9.enc c),.sl false 29 (List.map Op.enc l_)] []
 | .s1 up=>⟨[.code (G2 [1,1,1])],[(1,.sl false 29 (List.map Op.enc l_)),(2,.ptr 0 0 0),(5,.bool up),(6,.nilp)],[some ⟨30,false,[(d9.enc c)]⟩]⟩
 | .s2 up aa4 ac9 ae5 ad1 b3 b4=>⟨[.code (G2 [1,1,1])],[(1,.sl false 29 (List.map Op.enc l_)),(2,.ptr 0 0 0),(5,.bool up),(6,.ptr 1 0 0)],[some ⟨30,false,[(d9.enc c)]⟩,some ⟨88,true,[(f3.l aa4 (d9.l c [.int .i64 ac9,.ptr 2 0 0]))]⟩,some ⟨4,true,[[(i5 3 (List.map (d8 .u8) b3)),(i5 4 (List.map (d8 .u8) b4)),.int .i64 ae5,.bool ad1]]⟩,some ⟨1,false,(List.map (d8 .u8) b3)⟩,some ⟨1,false,(List.map (d8 .u8) b4)⟩]⟩
 | .s3 up i aa4 ac9 ae5 ad1 b3 b4=>⟨[.lpc (G2 [1,1,1,1,0,1,0,0]) 230,.blk 0,.code (G2 [1,1,1,1,1])],[(1,.sl false 29 (List.map Op.enc l_)),(2,.ptr 0 0 0),(5,.bool up),(6,.ptr 1 0 0),(7,.int .i64 i)],[some ⟨30,false,[(d9.enc c)]⟩,some ⟨88,true,[(f3.l aa4 (d9.l c [.int .i64 ac9,.ptr 2 0 0]))]⟩,some ⟨4,true,[[(i5 3 (List.map (d8 .u8) b3)),(i5 4 (List.map (d8 .u8) b4)),.int .i64 ae5,.bool ad1]]⟩,some ⟨1,false,(List.map (d8 .u8) b3)⟩,some ⟨1,false,(List.map (d8 .u8) b4)⟩]⟩
 | .s4 up i ak2 x_ k aa4 ac9 o ag0 ae5 ad1 b5 b6=>⟨[.lpc (G2 [1,1,1,1,0,1,0,0,1,0,0,1,1,1,1,1,0,0]) 8166,.blk 2,.blk 1,.code (G2 [1,1,1,1,0,1,0,0,1,1]),.lp (G2 [1,1,1,1,0,1,0,0]) 230,.blk 0,.code (G2 [1,1,1,1,1])],[(1,.sl false 29 (List.map Op.enc l_)),(2,.ptr 0 0 0),(5,.bool up),(6,.ptr 1 0 0),(7,.int .i64 i),(8,.ptr 2 0 0),(9,.ptr 3 0 0),(10,.sl false 3 (List.map i8.enc ak2)),(11,.sl false 26 (List.map f5.enc x_)),(12,.int .i64 k)],[some ⟨30,false,[(d9.enc c)]⟩,some ⟨88,true,[(f3.l aa4 (d9.l c [.int .i64 ac9,.ptr 4 0 0]))]⟩,some ⟨29,false,[(Op.enc o)]⟩,some ⟨12,false,[(Plan.enc ag0)]⟩,some ⟨4,true,[[(i5 5 (List.map (d8 .u8) b5)),(i5 6 (List.map (d8 .u8) b6)),.int .i64 ae5,.bool ad1]]⟩,some ⟨1,false,(List.map (d8 .u8) b5)⟩,some ⟨1,false,(List.map (d8 .u8) b6)⟩]⟩
abbrev T1 (c:d9) (l_:List Op):=SOk E (Cx.of Tryz.f6 false 0) aW2 (aW3 c l_)
noncomputable def T4 (c:d9) (l_:List Op):Option (G5⊕Bool):=((bi1).bind fun y1=>((aA1 c 0).bind fun y2=>match y2 with | .r0=>(some (.inl (.s1 y1))) | .r1 y2a0 y2a1 y2a2 y2a3 y2a4=>(some (.inl (.s2 y1 y2a0 0 y2a1 y2a2 y2a3 y2a4)))))
noncomputable def au1 (c:d9) (l_:List Op) (up:Bool):Option (G5⊕Bool):=(some (.inr up))
noncomputable def T0 (c:d9) (l_:List Op) (up:Bool) (aa4:f3) (ac9 ae5:Int) (ad1:Bool) (b3 b4:List Int):Option (G5⊕Bool):=((aX6 l_).bind fun y1=>(bif y1 then (some (.inr up)) else (some (.inl (.s3 up 0 aa4 ac9 ae5 ad1 b3 b4)))))
noncomputable def T2 (c:d9) (l_:List Op) (up:Bool) (i:Int) (aa4:f3) (ac9 ae5:Int) (ad1:Bool) (b3 b4:List Int):Option (G5⊕Bool):=(bif (decide (i<(((List.map Op.enc l_).length:Nat):Int))) then (bif ((decide ((0:Int)≤i))&&(decide (i<(((List.map Op.enc l_).length:Nat):Int)))) then (((l_)[i.toNat]?).bind fun y3=>((ac5 aa4 c ac9 ae5 ad1 b3 b4).bind fun y5=>((aJ8 aa4 c ac9 ae5 ad1 b3 b4).bind fun y6=>((bl0 y3 aa4 c ac9 ae5 ad1 b3 b4).bind fun y7=>(some (.inl (.s4 up i y6 y7.1 0 y7.2.1 ac9 y3 y5 y7.2.2.1 y7.2.2.2.1 y7.2.2.2.2.1 y7.2.2.2.2.2))))))) else none) else (some (.inr up)))
noncomputable def G3 (c:d9) (l_:List Op) (up:Bool) (i:Int) (ak2:List i8) (x_:List f5) (k:Int) (aa4:f3) (ac9:Int) (o:Op) (ag0:Plan) (ae5:Int) (ad1:Bool) (b5 b6:List Int):Option (G5⊕Bool):=(bif (decide (k<(((List.map f5.enc x_).length:Nat):Int))) then ((bh9 aa4 c ac9 ae5 ad1 b5 b6).bind fun y2=>(bif ((decide ((0:Int)≤k))&&(decide (k<(((List.map f5.enc x_).length:Nat):Int)))) then (((x_)[k.toNat]?).bind fun y4=>(bif (y4.Kind==4) then ((bs3 ak2 c.Observers o.Now c.Fresh).bind fun y7=>((bh6 c ag0 y7 o.Now).bind fun y8=>(bif (!y8.2) then (some (.inr false)) else ((aU2 y2.Own y8.1).bind fun y10=>(bif (!y10) then (some (.inr false)) else (bif ((decide ((0:Int)≤k))&&(decide (k<(((List.map f5.enc x_).length:Nat):Int)))) then (((x_)[k.toNat]?).bind fun y13=>((aU2 y13.Plan ag0).bind fun y15=>(bif (!y15) then (some (.inr false)) else (bif ((decide ((0:Int)≤k))&&(decide (k<(((List.map f5.enc x_).length:Nat):Int)))) then (((x_)[k.toNat]?).bind fun y18=>(bif (y18.Epoch !=(IntKind.i64.wrap (ag0.Epoch+1))) then (some (.inr false)) else (bif ((decide ((0:Int)≤k))&&(decide (k<(((List.map f5.enc x_).length:Nat):Int)))) then (((x_)[k.toNat]?).bind fun y22=>(bif (y22.Ballot !=y2.Ballot) then (some (.inr false)) else ((al9 o.Now aa4 c ac9 ae5 ad1 b5 b6).bind fun y25=>(bif (!y25) then (some (.inr false)) else (some (.inl (.s4 up i ak2 x_ (IntKind.i64.wrap (k+1)) aa4 ac9 o ag0 ae5 ad1 b5 b6))))))) else none))) else none)))) else none)))))) else (bif (y4.Kind==7) then (bif (y2.Phase !=2) then (some (.inr false)) else (bif ((decide ((0:Int)≤k))&&(decide (k<(((List.map f5.enc x_).length:Nat):Int)))) then (((x_)[k.toNat]?).bind fun y30=>((aU2 y30.Plan y2.Value).bind fun y32=>(bif (!y32) then (some (.inr false)) else (bif ((decide ((0:Int)≤k))&&(decide (k<(((List.map f5.enc x_).length:Nat):Int)))) then (((x_)[k.toNat]?).bind fun y35=>(bif (y35.Ballot !=y2.Ballot) then (some (.inr false)) else (bif ((decide ((0:Int)≤k))&&(decide (k<(((List.map f5.enc x_).length:Nat):Int)))) then (((x_)[k.toNat]?).bind fun y39=>(bif (y39.Epoch !=y2.Epoch) then (some (.inr false)) else (some (.inl (.s4 up i ak2 x_ (IntKind.i64.wrap (k+1)) aa4 ac9 o ag0 ae5 ad1 b5 b6))))) else none))) else none)))) else none)) else (bif (y4.Kind==9) then (bif ((decide ((0:Int)≤k))&&(decide (k<(((List.map f5.enc x_).length:Nat):Int)))) then (((x_)[k.toNat]?).bind fun y44=>((ac5 aa4 c ac9 ae5 ad1 b5 b6).bind fun y46=>((aU2 y44.Plan y46).bind fun y47=>(bif (!y47) then (some (.inr false)) else (some (.inl (.s4 up i ak2 x_ (IntKind.i64.wrap (k+1)) aa4 ac9 o ag0 ae5 ad1 b5 b6))))))) else none) else (some (.inl (.s4 up i ak2 x_ (IntKind.i64.wrap (k+1)) aa4 ac9 o ag0 ae5 ad1 b5 b6))))))) else none)) else (some (.inl (.s3 up (IntKind.i64.wrap (i+1)) aa4 ac9 ae5 ad1 b5 b6))))
noncomputable def z4 (c:d9) (l_:List Op):G5→Option (G5⊕Bool)
 | .s0=>T4 c l_
 | .s1 up=>au1 c l_ up
 | .s2 up aa4 ac9 ae5 ad1 b3 b4=>T0 c l_ up aa4 ac9 ae5 ad1 b3 b4
 | .s3 up i aa4 ac9 ae5 ad1 b3 b4=>T2 c l_ up i aa4 ac9 ae5 ad1 b3 b4
 | .s4 up i ak2 x_ k aa4 ac9 o ag0 ae5 ad1 b5 b6=>G3 c l_ up i ak2 x_ k aa4 ac9 o ag0 ae5 ad1 b5 b6
theorem by2 {c l_}:T1 c l_ .s0 (T4 c l_):=by
 intro r x h ha;unfold T4 at h
 refine zc 8 [] h (fun _=>dq0) fun y1 h=> ?_
 refine zc 7 [] h (fun _=>bo4) fun y2 h=> ?_
 cases y2 with
 | r0=>
  dsimp only at h
  exact zk 2 h ha
 | r1 y2a0 y2a1 y2a2 y2a3 y2a4=>
  dsimp only at h
  exact zk 2 h ha
theorem by7 {c l_ up}:T1 c l_ (.s1 up) (au1 c l_ up):=by
 intro r x h ha;unfold au1 at h
 exact zt 21 h ha
theorem bA3 {c l_ up aa4 ac9 ae5 ad1 b3 b4}:T1 c l_ (.s2 up aa4 ac9 ae5 ad1 b3 b4) (T0 c l_ up aa4 ac9 ae5 ad1 b3 b4):=by
 intro r x h ha;unfold T0 at h
 refine zc 10 [] h (fun _=>cZ9) fun y1 h=> ?_
 refine zs 4 h (fun h=> ?_) fun h=> ?_
 ·
  exact zt 6 h ha
 exact zj 9 h ha
theorem by0 {c l_ up i aa4 ac9 ae5 ad1 b3 b4}:T1 c l_ (.s3 up i aa4 ac9 ae5 ad1 b3 b4) (T2 c l_ up i aa4 ac9 ae5 ad1 b3 b4):=by
 intro r x h ha;unfold T2 at h
 refine zs 10 h (fun h=> ?_) fun h=> ?_
 ·
  refine zn 8 h fun h=> ?_
  refine zr 1 Op.enc h fun y3 h=> ?_
  refine zc 9 [] h (fun _=>bc6) fun y5 h=> ?_
  refine zc 9 [] h (fun _=>cL9) fun y6 h=> ?_
  refine zc 8 [] h (fun _=>dp6) fun y7 h=> ?_
  exact zj 9 h ha
 exact zt 7 h ha
theorem bz3 {c l_ up i ak2 x_ k aa4 ac9 o ag0 ae5 ad1 b5 b6}:T1 c l_ (.s4 up i ak2 x_ k aa4 ac9 o ag0 ae5 ad1 b5 b6) (G3 c l_ up i ak2 x_ k aa4 ac9 o ag0 ae5 ad1 b5 b6):=by
 intro r x h ha;unfold G3 at h
 refine zs 10 h (fun h=> ?_) fun h=> ?_
 ·
  refine zc 7 [] h (fun _=>cP0) fun y2 h=> ?_
  refine zn 10 h fun h=> ?_
  refine zr 2 f5.enc h fun y4 h=> ?_
  refine zs 8 h (fun h=> ?_) fun h=> ?_
  ·
   refine zd 7 [] h (fun _=>cY8) fun y7 h=> ?_
   refine zd 1 [] h (fun _=>dr8) fun y8 h=> ?_
   refine zs 4 h (fun h=> ?_) fun h=> ?_
   ·
    exact zt 46 h ha
   refine zd 5 [] h (fun _=>ba4) fun y10 h=> ?_
   refine zs 2 h (fun h=> ?_) fun h=> ?_
   ·
    exact zt 40 h ha
   refine zn 2 h fun h=> ?_
   refine zr 2 f5.enc h fun y13 h=> ?_
   refine zd 3 [] h (fun _=>ba4) fun y15 h=> ?_
   refine zs 2 h (fun h=> ?_) fun h=> ?_
   ·
    exact zt 31 h ha
   refine zn 2 h fun h=> ?_
   refine zr 2 f5.enc h fun y18 h=> ?_
   refine zs 6 h (fun h=> ?_) fun h=> ?_
   ·
    exact zt 21 h ha
   refine zn 2 h fun h=> ?_
   refine zr 2 f5.enc h fun y22 h=> ?_
   refine zs 5 h (fun h=> ?_) fun h=> ?_
   ·
    exact zt 12 h ha
   refine zdR 4 [] h (fun _=>bc0) fun y25 h=> ?_
   refine zs 3 h (fun h=> ?_) fun h=> ?_
   ·
    exact zt 5 h ha
   exact zj 9 h ha
  refine zs 6 h (fun h=> ?_) fun h=> ?_
  ·
   refine zs 3 h (fun h=> ?_) fun h=> ?_
   ·
    exact zt 34 h ha
   refine zn 2 h fun h=> ?_
   refine zr 2 f5.enc h fun y30 h=> ?_
   refine zd 4 [] h (fun _=>ba4) fun y32 h=> ?_
   refine zs 2 h (fun h=> ?_) fun h=> ?_
   ·
    exact zt 24 h ha
   refine zn 2 h fun h=> ?_
   refine zr 2 f5.enc h fun y35 h=> ?_
   refine zs 5 h (fun h=> ?_) fun h=> ?_
   ·
    exact zt 15 h ha
   refine zn 2 h fun h=> ?_
   refine zr 2 f5.enc h fun y39 h=> ?_
   refine zs 6 h (fun h=> ?_) fun h=> ?_
   ·
    exact zt 5 h ha
   exact zj 9 h ha
  refine zs 6 h (fun h=> ?_) fun h=> ?_
  ·
   refine zn 2 h fun h=> ?_
   refine zr 0 f5.enc h fun y44 h=> ?_
   refine zdR 0 [] h (fun _=>bc6) fun y46 h=> ?_
   refine zd 0 [] h (fun _=>ba4) fun y47 h=> ?_
   refine zs 1 h (fun h=> ?_) fun h=> ?_
   ·
    exact zt 5 h ha
   exact zj 9 h ha
  exact zj 9 h ha
 exact zj 8 h ha
noncomputable def aB6 (c:d9) (l_:List Op):Option Bool:=T3 (z4 c l_) (.s0)
theorem bM8 {c:d9}{l_:List Op}{r:Bool} (h:aB6 c l_=some r):i7 E 6 [.agg (d9.enc c),.sl false 29 (List.map Op.enc l_)] [] (Rs aW2 r):=sc (fn:=Tryz.f6) (k:=false) (m:=0) (H9:=(aW3 c l_)) h fun s=>by
 cases s with
 | s0=>exact by2
 | s1=>exact by7
 | s2=>exact bA3
 | s3=>exact by0
 | s4=>exact bz3
theorem l9 {n:Nat}{ds:List D} (h:Y4 Tryz.prog (n+1) 3 ds):∃x:Int,ds=(d8 .i64) x∧u0 .i64 x:=by
 obtain⟨m,rfl,o⟩:=cm7 (k:=.i64) (by kernel_rfl) h
 exact⟨m,rfl,o⟩
theorem aD4 {n:Nat}{ds:List D} (h:Y4 Tryz.prog (n+2) 22 ds):∃x:List Int,ds=(I0 1 (d8 .i64)) x∧(x.length*8≤reachBytes∧∀y∈x,u0 .i64 y):=by
 obtain⟨rows,rfl,o,w⟩:=cd3 (n:=n+1) (e:=3) (sz:=1) (by_:=8) (by kernel_rfl) (by kernel_rfl) (by kernel_rfl) h
 obtain⟨l,rfl,q⟩:=bY2 (en:=(d8 .i64)) (Ok:=fun y=>u0 .i64 y) (fun r hr=>l9 (n:=n+0) hr) rows w
 exact⟨l,rfl,by simpa using o,q⟩
theorem m8 {n:Nat}{ds:List D} (h:Y4 Tryz.prog (n+1) 2 ds):∃x:Int,ds=(d8 .i64) x∧u0 .i64 x:=by
 obtain⟨m,rfl,o⟩:=cm7 (k:=.i64) (by kernel_rfl) h
 exact⟨m,rfl,o⟩
theorem bp4 {n:Nat}{ds:List D} (h:Y4 Tryz.prog (n+3) 24 ds):∃x:d9,ds=d9.enc x∧x.Ok:=by
 have h0:=bP5 (n:=n+2) (ts:= [3,3,3,3,3,22,2,2,3,3,2,2,2,2,2,2,3,3,3,3,2,3,3,2,2,3,2,3,3,2]) (by kernel_rfl) h
 obtain⟨a0,b0,rfl,w0,h1⟩:=r9 h0
 obtain⟨x0,rfl,o0⟩:=l9 (n:=n+1) w0
 obtain⟨a1,b1,rfl,w1,h2⟩:=r9 h1
 obtain⟨x1,rfl,o1⟩:=l9 (n:=n+1) w1
 obtain⟨a2,b2,rfl,w2,h3⟩:=r9 h2
 obtain⟨x2,rfl,o2⟩:=l9 (n:=n+1) w2
 obtain⟨a3,b3,rfl,w3,h4⟩:=r9 h3
 obtain⟨x3,rfl,o3⟩:=l9 (n:=n+1) w3
 obtain⟨a4,b4,rfl,w4,h5⟩:=r9 h4
 obtain⟨x4,rfl,o4⟩:=l9 (n:=n+1) w4
 obtain⟨a5,b5,rfl,w5,h6⟩:=r9 h5
 obtain⟨x5,rfl,o5⟩:=aD4 (n:=n+0) w5
 obtain⟨a6,b6,rfl,w6,h7⟩:=r9 h6
 obtain⟨x6,rfl,o6⟩:=m8 (n:=n+1) w6
 obtain⟨a7,b7,rfl,w7,h8⟩:=r9 h7
 obtain⟨x7,rfl,o7⟩:=m8 (n:=n+1) w7
 obtain⟨a8,b8,rfl,w8,h9⟩:=r9 h8
 obtain⟨x8,rfl,o8⟩:=l9 (n:=n+1) w8
 obtain⟨a9,b9,rfl,w9,h10⟩:=r9 h9
 obtain⟨x9,rfl,o9⟩:=l9 (n:=n+1) w9
 obtain⟨a10,b10,rfl,w10,h11⟩:=r9 h10
 obtain⟨x10,rfl,o10⟩:=m8 (n:=n+1) w10
 obtain⟨a11,b11,rfl,w11,h12⟩:=r9 h11
 obtain⟨x11,rfl,o11⟩:=m8 (n:=n+1) w11
 obtain⟨a12,b12,rfl,w12,h13⟩:=r9 h12
 obtain⟨x12,rfl,o12⟩:=m8 (n:=n+1) w12
 obtain⟨a13,b13,rfl,w13,h14⟩:=r9 h13
 obtain⟨x13,rfl,o13⟩:=m8 (n:=n+1) w13
 obtain⟨a14,b14,rfl,w14,h15⟩:=r9 h14
 obtain⟨x14,rfl,o14⟩:=m8 (n:=n+1) w14
 obtain⟨a15,b15,rfl,w15,h16⟩:=r9 h15
 obtain⟨x15,rfl,o15⟩:=m8 (n:=n+1) w15
 obtain⟨a16,b16,rfl,w16,h17⟩:=r9 h16
 obtain⟨x16,rfl,o16⟩:=l9 (n:=n+1) w16
 obtain⟨a17,b17,rfl,w17,h18⟩:=r9 h17
 obtain⟨x17,rfl,o17⟩:=l9 (n:=n+1) w17
 obtain⟨a18,b18,rfl,w18,h19⟩:=r9 h18
 obtain⟨x18,rfl,o18⟩:=l9 (n:=n+1) w18
 obtain⟨a19,b19,rfl,w19,h20⟩:=r9 h19
 obtain⟨x19,rfl,o19⟩:=l9 (n:=n+1) w19
 obtain⟨a20,b20,rfl,w20,h21⟩:=r9 h20
 obtain⟨x20,rfl,o20⟩:=m8 (n:=n+1) w20
 obtain⟨a21,b21,rfl,w21,h22⟩:=r9 h21
 obtain⟨x21,rfl,o21⟩:=l9 (n:=n+1) w21
 obtain⟨a22,b22,rfl,w22,h23⟩:=r9 h22
 obtain⟨x22,rfl,o22⟩:=l9 (n:=n+1) w22
 obtain⟨a23,b23,rfl,w23,h24⟩:=r9 h23
 obtain⟨x23,rfl,o23⟩:=m8 (n:=n+1) w23
 obtain⟨a24,b24,rfl,w24,h25⟩:=r9 h24
 obtain⟨x24,rfl,o24⟩:=m8 (n:=n+1) w24
 obtain⟨a25,b25,rfl,w25,h26⟩:=r9 h25
 obtain⟨x25,rfl,o25⟩:=l9 (n:=n+1) w25
 obtain⟨a26,b26,rfl,w26,h27⟩:=r9 h26
 obtain⟨x26,rfl,o26⟩:=m8 (n:=n+1) w26
 obtain⟨a27,b27,rfl,w27,h28⟩:=r9 h27
 obtain⟨x27,rfl,o27⟩:=l9 (n:=n+1) w27
 obtain⟨a28,b28,rfl,w28,h29⟩:=r9 h28
 obtain⟨x28,rfl,o28⟩:=l9 (n:=n+1) w28
 obtain⟨a29,b29,rfl,w29,h30⟩:=r9 h29
 obtain⟨x29,rfl,o29⟩:=m8 (n:=n+1) w29
 obtain rfl:=cw5 h30
 exact⟨⟨x0,x1,x2,x3,x4,x5,x6,x7,x8,x9,x10,x11,x12,x13,x14,x15,x16,x17,x18,x19,x20,x21,x22,x23,x24,x25,x26,x27,x28,x29⟩,rfl,o0,o1,o2,o3,o4,o5,o6,o7,o8,o9,o10,o11,o12,o13,o14,o15,o16,o17,o18,o19,o20,o21,o22,o23,o24,o25,o26,o27,o28,o29⟩
theorem bp8 {n:Nat}{ds:List D} (h:Y4 Tryz.prog (n+1) 34 ds):∃x:Int,ds=(d8 .i64) x∧u0 .i64 x:=by
 obtain⟨m,rfl,o⟩:=cm7 (k:=.i64) (by kernel_rfl) h
 exact⟨m,rfl,o⟩
theorem ae7 {n:Nat}{ds:List D} (h:Y4 Tryz.prog (n+1) 35 ds):∃x:Int,ds=(d8 .u64) x∧u0 .u64 x:=by
 obtain⟨m,rfl,o⟩:=cm7 (k:=.u64) (by kernel_rfl) h
 exact⟨m,rfl,o⟩
theorem bx1 {n:Nat}{ds:List D} (h:Y4 Tryz.prog (n+1) 4 ds):∃x:Bool,ds=eF8 x∧True:=by
 obtain⟨m,rfl⟩:=er5 (by kernel_rfl) h
 exact⟨m,rfl,trivial⟩
theorem aE3 {n:Nat}{ds:List D} (h:Y4 Tryz.prog (n+2) 31 ds):∃x:List Int,ds=(I0 1 (d8 .i64)) x∧(x.length*8≤reachBytes∧∀y∈x,u0 .i64 y):=by
 obtain⟨rows,rfl,o,w⟩:=cd3 (n:=n+1) (e:=2) (sz:=1) (by_:=8) (by kernel_rfl) (by kernel_rfl) (by kernel_rfl) h
 obtain⟨l,rfl,q⟩:=bY2 (en:=(d8 .i64)) (Ok:=fun y=>u0 .i64 y) (fun r hr=>m8 (n:=n+0) hr) rows w
 exact⟨l,rfl,by simpa using o,q⟩
theorem bp9 {n:Nat}{ds:List D} (h:Y4 Tryz.prog (n+3) 37 ds):∃x:Plan,ds=Plan.enc x∧x.Ok:=by
 have h0:=bP5 (n:=n+2) (ts:= [2,3,3,3,3,2,2,2,35,35,22,31]) (by kernel_rfl) h
 obtain⟨a0,b0,rfl,w0,h1⟩:=r9 h0
 obtain⟨x0,rfl,o0⟩:=m8 (n:=n+1) w0
 obtain⟨a1,b1,rfl,w1,h2⟩:=r9 h1
 obtain⟨x1,rfl,o1⟩:=l9 (n:=n+1) w1
 obtain⟨a2,b2,rfl,w2,h3⟩:=r9 h2
 obtain⟨x2,rfl,o2⟩:=l9 (n:=n+1) w2
 obtain⟨a3,b3,rfl,w3,h4⟩:=r9 h3
 obtain⟨x3,rfl,o3⟩:=l9 (n:=n+1) w3
 obtain⟨a4,b4,rfl,w4,h5⟩:=r9 h4
 obtain⟨x4,rfl,o4⟩:=l9 (n:=n+1) w4
 obtain⟨a5,b5,rfl,w5,h6⟩:=r9 h5
 obtain⟨x5,rfl,o5⟩:=m8 (n:=n+1) w5
 obtain⟨a6,b6,rfl,w6,h7⟩:=r9 h6
 obtain⟨x6,rfl,o6⟩:=m8 (n:=n+1) w6
 obtain⟨a7,b7,rfl,w7,h8⟩:=r9 h7
 obtain⟨x7,rfl,o7⟩:=m8 (n:=n+1) w7
 obtain⟨a8,b8,rfl,w8,h9⟩:=r9 h8
 obtain⟨x8,rfl,o8⟩:=ae7 (n:=n+1) w8
 obtain⟨a9,b9,rfl,w9,h10⟩:=r9 h9
 obtain⟨x9,rfl,o9⟩:=ae7 (n:=n+1) w9
 obtain⟨a10,b10,rfl,w10,h11⟩:=r9 h10
 obtain⟨x10,rfl,o10⟩:=aD4 (n:=n+0) w10
 obtain⟨a11,b11,rfl,w11,h12⟩:=r9 h11
 obtain⟨x11,rfl,o11⟩:=aE3 (n:=n+0) w11
 obtain rfl:=cw5 h12
 exact⟨⟨x0,x1,x2,x3,x4,x5,x6,x7,x8,x9,x10,x11⟩,rfl,o0,o1,o2,o3,o4,o5,o6,o7,o8,o9,o10,o11⟩
theorem bx4 {n:Nat}{ds:List D} (h:Y4 Tryz.prog (n+1) 5 ds):∃x:Int,ds=(d8 .u8) x∧u0 .u8 x:=by
 obtain⟨m,rfl,o⟩:=cm7 (k:=.u8) (by kernel_rfl) h
 exact⟨m,rfl,o⟩
theorem aF6 {n:Nat}{ds:List D} (h:Y4 Tryz.prog (n+2) 38 ds):∃x:List Int,ds=(I0 1 (d8 .u8)) x∧(x.length*1≤reachBytes∧∀y∈x,u0 .u8 y):=by
 obtain⟨rows,rfl,o,w⟩:=cd3 (n:=n+1) (e:=5) (sz:=1) (by_:=1) (by kernel_rfl) (by kernel_rfl) (by kernel_rfl) h
 obtain⟨l,rfl,q⟩:=bY2 (en:=(d8 .u8)) (Ok:=fun y=>u0 .u8 y) (fun r hr=>bx4 (n:=n+0) hr) rows w
 exact⟨l,rfl,by simpa using o,q⟩
theorem bq6 {n:Nat}{ds:List D} (h:Y4 Tryz.prog (n+4) 40 ds):∃x:f5,ds=f5.enc x∧x.Ok:=by
 have h0:=bP5 (n:=n+3) (ts:= [34,3,3,2,2,2,2,2,35,3,4,37,31,38,38]) (by kernel_rfl) h
 obtain⟨a0,b0,rfl,w0,h1⟩:=r9 h0
 obtain⟨x0,rfl,o0⟩:=bp8 (n:=n+2) w0
 obtain⟨a1,b1,rfl,w1,h2⟩:=r9 h1
 obtain⟨x1,rfl,o1⟩:=l9 (n:=n+2) w1
 obtain⟨a2,b2,rfl,w2,h3⟩:=r9 h2
 obtain⟨x2,rfl,o2⟩:=l9 (n:=n+2) w2
 obtain⟨a3,b3,rfl,w3,h4⟩:=r9 h3
 obtain⟨x3,rfl,o3⟩:=m8 (n:=n+2) w3
 obtain⟨a4,b4,rfl,w4,h5⟩:=r9 h4
 obtain⟨x4,rfl,o4⟩:=m8 (n:=n+2) w4
 obtain⟨a5,b5,rfl,w5,h6⟩:=r9 h5
 obtain⟨x5,rfl,o5⟩:=m8 (n:=n+2) w5
 obtain⟨a6,b6,rfl,w6,h7⟩:=r9 h6
 obtain⟨x6,rfl,o6⟩:=m8 (n:=n+2) w6
 obtain⟨a7,b7,rfl,w7,h8⟩:=r9 h7
 obtain⟨x7,rfl,o7⟩:=m8 (n:=n+2) w7
 obtain⟨a8,b8,rfl,w8,h9⟩:=r9 h8
 obtain⟨x8,rfl,o8⟩:=ae7 (n:=n+2) w8
 obtain⟨a9,b9,rfl,w9,h10⟩:=r9 h9
 obtain⟨x9,rfl,o9⟩:=l9 (n:=n+2) w9
 obtain⟨a10,b10,rfl,w10,h11⟩:=r9 h10
 obtain⟨x10,rfl,o10⟩:=bx1 (n:=n+2) w10
 obtain⟨a11,b11,rfl,w11,h12⟩:=r9 h11
 obtain⟨x11,rfl,o11⟩:=bp9 (n:=n+0) w11
 obtain⟨a12,b12,rfl,w12,h13⟩:=r9 h12
 obtain⟨x12,rfl,o12⟩:=aE3 (n:=n+1) w12
 obtain⟨a13,b13,rfl,w13,h14⟩:=r9 h13
 obtain⟨x13,rfl,o13⟩:=aF6 (n:=n+1) w13
 obtain⟨a14,b14,rfl,w14,h15⟩:=r9 h14
 obtain⟨x14,rfl,o14⟩:=aF6 (n:=n+1) w14
 obtain rfl:=cw5 h15
 exact⟨⟨x0,x1,x2,x3,x4,x5,x6,x7,x8,x9,x10,x11,x12,x13,x14⟩,rfl,o0,o1,o2,o3,o4,o5,o6,o7,o8,o9,o10,o11,o12,o13,o14⟩
theorem bo1 {n:Nat}{ds:List D} (h:Y4 Tryz.prog (n+5) 42 ds):∃x:Op,ds=Op.enc x∧x.Ok:=by
 have h0:=bP5 (n:=n+4) (ts:= [3,40,2,3]) (by kernel_rfl) h
 obtain⟨a0,b0,rfl,w0,h1⟩:=r9 h0
 obtain⟨x0,rfl,o0⟩:=l9 (n:=n+3) w0
 obtain⟨a1,b1,rfl,w1,h2⟩:=r9 h1
 obtain⟨x1,rfl,o1⟩:=bq6 (n:=n+0) w1
 obtain⟨a2,b2,rfl,w2,h3⟩:=r9 h2
 obtain⟨x2,rfl,o2⟩:=m8 (n:=n+3) w2
 obtain⟨a3,b3,rfl,w3,h4⟩:=r9 h3
 obtain⟨x3,rfl,o3⟩:=l9 (n:=n+3) w3
 obtain rfl:=cw5 h4
 exact⟨⟨x0,x1,x2,x3⟩,rfl,o0,o1,o2,o3⟩
theorem bp1 {n:Nat}{ds:List D} (h:Y4 Tryz.prog (n+6) 25 ds):∃x:List Op,ds=(I0 29 Op.enc) x∧(x.length*312≤reachBytes∧∀y∈x,y.Ok):=by
 obtain⟨rows,rfl,o,w⟩:=cd3 (n:=n+5) (e:=42) (sz:=29) (by_:=312) (by kernel_rfl) (by kernel_rfl) (by kernel_rfl) h
 obtain⟨l,rfl,q⟩:=bY2 (en:=Op.enc) (Ok:=fun y=>y.Ok) (fun r hr=>bo1 (n:=n+0) hr) rows w
 exact⟨l,rfl,by simpa using o,q⟩
theorem law24_DeciderProposes_sound (H:∀(c:d9) (l_:List Op),c.Ok→(l_.length*312≤reachBytes∧∀y∈l_,y.Ok)→aB6 c l_=some true):∀xs,wtA Tryz.prog Tryz.f6.params.toList xs→i7 E 6 xs [] fun d _=>d=.bool true:=by
 intro xs h
 have h0:wtA Tryz.prog [24,25] xs:=h
 obtain⟨d0,r0,rfl,w0,h1⟩:=dz7 h0
 obtain⟨c0,rfl,v0⟩:=ew0 (by kernel_rfl) w0
 obtain⟨x0,rfl,o0⟩:=bp4 (n:=3) v0
 obtain⟨d1,r1,rfl,w1,h2⟩:=dz7 h1
 have v1:=eh5 (by kernel_rfl) w1
 obtain⟨x1,e1,o1⟩:=bp1 (n:=0) v1
 obtain⟨rfl,-⟩:=List.cons.inj e1
 obtain rfl:=eu1 h2
 exact(bM8 (H x0 x1 o0 o1)).mono fun d s h=>h.1
/-- What is told of a message that is sent. -/
structure PM (c : d9) (st st' : f3) (d : Bool) (f4 : Int) (m : f5) : Prop where
  k4 : m.Kind = 4 → aM9 c st.known ∧ 0 ≤ f4 ∧ ak5 c st.known (ab2 st.votes c.Observers f4 c.Fresh) f4 = (st'.prop.Own, true) ∧ aP8 st'.prop.Own ∧ m.Plan = st.known ∧ m.Epoch = st.known.Epoch + 1 ∧ m.Ballot = st'.prop.Ballot ∧ (decide (st'.boot ≠ 0) && (!d && bR5 st'.hold 0 f4)) = true
  k7 : m.Kind = 7 → st'.prop.Phase = 2 ∧ m.Plan = st'.prop.Value ∧ m.Ballot = st'.prop.Ballot ∧ m.Epoch = st'.prop.Epoch ∧ aP8 m.Plan
  k9 : m.Kind = 9 → m.Plan = st'.known ∧ aP8 m.Plan
theorem bY7 {c:d9}{ix:Int}{m:f5}{l:List Int}:∀x∈toL c ix m l,x.Kind=m.Kind∧x.Plan=m.Plan∧x.Epoch=m.Epoch∧x.Ballot=m.Ballot:=fun x hx=>by
 obtain⟨t,_,rfl⟩:=List.mem_map.1 hx;exact⟨rfl,rfl,rfl,rfl⟩
theorem ed4 {c:d9}{st st' :f3}{d:Bool}{f4:Int}{m:f5} (h4:m.Kind≠4) (h7:m.Kind≠7) (h9:m.Kind≠9):PM c st st' d f4 m:=⟨fun h=>absurd h h4,fun h=>absurd h h7,fun h=>absurd h h9⟩
section
variable {c : d9} {st : f3} {M M' : Int} {i : Nat}
theorem eH0 (cb:CB c) {o:Op}{d:Bool}{i6:List f5}{st' :f3} (hd:DI c st M i) (hf:at7 o.M_) (hs:SR c 0 o st M d i6 st' M'):∀m∈i6,PM c st st' d o.Now m:=by
 cases hs with
 | idle _ _=>intro m hm;cases hm
 | fall _ _=>intro m hm;cases hm
 | boot _ _=>intro m hm;cases hm
 | tick _ h1 h2 hb hdn hp=>
  obtain⟨ho,aa,to,he,-⟩:=dN9 (c:=c) (ix:=0) (f4:=o.Now) (st:=st)
  have kk:(ce3 c 0 o.Now st).known=st.known:=by rw[he]
  have kv:(ce3 c 0 o.Now st).votes=st.votes:=by rw[he]
  have kl:(ab3 c 0 o.Now st).2.known=st.known:=by unfold ab3;split<;>rfl
  intro m hm
  rcases List.mem_append.1 hm with hm | hm
  ·rcases List.mem_append.1 hm with hm | hm
   ·unfold ab3 at hm
    split at hm
    ·have:=(bY7 m hm).1
     have:m.Kind=10:=this
     exact ed4 (by omega) (by omega) (by omega)
    ·cases hm
   ·unfold bl3 at hm
    split at hm
    ·cases hm
    ·obtain⟨a1,a2,-,-⟩:=bY7 m hm
     have a1:m.Kind=9:=a1
     have a2:m.Plan=st.known:=a2.trans kl
     have kn:st'.known=st.known:=by
      rw[←kk];cases hp<;>rfl
     exact⟨fun h=>by omega,fun h=>by omega,fun _=>⟨by rw[kn];exact a2,by rw[a2];exact hd.kn.2.s⟩⟩
  ·cases hp with
   | same=>cases hm
   | none=>cases hm
   | @go n b code op b1 b2 b3 b4 b5 b6 b7 b8 b9 b10=>
    obtain⟨g1,g2,g3⟩:=dM8 cb h1 b3 b4
    rw[kk,kv] at b4
    rw[kk] at b3 g3 hm
    rcases List.mem_append.1 hm with hm | hm
    ·have:=(bY7 m hm).1
     have:m.Kind=12:=this
     exact ed4 (by omega) (by omega) (by omega)
    ·obtain⟨a1,a2,a3,a4⟩:=bY7 m hm
     have a1:m.Kind=4:=a1
     have own:(an4 ((ce3 c 0 o.Now st).known.Epoch+1) b n).Own=n:=by rw[kk];exact g3
     refine⟨fun _=>⟨b3,h1,?_,?_,a2,a3,a4,?_⟩,fun h=>by omega,fun h=>by omega⟩
     ·rw[b4];exact(congrArg (fun x=>(x,true)) own).symm
     ·show aP8 (an4 ((ce3 c 0 o.Now st).known.Epoch+1) b n).Own
      rw[own];exact g1.2.s
     ·rw[hdn]
      simp only[Bool.not_false,Bool.true_and,Bool.and_eq_true,decide_eq_true_eq]
      exact⟨b1,b2⟩
 | handle _ hr h1 h2 hb _ hh=>
  cases hh with
  | acc q1 q2=>
   intro m hm
   obtain⟨a1,a2,a3,a4⟩:=bY7 m hm
   have a1:m.Kind=7:=a1
   have hv:aS8 (L9 st.prop c o.M_).Value:=by
    rcases(cc6 (c:=c) hd.pi hr hf).1.ph with hp | ⟨-,-,-,-,-,hp⟩
    ·omega
    ·exact(hp q2).1
   exact⟨fun h=>by omega,fun _=>⟨q2,a2,a4,a3,by rw[a2];exact hv.2.s⟩,fun h=>by omega⟩
  | learn k8 q2=>
   intro m hm
   obtain⟨a1,a2,a3,a4⟩:=bY7 m hm
   have a1:m.Kind=9:=a1
   have hv:aS8 st.prop.Value:=by
    rcases hd.pi.ph with hp | ⟨-,-,-,-,-,hp⟩
    ·omega
    ·exact(hp q2).1
   exact⟨fun h=>by omega,fun h=>by omega,fun _=>⟨a2,by rw[a2];exact hv.2.s⟩⟩
  | _=>intro m hm;cases hm
variable {l_ : List Op} {st' : f3} {f : Int} {d : Bool} {s t : List Int} {r : Bool} {o : Op}
theorem dT9 (hc:W7 c=true) (hd:DI c st M i) (hi:i≤250) (hob:c.Observers≤9223372036854775807) {x:List f5} (hx:∀m∈x,PM c st st' d o.Now m) (hl:x.length≤100000):∀(j k:Nat),k+j=x.length→
  Ev (z4 c l_) (.s3 true ((i+1:Nat):Int) st' 0 f d s t) r→Ev (z4 c l_) (.s4 true (i:Int) st.votes x (k:Int) st' 0 o st.known f d s t) r:=by
 have k0:∀(st:f3) (f:Int) (d:Bool) (s t:List Int),ac5 st c 0 f d s t=some st.known:=fun _ _ _ _ _=>rfl
 have k1:∀(st:f3) (f:Int) (d:Bool) (s t:List Int),bh9 st c 0 f d s t=some st.prop:=fun _ _ _ _ _=>rfl
 intro j
 induction j with
 | zero=>
  intro k hk h
  refine .next ?_ h
  simp only[z4,G3,List.length_map,geB (show x.length≤k by omega),cond_false,wD (show i≤3000000 by omega)]
 | succ j ih=>
  intro k hk h
  have hlt:k<x.length:=by omega
  obtain⟨p4,p7,p9⟩:=hx _ (List.getElem_mem hlt)
  have w:=wD (show k≤3000000 by omega)
  refine .next ?_ (ih (k+1) (by omega) h)
  by_cases h4:(x[k]).Kind=4
  ·obtain⟨q1,q2,q3,q4,q5,q6,q7,q8⟩:=p4 h4
   have hta:bs3 st.votes c.Observers o.Now c.Fresh=some ((ab2 st.votes c.Observers o.Now c.Fresh:Nat):Int):=ea5 (l:=st.votes) (o:=c.Observers) (n:=o.Now) (f:=c.Fresh) (by have:=hd.vl;omega) hd.vo hob
   have hnx:=eh3 hc q1 (di8 st.votes c.Observers o.Now c.Fresh) q2
   rw[q3] at hnx
   have s1:=cg9 (a:=st'.prop.Own) (b:=st'.prop.Own) q4
   rw[be7.2 rfl] at s1
   have s2:=cg9 (a:=(x[k]).Plan) (b:=st.known) (by rw[q5];exact hd.kn.2.s)
   rw[be7.2 q5] at s2
   have e1:IntKind.i64.wrap (st.known.Epoch+1)=st.known.Epoch+1:=v9 (by have:=q1.r.epoch;omega) (by have:=q1.e;omega)
   have n1:((x[k]).Epoch !=st.known.Epoch+1)=false:=by rw[q6];exact bne_self_eq_false _
   have n2:((x[k]).Ballot !=st'.prop.Ballot)=false:=by rw[q7];exact bne_self_eq_false _
   simp only[z4,G3,List.length_map,G4 hlt,O9,Bool.and_self,cond_true,Int.toNat_natCast,List.getE hlt,k1,Option.bind_some,beq_iff_eq.2 h4,hta,hnx,Bool.not_true,cond_false,s1,s2,e1,n1,n2,cg0,q8,w]
  ·by_cases h7:(x[k]).Kind=7
   ·obtain⟨q1,q2,q3,q4,q5⟩:=p7 h7
    have s1:=cg9 (a:=(x[k]).Plan) (b:=st'.prop.Value) q5
    rw[be7.2 q2] at s1
    have n0:(st'.prop.Phase !=2)=false:=by rw[q1];rfl
    have n1:((x[k]).Ballot !=st'.prop.Ballot)=false:=by rw[q3];exact bne_self_eq_false _
    have n2:((x[k]).Epoch !=st'.prop.Epoch)=false:=by rw[q4];exact bne_self_eq_false _
    simp only[z4,G3,List.length_map,G4 hlt,O9,Bool.and_self,cond_true,Int.toNat_natCast,List.getE hlt,k1,Option.bind_some,beq_eq_false_iff_ne.2 h4,beq_iff_eq.2 h7,cond_false,n0,s1,Bool.not_true,n1,n2,w]
   ·by_cases h9:(x[k]).Kind=9
    ·obtain⟨q1,q2⟩:=p9 h9
     have s1:=cg9 (a:=(x[k]).Plan) (b:=st'.known) q2
     rw[be7.2 q1] at s1
     simp only[z4,G3,List.length_map,G4 hlt,O9,Bool.and_self,cond_true,Int.toNat_natCast,List.getE hlt,k0,k1,Option.bind_some,beq_eq_false_iff_ne.2 h4,beq_eq_false_iff_ne.2 h7,beq_iff_eq.2 h9,cond_false,s1,Bool.not_true,w]
    ·simp only[z4,G3,List.length_map,G4 hlt,O9,Bool.and_self,cond_true,Int.toNat_natCast,List.getE hlt,k1,Option.bind_some,beq_eq_false_iff_ne.2 h4,beq_eq_false_iff_ne.2 h7,beq_eq_false_iff_ne.2 h9,cond_false,w]
theorem et9 (cb:CB c) {o:Op}{d:Bool}{i6:List f5}{st' :f3}{M' :Int} (hs:SR c 0 o st M d i6 st' M'):i6.length≤60:=by
 have a:=bJ3 cb
 have b:=cJ6 cb 0
 cases hs with
 | tick _ _ _ _ _ hp=>
  have l1:=dD7 (ix:=0) (f4:=o.Now) (st:=st) cb
  have l2:=dO6 (ix:=0) (f4:=o.Now) (st:=(ab3 c 0 o.Now st).2) cb
  have l3:=ec4 cb hp
  simp only[List.length_append];omega
 | handle _ _ _ _ _ _ hh=>
  cases hh with
  | acc _ _=>rw[cx1];omega
  | learn _ _=>rw[cx1];omega
  | _=>simp
 | _=>simp
end
theorem deciderProposes (c:d9) (l_:List Op) (hc0:c.Ok) (hl:l_.length*312≤reachBytes∧∀y∈l_,y.Ok):aB6 c l_=some true:=by
 have ht:c.Tiers.length<9223372036854775807:=by
  obtain⟨-,-,-,-,-,⟨h1,-⟩,-⟩:=hc0
  exact dP8 h1
 have hnew:=cY0 (c:=c) (index:=0) ht
 have s0:z4 c l_ .s0=T4 c l_:=rfl
 unfold T4 at s0
 by_cases hr:W7 c=true∧0≤(0:Int)∧0<c.Deciders
 rotate_left
 ·rw[if_neg hr] at hnew
  exact z7 (.next (s' :=.s1 true) (by rw[s0,di1];simp only[Option.bind_some,hnew]) (.done rfl))
 rw[if_pos hr] at hnew
 obtain⟨hc,-,-⟩:=hr
 have cb:=ax7 hc
 refine z7 (.next (s' :=.s2 true (zst c) 0 (-1) false [] []) (by rw[s0,di1];simp only[Option.bind_some,hnew]) ?_)
 by_cases hg:l_.length≤200
 rotate_left
 ·refine .done ?_
  have:decide (((l_.length:Nat):Int)>200)=true:=decide_eq_true (by omega)
  simp only[z4,T0,aX6,List.length_map,this,Option.bind_some,cond_true]
 have key:∀(j i:Nat) (st:f3) (ns:List Int) (pend:Option Int) (f:Int) (d:Bool) (s t:List Int),i+j=l_.length→DI c st (L4 ns) i→JR ns pend f d s t i→Ev (z4 c l_) (.s3 true (i:Int) st 0 f d s t) true:=by
  intro j
  induction j with
  | zero=>
   intro i st ns pend f d s t hi hd hj
   refine .done ?_
   simp only[z4,T2,List.length_map,geB (show l_.length≤i by omega),cond_false]
  | succ j ih=>
   intro i st ns pend f d s t hi hd hj
   have hlt:i<l_.length:=by omega
   have ho:=hl.2 _ (List.getElem_mem hlt)
   obtain⟨i6,st',f',d',s',t',ns',pend',e1,e2,e3,e4⟩:=ex6 (ix:=0) hd hj hc ht (by decide) ho (by omega)
   have ih:=ih (i+1) st' ns' pend' f' d' s' t' (by omega) e2 e3
   have ol:=et9 cb e4
   have k0:∀(st:f3) (f:Int) (d:Bool) (s t:List Int),ac5 st c 0 f d s t=some st.known:=fun _ _ _ _ _=>rfl
   have hv:aJ8 st c 0 f d s t=some st.votes:=by
    have:decide ((0+st.votes.length)*24≤l6)=true:=E0 (by have:=hd.vl;omega)
    simp only[aJ8,ak0,List.length_map,this,cond_true,Option.bind_some]
   refine .next (s' :=.s4 true (i:Int) st.votes i6 ((0:Nat):Int) st' 0 l_[i] st.known f' d' s' t') ?_ (dT9 hc hd (by omega) (by have:=cb.obs;omega) (eH0 cb hd ho.2.1.fine e4) (by omega) i6.length 0 (by omega) ih)
   simp only[z4,T2,List.length_map,G4 hlt,O9,Bool.and_self,cond_true,Int.toNat_natCast,List.getE hlt,Option.bind_some,k0,hv,e1];rfl
 refine .next (s' :=.s3 true ((0:Nat):Int) (zst c) 0 (-1) false [] []) ?_ (key l_.length 0 (zst c) [] none (-1) false [] [] (by omega) (dY4 cb (by decide) (by decide)) JR0)
 have:decide (((l_.length:Nat):Int)>200)=false:=decide_eq_false (by omega)
 simp only[z4,T0,aX6,List.length_map,this,Option.bind_some,cond_false];rfl
end Go.RX.L
