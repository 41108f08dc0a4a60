/-
  Words and walks for DeciderBallots. No condition.
-/
import Derived.Test.YtajehicfjidaiaaGreatDoorDeciderBallotsY7
set_option linter.unusedSectionVars false
set_option linter.unnecessarySimpa false
set_option linter.unusedSimpArgs false
set_option linter.unusedVariables false
set_option maxRecDepth 100000
set_option maxHeartbeats 4000000
namespace Go.RX.L
open Go Go.RX Go.Proofs
attribute [local irreducible] f6
noncomputable def bk4:=p8 (q0 Tryz.f25)
noncomputable def bk1 (c:d8) (index:Int) (y:Int×d9×Int×Bool×(List Int)×(List Int)):D×f4:=(.int .i64 y.1,[some ⟨88,true,[(d9.l y.2.1 (d8.l c [.int .i64 index,.ptr 1 0 0]))]⟩,some ⟨4,true,[[(f5 4 (List.map (d7 .u8) y.2.2.2.2.1)),(f5 5 (List.map (d7 .u8) y.2.2.2.2.2)),.int .i64 y.2.2.1,.bool y.2.2.2.1]]⟩,none,none,some ⟨1,false,(List.map (d7 .u8) y.2.2.2.2.1)⟩,some ⟨1,false,(List.map (d7 .u8) y.2.2.2.2.2)⟩])
inductive ae1 where
 | s0 (state:d9) (fuse:Int) (down:Bool) (b2 b3:List Int)
 | s1 (bodies:List (List Int)) (t34:List Int) (t35 t36:Int) (state2:d9) (fuse2:Int) (down2:Bool) (b4 b5:List Int)
noncomputable def bj0 (now:Int) (c:d8) (index:Int):ae1→M
 | .s0 state fuse down b2 b3=>A5 Tryz.f25 [.ptr 0 0 0,.int .i64 now] [some ⟨88,true,[(d9.l state (d8.l c [.int .i64 index,.ptr 1 0 0]))]⟩,some ⟨4,true,[[(f5 2 (List.map (d7 .u8) b2)),(f5 3 (List.map (d7 .u8) b3)),.int .i64 fuse,.bool down]]⟩,some ⟨1,false,(List.map (d7 .u8) b2)⟩,some ⟨1,false,(List.map (d7 .u8) b3)⟩]
 | .s1 bodies t34 t35 t36 state2 fuse2 down2 b4 b5=>⟨[.lpc (bk4 [1,1,1,1,0,1,0,0]) 120259084355,.blk 0,.code (bk4 [1,1,1,1,1])],[(0,.ptr 0 0 0),(1,.int .i64 now),(6,.sl false 1 (List.map (E3 1 (d7 .u8)) bodies)),(34,.sl false 1 (List.map (d7 .u8) t34)),(35,.int .i64 t35),(36,.int .i64 t36)],[some ⟨88,true,[(d9.l state2 (d8.l c [.int .i64 index,.ptr 1 0 0]))]⟩,some ⟨4,true,[[(f5 4 (List.map (d7 .u8) b4)),(f5 5 (List.map (d7 .u8) b5)),.int .i64 fuse2,.bool down2]]⟩,none,none,some ⟨1,false,(List.map (d7 .u8) b4)⟩,some ⟨1,false,(List.map (d7 .u8) b5)⟩]⟩
abbrev bj1 (now:Int) (c:d8) (index:Int):=SOk E (Cx.of Tryz.f25 true 4) (bk1 c index) (bj0 now c index)
noncomputable def af4 (now:Int) (c:d8) (index:Int) (state:d9) (fuse:Int) (down:Bool) (b2 b3:List Int):Option (ae1⊕(Int×d9×Int×Bool×(List Int)×(List Int))):=((az6 c).bind fun y1=>((Z9 fuse down b2 b3).bind fun y2=>(bif ((y2.2.2.1:Int) !=0) then (some (.inr (y2.2.2.1,(⟨0,y1,0,[],(⟨0,0,0,0⟩:p5),(⟨false,0⟩:T4),(⟨0,0,0,(⟨0,0,0,0,0,0,0,0,0,0,[],[]⟩:Plan),0,(⟨0,0,0,0,0,0,0,0,0,0,[],[]⟩:Plan),0,0⟩:i7),0,0,0,(⟨false,0⟩:T4)⟩:d9),y2.2.2.2.1,y2.2.2.2.2.1,y2.2.2.2.2.2.1,y2.2.2.2.2.2.2))) else (some (.inl (.s1 y2.2.1 y2.1 (((List.map (d7 .u8) y2.1).length:Nat):Int) 0 (⟨0,y1,0,[],(⟨0,0,0,0⟩:p5),(⟨false,0⟩:T4),(⟨0,0,0,(⟨0,0,0,0,0,0,0,0,0,0,[],[]⟩:Plan),0,(⟨0,0,0,0,0,0,0,0,0,0,[],[]⟩:Plan),0,0⟩:i7),0,0,0,(⟨false,0⟩:T4)⟩:d9) y2.2.2.2.1 y2.2.2.2.2.1 y2.2.2.2.2.2.1 y2.2.2.2.2.2.2))))))
noncomputable def P2 (now:Int) (c:d8) (index:Int) (bodies:List (List Int)) (t34:List Int) (t35 t36:Int) (state2:d9) (fuse2:Int) (down2:Bool) (b4 b5:List Int):Option (ae1⊕(Int×d9×Int×Bool×(List Int)×(List Int))):=(bif (decide ((t36:Int)<t35)) then (bif ((decide ((0:Int)≤t36))&&(decide ((t36:Int)<(((List.map (d7 .u8) t34).length:Nat):Int)))) then (((t34)[t36.toNat]?).bind fun y3=>(bif ((decide ((0:Int)≤t36))&&(decide ((t36:Int)<(((List.map (E3 1 (d7 .u8)) bodies).length:Nat):Int)))) then (((bodies)[t36.toNat]?).bind fun y6=>((bf9 y3 y6).bind fun y8=>(bif ((y8.2:Int)==0) then (bif ((y8.1.Kind:Int)==17) then (bif (decide ((y8.1.Nonce:Int)≥1048575)) then (some (.inr (2,state2,fuse2,down2,b4,b5))) else (some (.inl (.s1 bodies t34 t35 (IntKind.i64.wrap (t36+1)) state2 fuse2 down2 b4 b5)))) else (some (.inl (.s1 bodies t34 t35 (IntKind.i64.wrap (t36+1)) state2 fuse2 down2 b4 b5)))) else (some (.inl (.s1 bodies t34 t35 (IntKind.i64.wrap (t36+1)) state2 fuse2 down2 b4 b5)))))) else none)) else none) else ((bb5 fuse2 down2 b4 b5).bind fun y12=>(bif ((y12.2.1:Int) !=0) then (some (.inr (y12.2.1,state2,y12.2.2.1,y12.2.2.2.1,y12.2.2.2.2.1,y12.2.2.2.2.2))) else (some (.inr (0,(⟨y12.1,state2.known,now,state2.votes,state2.hold,state2.asked,state2.prop,state2.made,state2.top,state2.sealed,state2.told⟩:d9),y12.2.2.1,y12.2.2.2.1,y12.2.2.2.2.1,y12.2.2.2.2.2))))))
noncomputable def N8 (now:Int) (c:d8) (index:Int):ae1→Option (ae1⊕(Int×d9×Int×Bool×(List Int)×(List Int)))
 | .s0 state fuse down b2 b3=>af4 now c index state fuse down b2 b3
 | .s1 bodies t34 t35 t36 state2 fuse2 down2 b4 b5=>P2 now c index bodies t34 t35 t36 state2 fuse2 down2 b4 b5
theorem bJ7 {now c index state fuse down b2 b3}:bj1 now c index (.s0 state fuse down b2 b3) (af4 now c index state fuse down b2 b3):=by
 intro r x h ha;unfold af4 at h
 refine zc 13 [] h (fun _=>bD8) fun y1 h=> ?_
 refine zc 15 [] h (fun _=>by7) fun y2 h=> ?_
 refine zs 15 h (fun h=> ?_) fun h=> ?_
 ·
  refine zf 5 [.blk 0 [some 3,some 1,some 1,some 1,some 1]] ?_
  exact zt 1 h ha
 exact zk 11 h ha [.blk 0 [some 3,some 1,some 1,some 1,some 1]]
theorem bI8 {now c index bodies t34 t35 t36 state2 fuse2 down2 b4 b5}:bj1 now c index (.s1 bodies t34 t35 t36 state2 fuse2 down2 b4 b5) (P2 now c index bodies t34 t35 t36 state2 fuse2 down2 b4 b5):=by
 intro r x h ha;unfold P2 at h
 refine zs 7 h (fun h=> ?_) fun h=> ?_
 ·
  refine zn 7 h fun h=> ?_
  refine zr 1 (d7 .u8) h fun y3 h=> ?_
  refine zn 9 h fun h=> ?_
  refine zr 1 (E3 1 (d7 .u8)) h fun y6 h=> ?_
  refine zc 1 [] h (fun _=>cH1) fun y8 h=> ?_
  refine zs 15 h (fun h=> ?_) fun h=> ?_
  ·
   refine zs 9 h (fun h=> ?_) fun h=> ?_
   ·
    refine zs 9 h (fun h=> ?_) fun h=> ?_
    ·
     exact zt 5 h ha
    exact zj 7 h ha
   exact zj 16 h ha
  exact zj 25 h ha
 refine zc 9 [] h (fun _=>cB3) fun y12 h=> ?_
 refine zs 13 h (fun h=> ?_) fun h=> ?_
 ·
  exact zt 6 h ha
 exact zt 25 h ha
noncomputable def am6 (now:Int) (state:d9) (c:d8) (index fuse:Int) (down:Bool) (b2 b3:List Int):Option (Int×d9×Int×Bool×(List Int)×(List Int)):=V6 (N8 now c index) (.s0 state fuse down b2 b3)
theorem be0 {now:Int}{state:d9}{c:d8}{index fuse:Int}{down:Bool}{b2 b3:List Int}{r:Int×d9×Int×Bool×(List Int)×(List Int)} (h:am6 now state c index fuse down b2 b3=some r):i0 E 25 [.ptr 0 0 0,.int .i64 now] [some ⟨88,true,[(d9.l state (d8.l c [.int .i64 index,.ptr 1 0 0]))]⟩,some ⟨4,true,[[(f5 2 (List.map (d7 .u8) b2)),(f5 3 (List.map (d7 .u8) b3)),.int .i64 fuse,.bool down]]⟩,some ⟨1,false,(List.map (d7 .u8) b2)⟩,some ⟨1,false,(List.map (d7 .u8) b3)⟩] (Rs (bk1 c index) r):=sc (fn:=Tryz.f25) (k:=true) (m:=4) (stM:=(bj0 now c index)) h fun s=>by
 cases s with
 | s0=>exact bJ7
 | s1=>exact bI8
end Go.RX.L

namespace Go.RX.L
open Go Go.RX
theorem cW5:bh6 v9:=⟨ac2.2 (by decide),by decide,by decide,⟨by decide,by decide⟩⟩
theorem dQ1 (k f t e b a n ti u co:Int):Shm ⟨k,f,t,e,b,a,n,ti,u,co,false,v9,[],[],[]⟩:=⟨⟨by simp [v9],by simp [v9]⟩,F8.2 (by simp [v9]),F8.2 (by simp [v9])⟩
theorem dy9 {k f t e b a n ti co:Int} (hk:1≤k∧k≤19) (hf:0≤f∧f≤255) (ht:0≤t∧t≤255) (hc:0≤co∧co≤1000):B3 ⟨k,f,t,e,b,a,n,ti,0,co,false,v9,[],[],[]⟩=true:=by
 simp only [B3,Bool.and_eq_true,decide_eq_true_eq,aN1,cond_false]
 refine ⟨?_,by unfold txM;simp,by rw [bw8]⟩
 unfold hdM;simp only;omega
def z3 (n:Int):e9:=⟨17,0,0,0,0,0,n,0,0,0,false,v9,[],[],[]⟩
theorem cF3 {n:Int} (h:n8 .i64 n):bx4 (z3 n):=by
 refine ⟨⟨dQ1 ..,cW5,?_,by simp [z3],fun x hx=>by simp [z3] at hx,fun x hx=>by simp [z3] at hx,fun x hx=>by simp [z3] at hx⟩,dy9 (by decide) (by decide) (by decide) (by decide)⟩
 intro x hx
 simp only [z3,List.mem_cons,List.not_mem_nil,or_false] at hx
 rcases hx with rfl | rfl | rfl | rfl | rfl<;>first | assumption | exact ac2.2 (by decide)
def G8 (l:List Int):Int:=l.foldl u9 0
theorem dX4 {a b n:Int} (h1:a≤n) (h2:b≤n):u9 a b≤n:=by unfold u9;split<;>omega
theorem cp1 (a b:Int):a≤u9 a b:=by unfold u9;split<;>omega
theorem dg5:∀(l:List Int) (a n:Int),a≤n→(∀x∈l,x≤n)→a≤l.foldl u9 a∧l.foldl u9 a≤n
 | [],a,n,h,_=>⟨Int.le_refl _,h⟩
 | x::l,a,n,h,hl=>by
  have:=dg5 l (u9 a x) n (dX4 h (hl x (by simp))) fun y hy=>hl y (by simp [hy])
  have h2:=cp1 a x
  rw [List.foldl_cons];omega
theorem dh0 (l:List Int) (n:Int):G8 (l++ [n])=u9 (G8 l) n:=by simp [G8]
def eb4:Option Int→List Int
 | none=> []
 | some n=>Z5 [z3 n]
/-- What the disk has: boots, one that is not synced. -/
structure JR (ns : List Int) (pend : Option Int) (fuse : Int) (down : Bool) (s t : List Int) (i : Nat) : Prop where
  fu : W7 fuse
  dk : ∃ J, br9 (ns.map z3) J s ∧ (down = false → J = []) ∧ (pend ≠ none → J = [])
  tl : t = eb4 pend
  up : down = false → pend = none
  ns_ : ∀ n ∈ ns, 0 ≤ n ∧ n ≤ i
  pd : ∀ n, pend = some n → 0 ≤ n ∧ n ≤ i
  len : s.length + t.length ≤ 9000 * i
  cnt : ns.length + pend.toList.length ≤ i
theorem JR0:JR [] none (-1) false [] [] 0:=⟨by unfold W7;omega,⟨[],br9.nil,fun _=>rfl,fun _=>rfl⟩,rfl,fun _=>rfl,by simp,by simp,by simp,by simp⟩
section
variable {ns : List Int} {pend : Option Int} {fuse : Int} {down : Bool} {s t : List Int} {i : Nat}
theorem JR.more (h:JR ns pend fuse down s t i):JR ns pend fuse down s t (i+1):={ h with ns_:=fun n hn=>by have:=h.ns_ n hn;omega,pd:=fun n hn=>by have:=h.pd n hn;omega,len:=by have:=h.len;omega,cnt:=by have:=h.cnt;omega }
theorem JR.mx (h:JR ns pend fuse down s t i):0≤G8 ns∧G8 ns≤i:=dg5 ns 0 i (by omega) fun x hx=>(h.ns_ x hx).2
theorem dP1 {k:Int} (h:JR ns pend fuse down s t i) (hk:n8 .i64 k):aU7 k fuse down s t=some (u9 k (-1))∧JR ns pend (u9 k (-1)) down s t i:=by
 refine ⟨rfl,{ h with fu:= ?_ }⟩
 have:=ac2.1 hk
 unfold W7 u9;split<;>omega
theorem cS7 {n:Int}{i:Nat} (h:0≤n∧n≤i) (hi:i≤300):n8 .i64 n:=ac2.2 (by omega)
theorem dG8 {keep:Int} (h:JR ns pend fuse down s t i) (hi:i≤300):∃s' ns',ak6 keep fuse down s t=some (-1,true,s',[])∧JR ns' none (-1) true s' [] i∧G8 ns≤G8 ns' :=by
 obtain ⟨fu,⟨J,dk,dj,dp⟩,tl,up,hn,pd,len,cnt⟩:=h
 have hc:=dW3 (keep:=keep) (fuse:=fuse) (down:=down) (s:=s) (t:=t) (by omega)
 have hkl:(bb6 keep t).length≤t.length:=by unfold bb6;rw [List.length_take];omega
 have f0:W7 (-1):=by unfold W7;omega
 have no:∀{P:Prop},true=false→P:=fun h=>by cases h
 cases hp:pend with
 | none=>
  rw [hp] at tl cnt
  subst tl
  exact ⟨_,ns,hc,⟨f0,⟨J,dk.crash0 keep,no,fun h=>absurd rfl h⟩,rfl,no,hn,fun n h=>(by cases h),by simp [bb6] at len ⊢;omega,by simp at cnt ⊢;omega⟩,Int.le_refl _⟩
 | some m=>
  have hm:=pd m hp
  have hJ:=dp (by rw [hp];simp)
  subst hJ
  rw [hp] at tl cnt
  have tl:t=Z5 [z3 m]:=tl
  simp only [Option.toList,List.length_cons,List.length_nil] at cnt
  rcases dk.crash (cF3 (cS7 hm hi)) keep with h1 | ⟨J,h1⟩
  ·refine ⟨_,ns++ [m],hc,⟨f0,⟨[],by rw [tl,List.map_append];exact h1,no,fun h=>absurd rfl h⟩,rfl,no,fun n h=> ?_,fun n h=>(by cases h),by simp;omega,by simp;omega⟩,by rw [dh0];exact cp1 _ _⟩
   rcases List.mem_append.1 h with h | h
   ·exact hn n h
   ·rw [List.mem_singleton.1 h];exact hm
  ·exact ⟨_,ns,hc,⟨f0,⟨J,by rw [tl];exact h1,no,fun h=>absurd rfl h⟩,rfl,no,hn,fun n h=>(by cases h),by simp;omega,by simp;omega⟩,Int.le_refl _⟩
/-! ### a boot -/
def ar7 (ns:List Int):List (List Int):=ns.map fun n=>ai4 (z3 n)
def ak2 (ns:List Int):List Int:=ns.map fun _=>17
theorem wB {k:Nat} (h:k≤3000000):IntKind.i64.wrap ((k:Int)+1)=((k+1:Nat):Int):=by rw [u7 (by omega) (by omega)];norm_cast
theorem di0 {n:Int} (h:n8 .i64 n):bf9 17 (ai4 (z3 n))=some (z3 n,0):=by
 have hm:=cF3 h
 have hb:=cm5 hm.1 hm.2
 have hby:s9 (ai4 (z3 n)):=hm.fr.2.1
 rw [eb5 (by decide) hby (by simp only [G1];omega)]
 exact congrArg some (dP5 hm.1 hm.2)
theorem dK9 {k:Nat} (h:k<ns.length):(ak2 ns)[k]? =some 17∧(ar7 ns)[k]? =some (ai4 (z3 ns[k])):=by simp [ak2,ar7,h]
theorem dp3 {f:Int}{d:Bool}{s' t' :List Int}{r:Int×Int×Int×Bool×List Int×List Int} (hn:∀n∈ns,n8 .i64 n) (hl:ns.length≤1000):∀(j k:Nat) (a:Int),k+j=ns.length→
  Ev M7 (.s1 (ar7 ns) ((ns.drop k).foldl u9 a) (ak2 ns) (ns.length:Nat) (ns.length:Nat) f d s' t') r→Ev M7 (.s1 (ar7 ns) a (ak2 ns) (ns.length:Nat) (k:Nat) f d s' t') r:=by
 intro j
 induction j with
 | zero=>
  intro k a hk h
  have:k=ns.length:=by omega
  subst this
  simpa using h
 | succ j ih=>
  intro k a hk h
  have hlt:k<ns.length:=by omega
  rw [List.drop_eq_getElem_cons hlt,List.foldl_cons] at h
  obtain ⟨g1,g2⟩:=dK9 hlt
  have hof:=di0 (hn _ (List.getElem_mem hlt))
  have l1:(decide ((k:Int)<((ak2 ns).length:Int)))=true:=by simp [ak2];omega
  have l2:(decide ((k:Int)<((ar7 ns).length:Int)))=true:=by simp [ar7];omega
  refine .next (s' := .s2 (ar7 ns) a (ak2 ns) (ns.length:Nat) (k:Nat) true f d (z3 ns[k]) s' t') ?_ ?_
  ·simp only [M7,V1,E7 hlt,cond_true,List.length_map,L8,l1,l2,Bool.and_self,Int.toNat_natCast,g1,g2,Option.bind_some,hof,beq_self_eq_true,show (z3 ns[k]).Kind=17 from rfl]
  ·refine .next (s' := .s1 (ar7 ns) (u9 a ns[k]) (ak2 ns) (ns.length:Nat) ((k+1:Nat):Int) f d s' t') ?_ (ih (k+1) _ (by omega) h)
   simp only [M7,aO4,cond_true,wB (show k≤3000000 by omega),show (z3 ns[k]).Nonce=ns[k] from rfl]
theorem dc7:eff (-1) false=some (-1):=by decide
theorem JR.open_ (h:JR ns pend fuse down s t i) (hi:i≤300):(∃f,Z9 fuse down s t=some (ak2 ns,ar7 ns,0,f,false,Z5 (ns.map z3),[])∧JR ns none f false (Z5 (ns.map z3)) [] i∧(fuse= -1→f= -1))∨
  (∃f,Z9 fuse down s t=some ([],[],61,f,true,s,[])∧JR ns none f true s [] i∧fuse≠ -1):=by
 obtain ⟨fu,⟨J,dk,dj,dp⟩,tl,up,hn,pd,len,cnt⟩:=h
 obtain ⟨e0,hcut⟩:=dk.cut
 have ho:=ea4 (fuse:=fuse) (down:=down) (t:=t) (dJ3 dk.ok) hcut dk.jb (by have:=dk.eq;unfold Z5 at this;rw [←this];omega) fu
 have hs:K4 ((ns.map z3).map bi1)++J=s:=dk.eq.symm
 rw [hs] at ho
 have m1:((ns.map z3).map bi1).map (·.1)=ak2 ns:=by simp [bi1,ak2,z3]
 have m2:((ns.map z3).map bi1).map (·.2)=ar7 ns:=by simp [bi1,ar7]
 rw [m1,m2] at ho
 have no:∀{P:Prop},true=false→P:=fun h=>by cases h
 have hls:(Z5 (ns.map z3)).length≤s.length:=by rw [dk.eq];simp
 have good:∀f,W7 f→JR ns none f false (Z5 (ns.map z3)) [] i:=fun f hf=>⟨hf,⟨[],⟨dk.ok,by simp,⟨_,rfl⟩,fun c hc=>by simp at hc⟩,fun _=>rfl,fun _=>rfl⟩,rfl,fun _=>rfl,hn,fun n h=>(by cases h),by simp;omega,by simp;omega⟩
 by_cases hJ:J= []
 ·rw [if_pos hJ] at ho
  exact .inl ⟨fuse,ho,good _ fu,id⟩
 ·rw [if_neg hJ] at ho
  cases he:eff fuse false with
  | some f=>
   rw [he] at ho
   exact .inl ⟨f,ho,good _ (ck4 fu he),fun h=>by rw [h,dc7] at he;exact (Option.some.inj he).symm⟩
  | none=>
   rw [he] at ho
   exact .inr ⟨fd fuse false,by rw [ho,←hs],⟨cy2 fu,⟨J,dk,no,fun h=>absurd rfl h⟩,rfl,no,hn,fun n h=>(by cases h),by simp;omega,by simp;omega⟩,fun h=>by rw [h,dc7] at he;cases he⟩
theorem dT1 (h:JR ns pend fuse down s t i) (hi:i≤250):∃b e f d s' t' ns' pend',bb5 fuse down s t=some (b,e,f,d,s',t')∧JR ns' pend' f d s' t' (i+1)∧G8 ns≤G8 ns' ∧(e=0→d=false∧b=G8 ns+1∧G8 ns' =b)∧(fuse= -1→e=0):=by
 rcases h.open_ (by omega) with ⟨f,ho,hr,hf1⟩ | ⟨f,ho,hr,hf1⟩
 rotate_left
 ·refine ⟨0,61,f,true,s,[],ns,none,u6 (.done ?_),hr.more,Int.le_refl _,(fun h=>by cases h),fun h=>absurd h hf1⟩
  simp only [M7,ax5,ho,Option.bind_some,show ((61:Int) !=0)=true from rfl,cond_true]
 have hin:∀n∈ns,n8 .i64 n:=fun n hn=>cS7 (h.ns_ n hn) (by omega)
 have hm:=h.mx
 have hl:ns.length≤1000:=by have:=h.cnt;omega
 have hrec:bx4 (z3 (G8 ns+1)):=cF3 (ac2.2 (by omega))
 have hb:bG9 (z3 (G8 ns+1))=some (17,ai4 (z3 (G8 ns+1)),0):=by rw [dP8 hrec.1,dl4,if_pos hrec.2];rfl
 obtain ⟨h1,h2,h3⟩:=hrec.fr
 have h1:0≤(17:Int)∧(17:Int)≤255:=by decide
 have h2:s9 (ai4 (z3 (G8 ns+1))):=h2
 have h3:(ai4 (z3 (G8 ns+1))).length≤8192:=h3
 have hlen:=hr.len
 have hcnt:=hr.cnt
 have ha:=dP6 (k:=17) (body:=ai4 (z3 (G8 ns+1))) h1 h2 h3 hr.fu (down:=false) (s:=Z5 (ns.map z3)) (t:= []) (by simp)
 have hlg:H0 17 (ai4 (z3 (G8 ns+1)))=Z5 [z3 (G8 ns+1)]:=(cE3 (z3 (G8 ns+1))).symm
 have hl' :(Z5 [z3 (G8 ns+1)]).length≤8500:=by rw [←hlg,aQ0];omega
 have w1:IntKind.i64.wrap (G8 ns+1)=G8 ns+1:=u7 (by omega) (by omega)
 have ge:decide (G8 ns≥1099511627776)=false:=decide_eq_false (by omega)
 have lt:decide (((ns.length:Nat):Int)<((ns.length:Nat):Int))=false:=decide_eq_false (by omega)
 have first:∀{r},V1 (ar7 ns) (G8 ns) (ak2 ns) (ns.length:Nat) (ns.length:Nat) f false (Z5 (ns.map z3)) []=some (.inr r)→bb5 fuse down s t=some r:=fun {r} hh=>by
  refine u6 (.next (s' := .s1 (ar7 ns) 0 (ak2 ns) (ns.length:Nat) ((0:Nat):Int) f false (Z5 (ns.map z3)) []) ?_ (dp3 hin hl ns.length 0 0 (by omega) (.done ?_)))
  ·simp only [M7,ax5,ho,Option.bind_some,show ((0:Int) !=0)=false from rfl,cond_false,List.length_map]
   simp [ak2]
  ·simpa only [M7,List.drop_zero,G8] using hh
 have bm:(⟨17,0,0,0,0,0,G8 ns+1,0,0,0,false,(⟨0,0,0,0,0,0,0,0,0,0,[],[]⟩:Plan),[],[],[]⟩:e9)=z3 (G8 ns+1):=rfl
 have no:∀{P:Prop},true=false→P:=fun h=>by cases h
 obtain ⟨J,dk,dj,dp⟩:=hr.dk
 have hJ:=dj rfl
 subst hJ
 have b1:0≤G8 ns+1∧G8 ns+1≤((i+1:Nat):Int):=by omega
 have ns1:∀n∈ns,0≤n∧n≤((i+1:Nat):Int):=fun n hn=>by have:=h.ns_ n hn;omega
 simp only [List.length_nil,Nat.add_zero,Option.toList] at hlen hcnt
 simp only [List.nil_append,hlg] at ha
 cases he:eff f false with
 | none=>
  rw [he] at ha
  refine ⟨0,61,fd f false,true,Z5 (ns.map z3),[],ns,none,first ?_,⟨cy2 hr.fu,⟨[],dk,no,fun h=>absurd rfl h⟩,rfl,no,ns1,fun n h=>(by cases h),by simp;omega,by simp;omega⟩,Int.le_refl _,(fun h=>by cases h),fun h=>by rw [hf1 h,dc7] at he;cases he⟩
  simp only [V1,lt,cond_false,ge,w1,bm,hb,Option.bind_some,ha,show ((61:Int) !=0)=true from rfl,cond_true]
 | some g=>
  rw [he] at ha
  have hg:=ck4 hr.fu he
  have hy:=ea8 (fuse:=g) hg (down:=false) (s:=Z5 (ns.map z3)) (t:=Z5 [z3 (G8 ns+1)]) (by omega)
  cases he2:eff g false with
  | none=>
   rw [he2] at hy
   refine ⟨0,61,fd g false,true,Z5 (ns.map z3),Z5 [z3 (G8 ns+1)],ns,some (G8 ns+1),first ?_,⟨cy2 hg,⟨[],dk,no,fun _=>rfl⟩,rfl,no,ns1,fun n h=>(by cases h;exact b1),by omega,by simp;omega⟩,Int.le_refl _,(fun h=>by cases h),fun h=>by rw [hf1 h,dc7] at he;cases he;rw [dc7] at he2;cases he2⟩
   simp only [V1,lt,cond_false,ge,w1,bm,hb,Option.bind_some,ha,show ((0:Int) !=0)=false from rfl,hy,show ((61:Int) !=0)=true from rfl,cond_true]
  | some g2=>
   rw [he2] at hy
   have mx:G8 (ns++ [G8 ns+1])=G8 ns+1:=by rw [dh0];unfold u9;split<;>omega
   refine ⟨G8 ns+1,0,g2,false,Z5 (ns.map z3)++Z5 [z3 (G8 ns+1)],[],ns++ [G8 ns+1],none,first ?_,⟨ck4 hg he2,⟨[],⟨fun x hx=> ?_,by simp [di6],⟨_,rfl⟩,fun c hc=>by simp at hc⟩,fun _=>rfl,fun _=>rfl⟩,rfl,fun _=>rfl,fun n hn=> ?_,fun n h=>(by cases h),by simp;omega,by simp;omega⟩,by rw [mx];omega,(fun _=>⟨rfl,rfl,mx⟩),fun _=>rfl⟩
   ·simp only [V1,lt,cond_false,ge,w1,bm,hb,Option.bind_some,ha,show ((0:Int) !=0)=false from rfl,hy]
   ·rw [List.map_append] at hx
    rcases List.mem_append.1 hx with hx | hx
    ·exact dk.ok x hx
    ·simp only [List.map_cons,List.map_nil,List.mem_singleton] at hx
     rw [hx];exact hrec
   ·rcases List.mem_append.1 hn with hn | hn
    ·exact ns1 n hn
    ·rw [List.mem_singleton.1 hn];exact b1
end
end Go.RX.L

namespace Go.RX.L
open Go Go.RX Go.Proofs
attribute [local irreducible] f6
noncomputable def cv7 (y:Int×Bool):D×f4:=(.tup [.int .i64 y.1,.bool y.2],[])
noncomputable def ak5 (node first many:Int):Option (Int×Bool):=(bif (decide ((node:Int)≥first)) then (some ((IntKind.i64.wrap (node-first)),(decide ((node:Int)<(IntKind.i64.wrap (first+many)))))) else (some ((IntKind.i64.wrap (node-first)),false)))
theorem bu7 {node first many:Int}{r:Int×Bool} (h:ak5 node first many=some r):i0 E 59 [.int .i64 node,.int .i64 first,.int .i64 many] [] (Rs cv7 r):=so (fn:=Tryz.f59) (k:=false) (m:=0) h<| by
 intro r h;unfold ak5 at h
 refine zs 15 h (fun h=> ?_) fun h=> ?_
 ·
  exact zu 14 h
 exact zu 14 h
end Go.RX.L

namespace Go.RX.L
open Go Go.RX Go.Proofs
attribute [local irreducible] f6
noncomputable def cB9 (state:d9) (c:d8) (index fuse:Int) (down:Bool) (b2 b3:List Int) (y:Bool):D×f4:=(.bool y,[some ⟨88,true,[(d9.l state (d8.l c [.int .i64 index,.ptr 1 0 0]))]⟩,some ⟨4,true,[[(f5 2 (List.map (d7 .u8) b2)),(f5 3 (List.map (d7 .u8) b3)),.int .i64 fuse,.bool down]]⟩,some ⟨1,false,(List.map (d7 .u8) b2)⟩,some ⟨1,false,(List.map (d7 .u8) b3)⟩])
noncomputable def aC2 (p_:Plan) (state:d9) (c:d8) (index fuse:Int) (down:Bool) (b2 b3:List Int):Option Bool:=(bif (!decide ((c.Targets:Int)<0)) then ((af8 p_).bind fun y2=>(bif y2 then (bif (((((List.map (d7 .i64) p_.Pen).length:Nat):Int):Int)==c.Targets) then (bif (decide (((u9 (u9 p_.Target p_.Prev) p_.Spill):Int)<c.Targets)) then (bif (((ak7 .u64 (orI .u64 p_.Up p_.Sup) (IntKind.u64.wrap ((F0 .u64 1 c.Targets)-1))):Int)==0) then (some (decide (((((List.map (d7 .i64) p_.Changes).length:Nat):Int):Int)≤c.B_))) else (some false)) else (some false)) else (some false)) else (some false))) else none)
theorem cw1 {p_:Plan}{state:d9}{c:d8}{index fuse:Int}{down:Bool}{b2 b3:List Int}{r:Bool} (h:aC2 p_ state c index fuse down b2 b3=some r):i0 E 68 [.ptr 0 0 0,.agg (Plan.enc p_)] [some ⟨88,true,[(d9.l state (d8.l c [.int .i64 index,.ptr 1 0 0]))]⟩,some ⟨4,true,[[(f5 2 (List.map (d7 .u8) b2)),(f5 3 (List.map (d7 .u8) b3)),.int .i64 fuse,.bool down]]⟩,some ⟨1,false,(List.map (d7 .u8) b2)⟩,some ⟨1,false,(List.map (d7 .u8) b3)⟩] (Rs (cB9 state c index fuse down b2 b3) r):=so (fn:=Tryz.f68) (k:=true) (m:=4) h<| by
 intro r h;unfold aC2 at h
 refine zn 14 h fun h=> ?_
 refine zd 6 [] h (fun _=>ay9) fun y2 h=> ?_
 refine zs 0 h (fun h=> ?_) fun h=> ?_
 ·
  refine zs 11 h (fun h=> ?_) fun h=> ?_
  ·
   refine zs 17 h (fun h=> ?_) fun h=> ?_
   ·
    refine zs 10 h (fun h=> ?_) fun h=> ?_
    ·
     exact zu 12 h
    exact zu 10 h
   exact zu 19 h
  exact zu 33 h
 exact zu 43 h
end Go.RX.L

namespace Go.RX.L
open Go Go.RX Go.Proofs
attribute [local irreducible] f6
noncomputable def cv9 (c:d8) (index fuse:Int) (down:Bool) (b2 b3:List Int) (y:d9):D×f4:=(.tup [],[some ⟨88,true,[(d9.l y (d8.l c [.int .i64 index,.ptr 1 0 0]))]⟩,some ⟨4,true,[[(f5 2 (List.map (d7 .u8) b2)),(f5 3 (List.map (d7 .u8) b3)),.int .i64 fuse,.bool down]]⟩,some ⟨1,false,(List.map (d7 .u8) b2)⟩,some ⟨1,false,(List.map (d7 .u8) b3)⟩])
noncomputable def ay8 (p_:Plan) (now:Int) (state:d9) (c:d8) (index fuse:Int) (down:Bool) (b2 b3:List Int):Option d9:=(some (⟨state.boot,p_,now,state.votes,state.hold,state.asked,(⟨0,0,0,(⟨0,0,0,0,0,0,0,0,0,0,[],[]⟩:Plan),0,(⟨0,0,0,0,0,0,0,0,0,0,[],[]⟩:Plan),0,0⟩:i7),state.made,state.top,0,state.told⟩:d9))
theorem bt7 {p_:Plan}{now:Int}{state:d9}{c:d8}{index fuse:Int}{down:Bool}{b2 b3:List Int}{r:d9} (h:ay8 p_ now state c index fuse down b2 b3=some r):i0 E 66 [.ptr 0 0 0,.agg (Plan.enc p_),.int .i64 now] [some ⟨88,true,[(d9.l state (d8.l c [.int .i64 index,.ptr 1 0 0]))]⟩,some ⟨4,true,[[(f5 2 (List.map (d7 .u8) b2)),(f5 3 (List.map (d7 .u8) b3)),.int .i64 fuse,.bool down]]⟩,some ⟨1,false,(List.map (d7 .u8) b2)⟩,some ⟨1,false,(List.map (d7 .u8) b3)⟩] (Rs (cv9 c index fuse down b2 b3) r):=so (fn:=Tryz.f66) (k:=true) (m:=4) h<| by
 intro r h;unfold ay8 at h
 refine zf 38 [.blk 0 [some 1,some 1,some 1,some 1]] ?_
 exact zu 1 h
end Go.RX.L

namespace Go.RX.L
open Go Go.RX Go.Proofs
attribute [local irreducible] f6
noncomputable def cN0 (state:d9) (c:d8) (index fuse:Int) (down:Bool) (b2 b3:List Int) (y:Bool):D×f4:=(.bool y,[some ⟨88,true,[(d9.l state (d8.l c [.int .i64 index,.ptr 1 0 0]))]⟩,some ⟨4,true,[[(f5 2 (List.map (d7 .u8) b2)),(f5 3 (List.map (d7 .u8) b3)),.int .i64 fuse,.bool down]]⟩,some ⟨1,false,(List.map (d7 .u8) b2)⟩,some ⟨1,false,(List.map (d7 .u8) b3)⟩])
noncomputable def az8 (now:Int) (state:d9) (c:d8) (index fuse:Int) (down:Bool) (b2 b3:List Int):Option Bool:=(bif (decide ((now:Int)<0)) then (some true) else (bif (decide ((now:Int)>1099511627776)) then (some true) else (bif ((state.boot:Int)==0) then (some true) else ((au0 (⟨b2,b3,fuse,down⟩:r6)).bind fun y4=>(some y4)))))
theorem bF5 {now:Int}{state:d9}{c:d8}{index fuse:Int}{down:Bool}{b2 b3:List Int}{r:Bool} (h:az8 now state c index fuse down b2 b3=some r):i0 E 49 [.ptr 0 0 0,.int .i64 now] [some ⟨88,true,[(d9.l state (d8.l c [.int .i64 index,.ptr 1 0 0]))]⟩,some ⟨4,true,[[(f5 2 (List.map (d7 .u8) b2)),(f5 3 (List.map (d7 .u8) b3)),.int .i64 fuse,.bool down]]⟩,some ⟨1,false,(List.map (d7 .u8) b2)⟩,some ⟨1,false,(List.map (d7 .u8) b3)⟩] (Rs (cN0 state c index fuse down b2 b3) r):=so (fn:=Tryz.f49) (k:=true) (m:=4) h<| by
 intro r h;unfold az8 at h
 refine zs 10 h (fun h=> ?_) fun h=> ?_
 ·
  exact zu 35 h
 refine zs 6 h (fun h=> ?_) fun h=> ?_
 ·
  exact zu 28 h
 refine zs 15 h (fun h=> ?_) fun h=> ?_
 ·
  exact zu 13 h
 refine zm 9 (b:=(Nat.ble (0+(List.map (d7 .u8) b2).length) ((List.map (d7 .u8) b2).length))) (v6 _) ?_
 refine zm 0 (b:=(Nat.ble (0+(List.map (d7 .u8) b3).length) ((List.map (d7 .u8) b3).length))) (v6 _) ?_
 refine zcE 0 [] (args1:= [.iptr 4 [[.sl false 1 (List.take ((List.map (d7 .u8) b2).length) (List.drop 0 (List.map (d7 .u8) b2))),.sl false 1 (List.take ((List.map (d7 .u8) b3).length) (List.drop 0 (List.map (d7 .u8) b3))),.int .i64 fuse,.bool down]] 0 0]) h (fun _=>by4) ⟨by simp [d8.enc,d8.l,i7.enc,i7.l,p5.enc,p5.l,r6.enc,r6.l,e9.enc,e9.l,Op.enc,Op.l,Plan.enc,Plan.l,r9.enc,r9.l,i8.enc,i8.l,p7.enc,p7.l,m8.enc,m8.l,d9.enc,d9.l,List.take_of_length_le,List.map_take,List.map_drop],rfl⟩ fun y4 h=> ?_
 exact zu 5 h
end Go.RX.L

namespace Go.RX.L
open Go Go.RX Go.Proofs
attribute [local irreducible] f6
noncomputable def C0:=p8 (q0 Tryz.f32)
noncomputable def bu6 (c:d8) (index fuse:Int) (down:Bool) (b2 b3:List Int) (y:(List e9)×d9):D×f4:=(.sl false 26 (List.map e9.enc y.1),[some ⟨88,true,[(d9.l y.2 (d8.l c [.int .i64 index,.ptr 1 0 0]))]⟩,some ⟨4,true,[[(f5 2 (List.map (d7 .u8) b2)),(f5 3 (List.map (d7 .u8) b3)),.int .i64 fuse,.bool down]]⟩,some ⟨1,false,(List.map (d7 .u8) b2)⟩,some ⟨1,false,(List.map (d7 .u8) b3)⟩])
abbrev X7 (m:e9) (now:Int) (state:d9) (c:d8) (index fuse:Int) (down:Bool) (b2 b3:List Int):=AOk E (Cx.of Tryz.f32 true 4) (bu6 c index fuse down b2 b3)
noncomputable def cb3 (m:e9) (now:Int) (state:d9) (c:d8) (index fuse:Int) (down:Bool) (b2 b3:List Int) (i:Int) (t252:Bool):M:=⟨[.code (C0 [1,1,1,0,1,0,1,1,1,1,1,1,1,1,1,1,1,1,1,0,1,1]),.blk 0,.code (C0 [1,1,1,1])],[(0,.ptr 0 0 0),(10,.int .i64 i),(252,.bool t252)],[some ⟨88,true,[(d9.l state (d8.l c [.int .i64 index,.ptr 1 0 0]))]⟩,some ⟨4,true,[[(f5 2 (List.map (d7 .u8) b2)),(f5 3 (List.map (d7 .u8) b3)),.int .i64 fuse,.bool down]]⟩,some ⟨1,false,(List.map (d7 .u8) b2)⟩,some ⟨1,false,(List.map (d7 .u8) b3)⟩]⟩
noncomputable def X8 (m:e9) (now:Int) (state:d9) (c:d8) (index fuse:Int) (down:Bool) (b2 b3:List Int) (i:Int) (t252:Bool):Option ((List e9)×d9):=(bif t252 then (bif (!decide ((i:Int)<0)) then (some ([],(⟨state.boot,state.known,state.heard,state.votes,state.hold,state.asked,state.prop,state.made,state.top,(orI .u64 state.sealed (F0 .u64 1 i)),state.told⟩:d9))) else none) else (some ([],state)))
theorem aW8 {m now state c index fuse down b2 b3 i t252}:X7 m now state c index fuse down b2 b3 (cb3 m now state c index fuse down b2 b3 i t252) (X8 m now state c index fuse down b2 b3 i t252):=by
 intro r h;unfold X8 at h
 refine zs 1 h (fun h=> ?_) fun h=> ?_
 ·
  refine zn 2 h fun h=> ?_
  exact zu 8 h [.slot 0 [some 26]]
 exact zu 7 h [.slot 0 [some 26]]
noncomputable def ce4 (m:e9) (now:Int) (state:d9) (c:d8) (index fuse:Int) (down:Bool) (b2 b3:List Int) (t216:Bool):M:=⟨[.code (C0 [1,1,1,0,1,0,1,1,1,1,1,1,1,1,1,1,1,0,1]),.blk 0,.code (C0 [1,1,1,1])],[(0,.ptr 0 0 0),(2,.int .i64 now),(4,.ptr 4 0 0),(216,.bool t216)],[some ⟨88,true,[(d9.l state (d8.l c [.int .i64 index,.ptr 1 0 0]))]⟩,some ⟨4,true,[[(f5 2 (List.map (d7 .u8) b2)),(f5 3 (List.map (d7 .u8) b3)),.int .i64 fuse,.bool down]]⟩,some ⟨1,false,(List.map (d7 .u8) b2)⟩,some ⟨1,false,(List.map (d7 .u8) b3)⟩,some ⟨26,false,[(e9.enc m)]⟩]⟩
noncomputable def X6 (m:e9) (now:Int) (state:d9) (c:d8) (index fuse:Int) (down:Bool) (b2 b3:List Int) (t216:Bool):Option ((List e9)×d9):=(bif t216 then ((ay8 m.Plan now state c index fuse down b2 b3).bind fun y2=>(some ([],y2))) else (some ([],state)))
theorem aA2 {m now state c index fuse down b2 b3 t216}:X7 m now state c index fuse down b2 b3 (ce4 m now state c index fuse down b2 b3 t216) (X6 m now state c index fuse down b2 b3 t216):=by
 intro r h;unfold X6 at h
 refine zs 1 h (fun h=> ?_) fun h=> ?_
 ·
  refine zc 7 [] h (fun _=>bt7) fun y2 h=> ?_
  exact zu 7 h [.slot 0 [some 26]]
 exact zu 7 h [.slot 0 [some 26]]
noncomputable def cb7 (m:e9) (now:Int) (state:d9) (c:d8) (index fuse:Int) (down:Bool) (b2 b3:List Int) (t168:Bool) (state2:d9):M:=⟨[.code (C0 [1,1,1,0,1,0,1,1,1,1,1,1,1,0,1,1]),.blk 0,.code (C0 [1,1,1,1])],[(0,.ptr 0 0 0),(2,.int .i64 now),(168,.bool t168)],[some ⟨88,true,[(d9.l state2 (d8.l c [.int .i64 index,.ptr 1 0 0]))]⟩,some ⟨4,true,[[(f5 2 (List.map (d7 .u8) b2)),(f5 3 (List.map (d7 .u8) b3)),.int .i64 fuse,.bool down]]⟩,some ⟨1,false,(List.map (d7 .u8) b2)⟩,some ⟨1,false,(List.map (d7 .u8) b3)⟩]⟩
noncomputable def ai2 (m:e9) (now:Int) (state:d9) (c:d8) (index fuse:Int) (down:Bool) (b2 b3:List Int) (t168:Bool) (state2:d9):Option ((List e9)×d9):=(bif t168 then ((ay8 state2.prop.Value now state2 c index fuse down b2 b3).bind fun y2=>((at2 now y2 c index fuse down b2 b3).bind fun y3=>(some (y3.1,y3.2)))) else (some ([],state2)))
theorem aW9 {m now state c index fuse down b2 b3 t168 state2}:X7 m now state c index fuse down b2 b3 (cb7 m now state c index fuse down b2 b3 t168 state2) (ai2 m now state c index fuse down b2 b3 t168 state2):=by
 intro r h;unfold ai2 at h
 refine zs 1 h (fun h=> ?_) fun h=> ?_
 ·
  refine zc 12 [] h (fun _=>bt7) fun y2 h=> ?_
  refine zc 6 [] h (fun _=>by6) fun y3 h=> ?_
  exact zu 3 h
 exact zu 7 h [.slot 0 [some 26]]
noncomputable def cb9 (m:e9) (now:Int) (state:d9) (c:d8) (index fuse:Int) (down:Bool) (b2 b3:List Int) (t117:Bool) (state2:d9):M:=⟨[.code (C0 [1,1,1,0,1,0,1,1,1,1,1,0,1,1]),.blk 0,.code (C0 [1,1,1,1])],[(0,.ptr 0 0 0),(117,.bool t117)],[some ⟨88,true,[(d9.l state2 (d8.l c [.int .i64 index,.ptr 1 0 0]))]⟩,some ⟨4,true,[[(f5 2 (List.map (d7 .u8) b2)),(f5 3 (List.map (d7 .u8) b3)),.int .i64 fuse,.bool down]]⟩,some ⟨1,false,(List.map (d7 .u8) b2)⟩,some ⟨1,false,(List.map (d7 .u8) b3)⟩]⟩
noncomputable def ai1 (m:e9) (now:Int) (state:d9) (c:d8) (index fuse:Int) (down:Bool) (b2 b3:List Int) (t117:Bool) (state2:d9):Option ((List e9)×d9):=(bif t117 then ((K8 state2 c index fuse down b2 b3).bind fun y2=>((J5 (⟨7,0,0,state2.prop.Epoch,state2.prop.Ballot,0,0,0,0,0,true,state2.prop.Value,[],[],[]⟩:e9) state2 c index fuse down b2 b3).bind fun y3=>(some (y3,state2)))) else (some ([],state2)))
theorem aX2 {m now state c index fuse down b2 b3 t117 state2}:X7 m now state c index fuse down b2 b3 (cb9 m now state c index fuse down b2 b3 t117 state2) (ai1 m now state c index fuse down b2 b3 t117 state2):=by
 intro r h;unfold ai1 at h
 refine zs 1 h (fun h=> ?_) fun h=> ?_
 ·
  refine zdR 2 [] h (fun _=>av8) fun y2 h=> ?_
  refine zc 3 [some 1,some 1,some 1] h (fun _=>ad5) fun y3 h=> ?_
  refine bZ9 6 (n1:=(0+(List.map e9.enc y3).length)) (n2:=((List.map e9.enc y3).length)) (raw:=(List.take ((List.map e9.enc y3).length) (List.drop 0 (List.map e9.enc y3)))) (rs:=(List.map e9.enc y3)) (by kernel_rfl) (v6 _) (by simp only [z9,E5,List.map_take,List.map_drop]) ?_
  exact zu 1 h
 exact zu 7 h [.slot 0 [some 26]]
noncomputable def cb8 (m:e9) (now:Int) (state:d9) (c:d8) (index fuse:Int) (down:Bool) (b2 b3:List Int) (t74:Bool):M:=⟨[.code (C0 [1,1,1,0,1,0,1,1,1,0,1]),.blk 0,.code (C0 [1,1,1,1])],[(0,.ptr 0 0 0),(4,.ptr 4 0 0),(74,.bool t74)],[some ⟨88,true,[(d9.l state (d8.l c [.int .i64 index,.ptr 1 0 0]))]⟩,some ⟨4,true,[[(f5 2 (List.map (d7 .u8) b2)),(f5 3 (List.map (d7 .u8) b3)),.int .i64 fuse,.bool down]]⟩,some ⟨1,false,(List.map (d7 .u8) b2)⟩,some ⟨1,false,(List.map (d7 .u8) b3)⟩,some ⟨26,false,[(e9.enc m)]⟩]⟩
noncomputable def X0 (m:e9) (now:Int) (state:d9) (c:d8) (index fuse:Int) (down:Bool) (b2 b3:List Int) (t74:Bool):Option ((List e9)×d9):=(bif t74 then ((aK6 state.hold c m).bind fun y2=>(some ([],(⟨state.boot,state.known,state.heard,state.votes,y2,state.asked,state.prop,state.made,state.top,state.sealed,state.told⟩:d9)))) else (some ([],state)))
theorem aW4 {m now state c index fuse down b2 b3 t74}:X7 m now state c index fuse down b2 b3 (cb8 m now state c index fuse down b2 b3 t74) (X0 m now state c index fuse down b2 b3 t74):=by
 intro r h;unfold X0 at h
 refine zs 1 h (fun h=> ?_) fun h=> ?_
 ·
  refine zd 4 [] h (fun _=>cE5) fun y2 h=> ?_
  exact zu 8 h [.slot 0 [some 26]]
 exact zu 7 h [.slot 0 [some 26]]
noncomputable def ce2 (m:e9) (now:Int) (state:d9) (c:d8) (index fuse:Int) (down:Bool) (b2 b3:List Int) (t19:Bool):M:=⟨[.code (C0 [1,0,1]),.code (C0 [1,1])],[(0,.ptr 0 0 0),(2,.int .i64 now),(4,.ptr 4 0 0),(19,.bool t19)],[some ⟨88,true,[(d9.l state (d8.l c [.int .i64 index,.ptr 1 0 0]))]⟩,some ⟨4,true,[[(f5 2 (List.map (d7 .u8) b2)),(f5 3 (List.map (d7 .u8) b3)),.int .i64 fuse,.bool down]]⟩,some ⟨1,false,(List.map (d7 .u8) b2)⟩,some ⟨1,false,(List.map (d7 .u8) b3)⟩,some ⟨26,false,[(e9.enc m)]⟩]⟩
noncomputable def S1 (m:e9) (now:Int) (state:d9) (c:d8) (index fuse:Int) (down:Bool) (b2 b3:List Int) (t19:Bool):Option ((List e9)×d9):=(bif t19 then (some ([],state)) else (bif ((m.Kind:Int)==3) then ((X4 c 0).bind fun y3=>((ak5 m.From y3 c.Observers).bind fun y4=>(bif y4.2 then ((bf2 state.votes (⟨y4.1,m.Up,now⟩:i8)).bind fun y6=>(some ([],(⟨state.boot,state.known,state.heard,y6,state.hold,state.asked,state.prop,state.made,state.top,state.sealed,state.told⟩:d9)))) else (some ([],state))))) else (bif ((m.Kind:Int)==11) then (bif ((m.Code:Int)==2) then (X0 m now state c index fuse down b2 b3 state.asked.ever) else (X0 m now state c index fuse down b2 b3 false)) else (bif ((m.Kind:Int)==5) then ((aj8 state.prop c m).bind fun y10=>(bif ((state.prop.Phase:Int)==1) then (ai1 m now state c index fuse down b2 b3 ((y10.Phase:Int)==2) (⟨state.boot,state.known,state.heard,state.votes,state.hold,state.asked,y10,state.made,state.top,state.sealed,state.told⟩:d9)) else (ai1 m now state c index fuse down b2 b3 false (⟨state.boot,state.known,state.heard,state.votes,state.hold,state.asked,y10,state.made,state.top,state.sealed,state.told⟩:d9)))) else (bif ((m.Kind:Int)==8) then ((af3 state.prop c m).bind fun y13=>(bif ((state.prop.Phase:Int)==2) then (ai2 m now state c index fuse down b2 b3 ((y13.Phase:Int)==3) (⟨state.boot,state.known,state.heard,state.votes,state.hold,state.asked,y13,state.made,state.top,state.sealed,state.told⟩:d9)) else (ai2 m now state c index fuse down b2 b3 false (⟨state.boot,state.known,state.heard,state.votes,state.hold,state.asked,y13,state.made,state.top,state.sealed,state.told⟩:d9)))) else (bif ((m.Kind:Int)==6) then (some ([],(⟨state.boot,state.known,state.heard,state.votes,state.hold,state.asked,state.prop,state.made,(u9 state.top m.Ballot),state.sealed,state.told⟩:d9))) else (bif ((m.Kind:Int)==9) then (bif m.HasPlan then ((aC2 m.Plan state c index fuse down b2 b3).bind fun y18=>(bif y18 then (X6 m now state c index fuse down b2 b3 (decide ((m.Plan.Epoch:Int)>state.known.Epoch))) else (X6 m now state c index fuse down b2 b3 false))) else (X6 m now state c index fuse down b2 b3 false)) else (bif ((m.Kind:Int)==13) then ((Y0 c 0).bind fun y21=>((ak5 m.From y21 c.Targets).bind fun y22=>(bif y22.2 then (X8 m now state c index fuse down b2 b3 y22.1 ((m.Epoch:Int)==(IntKind.i64.wrap (state.known.Epoch+1)))) else (X8 m now state c index fuse down b2 b3 y22.1 false)))) else (some ([],state))))))))))
theorem aW7 {m now state c index fuse down b2 b3 t19}:X7 m now state c index fuse down b2 b3 (ce2 m now state c index fuse down b2 b3 t19) (S1 m now state c index fuse down b2 b3 t19):=by
 intro r h;unfold S1 at h
 refine zs 1 h (fun h=> ?_) fun h=> ?_
 ·
  exact zu 5 h [.slot 0 [some 26]]
 refine zs 26 h (fun h=> ?_) fun h=> ?_
 ·
  refine zd 4 [] h (fun _=>aW6) fun y3 h=> ?_
  refine zd 1 [] h (fun _=>bu7) fun y4 h=> ?_
  refine zs 5 h (fun h=> ?_) fun h=> ?_
  ·
   refine zd 3 [] h (fun _=>cS6) fun y6 h=> ?_
   exact zu 8 h [.slot 0 [some 26]]
  exact zu 7 h [.slot 0 [some 26]]
 refine zs 6 h (fun h=> ?_) fun h=> ?_
 ·
  refine zs 8 h (fun h=> ?_) fun h=> ?_
  ·
   exact zg 14 (aW4 h)
  exact zg 13 (aW4 h)
 refine zs 6 h (fun h=> ?_) fun h=> ?_
 ·
  refine zd 5 [] h (fun _=>bP5) fun y10 h=> ?_
  refine zs 8 h (fun h=> ?_) fun h=> ?_
  ·
   exact zg 16 (aX2 h)
  exact zg 15 (aX2 h)
 refine zs 6 h (fun h=> ?_) fun h=> ?_
 ·
  refine zd 5 [] h (fun _=>bL2) fun y13 h=> ?_
  refine zs 8 h (fun h=> ?_) fun h=> ?_
  ·
   exact zg 16 (aW9 h)
  exact zg 15 (aW9 h)
 refine zs 6 h (fun h=> ?_) fun h=> ?_
 ·
  exact zu 11 h [.slot 0 [some 26]]
 refine zs 6 h (fun h=> ?_) fun h=> ?_
 ·
  refine zs 3 h (fun h=> ?_) fun h=> ?_
  ·
   refine zdR 4 [] h (fun _=>cw1) fun y18 h=> ?_
   refine zs 1 h (fun h=> ?_) fun h=> ?_
   ·
    exact zg 12 (aA2 h)
   exact zg 10 (aA2 h)
  exact zg 15 (aA2 h)
 refine zs 6 h (fun h=> ?_) fun h=> ?_
 ·
  refine zd 4 [] h (fun _=>aJ4) fun y21 h=> ?_
  refine zd 1 [] h (fun _=>bu7) fun y22 h=> ?_
  refine zs 2 h (fun h=> ?_) fun h=> ?_
  ·
   exact zg 12 (aW8 h)
  exact zg 10 (aW8 h)
 exact zu 7 h [.slot 0 [some 26]]
noncomputable def as6 (m:e9) (now:Int) (state:d9) (c:d8) (index fuse:Int) (down:Bool) (b2 b3:List Int):Option ((List e9)×d9):=((an8 m).bind fun y1=>(bif (!y1) then (S1 m now state c index fuse down b2 b3 true) else ((az8 now state c index fuse down b2 b3).bind fun y3=>(S1 m now state c index fuse down b2 b3 y3))))
theorem ce0 {m:e9}{now:Int}{state:d9}{c:d8}{index fuse:Int}{down:Bool}{b2 b3:List Int}{r:(List e9)×d9} (h:as6 m now state c index fuse down b2 b3=some r):i0 E 32 [.ptr 0 0 0,.agg (e9.enc m),.int .i64 now] [some ⟨88,true,[(d9.l state (d8.l c [.int .i64 index,.ptr 1 0 0]))]⟩,some ⟨4,true,[[(f5 2 (List.map (d7 .u8) b2)),(f5 3 (List.map (d7 .u8) b3)),.int .i64 fuse,.bool down]]⟩,some ⟨1,false,(List.map (d7 .u8) b2)⟩,some ⟨1,false,(List.map (d7 .u8) b3)⟩] (Rs (bu6 c index fuse down b2 b3) r):=so (fn:=Tryz.f32) (k:=true) (m:=4) h<| by
 intro r h;unfold as6 at h
 refine zc 11 [] h (fun _=>bt5) fun y1 h=> ?_
 refine zs 3 h (fun h=> ?_) fun h=> ?_
 ·
  exact zg 7 (aW7 h)
 refine zc 4 [] h (fun _=>bF5) fun y3 h=> ?_
 exact zg 3 (aW7 h)
end Go.RX.L

namespace Go.RX.L
open Go Go.RX Go.Proofs
attribute [local irreducible] f6
noncomputable def cC5 (c:d8) (index fuse:Int) (down:Bool) (b2 b3:List Int) (y:(List e9)×d9):D×f4:=(.sl false 26 (List.map e9.enc y.1),[some ⟨88,true,[(d9.l y.2 (d8.l c [.int .i64 index,.ptr 1 0 0]))]⟩,some ⟨4,true,[[(f5 2 (List.map (d7 .u8) b2)),(f5 3 (List.map (d7 .u8) b3)),.int .i64 fuse,.bool down]]⟩,some ⟨1,false,(List.map (d7 .u8) b2)⟩,some ⟨1,false,(List.map (d7 .u8) b3)⟩])
noncomputable def R0 (now:Int) (state:d9) (c:d8) (index fuse:Int) (down:Bool) (b2 b3:List Int):Option ((List e9)×d9):=((az8 now state c index fuse down b2 b3).bind fun y1=>(bif y1 then (some ([],state)) else ((aF7 now state c index fuse down b2 b3).bind fun y3=>(bif (decide (((List.map e9.enc y3.1).length)*288≤i6)) then ((aK4 now y3.2 c index fuse down b2 b3).bind fun y5=>(bif (decide (((List.map e9.enc y3.1).length+(List.map e9.enc y5.1).length)*288≤i6)) then ((an9 now y5.2 c index fuse down b2 b3).bind fun y7=>(bif (decide (((List.map e9.enc (y3.1++y5.1)).length+(List.map e9.enc y7.1).length)*288≤i6)) then (some (((y3.1++y5.1)++y7.1),y7.2)) else none)) else none)) else none))))
theorem aR4 {now:Int}{state:d9}{c:d8}{index fuse:Int}{down:Bool}{b2 b3:List Int}{r:(List e9)×d9} (h:R0 now state c index fuse down b2 b3=some r):i0 E 24 [.ptr 0 0 0,.int .i64 now] [some ⟨88,true,[(d9.l state (d8.l c [.int .i64 index,.ptr 1 0 0]))]⟩,some ⟨4,true,[[(f5 2 (List.map (d7 .u8) b2)),(f5 3 (List.map (d7 .u8) b3)),.int .i64 fuse,.bool down]]⟩,some ⟨1,false,(List.map (d7 .u8) b2)⟩,some ⟨1,false,(List.map (d7 .u8) b3)⟩] (Rs (cC5 c index fuse down b2 b3) r):=so (fn:=Tryz.f24) (k:=true) (m:=4) h<| by
 intro r h;unfold R0 at h
 refine zc 14 [] h (fun _=>bF5) fun y1 h=> ?_
 refine zs 2 h (fun h=> ?_) fun h=> ?_
 ·
  exact zu 5 h [.slot 0 [some 26]]
 refine zc 7 [] h (fun _=>cu7) fun y3 h=> ?_
 refine zn 1 h fun h=> ?_
 refine zc 9 [] h (fun _=>cD1) fun y5 h=> ?_
 refine zn 1 h fun h=> ?_
 refine za 0 e9.enc y3.1 y5.1 ?_
 refine zc 8 [] h (fun _=>bV4) fun y7 h=> ?_
 refine zn 1 h fun h=> ?_
 refine za 0 e9.enc (y3.1++y5.1) y7.1 ?_
 refine l8 hm 2 _ ?_
 refine bZ9 4 (n1:=(0+(List.map e9.enc ((y3.1++y5.1)++y7.1)).length)) (n2:=((List.map e9.enc ((y3.1++y5.1)++y7.1)).length)) (raw:=(List.take ((List.map e9.enc ((y3.1++y5.1)++y7.1)).length) (List.drop 0 (List.map e9.enc ((y3.1++y5.1)++y7.1))))) (rs:=(List.map e9.enc ((y3.1++y5.1)++y7.1))) (by kernel_rfl) (v6 _) (by simp only [z9,E5,List.map_take,List.map_drop]) ?_
 exact zu 1 h
end Go.RX.L

namespace Go.RX.L
open Go Go.RX
def ai0 (p:Plan):Prop:=Rt p∧bh6 p
def bZ2:i7:=⟨0,0,0,v9,0,v9,0,0⟩
/-- A proposal of what comes behind an epoch. -/
structure PI (p : i7) (e : Int) : Prop where
  pr : n8 .u64 p.Promises
  ac : n8 .u64 p.Accepts
  ph : p.Phase = 0 ∨ ((p.Phase = 1 ∨ p.Phase = 2) ∧ p.Epoch = e + 1 ∧ (ai0 p.Own ∧ p.Own.Epoch = p.Epoch) ∧ 0 ≤ p.Best ∧ (0 < p.Best → ai0 p.Value ∧ p.Value.Epoch = p.Epoch) ∧ (p.Phase = 2 → ai0 p.Value ∧ p.Value.Epoch = p.Epoch))
theorem PI0 (e:Int):PI bZ2 e:=⟨F8.2 (by decide),F8.2 (by decide),.inl rfl⟩
/-- What a decider keeps true. -/
structure DI (c : d8) (st : d9) (M : Int) (i : Nat) : Prop where
  kn : ai0 st.known
  vl : st.votes.length ≤ i
  vo : ∀ v ∈ st.votes, VOk v
  gr : n8 .u64 st.hold.Grants
  bo : 0 ≤ st.boot ∧ st.boot ≤ M
  mi : M ≤ i
  tp : 0 ≤ st.top
  pi : PI st.prop st.known.Epoch
theorem aR9 {p:i7}{c:d8}{m:e9}{e:Int} (h:PI p e) (hr:B3 m=true) (hf:af7 m):
  PI (D0 p c m) e∧(D0 p c m).Epoch=p.Epoch∧(D0 p c m).Ballot=p.Ballot∧((D0 p c m).Phase=p.Phase∨(p.Phase=1∧(D0 p c m).Phase=2)):=by
 have hu:=dd5 c m h.pr
 obtain ⟨h1,h2,h3⟩:=h
 cases hc:toP p c m 5 1&&ct6 p m with
 | false=>
  have e:D0 p c m=p:=by unfold D0;rw [hc];rfl
  rw [e];exact ⟨⟨h1,h2,h3⟩,rfl,rfl,.inl rfl⟩
 | true=>
  have hc2:=hc
  simp only [Bool.and_eq_true] at hc2
  have ph1:p.Phase=1:=by have:=hc2.1;simp only [toP,Bool.and_eq_true,decide_eq_true_eq] at this;exact this.1
  have wl:m.HasPlan=true→m.Plan.Epoch=p.Epoch:=fun hp=>by
   have:=hc2.2
   simp only [ct6,hp,Bool.true_and,Bool.not_eq_true',decide_eq_false_iff_not,Decidable.not_not] at this
   exact this
  have ep:D0 p c m=st3 (st2 (st1 p m) m) c:=by unfold D0;rw [hc];rfl
  rcases h3 with h3 | ⟨h4,h5,h6,h7,h8,h9⟩
  ·omega
  have b:∃q:i7,st2 (st1 p m) m=q∧q.Phase=1∧q.Epoch=p.Epoch∧q.Ballot=p.Ballot∧q.Own=p.Own∧q.Accepts=p.Accepts∧0≤q.Best∧(0<q.Best→ai0 q.Value∧q.Value.Epoch=p.Epoch):=by
   refine ⟨_,rfl,?_⟩
   unfold st2
   cases hh:m.HasPlan&&decide (m.Accepted>(st1 p m).Best) with
   | false=>exact ⟨ph1,rfl,rfl,rfl,rfl,h7,h8⟩
   | true=>
    simp only [Bool.and_eq_true,decide_eq_true_eq] at hh
    have hb:(st1 p m).Best=p.Best:=rfl
    rw [hb] at hh
    exact ⟨ph1,rfl,rfl,rfl,rfl,by simp only [cond_true];omega,fun _=>⟨⟨bn0 hr hh.1,hf.pl⟩,wl hh.1⟩⟩
  obtain ⟨q,hq,q1,q2,q3,q4,q5,q6,q7⟩:=b
  rw [ep,hq]
  rw [ep,hq] at hu
  unfold st3 at hu ⊢
  cases hm:aO1 c q.Promises.toNat with
  | false=>
   rw [hm] at hu
   exact ⟨⟨hu,by simp only [cond_false];rw [q5];exact h2,.inr ⟨.inl q1,by simp only [cond_false];rw [q2];exact h5,by simp only [cond_false];rw [q4,q2];exact h6,q6,by simp only [cond_false];rw [q2];exact q7,fun h=>by simp only [cond_false] at h;omega⟩⟩,q2,q3,.inl (by simp only [cond_false];omega)⟩
  | true=>
   rw [hm] at hu
   simp only [cond_true] at hu ⊢
   have v:ai0 (bif decide (q.Best=0) then q.Own else q.Value)∧(bif decide (q.Best=0) then q.Own else q.Value).Epoch=p.Epoch:=by
    by_cases hb:q.Best=0
    ·rw [decide_eq_true hb];simp only [cond_true];rw [q4];exact h6
    ·rw [decide_eq_false hb];simp only [cond_false];exact q7 (by omega)
   exact ⟨⟨hu,by simp only;rw [q5];exact h2,.inr ⟨.inr rfl,by simp only;rw [q2];exact h5,by simp only;rw [q4,q2];exact h6,q6,fun _=>by simp only;rw [q2];exact v,fun _=>by simp only;rw [q2];exact v⟩⟩,q2,q3,.inr ⟨ph1,trivial⟩⟩
theorem ce9 {p:i7}{c:d8}{m:e9}{e:Int} (h:PI p e):(P6 p c m).Value=p.Value∧(((P6 p c m).Phase=p.Phase∧PI (P6 p c m) e)∨(p.Phase=2∧(P6 p c m).Phase=3)):=by
 have hu:=cW8 c m h.ac
 obtain ⟨h1,h2,h3⟩:=h
 unfold P6 at hu ⊢
 cases hc:toP p c m 8 2 with
 | false=>exact ⟨rfl,.inl ⟨rfl,⟨h1,h2,h3⟩⟩⟩
 | true=>
  have ph:p.Phase=2:=by simp only [toP,Bool.and_eq_true,decide_eq_true_eq] at hc;exact hc.1
  rw [hc] at hu
  simp only [cond_true] at hu ⊢
  refine ⟨trivial,?_⟩
  cases aO1 c (orP p.Accepts m.From.toNat).toNat with
  | true=>exact .inr ⟨ph,rfl⟩
  | false=>exact .inl ⟨rfl,⟨h1,hu,h3⟩⟩
def bS6 (st:d9) (p:Plan) (now:Int):d9:={ st with known:=p,heard:=now,prop:=bZ2,sealed:=0 }
def dU9 (p:i7):e9:=⟨7,0,0,p.Epoch,p.Ballot,0,0,0,0,0,true,p.Value,[],[],[]⟩
/-- What a message does. -/
inductive HR (c : d8) (ix : Int) (st : d9) (m : e9) (now : Int) : List e9 → d9 → Prop
  | same : HR c ix st m now [] st
  | vote {v : i8} : VOk v → HR c ix st m now [] { st with votes := bI4 st.votes v }
  | hold : HR c ix st m now [] { st with hold := ax7 st.hold c m }
  | prom : ¬(st.prop.Phase = 1 ∧ (D0 st.prop c m).Phase = 2) → HR c ix st m now [] { st with prop := D0 st.prop c m }
  | acc : st.prop.Phase = 1 → (D0 st.prop c m).Phase = 2 → HR c ix st m now (N6 c ix (dU9 (D0 st.prop c m)) (aa7 c)) { st with prop := D0 st.prop c m }
  | accd : ¬(st.prop.Phase = 2 ∧ (P6 st.prop c m).Phase = 3) → HR c ix st m now [] { st with prop := P6 st.prop c m }
  | learn : m.Kind = 8 → st.prop.Phase = 2 → HR c ix st m now (N6 c ix (bg9 st.prop.Value) (aV9 c ix)) (cR9 (bS6 st st.prop.Value now) now)
  | nack : HR c ix st m now [] { st with top := u9 st.top m.Ballot }
  | told : m.Kind = 9 → Rt m.Plan → m.Plan.Epoch > st.known.Epoch → HR c ix st m now [] (bS6 st m.Plan now)
  | shut {x : Int} : HR c ix st m now [] { st with sealed := x }
section
variable {c : d8} {ix : Int} {st : d9} {fuse : Int} {down : Bool} {s t : List Int} {M : Int} {i : Nat}
theorem cT4 (now:Int):az8 now st c ix fuse down s t=some (decide (now<0) || (decide (now>1099511627776) || (decide (st.boot=0) || down))):=by
 simp only [az8,au0,Option.bind_some]
 cases decide (now<0)<;>cases decide (now>1099511627776)<;>simp
 by_cases h:st.boot=0<;>simp [h,beqF']
where beqF' :∀{a b:Int},¬a=b→(a==b)=false:=fun h=>beq_eq_false_iff_ne.2 h
theorem dP3 (cb:CB c) {p:Plan} (hf:bh6 p):∃b,aC2 p st c ix fuse down s t=some b∧(b=true→Rt p):=by
 have nt:(!decide (c.Targets<0))=true:=by have:=cb.t;simp;omega
 simp only [aC2,nt,cond_true,aY3 hf.s hf.up hf.sup,Option.bind_some]
 cases hr:aa9 p with
 | false=>exact ⟨false,rfl,fun h=>by cases h⟩
 | true=>
  have r:=Y9.1 hr
  simp only [cond_true]
  have key:∀(a b d e:Bool),∃x,(bif a then (bif b then (bif d then some e else some false) else some false) else some false)=some x∧(x=true→Rt p):=fun a b d e=>by
   cases a<;>cases b<;>cases d<;>exact ⟨_,rfl,fun _=>r⟩
  exact key _ _ _ _
theorem cT1 {node first many:Int} (h1:0≤node∧node≤255) (h2:0≤first∧first≤255) (h3:0≤many∧many≤255):∃b,ak5 node first many=some (node-first,b)∧(b=true→0≤node-first∧node-first<many):=by
 simp only [ak5,u7 (n:=node-first) (by omega) (by omega),u7 (n:=first+many) (by omega) (by omega)]
 by_cases h:node≥first
 ·rw [decide_eq_true h];exact ⟨_,rfl,fun h=>by have:=of_decide_eq_true h;omega⟩
 ·rw [decide_eq_false h];exact ⟨_,rfl,fun h=>by cases h⟩
theorem dr0 {m:e9}{now:Int} (h:DI c st M i) (cb:CB c) (hix:0≤ix∧ix≤4) (hf:af7 m) (hi:i≤300):
  ∃out st',as6 m now st c ix fuse down s t=some (out,st')∧((out= []∧st' =st)∨(B3 m=true∧0≤now∧now≤1099511627776∧st.boot≠0∧down=false∧HR c ix st m now out st')):=by
 have up:∀b:Bool,S1 m now st c ix fuse down s t true=some ([],st):=fun _=>rfl
 simp only [as6,bw1 hf.sh,Option.bind_some,cT4]
 cases hr:B3 m with
 | false=>exact ⟨[],st,rfl,.inl ⟨rfl,rfl⟩⟩
 | true=>
  simp only [Bool.not_true,cond_false]
  cases ho:decide (now<0) || (decide (now>1099511627776) || (decide (st.boot=0) || down)) with
  | true=>exact ⟨[],st,rfl,.inl ⟨rfl,rfl⟩⟩
  | false=>
   simp only [Bool.or_eq_false_iff,decide_eq_false_iff_not] at ho
   obtain ⟨o1,o2,o3,o4⟩:=ho
   subst o4
   have wrap:∀{out st'},HR c ix st m now out st' →(out= []∧st' =st)∨(B3 m=true∧0≤now∧now≤1099511627776∧st.boot≠0∧false=false∧HR c ix st m now out st'):=fun hh=> .inr ⟨hr,by omega,by omega,o3,rfl,hh⟩
   have key:∃out st',S1 m now st c ix fuse false s t false=some (out,st')∧HR c ix st m now out st' :=by
    obtain ⟨hd,-,-⟩:=am8 hr
    have hF:0≤m.From∧m.From≤255:=by unfold hdM at hd;omega
    have cF:=cb.f;have cD:=cb.dec;have cT:=cb.t;have cR:=cb.rou;have cO:=cb.obs
    unfold S1
    simp only [cond_false]
    by_cases k3:m.Kind=3
    ·rw [beq_iff_eq.2 k3]
     obtain ⟨b,hb,hb2⟩:=cT1 hF (first:=n6 c (c.Deciders+c.Targets+c.Routers+0)) (many:=c.Observers) (by unfold n6;omega) (by omega)
     simp only [cond_true,cU3 cb (i:=0) (by omega),Option.bind_some,hb]
     cases b with
     | false=>exact ⟨_,_,rfl,.same⟩
     | true=>
      have hv:=hb2 rfl
      have hup:=F8.1 hf.sh.up
      have vok:VOk ⟨m.From-n6 c (c.Deciders+c.Targets+c.Routers+0),m.Up,now⟩:=⟨by simp only;omega,⟨hf.up,by unfold hdM at hd;simp only;omega⟩,by simp only;omega⟩
      simp only [cond_true,dM6 st.votes ⟨m.From-n6 c (c.Deciders+c.Targets+c.Routers+0),m.Up,now⟩ (by have:=h.vl;omega),Option.bind_some]
      exact ⟨_,_,rfl,.vote vok⟩
    rw [beq_eq_false_iff_ne.2 k3]
    by_cases k11:m.Kind=11
    ·rw [beq_iff_eq.2 k11]
     have h2:∀b,∃out st',X0 m now st c ix fuse false s t b=some (out,st')∧HR c ix st m now out st' :=fun b=>by
      cases b with
      | false=>exact ⟨_,_,rfl,.same⟩
      | true=>simp only [X0,dF5 st.hold c m h.gr,Option.bind_some,cond_true];exact ⟨_,_,rfl,.hold⟩
     simp only [cond_true,cond_false]
     cases (m.Code==2) with
     | true=>exact h2 st.asked.ever
     | false=>exact h2 false
    rw [beq_eq_false_iff_ne.2 k11]
    by_cases k5:m.Kind=5
    ·rw [beq_iff_eq.2 k5]
     simp only [cond_true,cond_false,dn3 st.prop c m h.pi.pr,Option.bind_some]
     by_cases p1:st.prop.Phase=1
     ·rw [beq_iff_eq.2 p1]
      simp only [cond_true]
      by_cases p2:(D0 st.prop c m).Phase=2
      ·rw [beq_iff_eq.2 p2]
       have h0:∀st:d9,K8 st c ix fuse false s t=some ():=fun _=>rfl
       simp only [ai1,cond_true,h0,Option.bind_some,bt4 cb (show 0≤ix∧ix≤100 by omega)]
       exact ⟨_,_,rfl,.acc p1 p2⟩
      ·rw [beq_eq_false_iff_ne.2 p2]
       exact ⟨_,_,rfl,.prom fun hh=>p2 hh.2⟩
     ·rw [beq_eq_false_iff_ne.2 p1]
      exact ⟨_,_,rfl,.prom fun hh=>p1 hh.1⟩
    rw [beq_eq_false_iff_ne.2 k5]
    by_cases k8:m.Kind=8
    ·rw [beq_iff_eq.2 k8]
     simp only [cond_true,cond_false,df3 st.prop c m h.pi.ac,Option.bind_some]
     by_cases p1:st.prop.Phase=2
     ·rw [beq_iff_eq.2 p1]
      simp only [cond_true]
      by_cases p2:(P6 st.prop c m).Phase=3
      ·rw [beq_iff_eq.2 p2]
       have hl:∀(p:Plan) (st:d9),ay8 p now st c ix fuse false s t=some (bS6 st p now):=fun _ _=>rfl
       simp only [ai2,cond_true,hl,Option.bind_some,dh3 cb (show 0≤ix∧ix≤100 by omega)]
       have ev:=(ce9 (c:=c) (m:=m) h.pi).1
       refine ⟨_,_,rfl,?_⟩
       have:=HR.learn (c:=c) (ix:=ix) (now:=now) k8 p1
       rw [←ev] at this
       exact this
      ·rw [beq_eq_false_iff_ne.2 p2]
       exact ⟨_,_,rfl,.accd fun hh=>p2 hh.2⟩
     ·rw [beq_eq_false_iff_ne.2 p1]
      exact ⟨_,_,rfl,.accd fun hh=>p1 hh.1⟩
    rw [beq_eq_false_iff_ne.2 k8]
    by_cases k6:m.Kind=6
    ·rw [beq_iff_eq.2 k6]
     exact ⟨_,_,rfl,.nack⟩
    rw [beq_eq_false_iff_ne.2 k6]
    by_cases k9:m.Kind=9
    ·rw [beq_iff_eq.2 k9]
     simp only [cond_true,cond_false]
     have h5:X6 m now st c ix fuse false s t false=some ([],st):=rfl
     cases hp:m.HasPlan with
     | false=>exact ⟨_,_,h5,.same⟩
     | true=>
      obtain ⟨b,hb,hb2⟩:=dP3 (st:=st) (ix:=ix) (fuse:=fuse) (down:=false) (s:=s) (t:=t) cb hf.pl
      simp only [cond_true,hb,Option.bind_some]
      cases b with
      | false=>exact ⟨_,_,h5,.same⟩
      | true=>
       simp only [cond_true]
       by_cases he:m.Plan.Epoch>st.known.Epoch
       ·rw [decide_eq_true he]
        exact ⟨_,_,rfl,.told k9 (hb2 rfl) he⟩
       ·rw [decide_eq_false he]
        exact ⟨_,_,h5,.same⟩
    rw [beq_eq_false_iff_ne.2 k9]
    by_cases k13:m.Kind=13
    ·rw [beq_iff_eq.2 k13]
     obtain ⟨b,hb,hb2⟩:=cT1 hF (first:=n6 c (c.Deciders+0)) (many:=c.Targets) (by unfold n6;omega) (by omega)
     have h6:∀x,X8 m now st c ix fuse false s t x false=some ([],st):=fun _=>rfl
     simp only [cond_true,cond_false,cm9 cb (i:=0) (by omega),Option.bind_some,hb]
     cases b with
     | false=>exact ⟨_,_,h6 (m.From-n6 c (c.Deciders+0)),.same⟩
     | true=>
      have hv:=hb2 rfl
      have n0:(!decide (m.From-n6 c (c.Deciders+0)<0))=true:=by rw [decide_eq_false (by omega)];rfl
      simp only [cond_true]
      cases (m.Epoch==IntKind.i64.wrap (st.known.Epoch+1)) with
      | false=>exact ⟨_,_,h6 (m.From-n6 c (c.Deciders+0)),.same⟩
      | true=>simp only [X8,cond_true,n0];exact ⟨_,_,rfl,.shut⟩
    ·rw [beq_eq_false_iff_ne.2 k13]
     exact ⟨_,_,rfl,.same⟩
   obtain ⟨out,st',h1,h2⟩:=key
   exact ⟨out,st',h1,(wrap h2).imp id fun x=>⟨trivial,x.2⟩⟩
end
end Go.RX.L

namespace Go.RX.L
open Go Go.RX
def do0 (e:Int):e9:=⟨12,0,0,e,0,0,0,0,0,0,false,v9,[],[],[]⟩
def aG9 (e b code:Int) (p:Plan):e9:=⟨4,0,0,e,b,0,0,0,0,code,true,p,[],[],[]⟩
def an3 (e b:Int) (n:Plan):i7:=⟨e,b,1,dm1 n e,0,v9,0,0⟩
def isT (c:d8) (x:Int):Prop:=∃k:Int,0≤k∧k<c.Targets∧x=n6 c (c.Deciders+k)
/-- What is proposed. -/
inductive PR (c : d8) (ix now : Int) (st : d9) : List e9 → d9 → Prop
  | same : PR c ix now st [] st
  | none : PR c ix now st [] { st with prop := bZ2 }
  | go {n : Plan} {b code : Int} {open_ : List Int} : st.boot ≠ 0 → bM1 st.hold 0 now = true → aZ5 c st.known → aw3 c st.known (bs3 st.votes c.Observers now c.Fresh) now = (n, true) →
      st.top < b → b % 16777216 = st.boot * 16 + ix → b < 18014398509481984 → (code = 0 ∨ code = 1) → open_.length ≤ 16 → (∀ x ∈ open_, isT c x) →
      PR c ix now st (N6 c ix (do0 (st.known.Epoch + 1)) open_ ++ N6 c ix (aG9 (st.known.Epoch + 1) b code st.known) (aa7 c)) { st with prop := an3 (st.known.Epoch + 1) b n, made := now, top := b }
section
variable {c : d8} {ix : Int} {st : d9} {fuse : Int} {down : Bool} {s t : List Int} {M : Int} {i : Nat} {now : Int}
theorem ch4:am3 now st c ix fuse down s t=some (decide (st.boot≠0)&&(!down&&bM1 st.hold 0 now)):=by
 simp only [am3,au0,Option.bind_some,dR7]
 by_cases h:st.boot=0
 ·rw [bneF2 h,decide_eq_false (by simp [h])];rfl
 ·rw [bne_iff_ne.2 h,decide_eq_true h];cases down<;>rfl
where bneF2:∀{a b:Int},a=b→(a !=b)=false:=fun h=>by rw [h];simp
theorem ds3 (p:Plan) (x:Int):∃b,aU0 p x=some b:=by
 unfold aU0
 cases decide (x≥0) with
 | false=>exact ⟨_,rfl⟩
 | true=>
  cases (x==p.Target) with
  | true=>exact ⟨_,rfl⟩
  | false=>
   cases (x==p.Prev) with
   | false=>exact ⟨_,rfl⟩
   | true=>cases decide (p.Percent<100)<;>exact ⟨_,rfl⟩
theorem dz5 (cb:CB c) {ch:Bool}{b:Int}{st2:d9}:∀(j k:Nat) (named open_:List Int),((k+j:Nat):Int)=c.Targets→named.length≤k→open_.length≤k→(∀x∈open_,isT c x)→
  ∃named' open',named'.length≤16∧open'.length≤16∧(∀x∈open',isT c x)∧∀r,Ev (n9 now st c ix fuse down s t) (.s4 ch b open' st2 named') r→Ev (n9 now st c ix fuse down s t) (.s2 ch b c.Targets (k:Int) st2 named open_) r:=by
 have cT:=cb.t
 intro j
 induction j with
 | zero=>
  intro k named open_ hk hn ho hx
  refine ⟨named,open_,by omega,by omega,hx,fun r h=> .next (s' := .s4 ch b open_ st2 named) ?_ h⟩
  have:decide ((k:Int)<c.Targets)=false:=decide_eq_false (by omega)
  simp only [n9,O4,this,cond_false]
 | succ j ih=>
  intro k named open_ hk hn ho hx
  have lt:decide ((k:Int)<c.Targets)=true:=decide_eq_true (by omega)
  have n0:(!decide ((k:Int)<0))=true:=by rw [decide_eq_false (by omega)];rfl
  obtain ⟨nb,hnb⟩:=ds3 st2.known (k:Int)
  have l1:decide ((named.length+1)*8≤i6)=true:=C7 (by omega)
  have l2:decide ((open_.length+1)*8≤i6)=true:=C7 (by omega)
  have hw:=wD (show k≤3000000 by omega)
  have ht:=cm9 cb (i:=(k:Int)) (by omega)
  have e1:((k+1+j:Nat):Int)=c.Targets:=by omega
  cases nb with
  | false=>
   obtain ⟨n',o',h1,h2,h3,h4⟩:=ih (k+1) named open_ e1 (by omega) (by omega) hx
   refine ⟨n',o',h1,h2,h3,fun r h=> .next (s' := .s2 ch b c.Targets ((k+1:Nat):Int) st2 named open_) ?_ (h4 r h)⟩
   simp only [n9,O4,lt,cond_true,hnb,Option.bind_some,cond_false,hw]
  | true=>
   cases hs:((l6 .u64 (n4 .u64 st2.sealed (k:Int)) 1)==0) with
   | false=>
    obtain ⟨n',o',h1,h2,h3,h4⟩:=ih (k+1) (named++ [(k:Int)]) open_ e1 (by simp;omega) (by omega) hx
    refine ⟨n',o',h1,h2,h3,fun r h=> .next (s' := .s2 ch b c.Targets ((k+1:Nat):Int) st2 (named++ [(k:Int)]) open_) ?_ (h4 r h)⟩
    simp only [n9,O4,lt,cond_true,hnb,Option.bind_some,List.length_map,l1,n0,hs,cond_false,hw]
   | true=>
    have hx2:∀x∈open_++ [n6 c (c.Deciders+k)],isT c x:=fun x h=>by
     rcases List.mem_append.1 h with h | h
     ·exact hx x h
     ·exact ⟨k,by omega,by omega,List.mem_singleton.1 h⟩
    obtain ⟨n',o',h1,h2,h3,h4⟩:=ih (k+1) (named++ [(k:Int)]) (open_++ [n6 c (c.Deciders+k)]) e1 (by simp;omega) (by simp;omega) hx2
    refine ⟨n',o',h1,h2,h3,fun r h=> .next (s' := .s2 ch b c.Targets ((k+1:Nat):Int) st2 (named++ [(k:Int)]) (open_++ [n6 c (c.Deciders+k)])) ?_ (h4 r h)⟩
    simp only [n9,O4,lt,cond_true,hnb,Option.bind_some,List.length_map,l1,n0,hs,ht,l2,hw]
theorem bA6 (m:e9) (l:List Int):(N6 c ix m l).length=l.length:=by simp [N6]
theorem dk9 (h:DI c st M i) (hc:Z7 c=true) (ht:c.Tiers.length<9223372036854775807) (hix:0≤ix∧ix≤4) (hi:i≤300) (hn:0≤now∧now≤1099511627776) (hd:down=false):
  ∃out st',an9 now st c ix fuse down s t=some (out,st')∧PR c ix now st out st' :=by
 subst hd
 have cb:=aE2 hc
 have cT:=cb.t
 have b1:∃b:Bool,n9 now st c ix fuse false s t .s0=some (.inl (.s1 b))∧(b=false→st.boot≠0∧bM1 st.hold 0 now=true):=by
  simp only [n9,af2,ch4,Option.bind_some]
  cases hl:(decide (st.boot≠0)&&(!false&&bM1 st.hold 0 now)) with
  | false=>exact ⟨true,rfl,fun h=>by cases h⟩
  | true=>
   simp only [Bool.and_eq_true,decide_eq_true_eq,Bool.not_false,true_and] at hl
   cases (st.prop.Phase !=0) with
   | true=>exact ⟨_,rfl,fun _=>hl⟩
   | false=>exact ⟨_,rfl,fun _=>hl⟩
 obtain ⟨b,hb,hlead⟩:=b1
 cases b with
 | true=>exact ⟨[],st,u6 (.next hb (.done rfl)),.same⟩
 | false=>
  obtain ⟨hboot,hlive⟩:=hlead rfl
  obtain ⟨r,hr,hr2⟩:=ec0 hc ht h.kn.2.s h.kn.2.up h.kn.2.sup (dA2 st.votes c.Observers now c.Fresh) hn.1
  have htal:=dV1 (l:=st.votes) (o:=c.Observers) (n:=now) (f:=c.Fresh) (by have:=h.vl;omega) h.vo (by have:=cb.obs;omega)
  obtain ⟨n,is⟩:=r
  cases is with
  | false=>
   refine ⟨[],{ st with prop:=bZ2 },u6 (.next hb (.done ?_)),.none⟩
   simp only [n9,af1,cond_false,htal,Option.bind_some,hr,Bool.not_false,cond_true];rfl
  | true=>
   obtain ⟨hfit,-,hnx⟩:=hr2 rfl
   have s3:∃ch d:Bool,n9 now st c ix fuse false s t (.s1 false)=some (.inl (.s3 ch d n)):=by
    simp only [n9,af1,cond_false,htal,Option.bind_some,hr,Bool.not_true]
    cases (n.Target !=st.known.Target)<;>exact ⟨_,_,rfl⟩
   obtain ⟨ch,d,h3⟩:=s3
   cases d with
   | true=>exact ⟨[],st,u6 (.next hb (.next h3 (.done rfl))),.same⟩
   | false=>
    obtain ⟨⟨b,e⟩,hbal,hb2⟩:=dL4 (b:=st.top) (boot:=st.boot) (index:=ix) h.tp (by have:=h.bo;have:=h.mi;omega) (by omega)
    by_cases he:e=0
    ·subst he
     obtain ⟨t1,t2,t3⟩:=hb2 rfl
     have hE:=hfit.e
     have hE0:=hfit.r.epoch
     have w1:IntKind.i64.wrap (st.known.Epoch+1)=st.known.Epoch+1:=u7 (by omega) (by omega)
     have s2:n9 now st c ix fuse false s t (.s3 ch false n)=some (.inl (.s2 ch b c.Targets ((0:Nat):Int) { st with prop:=an3 (st.known.Epoch+1) b n,made:=now,top:=b } [] [])):=by
      simp only [n9,ae4,cond_false,hbal,Option.bind_some,bne_self_eq_false,dB6,w1];rfl
     obtain ⟨named,op,g1,g2,g3,g4⟩:=dz5 (now:=now) (st:=st) (ix:=ix) (fuse:=fuse) (down:=false) (s:=s) (t:=t) (ch:=ch) (b:=b) (st2:={ st with prop:=an3 (st.known.Epoch+1) b n,made:=now,top:=b }) cb c.Targets.toNat 0 [] [] (by omega) (by simp) (by simp) (by simp)
     have hacc:∀m (st:d9),J5 m st c ix fuse false s t=some (N6 c ix m (aa7 c)):=fun m st=>bt4 cb (by omega) m
     have h0:∀st:d9,K8 st c ix fuse false s t=some ():=fun _=>rfl
     have hal:=aZ8 cb
     --the last steps
     have fin:∀(out:List e9) (st2:d9) (ask:e9),out.length≤100→Ev (n9 now st c ix fuse false s t) (.s5 st2 out ask) (out++N6 c ix ask (aa7 c),st2):=fun out st2 ask ho=>by
      refine .done ?_
      have lim:decide ((out.length+(N6 c ix ask (aa7 c)).length)*288≤i6)=true:=C7 (by rw [bA6];omega)
      simp only [n9,aq7,h0,Option.bind_some,hacc,List.drop_zero,List.length_map,List.length_take,Nat.min_self,lim,cond_true]
     have six:∀(out:List e9) (q:Bool) (st2:d9),out.length≤100→∃code,(code=0∨code=1)∧Ev (n9 now st c ix fuse false s t) (.s6 q st2 out (aG9 (st.known.Epoch+1) b 0 st.known)) (out++N6 c ix (aG9 (st.known.Epoch+1) b code st.known) (aa7 c),st2):=fun out q st2 ho=>by
      cases q with
      | false=>exact ⟨0,.inl rfl,.next rfl (fin out st2 _ ho)⟩
      | true=>exact ⟨1,.inr rfl,.next rfl (fin out st2 (aG9 (st.known.Epoch+1) b 1 st.known) ho)⟩
     have seven:∀(out:List e9),out.length≤100→∃code,(code=0∨code=1)∧Ev (n9 now st c ix fuse false s t) (.s7 b op { st with prop:=an3 (st.known.Epoch+1) b n,made:=now,top:=b } named out) (out++N6 c ix (aG9 (st.known.Epoch+1) b code st.known) (aa7 c),{ st with prop:=an3 (st.known.Epoch+1) b n,made:=now,top:=b }):=fun out ho=>by
      have st7:∃q,n9 now st c ix fuse false s t (.s7 b op { st with prop:=an3 (st.known.Epoch+1) b n,made:=now,top:=b } named out)=some (.inl (.s6 q { st with prop:=an3 (st.known.Epoch+1) b n,made:=now,top:=b } out (aG9 (st.known.Epoch+1) b 0 st.known))):=by
       simp only [n9,aq9]
       cases decide (((List.map (d7 .i64) named).length:Int)>0)<;>exact ⟨_,rfl⟩
      obtain ⟨q,h7⟩:=st7
      obtain ⟨code,k1,k2⟩:=six out q { st with prop:=an3 (st.known.Epoch+1) b n,made:=now,top:=b } ho
      exact ⟨code,k1,.next h7 k2⟩
     cases hch:ch with
     | true=>
      obtain ⟨code,k1,k2⟩:=seven (N6 c ix (do0 (st.known.Epoch+1)) op) (by rw [bA6];omega)
      refine ⟨_,_,u6 (.next hb (.next h3 (.next s2 (g4 _ (.next ?_ k2))))),.go (n:=n) hboot hlive hfit hnx.symm t1 t2 t3 k1 g2 g3⟩
      have hv:aN0 op=some op:=rfl
      rw [hch]
      simp only [n9,aq5,cond_true,hv,Option.bind_some,ds8 op (show op.length≤100 by omega) cb (show 0≤ix∧ix≤100 by omega)];rfl
     | false=>
      obtain ⟨code,k1,k2⟩:=seven [] (by simp)
      refine ⟨_,_,u6 (.next hb (.next h3 (.next s2 (g4 _ (.next ?_ k2))))),PR.go (n:=n) (open_:= []) hboot hlive hfit hnx.symm t1 t2 t3 k1 (by simp) (by simp)⟩
      rw [hch];rfl
    ·refine ⟨[],st,u6 (.next hb (.next h3 (.done ?_))),.same⟩
     simp only [n9,ae4,cond_false,hbal,Option.bind_some,bne_iff_ne.2 he,cond_true]
def bh0 (c:d8) (ix now:Int) (st:d9):d9:=(aJ6 c ix now (M1 c ix now st).2).2
theorem cV1 (cb:CB c):(M1 c ix now st).1.length≤7:=by
 have:=aZ8 cb
 unfold M1;split<;>simp [N6];omega
theorem di5 (cb:CB c):(aJ6 c ix now st).1.length≤24:=by
 have:=cj1 cb ix
 unfold aJ6;split<;>simp [N6];omega
theorem cE0:∃ho a to,bh0 c ix now st={ st with hold:=ho,asked:=a,told:=to }∧(ho=st.hold∨ho=dc0 st.hold 0 now):=by
 unfold bh0 aJ6 M1
 split<;>split<;>first | exact ⟨_,_,_,rfl,.inl rfl⟩ | exact ⟨_,_,_,rfl,.inr rfl⟩
theorem dj1 (h:DI c st M i):DI c (bh0 c ix now st) M i:=by
 obtain ⟨ho,a,to,he,hh⟩:=cE0 (c:=c) (ix:=ix) (now:=now) (st:=st)
 rw [he]
 refine ⟨h.kn,h.vl,h.vo,?_,h.bo,h.mi,h.tp,h.pi⟩
 rcases hh with rfl | rfl
 ·exact h.gr
 ·exact F8.2 (by simp [dc0])
theorem dz9 (cb:CB c) {out:List e9}{st' :d9} (h:PR c ix now st out st'):out.length≤23:=by
 have:=aZ8 cb
 cases h with
 | same=>simp
 | none=>simp
 | go _ _ _ _ _ _ _ _ h1 _=>simp [N6];omega
theorem dN7 (h:DI c st M i) (hc:Z7 c=true) (ht:c.Tiers.length<9223372036854775807) (hix:0≤ix∧ix≤4) (hi:i≤300):
  ∃out st',R0 now st c ix fuse down s t=some (out,st')∧((out= []∧st' =st)∨(0≤now∧now≤1099511627776∧st.boot≠0∧down=false∧∃o3,out=(M1 c ix now st).1++(aJ6 c ix now (M1 c ix now st).2).1++o3∧PR c ix now (bh0 c ix now st) o3 st')):=by
 have cb:=aE2 hc
 simp only [R0,cT4,Option.bind_some]
 cases ho:decide (now<0) || (decide (now>1099511627776) || (decide (st.boot=0) || down)) with
 | true=>exact ⟨[],st,rfl,.inl ⟨rfl,rfl⟩⟩
 | false=>
  simp only [Bool.or_eq_false_iff,decide_eq_false_iff_not] at ho
  obtain ⟨o1,o2,o3,o4⟩:=ho
  obtain ⟨out,st',h1,h2⟩:=dk9 (fuse:=fuse) (s:=s) (t:=t) (dj1 (ix:=ix) (now:=now) h) hc ht hix hi (now:=now) (by omega) o4
  have l1:=cV1 (ix:=ix) (now:=now) (st:=st) cb
  have l2:=di5 (ix:=ix) (now:=now) (st:=(M1 c ix now st).2) cb
  have l3:=dz9 cb h2
  have e1:decide ((M1 c ix now st).1.length*288≤i6)=true:=C7 (by omega)
  have e2:decide (((M1 c ix now st).1.length+(aJ6 c ix now (M1 c ix now st).2).1.length)*288≤i6)=true:=C7 (by omega)
  have e3:decide ((((M1 c ix now st).1.length+(aJ6 c ix now (M1 c ix now st).2).1.length)+out.length)*288≤i6)=true:=C7 (by omega)
  refine ⟨_,st',?_,.inr ⟨by omega,by omega,o3,o4,out,rfl,h2⟩⟩
  have h1' :an9 now (aJ6 c ix now (M1 c ix now st).2).2 c ix fuse down s t=some (out,st'):=h1
  simp only [cond_false,dg6 cb (show 0≤ix∧ix≤100 by omega),du1 cb (show 0≤ix∧ix≤100 by omega),Option.bind_some,List.length_map,List.map_append,List.length_append,e1,e2,e3,cond_true,h1']
/-! ### what stays true -/
theorem DI.more {M' :Int}{j:Nat} (h:DI c st M i) (h1:i≤j) (h2:M≤M') (h3:M' ≤j):DI c st M' j:=⟨h.kn,by have:=h.vl;omega,h.vo,h.gr,by have:=h.bo;omega,h3,h.tp,h.pi⟩
theorem ec8 {m:e9}{out:List e9}{st' :d9} (h:DI c st M i) (hr:B3 m=true) (hf:af7 m) (hh:HR c ix st m now out st'):DI c st' M (i+1):=by
 have hv:=h.vl
 have hmi:M≤((i+1:Nat):Int):=by have:=h.mi;omega
 cases hh with
 | same=>exact h.more (by omega) (Int.le_refl _) hmi
 | vote vok=>
  rename_i v
  refine ⟨h.kn,?_,?_,h.gr,h.bo,hmi,h.tp,h.pi⟩
  ·have:=dH3 st.votes v;simp only;omega
  ·intro x hx
   rcases dH8 hx with hx | rfl
   ·exact h.vo x hx
   ·exact vok
 | hold=>exact ⟨h.kn,by simp only;omega,h.vo,dw8 _ _ _ h.gr,h.bo,hmi,h.tp,h.pi⟩
 | prom _=>exact ⟨h.kn,by simp only;omega,h.vo,h.gr,h.bo,hmi,h.tp,(aR9 h.pi hr hf).1⟩
 | acc _ _=>exact ⟨h.kn,by simp only;omega,h.vo,h.gr,h.bo,hmi,h.tp,(aR9 h.pi hr hf).1⟩
 | accd hno=>
  refine ⟨h.kn,by simp only;omega,h.vo,h.gr,h.bo,hmi,h.tp,?_⟩
  rcases (ce9 (c:=c) (m:=m) h.pi).2 with ⟨_,h2⟩ | h2
  ·exact h2
  ·exact absurd h2 hno
 | learn _ h2=>
  have hp:=h.pi.ph
  refine ⟨?_,by simp only [cR9,bS6];omega,h.vo,h.gr,h.bo,hmi,h.tp,PI0 _⟩
  rcases hp with hp | ⟨-,-,-,-,-,hp⟩
  ·omega
  ·exact (hp h2).1
 | nack=>exact ⟨h.kn,by simp only;omega,h.vo,h.gr,h.bo,hmi,by have:=h.tp;have:=cp1 st.top m.Ballot;simp only;omega,h.pi⟩
 | told _ h2 _=>exact ⟨⟨h2,hf.pl⟩,by simp only [bS6];omega,h.vo,h.gr,h.bo,hmi,h.tp,PI0 _⟩
 | shut=>exact ⟨h.kn,by simp only;omega,h.vo,h.gr,h.bo,hmi,h.tp,h.pi⟩
theorem dE4 {e b:Int}{n:Plan} (hg:ai0 (dm1 n (e+1))):PI (an3 (e+1) b n) e:=
 ⟨F8.2 (by simp [an3]),F8.2 (by simp [an3]),.inr ⟨.inl rfl,rfl,⟨hg,rfl⟩,by simp [an3],fun h=>by simp [an3] at h,fun h=>by simp [an3] at h⟩⟩
theorem dO7 (cb:CB c) (hn:0≤now) {n:Plan}{u:Nat} (hfit:aZ5 c st.known) (hnx:aw3 c st.known u now=(n,true)):ai0 n∧n.Epoch=st.known.Epoch+1∧dm1 n (st.known.Epoch+1)=n:=by
 obtain ⟨r1,r2,r3,r4⟩:=dO4 cb hfit u hn (by rw [hnx])
 rw [hnx] at r1 r2 r3 r4
 have hE:=hfit.e
 have hE0:=hfit.r.epoch
 refine ⟨⟨r1,⟨ac2.2 (by simp only at r2;omega),r3,r4,r1.shrt⟩⟩,r2,?_⟩
 rw [←r2];rfl
theorem ed0 (cb:CB c) (hn:0≤now) {out:List e9}{st' :d9} (h:DI c st M i) (hh:PR c ix now st out st'):DI c st' M i:=by
 cases hh with
 | same=>exact h
 | none=>exact ⟨h.kn,h.vl,h.vo,h.gr,h.bo,h.mi,h.tp,PI0 _⟩
 | go h1 h2 hfit hnx t1 t2 t3 k1 k2 k3=>
  obtain ⟨g1,g2,g3⟩:=dO7 cb hn hfit hnx
  exact ⟨h.kn,h.vl,h.vo,h.gr,h.bo,h.mi,by have:=h.tp;simp only;omega,dE4 (by rw [g3];exact g1)⟩
end
end Go.RX.L

namespace Go.RX.L
open Go Go.RX Go.Proofs
attribute [local irreducible] f6
noncomputable def cQ7 (y:Int×Bool×(List Int)×(List Int)):D×f4:=(.ptr 0 0 0,[some ⟨4,true,[[(f5 1 (List.map (d7 .u8) y.2.2.1)),(f5 2 (List.map (d7 .u8) y.2.2.2)),.int .i64 y.1,.bool y.2.1]]⟩,some ⟨1,false,(List.map (d7 .u8) y.2.2.1)⟩,some ⟨1,false,(List.map (d7 .u8) y.2.2.2)⟩])
noncomputable def bc4:Option (Int×Bool×(List Int)×(List Int)):=(some ((-1),false,[],[]))
theorem cD0 {r:Int×Bool×(List Int)×(List Int)} (h:bc4=some r):i0 E 28 [] [] (Rs cQ7 r):=so (fn:=Tryz.f28) (k:=true) (m:=0) h<| by
 intro r h;unfold bc4 at h
 refine zf 10 [.matc 0 0 0 1,.matc 0 0 1 1] ?_
 exact zu 1 h
end Go.RX.L

namespace Go.RX.L
open Go Go.RX Go.Proofs
attribute [local irreducible] f6
noncomputable def bN6:=p8 (q0 Tryz.f8)
inductive ak8 where
 | r0
 | r1 (a0:d9) (a1:Int) (a2:Bool) (a3:List Int) (a4:List Int)
noncomputable def bN1 (c:d8) (index:Int):ak8→D×f4
 | .r0=>(.nilp,[])
 | .r1 a0 a1 a2 a3 a4=>(.ptr 0 0 0,[some ⟨88,true,[(d9.l a0 (d8.l c [.int .i64 index,.ptr 1 0 0]))]⟩,some ⟨4,true,[[(f5 2 (List.map (d7 .u8) a3)),(f5 3 (List.map (d7 .u8) a4)),.int .i64 a1,.bool a2]]⟩,some ⟨1,false,(List.map (d7 .u8) a3)⟩,some ⟨1,false,(List.map (d7 .u8) a4)⟩])
abbrev cO3 (c:d8) (index:Int):=AOk E (Cx.of Tryz.f8 true 0) (bN1 c index)
noncomputable def cz3 (c:d8) (index:Int) (t17:Bool):M:=⟨[.code (bN6 [1,0,1]),.code (bN6 [1,1])],[(1,.int .i64 index),(2,.ptr 0 0 0),(17,.bool t17)],[some ⟨30,false,[(d8.enc c)]⟩]⟩
noncomputable def R7 (c:d8) (index:Int) (t17:Bool):Option ak8:=(bif t17 then (some (ak8.r0)) else ((az6 c).bind fun y2=>((bc4).bind fun y3=>(some (ak8.r1 (⟨0,y2,0,[],(⟨0,0,0,0⟩:p5),(⟨false,0⟩:T4),(⟨0,0,0,(⟨0,0,0,0,0,0,0,0,0,0,[],[]⟩:Plan),0,(⟨0,0,0,0,0,0,0,0,0,0,[],[]⟩:Plan),0,0⟩:i7),0,0,0,(⟨false,0⟩:T4)⟩:d9) y3.1 y3.2.1 y3.2.2.1 y3.2.2.2)))))
theorem aO6 {c index t17}:cO3 c index (cz3 c index t17) (R7 c index t17):=by
 intro r h;unfold R7 at h
 refine zs 1 h (fun h=> ?_) fun h=> ?_
 ·
  exact zu 5 h
 refine zd 4 [] h (fun _=>bD8) fun y2 h=> ?_
 refine zc 1 [] h (fun _=>cD0) fun y3 h=> ?_
 refine zf 0 [.blk 4 [some 3,some 1,some 1,some 1,some 1]] ?_
 exact zu 1 h
noncomputable def ao5 (c:d8) (index:Int):Option ak8:=((ai5 c).bind fun y1=>(bif (!y1) then (R7 c index true) else (bif (decide ((index:Int)<0)) then (R7 c index true) else (R7 c index (decide ((index:Int)≥c.Deciders))))))
theorem aZ7 {c:d8}{index:Int}{r:ak8} (h:ao5 c index=some r):i0 E 8 [.agg (d8.enc c),.int .i64 index] [] (Rs (bN1 c index) r):=so (fn:=Tryz.f8) (k:=true) (m:=0) h<| by
 intro r h;unfold ao5 at h
 refine zc 11 [] h (fun _=>aV2) fun y1 h=> ?_
 refine zs 3 h (fun h=> ?_) fun h=> ?_
 ·
  exact zg 16 (aO6 h)
 refine zs 6 h (fun h=> ?_) fun h=> ?_
 ·
  exact zg 9 (aO6 h)
 exact zg 10 (aO6 h)
end Go.RX.L

namespace Go.RX.L
open Go Go.RX Go.Proofs
attribute [local irreducible] f6
noncomputable def cb5 (state:d9) (c:d8) (index fuse:Int) (down:Bool) (b2 b3:List Int) (y:Unit):D×f4:=(.ptr 1 0 0,[some ⟨88,true,[(d9.l state (d8.l c [.int .i64 index,.ptr 1 0 0]))]⟩,some ⟨4,true,[[(f5 2 (List.map (d7 .u8) b2)),(f5 3 (List.map (d7 .u8) b3)),.int .i64 fuse,.bool down]]⟩,some ⟨1,false,(List.map (d7 .u8) b2)⟩,some ⟨1,false,(List.map (d7 .u8) b3)⟩])
noncomputable def P7 (state:d9) (c:d8) (index fuse:Int) (down:Bool) (b2 b3:List Int):Option Unit:=(some ())
theorem aC9 {state:d9}{c:d8}{index fuse:Int}{down:Bool}{b2 b3:List Int}{r:Unit} (h:P7 state c index fuse down b2 b3=some r):i0 E 23 [.ptr 0 0 0] [some ⟨88,true,[(d9.l state (d8.l c [.int .i64 index,.ptr 1 0 0]))]⟩,some ⟨4,true,[[(f5 2 (List.map (d7 .u8) b2)),(f5 3 (List.map (d7 .u8) b3)),.int .i64 fuse,.bool down]]⟩,some ⟨1,false,(List.map (d7 .u8) b2)⟩,some ⟨1,false,(List.map (d7 .u8) b3)⟩] (Rs (cb5 state c index fuse down b2 b3) r):=so (fn:=Tryz.f23) (k:=true) (m:=4) h<| by
 intro r h;unfold P7 at h
 exact zu 14 h
end Go.RX.L

namespace Go.RX.L
open Go Go.RX Go.Proofs
attribute [local irreducible] f6
noncomputable def co5 (state:d9) (c:d8) (index fuse:Int) (down:Bool) (b2 b3:List Int) (y:Plan):D×f4:=(.agg (Plan.enc y),[some ⟨88,true,[(d9.l state (d8.l c [.int .i64 index,.ptr 1 0 0]))]⟩,some ⟨4,true,[[(f5 2 (List.map (d7 .u8) b2)),(f5 3 (List.map (d7 .u8) b3)),.int .i64 fuse,.bool down]]⟩,some ⟨1,false,(List.map (d7 .u8) b2)⟩,some ⟨1,false,(List.map (d7 .u8) b3)⟩])
noncomputable def aO2 (state:d9) (c:d8) (index fuse:Int) (down:Bool) (b2 b3:List Int):Option Plan:=(some state.known)
theorem cj0 {state:d9}{c:d8}{index fuse:Int}{down:Bool}{b2 b3:List Int}{r:Plan} (h:aO2 state c index fuse down b2 b3=some r):i0 E 12 [.ptr 0 0 0] [some ⟨88,true,[(d9.l state (d8.l c [.int .i64 index,.ptr 1 0 0]))]⟩,some ⟨4,true,[[(f5 2 (List.map (d7 .u8) b2)),(f5 3 (List.map (d7 .u8) b3)),.int .i64 fuse,.bool down]]⟩,some ⟨1,false,(List.map (d7 .u8) b2)⟩,some ⟨1,false,(List.map (d7 .u8) b3)⟩] (Rs (co5 state c index fuse down b2 b3) r):=so (fn:=Tryz.f12) (k:=true) (m:=4) h<| by
 intro r h;unfold aO2 at h
 exact zu 18 h
end Go.RX.L

namespace Go.RX.L
open Go Go.RX Go.Proofs
attribute [local irreducible] f6
noncomputable def ar1:=p8 (q0 Tryz.f7)
noncomputable def bT1 (y:Bool):D×f4:=(.bool y,[])
abbrev aU8:=AOk E (Cx.of Tryz.f7 false 0) bT1
noncomputable def cN5:M:=⟨[.code (ar1 [1,1,1,0,1]),.code (ar1 [1,1,1,1])],[(2,.nilp),(29,.bool true)],[]⟩
noncomputable def br0:Option Bool:=(some false)
theorem ct1:aU8 cN5 (br0):=by
 intro r h;unfold br0 at h
 exact zu 7 h
noncomputable def cL3 (c:d8):M:=⟨[.code (ar1 [1,1,1])],[(1,.ptr 0 0 0),(2,.nilp)],[some ⟨30,false,[(d8.enc c)]⟩]⟩
noncomputable def bs5 (c:d8):Option Bool:=(br0)
theorem cv4 {c}:aU8 (cL3 c) (bs5 c):=by
 intro r h;unfold bs5 at h
 exact zg 44 (ct1 h)
noncomputable def cP2 (t29:Bool) (state:d9) (c:d8) (index fuse:Int) (down:Bool) (b2 b3:List Int):M:=⟨[.code (ar1 [1,1,1,0,1]),.code (ar1 [1,1,1,1])],[(2,.ptr 0 0 0),(29,.bool t29)],[some ⟨88,true,[(d9.l state (d8.l c [.int .i64 index,.ptr 1 0 0]))]⟩,some ⟨4,true,[[(f5 2 (List.map (d7 .u8) b2)),(f5 3 (List.map (d7 .u8) b3)),.int .i64 fuse,.bool down]]⟩,some ⟨1,false,(List.map (d7 .u8) b2)⟩,some ⟨1,false,(List.map (d7 .u8) b3)⟩]⟩
noncomputable def ar5 (t29:Bool) (state:d9) (c:d8) (index fuse:Int) (down:Bool) (b2 b3:List Int):Option Bool:=(bif t29 then (some false) else ((R0 0 state c index fuse down b2 b3).bind fun y2=>(bif (((((List.map e9.enc y2.1).length:Nat):Int):Int)==3) then (bif (decide ((0:Int)<(((List.map e9.enc y2.1).length:Nat):Int))) then (((y2.1)[0]?).bind fun y5=>(bif ((y5.Kind:Int)==10) then (bif (decide ((0:Int)<(((List.map e9.enc y2.1).length:Nat):Int))) then (((y2.1)[0]?).bind fun y9=>(bif ((y9.Code:Int)==2) then ((am3 0 y2.2 c index fuse down b2 b3).bind fun y12=>(bif (!y12) then ((aO2 y2.2 c index fuse down b2 b3).bind fun y14=>(some ((y14.Target:Int)==(-1)))) else (some false))) else (some false))) else none) else (some false))) else none) else (some false))))
theorem aU4 {t29 state c index fuse down b2 b3}:aU8 (cP2 t29 state c index fuse down b2 b3) (ar5 t29 state c index fuse down b2 b3):=by
 intro r h;unfold ar5 at h
 refine zs 1 h (fun h=> ?_) fun h=> ?_
 ·
  exact zu 5 h
 refine zc 5 [] h (fun _=>aR4) fun y2 h=> ?_
 refine zs 9 h (fun h=> ?_) fun h=> ?_
 ·
  refine zn 2 h fun h=> ?_
  refine zr 4 e9.enc h fun y5 h=> ?_
  refine zs 6 h (fun h=> ?_) fun h=> ?_
  ·
   refine zn 2 h fun h=> ?_
   refine zr 4 e9.enc h fun y9 h=> ?_
   refine zs 6 h (fun h=> ?_) fun h=> ?_
   ·
    refine zc 2 [] h (fun _=>bq9) fun y12 h=> ?_
    refine zs 6 h (fun h=> ?_) fun h=> ?_
    ·
     refine zc 2 [] h (fun _=>cj0) fun y14 h=> ?_
     exact zu 9 h
    exact zu 11 h
   exact zu 20 h
  exact zu 33 h
 exact zu 46 h
noncomputable def cK4 (c:d8) (state:d9) (c2:d8) (index fuse:Int) (down:Bool) (b3 b4:List Int):M:=⟨[.code (ar1 [1,1,1])],[(1,.ptr 0 0 0),(2,.ptr 1 0 0)],[some ⟨30,false,[(d8.enc c)]⟩,some ⟨88,true,[(d9.l state (d8.l c2 [.int .i64 index,.ptr 2 0 0]))]⟩,some ⟨4,true,[[(f5 3 (List.map (d7 .u8) b3)),(f5 4 (List.map (d7 .u8) b4)),.int .i64 fuse,.bool down]]⟩,some ⟨1,false,(List.map (d7 .u8) b3)⟩,some ⟨1,false,(List.map (d7 .u8) b4)⟩]⟩
noncomputable def aT3 (c:d8) (state:d9) (c2:d8) (index fuse:Int) (down:Bool) (b3 b4:List Int):Option Bool:=((ao5 c 2).bind fun y1=>match y1 with | .r0=>((P7 state c2 index fuse down b3 b4).bind fun y2=>((R0 0 state c2 index fuse down b3 b4).bind fun y3=>(bif (((((List.map e9.enc y3.1).length:Nat):Int):Int) !=0) then (ar5 true y3.2 c2 index fuse down b3 b4) else ((am6 0 y3.2 c2 index fuse down b3 b4).bind fun y5=>(ar5 ((y5.1:Int) !=0) y5.2.1 c2 index y5.2.2.1 y5.2.2.2.1 y5.2.2.2.2.1 y5.2.2.2.2.2))))) | .r1 y1a0 y1a1 y1a2 y1a3 y1a4=>(ar5 true state c2 index fuse down b3 b4))
theorem cq4 {c state c2 index fuse down b3 b4}:aU8 (cK4 c state c2 index fuse down b3 b4) (aT3 c state c2 index fuse down b3 b4):=by
 intro r h;unfold aT3 at h
 refine zc 11 [] h (fun _=>aZ7) fun y1 h=> ?_
 cases y1 with
 | r0=>
  dsimp only at h
  refine zc 9 [] h (fun _=>aC9) fun y2 h=> ?_
  refine zc 9 [] h (fun _=>aR4) fun y3 h=> ?_
  refine zs 8 h (fun h=> ?_) fun h=> ?_
  ·
   exact zg 7 (aU4 h)
  refine zc 2 [] h (fun _=>be0) fun y5 h=> ?_
  exact zg 5 (aU4 h)
 | r1 y1a0 y1a1 y1a2 y1a3 y1a4=>
  dsimp only at h
  exact zg 34 (aU4 h)
noncomputable def aS6:Option Bool:=((ba9).bind fun y1=>((ao5 y1 0).bind fun y2=>match y2 with | .r0=>(bs5 y1) | .r1 y2a0 y2a1 y2a2 y2a3 y2a4=>(aT3 y1 y2a0 y1 0 y2a1 y2a2 y2a3 y2a4)))
theorem cL4 {r:Bool} (h:aS6=some r):i0 E 7 [] [] (Rs bT1 r):=so (fn:=Tryz.f7) (k:=false) (m:=0) h<| by
 intro r h;unfold aS6 at h
 refine zc 7 [] h (fun _=>cA1) fun y1 h=> ?_
 refine zc 10 [] h (fun _=>aZ7) fun y2 h=> ?_
 cases y2 with
 | r0=>
  dsimp only at h
  exact zg 2 (cv4 h)
 | r1 y2a0 y2a1 y2a2 y2a3 y2a4=>
  dsimp only at h
  exact zg 2 (cq4 h)
end Go.RX.L

namespace Go.RX.L
open Go Go.RX Go.Proofs
attribute [local irreducible] f6
noncomputable def cZ9 (y:Int):D×f4:=(.int .i64 y,[])
noncomputable def bl1 (now:Int):Option Int:=(some (u9 0 (A2 now 1099511627776)))
theorem cM2 {now r:Int} (h:bl1 now=some r):i0 E 31 [.int .i64 now] [] (Rs cZ9 r):=so (fn:=Tryz.f31) (k:=false) (m:=0) h<| by
 intro r h;unfold bl1 at h
 exact zu 12 h
end Go.RX.L

namespace Go.RX.L
open Go Go.RX Go.Proofs
attribute [local irreducible] f6
noncomputable def cX2 (c:d8) (index:Int) (y:(List e9)×d9×Int×Bool×(List Int)×(List Int)):D×f4:=(.sl false 26 (List.map e9.enc y.1),[some ⟨88,true,[(d9.l y.2.1 (d8.l c [.int .i64 index,.ptr 1 0 0]))]⟩,some ⟨4,true,[[(f5 4 (List.map (d7 .u8) y.2.2.2.2.1)),(f5 5 (List.map (d7 .u8) y.2.2.2.2.2)),.int .i64 y.2.2.1,.bool y.2.2.2.1]]⟩,none,none,some ⟨1,false,(List.map (d7 .u8) y.2.2.2.2.1)⟩,some ⟨1,false,(List.map (d7 .u8) y.2.2.2.2.2)⟩])
noncomputable def aT2 (o:Op) (state:d9) (c:d8) (index fuse:Int) (down:Bool) (b2 b3:List Int):Option ((List e9)×d9×Int×Bool×(List Int)×(List Int)):=(bif (((l6 .i64 o.What 7):Int)==1) then ((P7 state c index fuse down b2 b3).bind fun y2=>((aU7 o.N_ fuse down b2 b3).bind fun y3=>(some ([],state,y3,down,b2,b3)))) else (bif (((l6 .i64 o.What 7):Int)==2) then ((P7 state c index fuse down b2 b3).bind fun y5=>((ak6 o.N_ fuse down b2 b3).bind fun y6=>(some ([],state,y6.1,y6.2.1,y6.2.2.1,y6.2.2.2)))) else (bif (((l6 .i64 o.What 7):Int)==3) then ((bl1 o.Now).bind fun y8=>((am6 y8 state c index fuse down b2 b3).bind fun y9=>(some ([],y9.2.1,y9.2.2.1,y9.2.2.2.1,y9.2.2.2.2.1,y9.2.2.2.2.2)))) else (bif (((l6 .i64 o.What 7):Int)==4) then ((R0 o.Now state c index fuse down b2 b3).bind fun y11=>(some (y11.1,y11.2,fuse,down,b2,b3))) else ((as6 o.M_ o.Now state c index fuse down b2 b3).bind fun y12=>(some (y12.1,y12.2,fuse,down,b2,b3)))))))
theorem cQ0 {o:Op}{state:d9}{c:d8}{index fuse:Int}{down:Bool}{b2 b3:List Int}{r:(List e9)×d9×Int×Bool×(List Int)×(List Int)} (h:aT2 o state c index fuse down b2 b3=some r):i0 E 10 [.ptr 0 0 0,.agg (Op.enc o)] [some ⟨88,true,[(d9.l state (d8.l c [.int .i64 index,.ptr 1 0 0]))]⟩,some ⟨4,true,[[(f5 2 (List.map (d7 .u8) b2)),(f5 3 (List.map (d7 .u8) b3)),.int .i64 fuse,.bool down]]⟩,some ⟨1,false,(List.map (d7 .u8) b2)⟩,some ⟨1,false,(List.map (d7 .u8) b3)⟩] (Rs (cX2 c index) r):=so (fn:=Tryz.f10) (k:=true) (m:=4) h<| by
 intro r h;unfold aT2 at h
 refine zs 20 h (fun h=> ?_) fun h=> ?_
 ·
  refine zdR 1 [] h (fun _=>aC9) fun y2 h=> ?_
  refine zc 1 [] h (fun _=>co7) fun y3 h=> ?_
  refine zf 5 [.mv 2,.mv 3] ?_
  exact zu 1 h [.slot 0 [some 26]]
 refine zs 6 h (fun h=> ?_) fun h=> ?_
 ·
  refine zdR 1 [] h (fun _=>aC9) fun y5 h=> ?_
  refine zc 1 [] h (fun _=>ch6) fun y6 h=> ?_
  refine zf 5 [.mv 3] ?_
  exact zu 1 h [.slot 0 [some 26]]
 refine zs 6 h (fun h=> ?_) fun h=> ?_
 ·
  refine zc 6 [] h (fun _=>cM2) fun y8 h=> ?_
  refine zc 1 [] h (fun _=>be0) fun y9 h=> ?_
  exact zu 7 h [.slot 0 [some 26]]
 refine zs 6 h (fun h=> ?_) fun h=> ?_
 ·
  refine zc 7 [] h (fun _=>aR4) fun y11 h=> ?_
  refine zf 2 [.mv 2,.mv 3] ?_
  exact zu 1 h
 refine zc 10 [] h (fun _=>ce0) fun y12 h=> ?_
 refine zf 2 [.mv 2,.mv 3] ?_
 exact zu 1 h
end Go.RX.L

namespace Go.RX.L
open Go Go.RX
def aa6 (c:d8):Plan:=⟨0,-1,-1,-1,0,0,0,0,0,0,List.replicate c.Targets.toNat 0,[]⟩
def zst (c:d8):d9:=⟨0,aa6 c,0,[],⟨0,0,0,0⟩,⟨false,0⟩,bZ2,0,0,0,⟨false,0⟩⟩
def upS (c:d8) (b now:Int):d9:={ zst c with boot:=b,heard:=now }
theorem cr2 {c:d8} (cb:CB c):ai0 (aa6 c):=by
 have:=cb.t
 refine ⟨⟨by simp [aa6],by simp [aa6],by simp [aa6],by simp [aa6],by simp [aa6],by simp [aa6],by simp [aa6];omega,by simp [aa6],fun x hx=> ?_,by simp [aa6],rfl⟩,⟨ac2.2 (by simp [aa6]),by simp [aa6],by simp [aa6],⟨by simp [aa6];omega,by simp [aa6]⟩⟩⟩
 rw [(List.mem_replicate.1 hx).2];decide
theorem dt9 {c:d8} (cb:CB c) {M:Int}{i:Nat} (h0:0≤M) (hi:M≤i):DI c (zst c) M i:=⟨cr2 cb,by simp [zst],by simp [zst],F8.2 (by simp [zst]),by simp [zst];exact h0,hi,by simp [zst],PI0 _⟩
theorem ec4 {c:d8} (cb:CB c) {M now:Int}{i:Nat} (h0:0≤M) (hi:M≤i):DI c (upS c M now) M i:=⟨cr2 cb,by simp [upS,zst],by simp [upS,zst],F8.2 (by simp [upS,zst]),by simp [upS];exact h0,hi,by simp [upS,zst],PI0 _⟩
section
variable {c : d8} {ix : Int} {st : d9} {ns : List Int} {pend : Option Int} {fuse : Int} {down : Bool} {s t : List Int} {i : Nat}
theorem ds7 {now f:Int}{d:Bool}{st2:d9}{s' t' :List Int}{r:Int×d9×Int×Bool×List Int×List Int} (hn:∀n∈ns,n8 .i64 n∧n<1048575) (hl:ns.length≤1000):∀(j k:Nat),k+j=ns.length→
  Ev (N8 now c ix) (.s1 (ar7 ns) (ak2 ns) (ns.length:Nat) (ns.length:Nat) st2 f d s' t') r→Ev (N8 now c ix) (.s1 (ar7 ns) (ak2 ns) (ns.length:Nat) (k:Nat) st2 f d s' t') r:=by
 intro j
 induction j with
 | zero=>
  intro k hk h
  have:k=ns.length:=by omega
  subst this
  exact h
 | succ j ih=>
  intro k hk h
  have hlt:k<ns.length:=by omega
  obtain ⟨g1,g2⟩:=dK9 hlt
  obtain ⟨hk1,hk2⟩:=hn _ (List.getElem_mem hlt)
  have hof:=di0 hk1
  have l1:(decide ((k:Int)<((ak2 ns).length:Int)))=true:=by simp [ak2];omega
  have l2:(decide ((k:Int)<((ar7 ns).length:Int)))=true:=by simp [ar7];omega
  have big:decide ((z3 ns[k]).Nonce≥1048575)=false:=decide_eq_false (by show ¬ns[k]≥1048575;omega)
  refine .next (s' := .s1 (ar7 ns) (ak2 ns) (ns.length:Nat) ((k+1:Nat):Int) st2 f d s' t') ?_ (ih (k+1) (by omega) h)
  simp only [N8,P2,E7 hlt,cond_true,List.length_map,L8,l1,l2,Bool.and_self,Int.toNat_natCast,g1,g2,Option.bind_some,hof,beq_self_eq_true,show (z3 ns[k]).Kind=17 from rfl,big,cond_false,wB (show k≤3000000 by omega)]
theorem cn9 {now:Int} (h:JR ns pend fuse down s t i) (hc:Z7 c=true) (ht:c.Tiers.length<9223372036854775807) (hi:i≤250):
  ∃e st' f d s' t' ns' pend',am6 now st c ix fuse down s t=some (e,st',f,d,s',t')∧JR ns' pend' f d s' t' (i+1)∧G8 ns≤G8 ns' ∧(st' =zst c∨(G8 ns<G8 ns' ∧st' =upS c (G8 ns') now))∧(fuse= -1→e=0∧st' =upS c (G8 ns') now∧d=false∧G8 ns<G8 ns'):=by
 have hz:=cw2 ht hc
 rcases h.open_ (by omega) with ⟨f,ho,hr,hf1⟩ | ⟨f,ho,hr,hf1⟩
 rotate_left
 ·refine ⟨61,zst c,f,true,s,[],ns,none,u6 (.done ?_),hr.more,Int.le_refl _,.inl rfl,fun h=>absurd h hf1⟩
  simp only [N8,af4,hz,ho,Option.bind_some,show ((61:Int) !=0)=true from rfl,cond_true];rfl
 have hin:∀n∈ns,n8 .i64 n∧n<1048575:=fun n hn=>⟨cS7 (h.ns_ n hn) (by omega),by have:=h.ns_ n hn;omega⟩
 have hl:ns.length≤1000:=by have:=h.cnt;omega
 obtain ⟨b,e,g,d,s',t',ns',pend',hb,hj,hm,he,hfe⟩:=dT1 hr hi
 have lt:decide (((ns.length:Nat):Int)<((ns.length:Nat):Int))=false:=decide_eq_false (by omega)
 have first:∀{r},P2 now c ix (ar7 ns) (ak2 ns) (ns.length:Nat) (ns.length:Nat) (zst c) f false (Z5 (ns.map z3)) []=some (.inr r)→am6 now st c ix fuse down s t=some r:=fun {r} hh=>by
  refine u6 (.next (s' := .s1 (ar7 ns) (ak2 ns) (ns.length:Nat) ((0:Nat):Int) (zst c) f false (Z5 (ns.map z3)) []) ?_ (ds7 hin hl ns.length 0 (by omega) (.done hh)))
  simp only [N8,af4,hz,ho,Option.bind_some,show ((0:Int) !=0)=false from rfl,cond_false,List.length_map]
  simp [ak2];rfl
 by_cases h0:e=0
 ·subst h0
  obtain ⟨q1,q2,q3⟩:=he rfl
  refine ⟨0,upS c (G8 ns') now,g,d,s',t',ns',pend',first ?_,hj,hm,.inr ⟨by omega,rfl⟩,fun _=>⟨rfl,rfl,q1,by omega⟩⟩
  simp only [P2,lt,cond_false,hb,Option.bind_some,show ((0:Int) !=0)=false from rfl,q3];rfl
 ·refine ⟨e,zst c,g,d,s',t',ns',pend',first ?_,hj,hm,.inl rfl,fun h=>absurd (hfe (hf1 h)) h0⟩
  simp only [P2,lt,cond_false,hb,Option.bind_some,bne_iff_ne.2 h0,cond_true]
end
/-- One step of whatever is done: what is sent, what it is then, the highest boot on its disk. -/
inductive SR (c : d8) (ix : Int) (o : Op) (st : d9) (M : Int) (d : Bool) : List e9 → d9 → Int → Prop
  | idle {M' : Int} : l6 .i64 o.What 7 ≠ 3 → M ≤ M' → SR c ix o st M d [] st M'
  | fall {M' : Int} : l6 .i64 o.What 7 = 3 → M ≤ M' → SR c ix o st M d [] (zst c) M'
  | boot {M' now : Int} : l6 .i64 o.What 7 = 3 → M < M' → SR c ix o st M d [] (upS c M' now) M'
  | tick {o3 : List e9} {st' : d9} : l6 .i64 o.What 7 = 4 → 0 ≤ o.Now → o.Now ≤ 1099511627776 → st.boot ≠ 0 → d = false → PR c ix o.Now (bh0 c ix o.Now st) o3 st' → SR c ix o st M d ((M1 c ix o.Now st).1 ++ (aJ6 c ix o.Now (M1 c ix o.Now st).2).1 ++ o3) st' M
  | handle {out : List e9} {st' : d9} : l6 .i64 o.What 7 ≠ 3 → B3 o.M_ = true → 0 ≤ o.Now → o.Now ≤ 1099511627776 → st.boot ≠ 0 → d = false → HR c ix st o.M_ o.Now out st' → SR c ix o st M d out st' M
theorem dP9 {c:d8}{ix:Int}{o:Op}{st:d9}{ns:List Int}{pend:Option Int}{fuse:Int}{down:Bool}{s t:List Int}{i:Nat} (h:DI c st (G8 ns) i) (hj:JR ns pend fuse down s t i) (hc:Z7 c=true) (ht:c.Tiers.length<9223372036854775807) (hix:0≤ix∧ix≤4) (ho:o.Ok) (hi:i≤250):
  ∃out st' f d s' t' ns' pend',aT2 o st c ix fuse down s t=some (out,st',f,d,s',t')∧DI c st' (G8 ns') (i+1)∧JR ns' pend' f d s' t' (i+1)∧SR c ix o st (G8 ns) d out st' (G8 ns'):=by
 have cb:=aE2 hc
 have hm:=hj.mx
 have hm1:G8 ns≤((i+1:Nat):Int):=by omega
 have hN:=ho.2.2.2
 have hf:af7 o.M_:=ho.2.1.fine
 have mid:=h.more (j:=i+1) (by omega) (Int.le_refl _) hm1
 unfold aT2
 by_cases w1:l6 .i64 o.What 7=1
 ·rw [beq_iff_eq.2 w1]
  obtain ⟨e1,e2⟩:=dP1 hj hN
  have h0:P7 st c ix fuse down s t=some ():=rfl
  simp only [cond_true,h0,e1,Option.bind_some]
  exact ⟨_,_,_,_,_,_,ns,pend,rfl,mid,e2.more,.idle (by omega) (Int.le_refl _)⟩
 rw [beq_eq_false_iff_ne.2 w1]
 by_cases w2:l6 .i64 o.What 7=2
 ·rw [beq_iff_eq.2 w2]
  obtain ⟨s',ns',e1,e2,e3⟩:=dG8 (keep:=o.N_) hj (by omega)
  have h0:P7 st c ix fuse down s t=some ():=rfl
  simp only [cond_true,cond_false,h0,e1,Option.bind_some]
  exact ⟨_,_,_,_,_,_,ns',none,rfl,h.more (by omega) e3 (by have:=e2.mx;omega),e2.more,.idle (by omega) e3⟩
 rw [beq_eq_false_iff_ne.2 w2]
 by_cases w3:l6 .i64 o.What 7=3
 ·rw [beq_iff_eq.2 w3]
  obtain ⟨e,st',f,d,s',t',ns',pend',e1,e2,e3,e4,-⟩:=cn9 (st:=st) (ix:=ix) (now:=u9 0 (A2 o.Now 1099511627776)) hj hc ht hi
  have hm' :=e2.mx
  simp only [cond_true,cond_false,bl1,Option.bind_some,e1]
  refine ⟨_,_,_,_,_,_,ns',pend',rfl,?_,e2,?_⟩
  ·rcases e4 with rfl | ⟨-,rfl⟩
   ·exact dt9 cb hm'.1 hm'.2
   ·exact ec4 cb hm'.1 hm'.2
  ·rcases e4 with rfl | ⟨e5,rfl⟩
   ·exact .fall w3 e3
   ·exact .boot w3 e5
 rw [beq_eq_false_iff_ne.2 w3]
 by_cases w4:l6 .i64 o.What 7=4
 ·rw [beq_iff_eq.2 w4]
  obtain ⟨out,st',e1,e2⟩:=dN7 (now:=o.Now) (fuse:=fuse) (down:=down) (s:=s) (t:=t) h hc ht hix (by omega)
  simp only [cond_true,cond_false,e1,Option.bind_some]
  rcases e2 with ⟨rfl,rfl⟩ | ⟨q1,q2,q3,q4,o3,rfl,q5⟩
  ·exact ⟨_,_,_,_,_,_,ns,pend,rfl,mid,hj.more,.idle w3 (Int.le_refl _)⟩
  ·exact ⟨_,_,_,_,_,_,ns,pend,rfl,(ed0 cb q1 (dj1 h) q5).more (by omega) (Int.le_refl _) hm1,hj.more,.tick w4 q1 q2 q3 q4 q5⟩
 rw [beq_eq_false_iff_ne.2 w4]
 obtain ⟨out,st',e1,e2⟩:=dr0 (m:=o.M_) (now:=o.Now) (fuse:=fuse) (down:=down) (s:=s) (t:=t) h cb hix hf (by omega)
 simp only [cond_false,e1,Option.bind_some]
 rcases e2 with ⟨rfl,rfl⟩ | ⟨q1,q2,q3,q4,q5,q6⟩
 ·exact ⟨_,_,_,_,_,_,ns,pend,rfl,mid,hj.more,.idle w3 (Int.le_refl _)⟩
 ·exact ⟨_,_,_,_,_,_,ns,pend,rfl,ec8 h q1 hf q6,hj.more,.handle w3 q1 q2 q3 q4 q5 q6⟩
theorem cC3 {c:d8}{index:Int} (ht:c.Tiers.length<9223372036854775807):ao5 c index=some (if Z7 c=true∧0≤index∧index<c.Deciders then .r1 (zst c) (-1) false [] [] else .r0):=by
 simp only [ao5,bc0 ht,Option.bind_some]
 cases h:Z7 c with
 | false=>simp [R7]
 | true=>
  have hz:=cw2 ht h
  by_cases h1:index<0
  ·have:¬(0≤index):=by omega
   simp [h1,R7,this]
  ·by_cases h2:index≥c.Deciders
   ·have:¬(index<c.Deciders):=by omega
    simp [h1,h2,R7,this]
   ·have h3:0≤index∧index<c.Deciders:=by omega
    simp [h1,h2,R7,bc4,hz,h3,zst,aa6,bZ2,v9]
theorem cn0:Z7 B4=true:=by decide+kernel
theorem cK2:aS6=some true:=by
 have ht:B4.Tiers.length<9223372036854775807:=by decide
 have cb:=aE2 cn0
 have n0:=cC3 (index:=0) ht
 have n2:=cC3 (index:=2) ht
 rw [if_pos ⟨cn0,by decide,by decide⟩] at n0
 rw [if_neg (by decide)] at n2
 have t1:R0 0 (zst B4) B4 0 (-1) false [] []=some ([],zst B4):=rfl
 obtain ⟨e,st',f,d,s',t',ns',pend',e1,e2,e3,e4,e5⟩:=cn9 (st:=zst B4) (ix:=0) (now:=0) JR0 cn0 ht (by decide)
 obtain ⟨rfl,rfl,rfl,hlt⟩:=e5 rfl
 have m0:G8 []=0:=rfl
 generalize hb:G8 ns' =b at*
 have hl:M1 B4 0 0 (upS B4 b 0)=(N6 B4 0 (bR6 0) (aa7 B4),bv5 (upS B4 b 0) 0):=by unfold M1;rw [if_pos];rfl
 have hs:aJ6 B4 0 0 (bv5 (upS B4 b 0) 0)=([],bv5 (upS B4 b 0) 0):=by unfold aJ6;rw [if_pos (.inl rfl)]
 have lv:bM1 (bv5 (upS B4 b 0) 0).hold 0 0=false:=rfl
 have hp:an9 0 (bv5 (upS B4 b 0) 0) B4 0 f false s' t' =some ([],bv5 (upS B4 b 0) 0):=by
  refine u6 (.next (s' := .s1 true) ?_ (.done rfl))
  simp only [n9,af2,ch4,Option.bind_some,lv,Bool.and_false,Bool.not_false,cond_true]
 have of:(decide ((0:Int)<0) || (decide ((0:Int)>1099511627776) || (decide ((upS B4 b 0).boot=0) || false)))=false:=by
  have:decide ((upS B4 b 0).boot=0)=false:=decide_eq_false (by show ¬b=0;omega)
  rw [this];rfl
 have la:(N6 B4 0 (bR6 0) (aa7 B4)).length=3:=rfl
 have e1' :decide (3*288≤i6)=true:=C7 (by omega)
 have e2' :decide ((3+0)*288≤i6)=true:=C7 (by omega)
 have tk:R0 0 (upS B4 b 0) B4 0 f false s' t' =some (N6 B4 0 (bR6 0) (aa7 B4),bv5 (upS B4 b 0) 0):=by
  simp only [R0,cT4,Option.bind_some,of,cond_false,dg6 cb (show (0:Int)≤0∧(0:Int)≤100 by decide),du1 cb (show (0:Int)≤0∧(0:Int)≤100 by decide),hl,hs,hp,List.length_map,List.map_append,List.length_append,List.length_nil,la,e1',e2',cond_true,List.append_nil]
 have g0:(N6 B4 0 (bR6 0) (aa7 B4))[0]? =some (ftM (bR6 0) (n6 B4 0) 0):=rfl
 have j0:∀(st:d9) (f:Int) (d:Bool) (s t:List Int),P7 st B4 0 f d s t=some ():=fun _ _ _ _ _=>rfl
 have k0:∀(st:d9) (f:Int) (d:Bool) (s t:List Int),aO2 st B4 0 f d s t=some st.known:=fun _ _ _ _ _=>rfl
 simp only [aS6,dF0,Option.bind_some,n0,aT3,n2,j0,t1,e1,List.length_map,List.length_nil,ar5,show (((0:Nat):Int) !=0)=false from rfl,show ((0:Int) !=0)=false from rfl,cond_false,tk,la,show (((3:Nat):Int)==3)=true from rfl,cond_true,show decide ((0:Int)<((3:Nat):Int))=true from rfl,g0,show ((ftM (bR6 0) (n6 B4 0) 0).Kind==10)=true from rfl,show ((ftM (bR6 0) (n6 B4 0) 0).Code==2)=true from rfl,ch4,lv,Bool.and_false,Bool.not_false,k0]
 rfl
end Go.RX.L

namespace Go.RX.L
open Go Go.RX
def ay1 (c:d8):Int:=n6 c (c.Deciders+c.Targets+c.Routers+c.Observers)
structure ca6 (c:d8) (m:e9):Prop where
 f:m.From=n6 c 0
 t:0≤m.To∧m.To<ay1 c
 r:B3 m=true
 s:Shm m
structure dk4 (m:e9):Prop where
 k:1≤m.Kind∧m.Kind≤19
 u:m.Up=0
 c:0≤m.Code∧m.Code≤1000
 i:m.ID= []
 s:m.Session= []
 q:m.Payload= []
 p:aN1 m=true
 sh:Shm m
section
variable {c : d8} (cb : CB c)
include cb
theorem dG4:5≤ay1 c∧ay1 c≤100:=by
 have:=cb.f;have:=cb.dec;have:=cb.t;have:=cb.rou;have:=cb.obs
 unfold ay1 n6;omega
theorem dQ6 {m:e9} (h:dk4 m) {t:Int} (ht:0≤t∧t<ay1 c):ca6 c (ftM m (n6 c 0) t):=by
 have hn:=dG4 cb
 have hf:=cb.f
 obtain ⟨k,u,co,i,s,q,p,sh⟩:=h
 refine ⟨rfl,ht,?_,⟨sh.s,sh.up,sh.sup⟩⟩
 simp only [B3,Bool.and_eq_true,decide_eq_true_eq]
 refine ⟨?_,?_,p⟩
 ·unfold hdM ftM n6;simp only [u];omega
 ·unfold txM ftM;simp only [i,s,q];simp
theorem ck0 {t:Int} (h:t∈aa7 c):0≤t∧t<ay1 c:=by
 have:=cb.f;have:=cb.dec;have:=cb.t;have:=cb.rou;have:=cb.obs
 obtain ⟨k,hk,rfl⟩:=List.mem_map.1 h
 have:=List.mem_range.1 hk
 unfold ay1 n6;omega
theorem dC4 {ix t:Int} (h:t∈aV9 c ix):0≤t∧t<ay1 c:=by
 have:=cb.f;have:=cb.dec;have:=cb.t;have:=cb.rou;have:=cb.obs
 obtain ⟨k,hk,rfl⟩:=List.mem_map.1 (List.mem_filter.1 h).1
 have h2:=List.mem_range.1 hk
 unfold aA0 at h2
 unfold ay1 n6;omega
theorem dB3 {t:Int} (h:isT c t):0≤t∧t<ay1 c:=by
 have:=cb.f;have:=cb.dec;have:=cb.t;have:=cb.rou;have:=cb.obs
 obtain ⟨k,h1,h2,rfl⟩:=h
 unfold ay1 n6;omega
theorem br4 {m:e9} (h:dk4 m) {l:List Int} (hl:∀t∈l,0≤t∧t<ay1 c):∀x∈N6 c 0 m l,ca6 c x:=fun x hx=>by
 obtain ⟨t,ht,rfl⟩:=List.mem_map.1 hx
 exact dQ6 cb h (hl t ht)
end
theorem bW7 {m:e9} (hp:ai0 m.Plan) (k:1≤m.Kind∧m.Kind≤19) (u:m.Up=0) (co:m.Code=0∨m.Code=1) (i:m.ID= []) (s:m.Session= []) (q:m.Payload= []) (h:m.HasPlan=true):dk4 m:=by
 have h1:=hp.1.up
 have h2:=hp.1.sup
 refine ⟨k,u,by omega,i,s,q,by unfold aN1;rw [h];exact Y9.2 hp.1,⟨hp.2.s,F8.2 ⟨hp.2.up,by omega⟩,F8.2 ⟨hp.2.sup,by omega⟩⟩⟩
theorem cJ3 {m:e9} (hp:m.Plan=v9) (k:1≤m.Kind∧m.Kind≤19) (u:m.Up=0) (co:0≤m.Code∧m.Code≤1000) (i:m.ID= []) (s:m.Session= []) (q:m.Payload= []) (h:m.HasPlan=false):dk4 m:=
 ⟨k,u,co,i,s,q,by unfold aN1;rw [h,hp];exact bw8.2 rfl,⟨by rw [hp];exact cW5.s,by rw [hp];exact F8.2 (by decide),by rw [hp];exact F8.2 (by decide)⟩⟩
/-! ### decisions -/
def cN (x:List e9) (q:Int):Nat:=x.countP fun m=>m.Kind==9&&m.To==q
theorem cV6 (a b:List e9) (q:Int):cN (a++b) q=cN a q+cN b q:=List.countP_append
theorem dK3 {x:List e9} (h:∀m∈x,m.Kind≠9) (q:Int):cN x q=0:=by
 refine List.countP_eq_zero.2 fun m hm=> ?_
 simp [beq_eq_false_iff_ne.2 (h m hm)]
theorem av9 {c:d8}{ix:Int}{m:e9}{l:List Int}:∀x∈N6 c ix m l,x.Kind=m.Kind:=fun x hx=>by
 obtain ⟨t,_,rfl⟩:=List.mem_map.1 hx;rfl
theorem dz2 (c:d8) (p:Plan) (q:Int):∀n:Nat,cN (N6 c 0 (bg9 p) (aA5 c 0 (List.range n))) q=if n6 c 0<q∧q<n6 c n then 1 else 0
 | 0=>by
  rw [if_neg (by intro h;have:n6 c ((0:Nat):Int)=n6 c 0:=rfl;omega)];rfl
 | n+1=>by
  have ih:=dz2 c p q n
  rw [List.range_succ]
  by_cases h0:n=0
  ·subst h0
   have:aA5 c 0 (List.range 0++ [0])= []:=by simp [aA5]
   rw [this,if_neg (by unfold n6;omega)];rfl
  ·have e:(n6 c (n:Int) !=n6 c 0)=true:=bne_iff_ne.2 (by unfold n6;omega)
   have:aA5 c 0 (List.range n++ [n])=aA5 c 0 (List.range n)++ [n6 c (n:Int)]:=by simp [aA5,List.filter_append,e]
   rw [this]
   have e2:N6 c 0 (bg9 p) (aA5 c 0 (List.range n)++ [n6 c (n:Int)])=N6 c 0 (bg9 p) (aA5 c 0 (List.range n))++ [ftM (bg9 p) (n6 c 0) (n6 c (n:Int))]:=by simp [N6]
   rw [e2,cV6,ih]
   have e3:cN [ftM (bg9 p) (n6 c 0) (n6 c (n:Int))] q=if n6 c (n:Int)=q then 1 else 0:=by
    by_cases hq:n6 c (n:Int)=q
    ·subst hq;simp [cN,ftM,bg9]
    ·simp [cN,ftM,bg9,hq]
   rw [e3]
   by_cases hq:n6 c (n:Int)=q
   ·rw [if_pos hq,if_neg (by omega),if_pos (by subst hq;unfold n6;omega)]
   ·rw [if_neg hq]
    by_cases hr:n6 c 0<q∧q<n6 c n
    ·rw [if_pos hr,if_pos (by unfold n6 at hr ⊢;omega)]
    ·rw [if_neg hr,if_neg (by unfold n6 at hr hq ⊢;omega)]
def SX (c:d8) (x:List e9):Prop:=(∀m∈x,m.Kind≠9)∨∀q:Int,cN x q=if n6 c 0<q∧q<n6 c (c.Deciders+c.Targets+c.Routers) then 1 else 0
theorem du5 {c:d8} (cb:CB c) {a b:List e9}{p:Plan} (ha:∀m∈a,m.Kind≠9) (hb:∀m∈b,m.Kind≠9):SX c (a++N6 c 0 (bg9 p) (aV9 c 0)++b):=by
 refine .inr fun q=> ?_
 rw [cV6,cV6,dK3 ha,dK3 hb]
 have:=dz2 c p q (aA0 c)
 have e:((aA0 c:Nat):Int)=c.Deciders+c.Targets+c.Routers:=by
  have:=cb.dec;have:=cb.t;have:=cb.rou
  unfold aA0;omega
 rw [e] at this
 unfold aV9
 rw [this];omega
theorem eb7 {c:d8}{a b d:List e9} (ha:∀m∈a,m.Kind≠9) (hb:∀m∈b,m.Kind≠9) (hd:∀m∈d,m.Kind≠9):SX c (a++b++d):=by
 refine .inl fun m hm=> ?_
 rcases List.mem_append.1 hm with hm | hm
 ·rcases List.mem_append.1 hm with hm | hm
  ·exact ha m hm
  ·exact hb m hm
 ·exact hd m hm
theorem dT9 {P:e9→Prop}{a b d:List e9} (ha:∀m∈a,P m) (hb:∀m∈b,P m) (hd:∀m∈d,P m):∀m∈a++b++d,P m:=fun m hm=>by
 rcases List.mem_append.1 hm with hm | hm
 ·rcases List.mem_append.1 hm with hm | hm
  ·exact ha m hm
  ·exact hb m hm
 ·exact hd m hm
section
variable {c : d8} {st : d9} {M : Int} {i : Nat} {now : Int}
theorem P9 {P:e9→Prop}:∀m∈([]:List e9),P m:=fun m hm=>by cases hm
theorem du9 (cb:CB c):(∀m∈(M1 c 0 now st).1,ca6 c m)∧∀m∈(M1 c 0 now st).1,m.Kind≠9:=by
 unfold M1
 split
 ·exact ⟨br4 cb (cJ3 rfl (show 1≤(10:Int)∧(10:Int)≤19 by decide) rfl (show 0≤(2:Int)∧(2:Int)≤1000 by decide) rfl rfl rfl rfl) (fun t ht=>ck0 cb ht),fun m hm=>by rw [av9 m hm];exact (by decide:(10:Int)≠9)⟩
 ·exact ⟨P9,P9⟩
theorem dS5 (cb:CB c) (hk:ai0 st.known) {out:List e9}{st' :d9} (h:PR c 0 now st out st'):(∀m∈out,ca6 c m)∧∀m∈out,m.Kind≠9:=by
 cases h with
 | same=>exact ⟨P9,P9⟩
 | none=>exact ⟨P9,P9⟩
 | go _ _ _ _ _ _ _ hc _ hx=>
  refine ⟨fun m hm=> ?_,fun m hm=> ?_⟩
  ·rcases List.mem_append.1 hm with hm | hm
   ·exact br4 cb (cJ3 rfl (show 1≤(12:Int)∧(12:Int)≤19 by decide) rfl (show 0≤(0:Int)∧(0:Int)≤1000 by decide) rfl rfl rfl rfl) (fun t ht=>dB3 cb (hx t ht)) m hm
   ·exact br4 cb (bW7 hk (show 1≤(4:Int)∧(4:Int)≤19 by decide) rfl hc rfl rfl rfl rfl) (fun t ht=>ck0 cb ht) m hm
  ·rcases List.mem_append.1 hm with hm | hm
   ·rw [av9 m hm];exact (by decide:(12:Int)≠9)
   ·rw [av9 m hm];exact (by decide:(4:Int)≠9)
theorem cX9 (cb:CB c) {p:Plan} (hk:ai0 p):∀m∈N6 c 0 (bg9 p) (aV9 c 0),ca6 c m:=
 br4 cb (bW7 hk (show 1≤(9:Int)∧(9:Int)≤19 by decide) rfl (.inl rfl) rfl rfl rfl rfl) (fun t ht=>dC4 cb ht)
theorem dS9 (cb:CB c) {o:Op}{d:Bool}{out:List e9}{st' :d9}{M' :Int} (h:DI c st M i) (hf:af7 o.M_) (hs:SR c 0 o st M d out st' M'):(∀m∈out,ca6 c m)∧SX c out:=by
 cases hs with
 | idle _ _=>exact ⟨P9,.inl P9⟩
 | fall _ _=>exact ⟨P9,.inl P9⟩
 | boot _ _=>exact ⟨P9,.inl P9⟩
 | tick _ h1 h2 _ _ hp=>
  obtain ⟨g1,g2⟩:=du9 (now:=o.Now) (st:=st) cb
  have hk:(bh0 c 0 o.Now st).known=st.known:=by
   obtain ⟨ho,a,to,he,-⟩:=cE0 (c:=c) (ix:=0) (now:=o.Now) (st:=st)
   rw [he]
  obtain ⟨g5,g6⟩:=dS5 cb (by rw [hk];exact h.kn) hp
  have hk2:(M1 c 0 o.Now st).2.known=st.known:=by unfold M1;split<;>rfl
  unfold aJ6
  split
  ·exact ⟨dT9 g1 P9 g5,eb7 g2 P9 g6⟩
  ·rw [hk2]
   exact ⟨dT9 g1 (cX9 cb h.kn) g5,du5 cb g2 g6⟩
 | handle _ hr h1 h2 _ _ hh=>
  cases hh with
  | acc p1 p2=>
   refine ⟨?_,.inl fun m hm=> ?_⟩
   ·have hp:=(aR9 (c:=c) h.pi hr hf).1.ph
    have hv:ai0 (D0 st.prop c o.M_).Value:=by
     rcases hp with hp | ⟨-,-,-,-,-,hp⟩
     ·omega
     ·exact (hp p2).1
    exact br4 cb (bW7 hv (show 1≤(7:Int)∧(7:Int)≤19 by decide) rfl (.inl rfl) rfl rfl rfl rfl) (fun t ht=>ck0 cb ht)
   ·rw [av9 m hm];exact (by decide:(7:Int)≠9)
  | learn k8 p2=>
   have hp:=h.pi.ph
   have hv:ai0 st.prop.Value:=by
    rcases hp with hp | ⟨-,-,-,-,-,hp⟩
    ·omega
    ·exact (hp p2).1
   exact ⟨cX9 cb hv,by have:=du5 cb (a:= []) (b:= []) (p:=st.prop.Value) P9 P9;simpa using this⟩
  | _=>exact ⟨P9,.inl P9⟩
theorem dX0 (cb:CB c) {o:Op}{d:Bool}{out:List e9}{st' :d9}{M' :Int} (hs:SR c 0 o st M d out st' M'):out.length≤60:=by
 have a:=aZ8 cb
 have b:=cj1 cb 0
 cases hs with
 | tick _ _ _ _ _ hp=>
  have l1:=cV1 (ix:=0) (now:=o.Now) (st:=st) cb
  have l2:=di5 (ix:=0) (now:=o.Now) (st:=(M1 c 0 o.Now st).2) cb
  have l3:=dz9 cb hp
  simp only [List.length_append];omega
 | handle _ _ _ _ _ _ hh=>
  cases hh with
  | acc _ _=>rw [bA6];omega
  | learn _ _=>rw [bA6];omega
  | _=>simp
 | _=>simp
end
end Go.RX.L

namespace Go.RX.L
open Go Go.RX Go.Proofs
attribute [local irreducible] f6
noncomputable def cQ8 (y:Bool):D×f4:=(.bool y,[])
noncomputable def aL7 (l_:List Op):Option Bool:=(some (decide (((((List.map Op.enc l_).length:Nat):Int):Int)>200)))
theorem cz0 {l_:List Op}{r:Bool} (h:aL7 l_=some r):i0 E 9 [.sl false 29 (List.map Op.enc l_)] [] (Rs cQ8 r):=so (fn:=Tryz.f9) (k:=false) (m:=0) h<| by
 intro r h;unfold aL7 at h
 exact zu 12 h
end Go.RX.L

namespace Go.RX.L
open Go Go.RX Go.Proofs
attribute [local irreducible] f6
noncomputable def i5:=p8 (q0 Tryz.f3)
noncomputable def aL4 (y:Bool):D×f4:=(.bool y,[])
inductive z0 where
 | s0
 | s1 (up:Bool)
 | s2 (up:Bool) (state:d9) (index fuse:Int) (down:Bool) (b2 b3:List Int)
 | s3 (up:Bool) (last i:Int) (state:d9) (index:Int) (s_:List r9) (used:List Int) (fuse:Int) (down:Bool) (b4 b5:List Int)
 | s4 (up:Bool) (last i:Int) (x_:List e9) (k:Int) (state:d9) (index:Int) (s_:List r9) (used:List Int) (fuse:Int) (down:Bool) (b4 b5:List Int)
 | s7 (up:Bool) (last i:Int) (x_:List e9) (k:Int) (t56:Bool) (state:d9) (index:Int) (s_:List r9) (used:List Int) (fuse:Int) (down:Bool) (b4 b5:List Int)
 | s5 (up:Bool) (i:Int) (x_:List e9) (k n:Int) (state:d9) (index:Int) (s_:List r9) (used:List Int) (fuse:Int) (down:Bool) (b4 b5:List Int)
 | s6 (up:Bool) (last i:Int) (x_:List e9) (k n:Int) (state:d9) (index:Int) (s_:List r9) (used:List Int) (fuse:Int) (down:Bool) (b4 b5:List Int)
noncomputable def aL8 (c:d8) (l_:List Op):z0→M
 | .s0=>A5 Tryz.f3 [.agg (d8.enc c),.sl false 29 (List.map Op.enc l_)] []
 | .s1 up=>⟨[.code (i5 [1,1,1])],[(1,.sl false 29 (List.map Op.enc l_)),(5,.bool up),(6,.nilp)],[]⟩
 | .s2 up state index fuse down b2 b3=>⟨[.code (i5 [1,1,1])],[(1,.sl false 29 (List.map Op.enc l_)),(5,.bool up),(6,.ptr 0 0 0)],[some ⟨88,true,[(d9.l state (d8.l c [.int .i64 index,.ptr 1 0 0]))]⟩,some ⟨4,true,[[(f5 2 (List.map (d7 .u8) b2)),(f5 3 (List.map (d7 .u8) b3)),.int .i64 fuse,.bool down]]⟩,some ⟨1,false,(List.map (d7 .u8) b2)⟩,some ⟨1,false,(List.map (d7 .u8) b3)⟩]⟩
 | .s3 up last i state index s_ used fuse down b4 b5=>⟨[.lpc (i5 [1,1,1,1,1,1,1,0,1,0,0]) 2018,.blk 0,.code (i5 [1,1,1,1,1,1,1,1])],[(1,.sl false 29 (List.map Op.enc l_)),(5,.bool up),(6,.ptr 0 0 0),(7,(f5 1 (List.map r9.enc s_))),(8,.int .i64 last),(9,(f5 2 (List.map (d7 .i64) used))),(10,.int .i64 i)],[some ⟨88,true,[(d9.l state (d8.l c [.int .i64 index,.ptr 3 0 0]))]⟩,some ⟨13,false,(List.map r9.enc s_)⟩,some ⟨1,false,(List.map (d7 .i64) used)⟩,some ⟨4,true,[[(f5 4 (List.map (d7 .u8) b4)),(f5 5 (List.map (d7 .u8) b5)),.int .i64 fuse,.bool down]]⟩,some ⟨1,false,(List.map (d7 .u8) b4)⟩,some ⟨1,false,(List.map (d7 .u8) b5)⟩]⟩
 | .s4 up last i x_ k state index s_ used fuse down b4 b5=>⟨[.lpc (i5 [1,1,1,1,1,1,1,0,1,0,0,1,0,0,1,1,0,0]) 8162,.blk 2,.blk 1,.code (i5 [1,1,1,1,1,1,1,0,1,0,0,1,1]),.lp (i5 [1,1,1,1,1,1,1,0,1,0,0]) 2018,.blk 0,.code (i5 [1,1,1,1,1,1,1,1])],[(1,.sl false 29 (List.map Op.enc l_)),(5,.bool up),(6,.ptr 0 0 0),(7,(f5 1 (List.map r9.enc s_))),(8,.int .i64 last),(9,(f5 2 (List.map (d7 .i64) used))),(10,.int .i64 i),(11,.sl false 26 (List.map e9.enc x_)),(12,.int .i64 k)],[some ⟨88,true,[(d9.l state (d8.l c [.int .i64 index,.ptr 3 0 0]))]⟩,some ⟨13,false,(List.map r9.enc s_)⟩,some ⟨1,false,(List.map (d7 .i64) used)⟩,some ⟨4,true,[[(f5 4 (List.map (d7 .u8) b4)),(f5 5 (List.map (d7 .u8) b5)),.int .i64 fuse,.bool down]]⟩,some ⟨1,false,(List.map (d7 .u8) b4)⟩,some ⟨1,false,(List.map (d7 .u8) b5)⟩]⟩
 | .s7 up last i x_ k t56 state index s_ used fuse down b4 b5=>⟨[.code (i5 [1,1,1,1,1,1,1,0,1,0,0,1,0,0,1,1,0,0,1,0,0,0,1]),.code (i5 [1,1,1,1,1,1,1,0,1,0,0,1,0,0,1,1,0,0,1,0,0,1]),.blk 3,.code (i5 [1,1,1,1,1,1,1,0,1,0,0,1,0,0,1,1,0,0,1,1]),.lp (i5 [1,1,1,1,1,1,1,0,1,0,0,1,0,0,1,1,0,0]) 8162,.blk 2,.blk 1,.code (i5 [1,1,1,1,1,1,1,0,1,0,0,1,1]),.lp (i5 [1,1,1,1,1,1,1,0,1,0,0]) 2018,.blk 0,.code (i5 [1,1,1,1,1,1,1,1])],[(1,.sl false 29 (List.map Op.enc l_)),(5,.bool up),(6,.ptr 0 0 0),(7,(f5 1 (List.map r9.enc s_))),(8,.int .i64 last),(9,(f5 2 (List.map (d7 .i64) used))),(10,.int .i64 i),(11,.sl false 26 (List.map e9.enc x_)),(12,.int .i64 k),(56,.bool t56)],[some ⟨88,true,[(d9.l state (d8.l c [.int .i64 index,.ptr 3 0 0]))]⟩,some ⟨13,false,(List.map r9.enc s_)⟩,some ⟨1,false,(List.map (d7 .i64) used)⟩,some ⟨4,true,[[(f5 4 (List.map (d7 .u8) b4)),(f5 5 (List.map (d7 .u8) b5)),.int .i64 fuse,.bool down]]⟩,some ⟨1,false,(List.map (d7 .u8) b4)⟩,some ⟨1,false,(List.map (d7 .u8) b5)⟩]⟩
 | .s5 up i x_ k n state index s_ used fuse down b4 b5=>⟨[.lpc (i5 [1,1,1,1,1,1,1,0,1,0,0,1,0,0,1,1,0,0,1,0,0,0,1,0,0,1,0,0]) 16098,.blk 4,.code (i5 [1,1,1,1,1,1,1,0,1,0,0,1,0,0,1,1,0,0,1,0,0,0,1,0,1]),.code (i5 [1,1,1,1,1,1,1,0,1,0,0,1,0,0,1,1,0,0,1,0,0,1]),.blk 3,.code (i5 [1,1,1,1,1,1,1,0,1,0,0,1,0,0,1,1,0,0,1,1]),.lp (i5 [1,1,1,1,1,1,1,0,1,0,0,1,0,0,1,1,0,0]) 8162,.blk 2,.blk 1,.code (i5 [1,1,1,1,1,1,1,0,1,0,0,1,1]),.lp (i5 [1,1,1,1,1,1,1,0,1,0,0]) 2018,.blk 0,.code (i5 [1,1,1,1,1,1,1,1])],[(1,.sl false 29 (List.map Op.enc l_)),(5,.bool up),(6,.ptr 0 0 0),(7,(f5 1 (List.map r9.enc s_))),(9,(f5 2 (List.map (d7 .i64) used))),(10,.int .i64 i),(11,.sl false 26 (List.map e9.enc x_)),(12,.int .i64 k),(13,.int .i64 n)],[some ⟨88,true,[(d9.l state (d8.l c [.int .i64 index,.ptr 3 0 0]))]⟩,some ⟨13,false,(List.map r9.enc s_)⟩,some ⟨1,false,(List.map (d7 .i64) used)⟩,some ⟨4,true,[[(f5 4 (List.map (d7 .u8) b4)),(f5 5 (List.map (d7 .u8) b5)),.int .i64 fuse,.bool down]]⟩,some ⟨1,false,(List.map (d7 .u8) b4)⟩,some ⟨1,false,(List.map (d7 .u8) b5)⟩]⟩
 | .s6 up last i x_ k n state index s_ used fuse down b4 b5=>⟨[.lpc (i5 [1,1,1,1,1,1,1,0,1,0,0,1,0,0,1,1,0,0,1,0,0,1,1,0,1,0,0]) 24546,.blk 6,.code (i5 [1,1,1,1,1,1,1,0,1,0,0,1,0,0,1,1,0,0,1,0,0,1,1,1]),.blk 3,.code (i5 [1,1,1,1,1,1,1,0,1,0,0,1,0,0,1,1,0,0,1,1]),.lp (i5 [1,1,1,1,1,1,1,0,1,0,0,1,0,0,1,1,0,0]) 8162,.blk 2,.blk 1,.code (i5 [1,1,1,1,1,1,1,0,1,0,0,1,1]),.lp (i5 [1,1,1,1,1,1,1,0,1,0,0]) 2018,.blk 0,.code (i5 [1,1,1,1,1,1,1,1])],[(1,.sl false 29 (List.map Op.enc l_)),(5,.bool up),(6,.ptr 0 0 0),(7,(f5 1 (List.map r9.enc s_))),(8,.int .i64 last),(9,(f5 2 (List.map (d7 .i64) used))),(10,.int .i64 i),(11,.sl false 26 (List.map e9.enc x_)),(12,.int .i64 k),(14,.int .i64 n)],[some ⟨88,true,[(d9.l state (d8.l c [.int .i64 index,.ptr 3 0 0]))]⟩,some ⟨13,false,(List.map r9.enc s_)⟩,some ⟨1,false,(List.map (d7 .i64) used)⟩,some ⟨4,true,[[(f5 4 (List.map (d7 .u8) b4)),(f5 5 (List.map (d7 .u8) b5)),.int .i64 fuse,.bool down]]⟩,some ⟨1,false,(List.map (d7 .u8) b4)⟩,some ⟨1,false,(List.map (d7 .u8) b5)⟩]⟩
abbrev D1 (c:d8) (l_:List Op):=SOk E (Cx.of Tryz.f3 false 0) aL4 (aL8 c l_)
noncomputable def Q8 (c:d8) (l_:List Op):Option (z0⊕Bool):=((aS6).bind fun y1=>((ao5 c 0).bind fun y2=>match y2 with | .r0=>(some (.inl (.s1 y1))) | .r1 y2a0 y2a1 y2a2 y2a3 y2a4=>(some (.inl (.s2 y1 y2a0 0 y2a1 y2a2 y2a3 y2a4)))))
noncomputable def aq1 (c:d8) (l_:List Op) (up:Bool):Option (z0⊕Bool):=(some (.inr up))
noncomputable def Q4 (c:d8) (l_:List Op) (up:Bool) (state:d9) (index fuse:Int) (down:Bool) (b2 b3:List Int):Option (z0⊕Bool):=((aL7 l_).bind fun y1=>(bif y1 then (some (.inr up)) else (some (.inl (.s3 up 0 0 state index ([]) ([]) fuse down b2 b3)))))
noncomputable def Q3 (c:d8) (l_:List Op) (up:Bool) (last i:Int) (state:d9) (index:Int) (s_:List r9) (used:List Int) (fuse:Int) (down:Bool) (b4 b5:List Int):Option (z0⊕Bool):=(bif (decide ((i:Int)<(((List.map Op.enc l_).length:Nat):Int))) then (bif ((decide ((0:Int)≤i))&&(decide ((i:Int)<(((List.map Op.enc l_).length:Nat):Int)))) then (((l_)[i.toNat]?).bind fun y3=>((aT2 y3 state c index fuse down b4 b5).bind fun y5=>(some (.inl (.s4 up last i y5.1 0 y5.2.1 index s_ used y5.2.2.1 y5.2.2.2.1 y5.2.2.2.2.1 y5.2.2.2.2.2))))) else none) else (bif up then (some (.inr (decide ((last:Int)≥0)))) else (some (.inr false))))
noncomputable def G2 (c:d8) (l_:List Op) (up:Bool) (last i:Int) (x_:List e9) (k:Int) (state:d9) (index:Int) (s_:List r9) (used:List Int) (fuse:Int) (down:Bool) (b4 b5:List Int):Option (z0⊕Bool):=(bif (decide ((k:Int)<(((List.map e9.enc x_).length:Nat):Int))) then (bif ((decide ((0:Int)≤k))&&(decide ((k:Int)<(((List.map e9.enc x_).length:Nat):Int)))) then (((x_)[k.toNat]?).bind fun y3=>(bif ((y3.Kind:Int)==4) then (bif ((decide ((0:Int)≤k))&&(decide ((k:Int)<(((List.map e9.enc x_).length:Nat):Int)))) then (((x_)[k.toNat]?).bind fun y7=>(some (.inl (.s7 up last i x_ k ((y7.To:Int)==0) state index s_ used fuse down b4 b5)))) else none) else (some (.inl (.s7 up last i x_ k false state index s_ used fuse down b4 b5))))) else none) else (some (.inl (.s3 up last (IntKind.i64.wrap (i+1)) state index s_ used fuse down b4 b5))))
noncomputable def G0 (c:d8) (l_:List Op) (up:Bool) (last i:Int) (x_:List e9) (k:Int) (t56:Bool) (state:d9) (index:Int) (s_:List r9) (used:List Int) (fuse:Int) (down:Bool) (b4 b5:List Int):Option (z0⊕Bool):=(bif t56 then (some (.inl (.s5 up i x_ k 0 state index s_ used fuse down b4 b5))) else (bif ((decide ((0:Int)≤k))&&(decide ((k:Int)<(((List.map e9.enc x_).length:Nat):Int)))) then (((x_)[k.toNat]?).bind fun y3=>(bif ((y3.Kind:Int) !=7) then (some (.inl (.s4 up last i x_ (IntKind.i64.wrap (k+1)) state index s_ used fuse down b4 b5))) else (some (.inl (.s6 up last i x_ k 0 state index s_ used fuse down b4 b5))))) else none))
noncomputable def Q7 (c:d8) (l_:List Op) (up:Bool) (i:Int) (x_:List e9) (k n:Int) (state:d9) (index:Int) (s_:List r9) (used:List Int) (fuse:Int) (down:Bool) (b4 b5:List Int):Option (z0⊕Bool):=(bif (decide ((n:Int)<(((List.map (d7 .i64) used).length:Nat):Int))) then (bif ((decide ((0:Int)≤n))&&(decide ((n:Int)<(((List.map (d7 .i64) used).length:Nat):Int)))) then (((used)[(0+n.toNat)]?).bind fun y3=>(bif ((decide ((0:Int)≤k))&&(decide ((k:Int)<(((List.map e9.enc x_).length:Nat):Int)))) then (((x_)[k.toNat]?).bind fun y6=>(bif ((y3:Int)==y6.Ballot) then (some (.inr false)) else (some (.inl (.s5 up i x_ k (IntKind.i64.wrap (n+1)) state index s_ used fuse down b4 b5))))) else none)) else none) else (bif ((decide ((0:Int)≤k))&&(decide ((k:Int)<(((List.map e9.enc x_).length:Nat):Int)))) then (((x_)[k.toNat]?).bind fun y10=>(bif (decide (((List.map (d7 .i64) used).length+1)*8≤i6)) then (bif ((decide ((0:Int)≤k))&&(decide ((k:Int)<(((List.map e9.enc x_).length:Nat):Int)))) then (((x_)[k.toNat]?).bind fun y14=>(bif ((decide ((0:Int)≤k))&&(decide ((k:Int)<(((List.map e9.enc x_).length:Nat):Int)))) then (((x_)[k.toNat]?).bind fun y17=>(bif ((y17.Kind:Int) !=7) then (some (.inl (.s4 up y14.Ballot i x_ (IntKind.i64.wrap (k+1)) state index s_ (used++ [y10.Ballot]) fuse down b4 b5))) else (some (.inl (.s6 up y14.Ballot i x_ k 0 state index s_ (used++ [y10.Ballot]) fuse down b4 b5))))) else none)) else none) else none)) else none))
noncomputable def K5 (c:d8) (l_:List Op) (up:Bool) (last i:Int) (x_:List e9) (k n:Int) (state:d9) (index:Int) (s_:List r9) (used:List Int) (fuse:Int) (down:Bool) (b4 b5:List Int):Option (z0⊕Bool):=(bif (decide ((n:Int)<(((List.map r9.enc s_).length:Nat):Int))) then (bif ((decide ((0:Int)≤n))&&(decide ((n:Int)<(((List.map r9.enc s_).length:Nat):Int)))) then (((s_)[(0+n.toNat)]?).bind fun y3=>(bif ((decide ((0:Int)≤k))&&(decide ((k:Int)<(((List.map e9.enc x_).length:Nat):Int)))) then (((x_)[k.toNat]?).bind fun y6=>(bif ((y3.Ballot:Int)==y6.Ballot) then (bif ((decide ((0:Int)≤n))&&(decide ((n:Int)<(((List.map r9.enc s_).length:Nat):Int)))) then (((s_)[(0+n.toNat)]?).bind fun y10=>(bif ((decide ((0:Int)≤k))&&(decide ((k:Int)<(((List.map e9.enc x_).length:Nat):Int)))) then (((x_)[k.toNat]?).bind fun y13=>((bJ6 y10.Plan y13.Plan).bind fun y15=>(bif (!y15) then (some (.inr false)) else (some (.inl (.s6 up last i x_ k (IntKind.i64.wrap (n+1)) state index s_ used fuse down b4 b5)))))) else none)) else none) else (some (.inl (.s6 up last i x_ k (IntKind.i64.wrap (n+1)) state index s_ used fuse down b4 b5))))) else none)) else none) else (bif ((decide ((0:Int)≤k))&&(decide ((k:Int)<(((List.map e9.enc x_).length:Nat):Int)))) then (((x_)[k.toNat]?).bind fun y18=>(bif ((decide ((0:Int)≤k))&&(decide ((k:Int)<(((List.map e9.enc x_).length:Nat):Int)))) then (((x_)[k.toNat]?).bind fun y21=>(bif (decide (((List.map r9.enc s_).length+1)*136≤i6)) then (some (.inl (.s4 up last i x_ (IntKind.i64.wrap (k+1)) state index (s_++ [(⟨y18.Ballot,y21.Plan⟩:r9)]) used fuse down b4 b5))) else none)) else none)) else none))
noncomputable def i9 (c:d8) (l_:List Op):z0→Option (z0⊕Bool)
 | .s0=>Q8 c l_
 | .s1 up=>aq1 c l_ up
 | .s2 up state index fuse down b2 b3=>Q4 c l_ up state index fuse down b2 b3
 | .s3 up last i state index s_ used fuse down b4 b5=>Q3 c l_ up last i state index s_ used fuse down b4 b5
 | .s4 up last i x_ k state index s_ used fuse down b4 b5=>G2 c l_ up last i x_ k state index s_ used fuse down b4 b5
 | .s7 up last i x_ k t56 state index s_ used fuse down b4 b5=>G0 c l_ up last i x_ k t56 state index s_ used fuse down b4 b5
 | .s5 up i x_ k n state index s_ used fuse down b4 b5=>Q7 c l_ up i x_ k n state index s_ used fuse down b4 b5
 | .s6 up last i x_ k n state index s_ used fuse down b4 b5=>K5 c l_ up last i x_ k n state index s_ used fuse down b4 b5
theorem bn7 {c l_}:D1 c l_ .s0 (Q8 c l_):=by
 intro r x h ha;unfold Q8 at h
 refine zc 8 [] h (fun _=>cL4) fun y1 h=> ?_
 refine zc 7 [] h (fun _=>aZ7) fun y2 h=> ?_
 cases y2 with
 | r0=>
  dsimp only at h
  exact zk 2 h ha
 | r1 y2a0 y2a1 y2a2 y2a3 y2a4=>
  dsimp only at h
  exact zk 2 h ha
theorem bm3 {c l_ up}:D1 c l_ (.s1 up) (aq1 c l_ up):=by
 intro r x h ha;unfold aq1 at h
 exact zt 21 h ha
theorem bn2 {c l_ up state index fuse down b2 b3}:D1 c l_ (.s2 up state index fuse down b2 b3) (Q4 c l_ up state index fuse down b2 b3):=by
 intro r x h ha;unfold Q4 at h
 refine zc 10 [] h (fun _=>cz0) fun y1 h=> ?_
 refine zs 4 h (fun h=> ?_) fun h=> ?_
 ·
  exact zt 6 h ha
 refine l8 hm 21 _ ?_
 obtain rfl:=Option.some.inj h
 refine am7 2018 [.mat 7 13,.mat 9 1] (m' :=⟨[.lpc (i5 [1,1,1,1,1,1,1,0,1,0,0]) 2018,.blk 0,.code (i5 [1,1,1,1,1,1,1,1])],[(1,.sl false 29 (List.map Op.enc l_)),(5,.bool up),(6,.ptr 0 0 0),(7,.msl 1 0 0 0 false),(8,.int .i64 0),(9,.msl 2 0 0 0 false),(10,.int .i64 0)],[some ⟨88,true,[(d9.l state (d8.l c [.int .i64 index,.ptr 3 0 0]))]⟩,some ⟨13,false,[]⟩,some ⟨1,false,[]⟩,some ⟨4,true,[[(f5 4 (List.map (d7 .u8) b2)),(f5 5 (List.map (d7 .u8) b3)),.int .i64 fuse,.bool down]]⟩,some ⟨1,false,(List.map (d7 .u8) b2)⟩,some ⟨1,false,(List.map (d7 .u8) b3)⟩]⟩) (by kernel_rfl) ?_
 refine Z2 (n1:=0) (n2:=(List.map r9.enc ([])).length) (fun n_len=> .go ⟨[.lpc (i5 [1,1,1,1,1,1,1,0,1,0,0]) 2018,.blk 0,.code (i5 [1,1,1,1,1,1,1,1])],[(1,.sl false 29 (List.map Op.enc l_)),(5,.bool up),(6,.ptr 0 0 0),(7,.msl 1 0 n_len n_len false),(8,.int .i64 0),(9,.msl 2 0 0 0 false),(10,.int .i64 0)],[some ⟨88,true,[(d9.l state (d8.l c [.int .i64 index,.ptr 3 0 0]))]⟩,some ⟨13,false,[]⟩,some ⟨1,false,[]⟩,some ⟨4,true,[[(f5 4 (List.map (d7 .u8) b2)),(f5 5 (List.map (d7 .u8) b3)),.int .i64 fuse,.bool down]]⟩,some ⟨1,false,(List.map (d7 .u8) b2)⟩,some ⟨1,false,(List.map (d7 .u8) b3)⟩]⟩) (by simp) ?_
 refine Z2 (n1:=0) (n2:=(List.map (d7 .i64) ([])).length) (fun n_len=> .go ⟨[.lpc (i5 [1,1,1,1,1,1,1,0,1,0,0]) 2018,.blk 0,.code (i5 [1,1,1,1,1,1,1,1])],[(1,.sl false 29 (List.map Op.enc l_)),(5,.bool up),(6,.ptr 0 0 0),(7,.msl 1 0 ((List.map r9.enc ([])).length) ((List.map r9.enc ([])).length) false),(8,.int .i64 0),(9,.msl 2 0 n_len n_len false),(10,.int .i64 0)],[some ⟨88,true,[(d9.l state (d8.l c [.int .i64 index,.ptr 3 0 0]))]⟩,some ⟨13,false,[]⟩,some ⟨1,false,[]⟩,some ⟨4,true,[[(f5 4 (List.map (d7 .u8) b2)),(f5 5 (List.map (d7 .u8) b3)),.int .i64 fuse,.bool down]]⟩,some ⟨1,false,(List.map (d7 .u8) b2)⟩,some ⟨1,false,(List.map (d7 .u8) b3)⟩]⟩) (by simp) ?_
 exact ha
theorem bm0 {c l_ up last i state index s_ used fuse down b4 b5}:D1 c l_ (.s3 up last i state index s_ used fuse down b4 b5) (Q3 c l_ up last i state index s_ used fuse down b4 b5):=by
 intro r x h ha;unfold Q3 at h
 refine zs 10 h (fun h=> ?_) fun h=> ?_
 ·
  refine zn 9 h fun h=> ?_
  refine zr 1 Op.enc h fun y3 h=> ?_
  refine zc 1 [] h (fun _=>cQ0) fun y5 h=> ?_
  exact zj 9 h ha
 refine zs 6 h (fun h=> ?_) fun h=> ?_
 ·
  exact zt 7 h ha
 exact zt 7 h ha
theorem bo7 {c l_ up last i x_ k state index s_ used fuse down b4 b5}:D1 c l_ (.s4 up last i x_ k state index s_ used fuse down b4 b5) (G2 c l_ up last i x_ k state index s_ used fuse down b4 b5):=by
 intro r x h ha;unfold G2 at h
 refine zs 10 h (fun h=> ?_) fun h=> ?_
 ·
  refine zn 9 h fun h=> ?_
  refine zr 2 e9.enc h fun y3 h=> ?_
  refine zs 3 h (fun h=> ?_) fun h=> ?_
  ·
   refine zn 4 h fun h=> ?_
   refine zr 4 e9.enc h fun y7 h=> ?_
   exact zk 5 h ha
  exact zk 13 h ha
 exact zj 8 h ha
theorem bl3 {c l_ up last i x_ k t56 state index s_ used fuse down b4 b5}:D1 c l_ (.s7 up last i x_ k t56 state index s_ used fuse down b4 b5) (G0 c l_ up last i x_ k t56 state index s_ used fuse down b4 b5):=by
 intro r x h ha;unfold G0 at h
 refine zs 1 h (fun h=> ?_) fun h=> ?_
 ·
  exact zj 8 h ha
 refine zn 7 h fun h=> ?_
 refine zr 2 e9.enc h fun y3 h=> ?_
 refine zs 3 h (fun h=> ?_) fun h=> ?_
 ·
  exact zj 7 h ha
 exact zj 9 h ha
theorem bn6 {c l_ up i x_ k n state index s_ used fuse down b4 b5}:D1 c l_ (.s5 up i x_ k n state index s_ used fuse down b4 b5) (Q7 c l_ up i x_ k n state index s_ used fuse down b4 b5):=by
 intro r x h ha;unfold Q7 at h
 refine zs 10 h (fun h=> ?_) fun h=> ?_
 ·
  refine zn 5 h fun h=> ?_
  refine zr 0 (d7 .i64) h fun y3 h=> ?_
  refine zn 0 h fun h=> ?_
  refine zr 0 e9.enc h fun y6 h=> ?_
  refine zs 1 h (fun h=> ?_) fun h=> ?_
  ·
   exact zt 5 h ha
  exact zj 8 h ha
 refine zn 7 h fun h=> ?_
 refine zr 2 e9.enc h fun y10 h=> ?_
 refine zn 3 h fun h=> ?_
 refine za 0 (d7 .i64) used ([y10.Ballot]) ?_
 refine zn 6 h fun h=> ?_
 refine zr 2 e9.enc h fun y14 h=> ?_
 refine zn 8 h fun h=> ?_
 refine zr 2 e9.enc h fun y17 h=> ?_
 refine zs 3 h (fun h=> ?_) fun h=> ?_
 ·
  exact zj 7 h ha
 exact zj 9 h ha
theorem bn8 {c l_ up last i x_ k n state index s_ used fuse down b4 b5}:D1 c l_ (.s6 up last i x_ k n state index s_ used fuse down b4 b5) (K5 c l_ up last i x_ k n state index s_ used fuse down b4 b5):=by
 intro r x h ha;unfold K5 at h
 refine zs 10 h (fun h=> ?_) fun h=> ?_
 ·
  refine zn 5 h fun h=> ?_
  refine zr 0 r9.enc h fun y3 h=> ?_
  refine zn 0 h fun h=> ?_
  refine zr 0 e9.enc h fun y6 h=> ?_
  refine zs 0 h (fun h=> ?_) fun h=> ?_
  ·
   refine zn 2 h fun h=> ?_
   refine zr 2 r9.enc h fun y10 h=> ?_
   refine zn 3 h fun h=> ?_
   refine zr 2 e9.enc h fun y13 h=> ?_
   refine zd 1 [] h (fun _=>cK9) fun y15 h=> ?_
   refine zs 3 h (fun h=> ?_) fun h=> ?_
   ·
    exact zt 5 h ha
   exact zj 8 h ha
  exact zj 22 h ha
 refine zn 2 h fun h=> ?_
 refine zr 0 e9.enc h fun y18 h=> ?_
 refine zn 0 h fun h=> ?_
 refine zr 0 e9.enc h fun y21 h=> ?_
 refine zn 0 h fun h=> ?_
 refine za 0 r9.enc s_ ([(⟨y18.Ballot,y21.Plan⟩:r9)]) ?_
 exact zj 7 h ha
noncomputable def av7 (c:d8) (l_:List Op):Option Bool:=V6 (i9 c l_) (.s0)
theorem bu9 {c:d8}{l_:List Op}{r:Bool} (h:av7 c l_=some r):i0 E 3 [.agg (d8.enc c),.sl false 29 (List.map Op.enc l_)] [] (Rs aL4 r):=sc (fn:=Tryz.f3) (k:=false) (m:=0) (stM:=(aL8 c l_)) h fun s=>by
 cases s with
 | s0=>exact bn7
 | s1=>exact bm3
 | s2=>exact bn2
 | s3=>exact bm0
 | s4=>exact bo7
 | s7=>exact bl3
 | s5=>exact bn6
 | s6=>exact bn8
end Go.RX.L

namespace Go.RX.L
open Go Go.RX Go.Proofs
theorem l4 {n:Nat}{ds:List D} (h:S0 Tryz.prog (n+1) 3 ds):∃x:Int,ds=(d7 .i64) x∧n8 .i64 x:=by
 obtain ⟨m,rfl,o⟩:=bQ7 (k:= .i64) (by kernel_rfl) h
 exact ⟨m,rfl,o⟩
theorem av1 {n:Nat}{ds:List D} (h:S0 Tryz.prog (n+2) 22 ds):∃x:List Int,ds=(E3 1 (d7 .i64)) x∧(x.length*8≤reachBytes∧∀y∈x,n8 .i64 y):=by
 obtain ⟨rows,rfl,o,w⟩:=bH8 (n:=n+1) (e:=3) (sz:=1) (by_:=8) (by kernel_rfl) (by kernel_rfl) (by kernel_rfl) h
 obtain ⟨l,rfl,q⟩:=bE4 (en:=(d7 .i64)) (Ok:=fun y=>n8 .i64 y) (fun r hr=>l4 (n:=n+0) hr) rows w
 exact ⟨l,rfl,by simpa using o,q⟩
theorem l5 {n:Nat}{ds:List D} (h:S0 Tryz.prog (n+1) 2 ds):∃x:Int,ds=(d7 .i64) x∧n8 .i64 x:=by
 obtain ⟨m,rfl,o⟩:=bQ7 (k:= .i64) (by kernel_rfl) h
 exact ⟨m,rfl,o⟩
theorem bg3 {n:Nat}{ds:List D} (h:S0 Tryz.prog (n+3) 24 ds):∃x:d8,ds=d8.enc x∧x.Ok:=by
 have h0:=bx5 (n:=n+2) (ts:= [3,3,3,3,3,22,2,2,3,3,2,2,2,2,2,2,3,3,3,3,2,3,3,2,2,3,2,3,3,2]) (by kernel_rfl) h
 obtain ⟨a0,b0,rfl,w0,h1⟩:=n5 h0
 obtain ⟨x0,rfl,o0⟩:=l4 (n:=n+1) w0
 obtain ⟨a1,b1,rfl,w1,h2⟩:=n5 h1
 obtain ⟨x1,rfl,o1⟩:=l4 (n:=n+1) w1
 obtain ⟨a2,b2,rfl,w2,h3⟩:=n5 h2
 obtain ⟨x2,rfl,o2⟩:=l4 (n:=n+1) w2
 obtain ⟨a3,b3,rfl,w3,h4⟩:=n5 h3
 obtain ⟨x3,rfl,o3⟩:=l4 (n:=n+1) w3
 obtain ⟨a4,b4,rfl,w4,h5⟩:=n5 h4
 obtain ⟨x4,rfl,o4⟩:=l4 (n:=n+1) w4
 obtain ⟨a5,b5,rfl,w5,h6⟩:=n5 h5
 obtain ⟨x5,rfl,o5⟩:=av1 (n:=n+0) w5
 obtain ⟨a6,b6,rfl,w6,h7⟩:=n5 h6
 obtain ⟨x6,rfl,o6⟩:=l5 (n:=n+1) w6
 obtain ⟨a7,b7,rfl,w7,h8⟩:=n5 h7
 obtain ⟨x7,rfl,o7⟩:=l5 (n:=n+1) w7
 obtain ⟨a8,b8,rfl,w8,h9⟩:=n5 h8
 obtain ⟨x8,rfl,o8⟩:=l4 (n:=n+1) w8
 obtain ⟨a9,b9,rfl,w9,h10⟩:=n5 h9
 obtain ⟨x9,rfl,o9⟩:=l4 (n:=n+1) w9
 obtain ⟨a10,b10,rfl,w10,h11⟩:=n5 h10
 obtain ⟨x10,rfl,o10⟩:=l5 (n:=n+1) w10
 obtain ⟨a11,b11,rfl,w11,h12⟩:=n5 h11
 obtain ⟨x11,rfl,o11⟩:=l5 (n:=n+1) w11
 obtain ⟨a12,b12,rfl,w12,h13⟩:=n5 h12
 obtain ⟨x12,rfl,o12⟩:=l5 (n:=n+1) w12
 obtain ⟨a13,b13,rfl,w13,h14⟩:=n5 h13
 obtain ⟨x13,rfl,o13⟩:=l5 (n:=n+1) w13
 obtain ⟨a14,b14,rfl,w14,h15⟩:=n5 h14
 obtain ⟨x14,rfl,o14⟩:=l5 (n:=n+1) w14
 obtain ⟨a15,b15,rfl,w15,h16⟩:=n5 h15
 obtain ⟨x15,rfl,o15⟩:=l5 (n:=n+1) w15
 obtain ⟨a16,b16,rfl,w16,h17⟩:=n5 h16
 obtain ⟨x16,rfl,o16⟩:=l4 (n:=n+1) w16
 obtain ⟨a17,b17,rfl,w17,h18⟩:=n5 h17
 obtain ⟨x17,rfl,o17⟩:=l4 (n:=n+1) w17
 obtain ⟨a18,b18,rfl,w18,h19⟩:=n5 h18
 obtain ⟨x18,rfl,o18⟩:=l4 (n:=n+1) w18
 obtain ⟨a19,b19,rfl,w19,h20⟩:=n5 h19
 obtain ⟨x19,rfl,o19⟩:=l4 (n:=n+1) w19
 obtain ⟨a20,b20,rfl,w20,h21⟩:=n5 h20
 obtain ⟨x20,rfl,o20⟩:=l5 (n:=n+1) w20
 obtain ⟨a21,b21,rfl,w21,h22⟩:=n5 h21
 obtain ⟨x21,rfl,o21⟩:=l4 (n:=n+1) w21
 obtain ⟨a22,b22,rfl,w22,h23⟩:=n5 h22
 obtain ⟨x22,rfl,o22⟩:=l4 (n:=n+1) w22
 obtain ⟨a23,b23,rfl,w23,h24⟩:=n5 h23
 obtain ⟨x23,rfl,o23⟩:=l5 (n:=n+1) w23
 obtain ⟨a24,b24,rfl,w24,h25⟩:=n5 h24
 obtain ⟨x24,rfl,o24⟩:=l5 (n:=n+1) w24
 obtain ⟨a25,b25,rfl,w25,h26⟩:=n5 h25
 obtain ⟨x25,rfl,o25⟩:=l4 (n:=n+1) w25
 obtain ⟨a26,b26,rfl,w26,h27⟩:=n5 h26
 obtain ⟨x26,rfl,o26⟩:=l5 (n:=n+1) w26
 obtain ⟨a27,b27,rfl,w27,h28⟩:=n5 h27
 obtain ⟨x27,rfl,o27⟩:=l4 (n:=n+1) w27
 obtain ⟨a28,b28,rfl,w28,h29⟩:=n5 h28
 obtain ⟨x28,rfl,o28⟩:=l4 (n:=n+1) w28
 obtain ⟨a29,b29,rfl,w29,h30⟩:=n5 h29
 obtain ⟨x29,rfl,o29⟩:=l5 (n:=n+1) w29
 obtain rfl:=ca5 h30
 exact ⟨⟨x0,x1,x2,x3,x4,x5,x6,x7,x8,x9,x10,x11,x12,x13,x14,x15,x16,x17,x18,x19,x20,x21,x22,x23,x24,x25,x26,x27,x28,x29⟩,rfl,o0,o1,o2,o3,o4,o5,o6,o7,o8,o9,o10,o11,o12,o13,o14,o15,o16,o17,o18,o19,o20,o21,o22,o23,o24,o25,o26,o27,o28,o29⟩
theorem bf1 {n:Nat}{ds:List D} (h:S0 Tryz.prog (n+1) 34 ds):∃x:Int,ds=(d7 .i64) x∧n8 .i64 x:=by
 obtain ⟨m,rfl,o⟩:=bQ7 (k:= .i64) (by kernel_rfl) h
 exact ⟨m,rfl,o⟩
theorem Z6 {n:Nat}{ds:List D} (h:S0 Tryz.prog (n+1) 35 ds):∃x:Int,ds=(d7 .u64) x∧n8 .u64 x:=by
 obtain ⟨m,rfl,o⟩:=bQ7 (k:= .u64) (by kernel_rfl) h
 exact ⟨m,rfl,o⟩
theorem bg5 {n:Nat}{ds:List D} (h:S0 Tryz.prog (n+1) 4 ds):∃x:Bool,ds=eb2 x∧True:=by
 obtain ⟨m,rfl⟩:=dR8 (by kernel_rfl) h
 exact ⟨m,rfl,trivial⟩
theorem au6 {n:Nat}{ds:List D} (h:S0 Tryz.prog (n+2) 31 ds):∃x:List Int,ds=(E3 1 (d7 .i64)) x∧(x.length*8≤reachBytes∧∀y∈x,n8 .i64 y):=by
 obtain ⟨rows,rfl,o,w⟩:=bH8 (n:=n+1) (e:=2) (sz:=1) (by_:=8) (by kernel_rfl) (by kernel_rfl) (by kernel_rfl) h
 obtain ⟨l,rfl,q⟩:=bE4 (en:=(d7 .i64)) (Ok:=fun y=>n8 .i64 y) (fun r hr=>l5 (n:=n+0) hr) rows w
 exact ⟨l,rfl,by simpa using o,q⟩
theorem bd6 {n:Nat}{ds:List D} (h:S0 Tryz.prog (n+3) 37 ds):∃x:Plan,ds=Plan.enc x∧x.Ok:=by
 have h0:=bx5 (n:=n+2) (ts:= [2,3,3,3,3,2,2,2,35,35,22,31]) (by kernel_rfl) h
 obtain ⟨a0,b0,rfl,w0,h1⟩:=n5 h0
 obtain ⟨x0,rfl,o0⟩:=l5 (n:=n+1) w0
 obtain ⟨a1,b1,rfl,w1,h2⟩:=n5 h1
 obtain ⟨x1,rfl,o1⟩:=l4 (n:=n+1) w1
 obtain ⟨a2,b2,rfl,w2,h3⟩:=n5 h2
 obtain ⟨x2,rfl,o2⟩:=l4 (n:=n+1) w2
 obtain ⟨a3,b3,rfl,w3,h4⟩:=n5 h3
 obtain ⟨x3,rfl,o3⟩:=l4 (n:=n+1) w3
 obtain ⟨a4,b4,rfl,w4,h5⟩:=n5 h4
 obtain ⟨x4,rfl,o4⟩:=l4 (n:=n+1) w4
 obtain ⟨a5,b5,rfl,w5,h6⟩:=n5 h5
 obtain ⟨x5,rfl,o5⟩:=l5 (n:=n+1) w5
 obtain ⟨a6,b6,rfl,w6,h7⟩:=n5 h6
 obtain ⟨x6,rfl,o6⟩:=l5 (n:=n+1) w6
 obtain ⟨a7,b7,rfl,w7,h8⟩:=n5 h7
 obtain ⟨x7,rfl,o7⟩:=l5 (n:=n+1) w7
 obtain ⟨a8,b8,rfl,w8,h9⟩:=n5 h8
 obtain ⟨x8,rfl,o8⟩:=Z6 (n:=n+1) w8
 obtain ⟨a9,b9,rfl,w9,h10⟩:=n5 h9
 obtain ⟨x9,rfl,o9⟩:=Z6 (n:=n+1) w9
 obtain ⟨a10,b10,rfl,w10,h11⟩:=n5 h10
 obtain ⟨x10,rfl,o10⟩:=av1 (n:=n+0) w10
 obtain ⟨a11,b11,rfl,w11,h12⟩:=n5 h11
 obtain ⟨x11,rfl,o11⟩:=au6 (n:=n+0) w11
 obtain rfl:=ca5 h12
 exact ⟨⟨x0,x1,x2,x3,x4,x5,x6,x7,x8,x9,x10,x11⟩,rfl,o0,o1,o2,o3,o4,o5,o6,o7,o8,o9,o10,o11⟩
theorem bh3 {n:Nat}{ds:List D} (h:S0 Tryz.prog (n+1) 5 ds):∃x:Int,ds=(d7 .u8) x∧n8 .u8 x:=by
 obtain ⟨m,rfl,o⟩:=bQ7 (k:= .u8) (by kernel_rfl) h
 exact ⟨m,rfl,o⟩
theorem au5 {n:Nat}{ds:List D} (h:S0 Tryz.prog (n+2) 38 ds):∃x:List Int,ds=(E3 1 (d7 .u8)) x∧(x.length*1≤reachBytes∧∀y∈x,n8 .u8 y):=by
 obtain ⟨rows,rfl,o,w⟩:=bH8 (n:=n+1) (e:=5) (sz:=1) (by_:=1) (by kernel_rfl) (by kernel_rfl) (by kernel_rfl) h
 obtain ⟨l,rfl,q⟩:=bE4 (en:=(d7 .u8)) (Ok:=fun y=>n8 .u8 y) (fun r hr=>bh3 (n:=n+0) hr) rows w
 exact ⟨l,rfl,by simpa using o,q⟩
theorem bg2 {n:Nat}{ds:List D} (h:S0 Tryz.prog (n+4) 40 ds):∃x:e9,ds=e9.enc x∧x.Ok:=by
 have h0:=bx5 (n:=n+3) (ts:= [34,3,3,2,2,2,2,2,35,3,4,37,31,38,38]) (by kernel_rfl) h
 obtain ⟨a0,b0,rfl,w0,h1⟩:=n5 h0
 obtain ⟨x0,rfl,o0⟩:=bf1 (n:=n+2) w0
 obtain ⟨a1,b1,rfl,w1,h2⟩:=n5 h1
 obtain ⟨x1,rfl,o1⟩:=l4 (n:=n+2) w1
 obtain ⟨a2,b2,rfl,w2,h3⟩:=n5 h2
 obtain ⟨x2,rfl,o2⟩:=l4 (n:=n+2) w2
 obtain ⟨a3,b3,rfl,w3,h4⟩:=n5 h3
 obtain ⟨x3,rfl,o3⟩:=l5 (n:=n+2) w3
 obtain ⟨a4,b4,rfl,w4,h5⟩:=n5 h4
 obtain ⟨x4,rfl,o4⟩:=l5 (n:=n+2) w4
 obtain ⟨a5,b5,rfl,w5,h6⟩:=n5 h5
 obtain ⟨x5,rfl,o5⟩:=l5 (n:=n+2) w5
 obtain ⟨a6,b6,rfl,w6,h7⟩:=n5 h6
 obtain ⟨x6,rfl,o6⟩:=l5 (n:=n+2) w6
 obtain ⟨a7,b7,rfl,w7,h8⟩:=n5 h7
 obtain ⟨x7,rfl,o7⟩:=l5 (n:=n+2) w7
 obtain ⟨a8,b8,rfl,w8,h9⟩:=n5 h8
 obtain ⟨x8,rfl,o8⟩:=Z6 (n:=n+2) w8
 obtain ⟨a9,b9,rfl,w9,h10⟩:=n5 h9
 obtain ⟨x9,rfl,o9⟩:=l4 (n:=n+2) w9
 obtain ⟨a10,b10,rfl,w10,h11⟩:=n5 h10
 obtain ⟨x10,rfl,o10⟩:=bg5 (n:=n+2) w10
 obtain ⟨a11,b11,rfl,w11,h12⟩:=n5 h11
 obtain ⟨x11,rfl,o11⟩:=bd6 (n:=n+0) w11
 obtain ⟨a12,b12,rfl,w12,h13⟩:=n5 h12
 obtain ⟨x12,rfl,o12⟩:=au6 (n:=n+1) w12
 obtain ⟨a13,b13,rfl,w13,h14⟩:=n5 h13
 obtain ⟨x13,rfl,o13⟩:=au5 (n:=n+1) w13
 obtain ⟨a14,b14,rfl,w14,h15⟩:=n5 h14
 obtain ⟨x14,rfl,o14⟩:=au5 (n:=n+1) w14
 obtain rfl:=ca5 h15
 exact ⟨⟨x0,x1,x2,x3,x4,x5,x6,x7,x8,x9,x10,x11,x12,x13,x14⟩,rfl,o0,o1,o2,o3,o4,o5,o6,o7,o8,o9,o10,o11,o12,o13,o14⟩
theorem bf8 {n:Nat}{ds:List D} (h:S0 Tryz.prog (n+5) 42 ds):∃x:Op,ds=Op.enc x∧x.Ok:=by
 have h0:=bx5 (n:=n+4) (ts:= [3,40,2,3]) (by kernel_rfl) h
 obtain ⟨a0,b0,rfl,w0,h1⟩:=n5 h0
 obtain ⟨x0,rfl,o0⟩:=l4 (n:=n+3) w0
 obtain ⟨a1,b1,rfl,w1,h2⟩:=n5 h1
 obtain ⟨x1,rfl,o1⟩:=bg2 (n:=n+0) w1
 obtain ⟨a2,b2,rfl,w2,h3⟩:=n5 h2
 obtain ⟨x2,rfl,o2⟩:=l5 (n:=n+3) w2
 obtain ⟨a3,b3,rfl,w3,h4⟩:=n5 h3
 obtain ⟨x3,rfl,o3⟩:=l4 (n:=n+3) w3
 obtain rfl:=ca5 h4
 exact ⟨⟨x0,x1,x2,x3⟩,rfl,o0,o1,o2,o3⟩
theorem be5 {n:Nat}{ds:List D} (h:S0 Tryz.prog (n+6) 25 ds):∃x:List Op,ds=(E3 29 Op.enc) x∧(x.length*312≤reachBytes∧∀y∈x,y.Ok):=by
 obtain ⟨rows,rfl,o,w⟩:=bH8 (n:=n+5) (e:=42) (sz:=29) (by_:=312) (by kernel_rfl) (by kernel_rfl) (by kernel_rfl) h
 obtain ⟨l,rfl,q⟩:=bE4 (en:=Op.enc) (Ok:=fun y=>y.Ok) (fun r hr=>bf8 (n:=n+0) hr) rows w
 exact ⟨l,rfl,by simpa using o,q⟩
theorem law24_DeciderBallots_sound (H:∀(c:d8) (l_:List Op),c.Ok→(l_.length*312≤reachBytes∧∀y∈l_,y.Ok)→av7 c l_=some true):∀xs,wtA Tryz.prog Tryz.f3.params.toList xs→i0 E 3 xs [] fun d _=>d= .bool true:=by
 intro xs h
 have h0:wtA Tryz.prog [24,25] xs:=h
 obtain ⟨d0,r0,rfl,w0,h1⟩:=cV8 h0
 obtain ⟨c0,rfl,v0⟩:=dM4 (by kernel_rfl) w0
 obtain ⟨x0,rfl,o0⟩:=bg3 (n:=3) v0
 obtain ⟨d1,r1,rfl,w1,h2⟩:=cV8 h1
 have v1:=dI4 (by kernel_rfl) w1
 obtain ⟨x1,e1,o1⟩:=be5 (n:=0) v1
 obtain ⟨rfl,-⟩:=List.cons.inj e1
 obtain rfl:=dR6 h2
 exact (bu9 (H x0 x1 o0 o1)).mono fun d s h=>h.1
end Go.RX.L

namespace Go.RX.L
open Go Go.RX
/-- What the law keeps: the last ballot, those that were used, what was sent to be accepted. -/
abbrev BK := Int × List Int × List r9
def ak0 (m:e9) (a:BK):BK:=if m.Kind=4∧m.To=0 then (m.Ballot,a.2.1++ [m.Ballot],a.2.2) else if m.Kind=7 then (a.1,a.2.1,a.2.2++ [⟨m.Ballot,m.Plan⟩]) else a
def aa3 (x:List e9) (a:BK):BK:=x.foldl (fun a m=>ak0 m a) a
def ea7 (m:e9) (a:BK):Prop:=(m.Kind=4∧m.To=0→¬m.Ballot∈a.2.1)∧(m.Kind=7→∀e∈a.2.2,e.Ballot=m.Ballot→e.Plan=m.Plan)
def okB:List e9→BK→Prop
 | [],_=>True
 | m::x,a=>ea7 m a∧okB x (ak0 m a)
theorem cA4:∀(x y:List e9) (a:BK),okB x a→okB y (aa3 x a)→okB (x++y) a
 | [],_,_,_,h=>h
 | m::x,y,a,⟨h1,h2⟩,h=>⟨h1,cA4 x y _ h2 h⟩
theorem da8 (x y:List e9) (a:BK):aa3 (x++y) a=aa3 y (aa3 x a):=List.foldl_append
theorem cu6:∀(x:List e9) (a:BK),(∀m∈x,(m.Kind≠4∨m.To≠0)∧m.Kind≠7)→okB x a∧aa3 x a=a
 | [],_,_=>⟨trivial,rfl⟩
 | m::x,a,h=>by
  obtain ⟨h1,h2⟩:=h m (by simp)
  have e:ak0 m a=a:=by unfold ak0;rw [if_neg (by intro hh;rcases h1 with h1 | h1;exact h1 hh.1;exact h1 hh.2),if_neg h2]
  obtain ⟨h3,h4⟩:=cu6 x a fun y hy=>h y (by simp [hy])
  refine ⟨⟨⟨fun hh=> ?_,fun hh=>absurd hh h2⟩,by rw [e];exact h3⟩,?_⟩
  ·rcases h1 with h1 | h1
   ·exact absurd hh.1 h1
   ·exact absurd hh.2 h1
  ·show aa3 x (ak0 m a)=a
   rw [e];exact h4
theorem dW1 {b:Int}{p:Plan}:∀(x:List e9) (a:BK),(∀m∈x,m.Kind=7∧m.Ballot=b∧m.Plan=p)→(∀e∈a.2.2,e.Ballot=b→e.Plan=p)→okB x a∧∃s,aa3 x a=(a.1,a.2.1,s)∧(∀e∈s,e∈a.2.2∨(e.Ballot=b∧e.Plan=p))∧s.length≤a.2.2.length+x.length
 | [],a,_,_=>⟨trivial,a.2.2,rfl,fun e he=> .inl he,by simp⟩
 | m::x,a,h,hs=>by
  obtain ⟨k7,hb,hp⟩:=h m (by simp)
  have e:ak0 m a=(a.1,a.2.1,a.2.2++ [⟨m.Ballot,m.Plan⟩]):=by unfold ak0;rw [if_neg (by omega),if_pos k7]
  obtain ⟨h3,s,h4,h5,h6⟩:=dW1 (b:=b) (p:=p) x (ak0 m a) (fun y hy=>h y (by simp [hy])) (by
   rw [e]
   intro y hy hyb
   rcases List.mem_append.1 hy with hy | hy
   ·exact hs y hy hyb
   ·rw [List.mem_singleton.1 hy];exact hp)
  refine ⟨⟨⟨fun hh=>by omega,fun _ y hy hyb=>by rw [hp];exact hs y hy (by omega)⟩,h3⟩,s,?_,fun y hy=> ?_,?_⟩
  ·show aa3 x (ak0 m a)=_
   rw [h4,e]
  ·rcases h5 y hy with h7 | h7
   ·rw [e] at h7
    rcases List.mem_append.1 h7 with h7 | h7
    ·exact .inl h7
    ·rw [List.mem_singleton.1 h7];exact .inr ⟨hb,hp⟩
   ·exact .inr h7
  ·rw [e] at h6;simp at h6 ⊢;omega
section
variable {c : d8} {l_ : List Op} {i : Nat} {st : d9} {f : Int} {d : Bool} {s t : List Int} {r : Bool}
theorem du3 {x:List e9}{k:Nat} (hk:k<x.length) {u:List Int}{sd:List r9} (hu:¬(x[k]).Ballot∈u) (hl:u.length≤100000) (hx:x.length≤100000) (h4:(x[k]).Kind=4):∀(j n:Nat),n+j=u.length→
  Ev (i9 c l_) (.s4 true (x[k]).Ballot (i:Int) x ((k+1:Nat):Int) st 0 sd (u++ [(x[k]).Ballot]) f d s t) r→Ev (i9 c l_) (.s5 true (i:Int) x (k:Int) (n:Int) st 0 sd u f d s t) r:=by
 intro j
 induction j with
 | zero=>
  intro n hn h
  have l1:decide ((u.length+1)*8≤i6)=true:=C7 (by omega)
  have n7:((x[k]).Kind !=7)=true:=by rw [h4];rfl
  refine .next ?_ h
  simp only [i9,Q7,List.length_map,geB (show u.length≤n by omega),cond_false,E7 hk,L8,Bool.and_self,cond_true,Int.toNat_natCast,List.getE hk,Option.bind_some,l1,n7,wD (show k≤3000000 by omega)]
 | succ j ih=>
  intro n hn h
  have hlt:n<u.length:=by omega
  have ne:(u[n]==(x[k]).Ballot)=false:=beq_eq_false_iff_ne.2 fun e=>hu (by rw [←e];exact List.getElem_mem hlt)
  refine .next (s' := .s5 true (i:Int) x (k:Int) ((n+1:Nat):Int) st 0 sd u f d s t) ?_ (ih (n+1) (by omega) h)
  simp only [i9,Q7,List.length_map,E7 hlt,E7 hk,L8,Bool.and_self,cond_true,Int.toNat_natCast,Nat.zero_add,List.getE hlt,List.getE hk,Option.bind_some,ne,cond_false,wD (show n≤3000000 by omega)]
theorem dx8 {x:List e9}{k:Nat} (hk:k<x.length) {u:List Int}{sd:List r9}{last:Int} (hs:∀e∈sd,e.Ballot=(x[k]).Ballot→e.Plan=(x[k]).Plan) (hsh:∀e∈sd,aV3 e.Plan) (hl:sd.length≤100000) (hx:x.length≤100000):∀(j n:Nat),n+j=sd.length→
  Ev (i9 c l_) (.s4 true last (i:Int) x ((k+1:Nat):Int) st 0 (sd++ [⟨(x[k]).Ballot,(x[k]).Plan⟩]) u f d s t) r→Ev (i9 c l_) (.s6 true last (i:Int) x (k:Int) (n:Int) st 0 sd u f d s t) r:=by
 intro j
 induction j with
 | zero=>
  intro n hn h
  have l1:decide ((sd.length+1)*136≤i6)=true:=C7 (by omega)
  refine .next ?_ h
  simp only [i9,K5,List.length_map,geB (show sd.length≤n by omega),cond_false,E7 hk,L8,Bool.and_self,cond_true,Int.toNat_natCast,List.getE hk,Option.bind_some,l1,wD (show k≤3000000 by omega)]
 | succ j ih=>
  intro n hn h
  have hlt:n<sd.length:=by omega
  have hm:=List.getElem_mem hlt
  refine .next (s' := .s6 true last (i:Int) x (k:Int) ((n+1:Nat):Int) st 0 sd u f d s t) ?_ (ih (n+1) (by omega) h)
  by_cases hb:(sd[n]).Ballot=(x[k]).Ballot
  ·have hq:=dB7 (a:=(sd[n]).Plan) (b:=(x[k]).Plan) (hsh _ hm)
   rw [bw8.2 (hs _ hm hb)] at hq
   simp only [i9,K5,List.length_map,E7 hlt,E7 hk,L8,Bool.and_self,cond_true,Int.toNat_natCast,Nat.zero_add,List.getE hlt,List.getE hk,Option.bind_some,beq_iff_eq.2 hb,hq,Bool.not_true,cond_false,wD (show n≤3000000 by omega)]
  ·simp only [i9,K5,List.length_map,E7 hlt,E7 hk,L8,Bool.and_self,cond_true,Int.toNat_natCast,Nat.zero_add,List.getE hlt,List.getE hk,Option.bind_some,beq_eq_false_iff_ne.2 hb,cond_false,wD (show n≤3000000 by omega)]
theorem dA9 {x:List e9} (hx:x.length≤60) (hsx:∀m∈x,aV3 m.Plan) (hi:i≤100000):∀(j k:Nat) (a:BK),k+j=x.length→okB (x.drop k) a→(∀e∈a.2.2,aV3 e.Plan)→a.2.1.length+j≤50000→a.2.2.length+j≤50000→
  Ev (i9 c l_) (.s3 true (aa3 (x.drop k) a).1 ((i+1:Nat):Int) st 0 (aa3 (x.drop k) a).2.2 (aa3 (x.drop k) a).2.1 f d s t) r→Ev (i9 c l_) (.s4 true a.1 (i:Int) x (k:Int) st 0 a.2.2 a.2.1 f d s t) r:=by
 intro j
 induction j with
 | zero=>
  intro k a hk _ _ _ _ h
  rw [List.drop_eq_nil_of_le (by omega)] at h
  refine .next ?_ h
  simp only [i9,G2,List.length_map,geB (show x.length≤k by omega),cond_false,wD (show i≤3000000 by omega)];rfl
 | succ j ih=>
  intro k a hk hok hsh hl1 hl2 h
  have hlt:k<x.length:=by omega
  rw [List.drop_eq_getElem_cons hlt] at hok h
  obtain ⟨⟨f1,f2⟩,h2⟩:=hok
  have w:=wD (show k≤3000000 by omega)
  have h:Ev (i9 c l_) (.s3 true (aa3 (x.drop (k+1)) (ak0 x[k] a)).1 ((i+1:Nat):Int) st 0 (aa3 (x.drop (k+1)) (ak0 x[k] a)).2.2 (aa3 (x.drop (k+1)) (ak0 x[k] a)).2.1 f d s t) r:=h
  by_cases h4:(x[k]).Kind=4
  ·by_cases h0:(x[k]).To=0
   ·have e:ak0 x[k] a=((x[k]).Ballot,a.2.1++ [(x[k]).Ballot],a.2.2):=by unfold ak0;rw [if_pos ⟨h4,h0⟩]
    rw [e] at h h2
    have ih:=ih (k+1) _ (by omega) h2 hsh (by simp;omega) (by simp;omega) h
    refine .next (s' := .s7 true a.1 (i:Int) x (k:Int) true st 0 a.2.2 a.2.1 f d s t) ?_ (.next (s' := .s5 true (i:Int) x (k:Int) ((0:Nat):Int) st 0 a.2.2 a.2.1 f d s t) ?_ (du3 hlt (f1 ⟨h4,h0⟩) (by omega) (by omega) h4 a.2.1.length 0 (by omega) ih))
    ·simp only [i9,G2,List.length_map,E7 hlt,L8,Bool.and_self,cond_true,Int.toNat_natCast,List.getE hlt,Option.bind_some,beq_iff_eq.2 h4,beq_iff_eq.2 h0]
    ·simp only [i9,G0,cond_true];rfl
   ·have e:ak0 x[k] a=a:=by unfold ak0;rw [if_neg (fun hh=>h0 hh.2),if_neg (by omega)]
    rw [e] at h h2
    have ih:=ih (k+1) a (by omega) h2 hsh (by omega) (by omega) h
    have n7:((x[k]).Kind !=7)=true:=by rw [h4];rfl
    refine .next (s' := .s7 true a.1 (i:Int) x (k:Int) false st 0 a.2.2 a.2.1 f d s t) ?_ (.next ?_ ih)
    ·simp only [i9,G2,List.length_map,E7 hlt,L8,Bool.and_self,cond_true,Int.toNat_natCast,List.getE hlt,Option.bind_some,beq_iff_eq.2 h4,beq_eq_false_iff_ne.2 h0]
    ·simp only [i9,G0,cond_false,List.length_map,E7 hlt,L8,Bool.and_self,cond_true,Int.toNat_natCast,List.getE hlt,Option.bind_some,n7,w]
  ·have s7:i9 c l_ (.s4 true a.1 (i:Int) x (k:Int) st 0 a.2.2 a.2.1 f d s t)=some (.inl (.s7 true a.1 (i:Int) x (k:Int) false st 0 a.2.2 a.2.1 f d s t)):=by
    simp only [i9,G2,List.length_map,E7 hlt,L8,Bool.and_self,cond_true,Int.toNat_natCast,List.getE hlt,Option.bind_some,beq_eq_false_iff_ne.2 h4,cond_false]
   by_cases h7:(x[k]).Kind=7
   ·have e:ak0 x[k] a=(a.1,a.2.1,a.2.2++ [⟨(x[k]).Ballot,(x[k]).Plan⟩]):=by unfold ak0;rw [if_neg (fun hh=>h4 hh.1),if_pos h7]
    rw [e] at h h2
    have ih:=ih (k+1) _ (by omega) h2 (fun y hy=>by
     rcases List.mem_append.1 hy with hy | hy
     ·exact hsh y hy
     ·rw [List.mem_singleton.1 hy];exact hsx _ (List.getElem_mem hlt)) (by simp;omega) (by simp;omega) h
    refine .next s7 (.next (s' := .s6 true a.1 (i:Int) x (k:Int) ((0:Nat):Int) st 0 a.2.2 a.2.1 f d s t) ?_ (dx8 hlt (f2 h7) hsh (by omega) (by omega) a.2.2.length 0 (by omega) ih))
    have n7:((x[k]).Kind !=7)=false:=by rw [h7];rfl
    simp only [i9,G0,cond_false,List.length_map,E7 hlt,L8,Bool.and_self,cond_true,Int.toNat_natCast,List.getE hlt,Option.bind_some,n7];rfl
   ·have e:ak0 x[k] a=a:=by unfold ak0;rw [if_neg (fun hh=>h4 hh.1),if_neg h7]
    rw [e] at h h2
    have ih:=ih (k+1) a (by omega) h2 hsh (by omega) (by omega) h
    refine .next s7 (.next ?_ ih)
    simp only [i9,G0,cond_false,List.length_map,E7 hlt,L8,Bool.and_self,cond_true,Int.toNat_natCast,List.getE hlt,Option.bind_some,bne_iff_ne.2 h7,w]
end
/-! ### what was used is of boots that were -/
def bp (b:Int):Int:=b%16777216/16
structure BI (st:d9) (M:Int) (a:BK):Prop where
 la:0≤a.1
 u:∀b∈a.2.1,1≤bp b∧bp b≤M∧(bp b=st.boot→b≤st.top)
 s:∀e∈a.2.2,(1≤bp e.Ballot∧bp e.Ballot≤M∧(bp e.Ballot=st.boot→e.Ballot≤st.top))∧(st.prop.Phase=1→e.Ballot≠st.prop.Ballot)∧aV3 e.Plan
 p:st.prop.Phase=1→st.boot≠0∧bp st.prop.Ballot=st.boot∧st.prop.Ballot≤st.top
theorem dR3 {c:d8} (cb:CB c):∃l,aa7 c=0::l∧∀t∈l,t≠0:=by
 have:=cb.f
 obtain ⟨n,hn⟩:∃n,(2*c.F_+1).toNat=n+1:=⟨(2*c.F_).toNat,by omega⟩
 refine ⟨(List.map Nat.succ (List.range n)).map fun (k:Nat)=>(k:Int),by unfold aa7;rw [hn,List.range_succ_eq_map];rfl,fun t ht=> ?_⟩
 obtain ⟨k,hk,rfl⟩:=List.mem_map.1 ht
 obtain ⟨j,_,rfl⟩:=List.mem_map.1 hk
 omega
section
variable {c : d8} {st : d9} {M M' : Int} {i : Nat} {a : BK}
theorem BI.same {st' :d9} (h:BI st M a) (hm:M≤M') (h1:st'.boot=st.boot) (h2:st.top≤st'.top) (h3:st'.prop.Phase=1→st.prop.Phase=1∧st'.prop.Ballot=st.prop.Ballot):BI st' M' a:=by
 refine ⟨h.la,fun b hb=> ?_,fun e he=> ?_,fun hp=> ?_⟩
 ·have:=h.u b hb
  refine ⟨this.1,by omega,fun hh=> ?_⟩
  have:=this.2.2 (by omega);omega
 ·obtain ⟨⟨q1,q2,q3⟩,q4,q5⟩:=h.s e he
  refine ⟨⟨q1,by omega,fun hh=> ?_⟩,fun hh=> ?_,q5⟩
  ·have:=q3 (by omega);omega
  ·rw [(h3 hh).2];exact q4 (h3 hh).1
 ·obtain ⟨q1,q2⟩:=h3 hp
  obtain ⟨q3,q4,q5⟩:=h.p q1
  rw [q2];exact ⟨by omega,by omega,by omega⟩
theorem BI.fresh {st' :d9} (h:BI st M a) (hm:M≤M') (h1:st'.boot=0∨M<st'.boot) (h2:st'.prop.Phase=0):BI st' M' a:=by
 refine ⟨h.la,fun b hb=> ?_,fun e he=> ?_,fun hp=>by omega⟩
 ·have:=h.u b hb
  exact ⟨this.1,by omega,fun hh=>by omega⟩
 ·obtain ⟨⟨q1,q2,q3⟩,q4,q5⟩:=h.s e he
  exact ⟨⟨q1,by omega,fun hh=>by omega⟩,fun hh=>by omega,q5⟩
theorem dV8 (cb:CB c) {o:Op}{d:Bool}{out:List e9}{st' :d9} (hd:DI c st M i) (hf:af7 o.M_) (hs:SR c 0 o st M d out st' M') (h:BI st M a):
  okB out a∧BI st' M' (aa3 out a)∧(aa3 out a).2.1.length≤a.2.1.length+1∧(aa3 out a).2.2.length≤a.2.2.length+7:=by
 have quiet:BI st' M' a→out= []→okB out a∧BI st' M' (aa3 out a)∧(aa3 out a).2.1.length≤a.2.1.length+1∧(aa3 out a).2.2.length≤a.2.2.length+7:=fun h e=>by subst e;exact ⟨trivial,h,by show a.2.1.length≤_;omega,by show a.2.2.length≤_;omega⟩
 have skip:BI st' M' a→(∀m∈out,(m.Kind≠4∨m.To≠0)∧m.Kind≠7)→okB out a∧BI st' M' (aa3 out a)∧(aa3 out a).2.1.length≤a.2.1.length+1∧(aa3 out a).2.2.length≤a.2.2.length+7:=fun h e=>by
  obtain ⟨h1,h2⟩:=cu6 out a e
  rw [h2];exact ⟨h1,h,by omega,by omega⟩
 cases hs with
 | idle _ h2=>exact quiet (h.same h2 rfl (Int.le_refl _) fun h=>⟨h,rfl⟩) rfl
 | fall _ h2=>exact quiet (h.fresh h2 (.inl rfl) rfl) rfl
 | boot _ h2=>exact quiet (h.fresh (by omega) (.inr h2) rfl) rfl
 | tick _ h1 h2 hb _ hp=>
  have lk:∀m∈(M1 c 0 o.Now st).1++(aJ6 c 0 o.Now (M1 c 0 o.Now st).2).1,(m.Kind≠4∨m.To≠0)∧m.Kind≠7:=fun m hm=>by
   rcases List.mem_append.1 hm with hm | hm
   ·unfold M1 at hm
    split at hm
    ·rw [av9 m hm];exact ⟨.inl (by decide:(10:Int)≠4),(by decide:(10:Int)≠7)⟩
    ·cases hm
   ·unfold aJ6 at hm
    split at hm
    ·cases hm
    ·rw [av9 m hm];exact ⟨.inl (by decide:(9:Int)≠4),(by decide:(9:Int)≠7)⟩
  obtain ⟨ho,aa,to,he,-⟩:=cE0 (c:=c) (ix:=0) (now:=o.Now) (st:=st)
  have hsame:BI (bh0 c 0 o.Now st) M a:=by rw [he];exact h.same (Int.le_refl _) rfl (Int.le_refl _) fun h=>⟨h,rfl⟩
  have kbo:(bh0 c 0 o.Now st).boot=st.boot:=by rw [he]
  have kbi:0≤(bh0 c 0 o.Now st).boot∧(bh0 c 0 o.Now st).boot≤M:=by rw [kbo];exact hd.bo
  have ktp:0≤(bh0 c 0 o.Now st).top:=by rw [he];exact hd.tp
  generalize bh0 c 0 o.Now st=st1 at*
  cases hp with
  | same=>exact skip hsame (by simpa using lk)
  | none=>exact skip (hsame.same (Int.le_refl _) rfl (Int.le_refl _) fun h=>by cases h) (by simpa using lk)
  | go b1 b2 b3 b4 b5 b6 b7 b8 b9 b10=>
   rename_i n b code op
   have hMi:=hd.mi
   obtain ⟨l,hl,hl0⟩:=dR3 cb
   obtain ⟨k1,k2⟩:=cu6 _ a lk
   have ls:∀m∈N6 c 0 (do0 (st1.known.Epoch+1)) op,(m.Kind≠4∨m.To≠0)∧m.Kind≠7:=fun m hm=>by
    rw [av9 m hm];exact ⟨.inl (by decide:(12:Int)≠4),(by decide:(12:Int)≠7)⟩
   obtain ⟨k3,k4⟩:=cu6 _ a ls
   have lt:∀m∈N6 c 0 (aG9 (st1.known.Epoch+1) b code st1.known) l,(m.Kind≠4∨m.To≠0)∧m.Kind≠7:=fun m hm=>by
    refine ⟨.inr ?_,by rw [av9 m hm];exact (by decide:(4:Int)≠7)⟩
    obtain ⟨t,ht,rfl⟩:=List.mem_map.1 hm
    exact hl0 t ht
   have hbp:bp b=st1.boot:=by unfold bp;omega
   have hb1:1≤st1.boot:=by omega
   have e4:N6 c 0 (aG9 (st1.known.Epoch+1) b code st1.known) (aa7 c)=ftM (aG9 (st1.known.Epoch+1) b code st1.known) (n6 c 0) 0::N6 c 0 (aG9 (st1.known.Epoch+1) b code st1.known) l:=by rw [hl];rfl
   have hnew:¬b∈a.2.1:=fun hb=>by
    have:=(hsame.u b hb).2.2 hbp;omega
   have e5:ak0 (ftM (aG9 (st1.known.Epoch+1) b code st1.known) (n6 c 0) 0) a=(b,a.2.1++ [b],a.2.2):=by unfold ak0;rw [if_pos ⟨rfl,rfl⟩];rfl
   obtain ⟨k5,k6⟩:=cu6 _ (b,a.2.1++ [b],a.2.2) lt
   have ok4:okB (N6 c 0 (aG9 (st1.known.Epoch+1) b code st1.known) (aa7 c)) a:=by
    rw [e4]
    exact ⟨⟨fun _=>hnew,fun hh=>by cases hh⟩,by rw [e5];exact k5⟩
   have run4:aa3 (N6 c 0 (aG9 (st1.known.Epoch+1) b code st1.known) (aa7 c)) a=(b,a.2.1++ [b],a.2.2):=by
    rw [e4]
    show aa3 _ (ak0 _ a)=_
    rw [e5];exact k6
   rw [da8,k2,da8,k4,run4]
   refine ⟨cA4 _ _ _ k1 (by rw [k2];exact cA4 _ _ _ k3 (by rw [k4];exact ok4)),⟨by simp only;omega,fun x hx=> ?_,fun e he=> ?_,fun _=>⟨b1,hbp,Int.le_refl _⟩⟩,by simp,by simp⟩
   ·rcases List.mem_append.1 hx with hx | hx
    ·obtain ⟨q1,q2,q3⟩:=hsame.u x hx
     exact ⟨q1,q2,fun hh=>by have:=q3 hh;simp only;omega⟩
    ·rw [List.mem_singleton.1 hx]
     exact ⟨by omega,by omega,fun _=>Int.le_refl _⟩
   ·obtain ⟨⟨q1,q2,q3⟩,q4,q5⟩:=hsame.s e he
    refine ⟨⟨q1,q2,fun hh=>by have:=q3 hh;simp only;omega⟩,fun _ hh=> ?_,q5⟩
    have hh:e.Ballot=b:=hh
    have:=q3 (by rw [hh];exact hbp)
    omega
 | handle _ hr h1 h2 hb _ hh=>
  cases hh with
  | same=>exact quiet h rfl
  | vote _=>exact quiet (h.same (Int.le_refl _) rfl (Int.le_refl _) fun h=>⟨h,rfl⟩) rfl
  | hold=>exact quiet (h.same (Int.le_refl _) rfl (Int.le_refl _) fun h=>⟨h,rfl⟩) rfl
  | prom hno=>
   obtain ⟨p1,p2,p3,p4⟩:=aR9 (c:=c) hd.pi hr hf
   refine quiet (h.same (Int.le_refl _) rfl (Int.le_refl _) fun hp=>⟨?_,p3⟩) rfl
   have hp:(D0 st.prop c o.M_).Phase=1:=hp
   rcases p4 with p4 | p4<;>omega
  | acc q1 q2=>
   obtain ⟨p1,p2,p3,p4⟩:=aR9 (c:=c) hd.pi hr hf
   obtain ⟨b1,b2,b3⟩:=h.p q1
   have hv:ai0 (D0 st.prop c o.M_).Value:=by
    rcases p1.ph with hp | ⟨-,-,-,-,-,hp⟩
    ·omega
    ·exact (hp q2).1
   obtain ⟨k1,sd,k2,k3,k4⟩:=dW1 (b:=st.prop.Ballot) (p:=(D0 st.prop c o.M_).Value) (N6 c 0 (dU9 (D0 st.prop c o.M_)) (aa7 c)) a (fun m hm=>by
    obtain ⟨t,_,rfl⟩:=List.mem_map.1 hm
    exact ⟨rfl,p3,rfl⟩) (fun e he hb=>absurd hb ((h.s e he).2.1 q1))
   have al:=aZ8 cb
   rw [bA6] at k4
   rw [k2]
   refine ⟨k1,⟨h.la,h.u,fun e he=> ?_,fun hp=>by simp only at hp;omega⟩,by simp only;omega,by simp only;omega⟩
   rcases k3 e he with k | ⟨k,kp⟩
   ·obtain ⟨g1,g2,g3⟩:=h.s e k
    exact ⟨g1,fun hp=>by simp only at hp;omega,g3⟩
   ·have:=hd.bo
    exact ⟨⟨by rw [k,b2];omega,by rw [k,b2];omega,fun _=>by rw [k];exact b3⟩,fun hp=>by simp only at hp;omega,by rw [kp];exact hv.2.s⟩
  | accd hno=>
   refine quiet (h.same (Int.le_refl _) rfl (Int.le_refl _) fun hp=> ?_) rfl
   have hp:(P6 st.prop c o.M_).Phase=1:=hp
   unfold P6 at hp ⊢
   cases hc:toP st.prop c o.M_ 8 2 with
   | false=>rw [hc] at hp;exact ⟨hp,rfl⟩
   | true=>
    have ph:st.prop.Phase=2:=by simp only [toP,Bool.and_eq_true,decide_eq_true_eq] at hc;exact hc.1
    rw [hc] at hp
    simp only [cond_true] at hp
    cases hm:aO1 c (orP st.prop.Accepts o.M_.From.toNat).toNat with
    | true=>rw [hm] at hp;cases hp
    | false=>rw [hm] at hp;simp only [cond_false] at hp;omega
  | learn k8 q2=>
   refine skip (h.same (Int.le_refl _) rfl (Int.le_refl _) fun hp=>by cases hp) fun m hm=> ?_
   rw [av9 m hm];exact ⟨.inl (by decide:(9:Int)≠4),(by decide:(9:Int)≠7)⟩
  | nack=>exact quiet (h.same (Int.le_refl _) rfl (cp1 _ _) fun h=>⟨h,rfl⟩) rfl
  | told _ _ _=>exact quiet (h.same (Int.le_refl _) rfl (Int.le_refl _) fun hp=>by cases hp) rfl
  | shut=>exact quiet (h.same (Int.le_refl _) rfl (Int.le_refl _) fun h=>⟨h,rfl⟩) rfl
end
theorem deciderBallots (c:d8) (l_:List Op) (hc0:c.Ok) (hl:l_.length*312≤reachBytes∧∀y∈l_,y.Ok):av7 c l_=some true:=by
 have ht:c.Tiers.length<9223372036854775807:=by
  obtain ⟨-,-,-,-,-,⟨h1,-⟩,-⟩:=hc0
  exact dk8 h1
 have hnew:=cC3 (c:=c) (index:=0) ht
 have s0:i9 c l_ .s0=Q8 c l_:=rfl
 unfold Q8 at s0
 by_cases hr:Z7 c=true∧0≤(0:Int)∧0<c.Deciders
 rotate_left
 ·rw [if_neg hr] at hnew
  exact u6 (.next (s' := .s1 true) (by rw [s0,cK2];simp only [Option.bind_some,hnew]) (.done rfl))
 rw [if_pos hr] at hnew
 obtain ⟨hc,-,-⟩:=hr
 have cb:=aE2 hc
 refine u6 (.next (s' := .s2 true (zst c) 0 (-1) false [] []) (by rw [s0,cK2];simp only [Option.bind_some,hnew]) ?_)
 by_cases hg:l_.length≤200
 rotate_left
 ·refine .done ?_
  have:decide (((l_.length:Nat):Int)>200)=true:=decide_eq_true (by omega)
  simp only [i9,Q4,aL7,List.length_map,this,Option.bind_some,cond_true]
 have key:∀(j i:Nat) (st:d9) (ns:List Int) (pend:Option Int) (f:Int) (d:Bool) (s t:List Int) (a:BK),i+j=l_.length→DI c st (G8 ns) i→JR ns pend f d s t i→BI st (G8 ns) a→a.2.1.length≤i→a.2.2.length≤7*i→Ev (i9 c l_) (.s3 true a.1 (i:Int) st 0 a.2.2 a.2.1 f d s t) true:=by
  intro j
  induction j with
  | zero=>
   intro i st ns pend f d s t a hi hd hj hb _ _
   refine .done ?_
   have hla:=hb.la
   simp only [i9,Q3,List.length_map,geB (show l_.length≤i by omega),cond_false,cond_true,decide_eq_true (show a.1≥0 by omega)]
  | succ j ih=>
   intro i st ns pend f d s t a hi hd hj hb hu hs
   have hlt:i<l_.length:=by omega
   have ho:=hl.2 _ (List.getElem_mem hlt)
   obtain ⟨out,st',f',d',s',t',ns',pend',e1,e2,e3,e4⟩:=dP9 (ix:=0) hd hj hc ht (by decide) ho (by omega)
   obtain ⟨g1,-⟩:=dS9 cb hd ho.2.1.fine e4
   have ol:=dX0 cb e4
   obtain ⟨k1,k2,k3,k4⟩:=dV8 cb hd ho.2.1.fine e4 hb
   have ih:=ih (i+1) st' ns' pend' f' d' s' t' (aa3 out a) (by omega) e2 e3 k2 (by omega) (by omega)
   refine .next (s' := .s4 true a.1 (i:Int) out ((0:Nat):Int) st' 0 a.2.2 a.2.1 f' d' s' t') ?_ (dA9 ol (fun m hm=>(g1 m hm).s.s) (by omega) out.length 0 a (by omega) k1 (fun e he=>(hb.s e he).2.2) (by omega) (by omega) ih)
   simp only [i9,Q3,List.length_map,E7 hlt,L8,Bool.and_self,cond_true,Int.toNat_natCast,List.getE hlt,Option.bind_some,e1];rfl
 refine .next (s' := .s3 true 0 ((0:Nat):Int) (zst c) 0 [] [] (-1) false [] []) ?_ (key l_.length 0 (zst c) [] none (-1) false [] [] (0,[],[]) (by omega) (dt9 cb (by decide) (by decide)) JR0 ⟨by decide,by simp,by simp,fun h=>by cases h⟩ (by simp) (by simp))
 have:decide (((l_.length:Nat):Int)>200)=false:=decide_eq_false (by omega)
 simp only [i9,Q4,aL7,List.length_map,this,Option.bind_some,cond_false];rfl
end Go.RX.L
