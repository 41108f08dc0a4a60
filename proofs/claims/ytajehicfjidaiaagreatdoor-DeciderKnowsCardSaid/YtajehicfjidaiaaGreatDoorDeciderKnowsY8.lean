/-
  Words and walks for DeciderKnows. No condition.
-/
import Derived.Test.YtajehicfjidaiaaGreatDoorDeciderKnowsY7
set_option linter.unusedSectionVars false
set_option linter.unnecessarySimpa false
set_option linter.unusedSimpArgs false
set_option linter.unusedVariables false
set_option maxRecDepth 100000
set_option maxHeartbeats 4000000
namespace Go.RX.L
open Go Go.RX Go.Proofs
attribute [local irreducible] f5
noncomputable def bg6:=n8 (p6 Tryz.f25)
noncomputable def bi0 (c:d8) (index:Int) (y:Int×d9×Int×Bool×(List Int)×(List Int)):D×f3:=(.int .i64 y.1,[some ⟨88,true,[(d9.l y.2.1 (d8.l c [.int .i64 index,.ptr 1 0 0]))]⟩,some ⟨4,true,[[(f6 4 (List.map (d7 .u8) y.2.2.2.2.1)),(f6 5 (List.map (d7 .u8) y.2.2.2.2.2)),.int .i64 y.2.2.1,.bool y.2.2.2.1]]⟩,none,none,some ⟨1,false,(List.map (d7 .u8) y.2.2.2.2.1)⟩,some ⟨1,false,(List.map (d7 .u8) y.2.2.2.2.2)⟩])
inductive ae1 where
 | s0 (state:d9) (fuse:Int) (down:Bool) (b2 b3:List Int)
 | s1 (bodies:List (List Int)) (t34:List Int) (t35 t36:Int) (state2:d9) (fuse2:Int) (down2:Bool) (b4 b5:List Int)
noncomputable def bh9 (now:Int) (c:d8) (index:Int):ae1→M
 | .s0 state fuse down b2 b3=>A2 Tryz.f25 [.ptr 0 0 0,.int .i64 now] [some ⟨88,true,[(d9.l state (d8.l c [.int .i64 index,.ptr 1 0 0]))]⟩,some ⟨4,true,[[(f6 2 (List.map (d7 .u8) b2)),(f6 3 (List.map (d7 .u8) b3)),.int .i64 fuse,.bool down]]⟩,some ⟨1,false,(List.map (d7 .u8) b2)⟩,some ⟨1,false,(List.map (d7 .u8) b3)⟩]
 | .s1 bodies t34 t35 t36 state2 fuse2 down2 b4 b5=>⟨[.lpc (bg6 [1,1,1,1,0,1,0,0]) 120259084355,.blk 0,.code (bg6 [1,1,1,1,1])],[(0,.ptr 0 0 0),(1,.int .i64 now),(6,.sl false 1 (List.map (E0 1 (d7 .u8)) bodies)),(34,.sl false 1 (List.map (d7 .u8) t34)),(35,.int .i64 t35),(36,.int .i64 t36)],[some ⟨88,true,[(d9.l state2 (d8.l c [.int .i64 index,.ptr 1 0 0]))]⟩,some ⟨4,true,[[(f6 4 (List.map (d7 .u8) b4)),(f6 5 (List.map (d7 .u8) b5)),.int .i64 fuse2,.bool down2]]⟩,none,none,some ⟨1,false,(List.map (d7 .u8) b4)⟩,some ⟨1,false,(List.map (d7 .u8) b5)⟩]⟩
abbrev bh7 (now:Int) (c:d8) (index:Int):=SOk E (Cx.of Tryz.f25 true 4) (bi0 c index) (bh9 now c index)
noncomputable def ae2 (now:Int) (c:d8) (index:Int) (state:d9) (fuse:Int) (down:Bool) (b2 b3:List Int):Option (ae1⊕(Int×d9×Int×Bool×(List Int)×(List Int))):=((ay5 c).bind fun y1=>((Z6 fuse down b2 b3).bind fun y2=>(bif ((y2.2.2.1:Int) !=0) then (some (.inr (y2.2.2.1,(⟨0,y1,0,[],(⟨0,0,0,0⟩:n5),(⟨false,0⟩:S0),(⟨0,0,0,(⟨0,0,0,0,0,0,0,0,0,0,[],[]⟩:Plan),0,(⟨0,0,0,0,0,0,0,0,0,0,[],[]⟩:Plan),0,0⟩:i5),0,0,0,(⟨false,0⟩:S0)⟩:d9),y2.2.2.2.1,y2.2.2.2.2.1,y2.2.2.2.2.2.1,y2.2.2.2.2.2.2))) else (some (.inl (.s1 y2.2.1 y2.1 (((List.map (d7 .u8) y2.1).length:Nat):Int) 0 (⟨0,y1,0,[],(⟨0,0,0,0⟩:n5),(⟨false,0⟩:S0),(⟨0,0,0,(⟨0,0,0,0,0,0,0,0,0,0,[],[]⟩:Plan),0,(⟨0,0,0,0,0,0,0,0,0,0,[],[]⟩:Plan),0,0⟩:i5),0,0,0,(⟨false,0⟩:S0)⟩:d9) y2.2.2.2.1 y2.2.2.2.2.1 y2.2.2.2.2.2.1 y2.2.2.2.2.2.2))))))
noncomputable def O5 (now:Int) (c:d8) (index:Int) (bodies:List (List Int)) (t34:List Int) (t35 t36:Int) (state2:d9) (fuse2:Int) (down2:Bool) (b4 b5:List Int):Option (ae1⊕(Int×d9×Int×Bool×(List Int)×(List Int))):=(bif (decide ((t36:Int)<t35)) then (bif ((decide ((0:Int)≤t36))&&(decide ((t36:Int)<(((List.map (d7 .u8) t34).length:Nat):Int)))) then (((t34)[t36.toNat]?).bind fun y3=>(bif ((decide ((0:Int)≤t36))&&(decide ((t36:Int)<(((List.map (E0 1 (d7 .u8)) bodies).length:Nat):Int)))) then (((bodies)[t36.toNat]?).bind fun y6=>((be2 y3 y6).bind fun y8=>(bif ((y8.2:Int)==0) then (bif ((y8.1.Kind:Int)==17) then (bif (decide ((y8.1.Nonce:Int)≥1048575)) then (some (.inr (2,state2,fuse2,down2,b4,b5))) else (some (.inl (.s1 bodies t34 t35 (IntKind.i64.wrap (t36+1)) state2 fuse2 down2 b4 b5)))) else (some (.inl (.s1 bodies t34 t35 (IntKind.i64.wrap (t36+1)) state2 fuse2 down2 b4 b5)))) else (some (.inl (.s1 bodies t34 t35 (IntKind.i64.wrap (t36+1)) state2 fuse2 down2 b4 b5)))))) else none)) else none) else ((bb0 fuse2 down2 b4 b5).bind fun y12=>(bif ((y12.2.1:Int) !=0) then (some (.inr (y12.2.1,state2,y12.2.2.1,y12.2.2.2.1,y12.2.2.2.2.1,y12.2.2.2.2.2))) else (some (.inr (0,(⟨y12.1,state2.known,now,state2.votes,state2.hold,state2.asked,state2.prop,state2.made,state2.top,state2.sealed,state2.told⟩:d9),y12.2.2.1,y12.2.2.2.1,y12.2.2.2.2.1,y12.2.2.2.2.2))))))
noncomputable def N1 (now:Int) (c:d8) (index:Int):ae1→Option (ae1⊕(Int×d9×Int×Bool×(List Int)×(List Int)))
 | .s0 state fuse down b2 b3=>ae2 now c index state fuse down b2 b3
 | .s1 bodies t34 t35 t36 state2 fuse2 down2 b4 b5=>O5 now c index bodies t34 t35 t36 state2 fuse2 down2 b4 b5
theorem bI1 {now c index state fuse down b2 b3}:bh7 now c index (.s0 state fuse down b2 b3) (ae2 now c index state fuse down b2 b3):=by
 intro r x h ha;unfold ae2 at h
 refine zc 13 [] h (fun _=>bE2) fun y1 h=> ?_
 refine zc 15 [] h (fun _=>bw5) fun y2 h=> ?_
 refine zs 15 h (fun h=> ?_) fun h=> ?_
 ·
  refine zf 5 [.blk 0 [some 3,some 1,some 1,some 1,some 1]] ?_
  exact zt 1 h ha
 exact zk 11 h ha [.blk 0 [some 3,some 1,some 1,some 1,some 1]]
theorem bH3 {now c index bodies t34 t35 t36 state2 fuse2 down2 b4 b5}:bh7 now c index (.s1 bodies t34 t35 t36 state2 fuse2 down2 b4 b5) (O5 now c index bodies t34 t35 t36 state2 fuse2 down2 b4 b5):=by
 intro r x h ha;unfold O5 at h
 refine zs 7 h (fun h=> ?_) fun h=> ?_
 ·
  refine zn 7 h fun h=> ?_
  refine zr 1 (d7 .u8) h fun y3 h=> ?_
  refine zn 9 h fun h=> ?_
  refine zr 1 (E0 1 (d7 .u8)) h fun y6 h=> ?_
  refine zc 1 [] h (fun _=>cF7) fun y8 h=> ?_
  refine zs 15 h (fun h=> ?_) fun h=> ?_
  ·
   refine zs 9 h (fun h=> ?_) fun h=> ?_
   ·
    refine zs 9 h (fun h=> ?_) fun h=> ?_
    ·
     exact zt 5 h ha
    exact zj 7 h ha
   exact zj 16 h ha
  exact zj 25 h ha
 refine zc 9 [] h (fun _=>cB3) fun y12 h=> ?_
 refine zs 13 h (fun h=> ?_) fun h=> ?_
 ·
  exact zt 6 h ha
 exact zt 25 h ha
noncomputable def al7 (now:Int) (state:d9) (c:d8) (index fuse:Int) (down:Bool) (b2 b3:List Int):Option (Int×d9×Int×Bool×(List Int)×(List Int)):=U9 (N1 now c index) (.s0 state fuse down b2 b3)
theorem bc1 {now:Int}{state:d9}{c:d8}{index fuse:Int}{down:Bool}{b2 b3:List Int}{r:Int×d9×Int×Bool×(List Int)×(List Int)} (h:al7 now state c index fuse down b2 b3=some r):i0 E 25 [.ptr 0 0 0,.int .i64 now] [some ⟨88,true,[(d9.l state (d8.l c [.int .i64 index,.ptr 1 0 0]))]⟩,some ⟨4,true,[[(f6 2 (List.map (d7 .u8) b2)),(f6 3 (List.map (d7 .u8) b3)),.int .i64 fuse,.bool down]]⟩,some ⟨1,false,(List.map (d7 .u8) b2)⟩,some ⟨1,false,(List.map (d7 .u8) b3)⟩] (Rs (bi0 c index) r):=sc (fn:=Tryz.f25) (k:=true) (m:=4) (stM:=(bh9 now c index)) h fun s=>by
 cases s with
 | s0=>exact bI1
 | s1=>exact bH3
end Go.RX.L

namespace Go.RX.L
open Go Go.RX
theorem dy2:bf8 v7:=⟨aa6.2 (by decide),by decide,by decide,⟨by decide,by decide⟩⟩
theorem dL4 (k f t e b a n ti u co:Int):Shm ⟨k,f,t,e,b,a,n,ti,u,co,false,v7,[],[],[]⟩:=⟨⟨by simp [v7],by simp [v7]⟩,J7.2 (by simp [v7]),J7.2 (by simp [v7])⟩
theorem du5 {k f t e b a n ti co:Int} (hk:1≤k∧k≤19) (hf:0≤f∧f≤255) (ht:0≤t∧t≤255) (hc:0≤co∧co≤1000):C3 ⟨k,f,t,e,b,a,n,ti,0,co,false,v7,[],[],[]⟩=true:=by
 simp only [C3,Bool.and_eq_true,decide_eq_true_eq,bi8,cond_false]
 refine ⟨?_,by unfold txM;simp,by rw [bc5]⟩
 unfold hdM;simp only;omega
def v9 (n:Int):e9:=⟨17,0,0,0,0,0,n,0,0,0,false,v7,[],[],[]⟩
theorem cw0 {n:Int} (h:n4 .i64 n):bw7 (v9 n):=by
 refine ⟨⟨dL4 ..,dy2,?_,by simp [v9],fun x hx=>by simp [v9] at hx,fun x hx=>by simp [v9] at hx,fun x hx=>by simp [v9] at hx⟩,du5 (by decide) (by decide) (by decide) (by decide)⟩
 intro x hx
 simp only [v9,List.mem_cons,List.not_mem_nil,or_false] at hx
 rcases hx with rfl | rfl | rfl | rfl | rfl<;>first | assumption | exact aa6.2 (by decide)
def G4 (l:List Int):Int:=l.foldl u5 0
theorem dU7 {a b n:Int} (h1:a≤n) (h2:b≤n):u5 a b≤n:=by unfold u5;split<;>omega
theorem cR9 (a b:Int):a≤u5 a b:=by unfold u5;split<;>omega
theorem df5:∀(l:List Int) (a n:Int),a≤n→(∀x∈l,x≤n)→a≤l.foldl u5 a∧l.foldl u5 a≤n
 | [],a,n,h,_=>⟨Int.le_refl _,h⟩
 | x::l,a,n,h,hl=>by
  have:=df5 l (u5 a x) n (dU7 h (hl x (by simp))) fun y hy=>hl y (by simp [hy])
  have h2:=cR9 a x
  rw [List.foldl_cons];omega
theorem de2 (l:List Int) (n:Int):G4 (l++ [n])=u5 (G4 l) n:=by simp [G4]
def dZ2:Option Int→List Int
 | none=> []
 | some n=>Y8 [v9 n]
/-- What the disk has: boots, one that is not synced. -/
structure JR (ns : List Int) (pend : Option Int) (fuse : Int) (down : Bool) (s t : List Int) (i : Nat) : Prop where
  fu : V7 fuse
  dk : ∃ J, bo2 (ns.map v9) J s ∧ (down = false → J = []) ∧ (pend ≠ none → J = [])
  tl : t = dZ2 pend
  up : down = false → pend = none
  ns_ : ∀ n ∈ ns, 0 ≤ n ∧ n ≤ i
  pd : ∀ n, pend = some n → 0 ≤ n ∧ n ≤ i
  len : s.length + t.length ≤ 9000 * i
  cnt : ns.length + pend.toList.length ≤ i
theorem JR0:JR [] none (-1) false [] [] 0:=⟨by unfold V7;omega,⟨[],bo2.nil,fun _=>rfl,fun _=>rfl⟩,rfl,fun _=>rfl,by simp,by simp,by simp,by simp⟩
section
variable {ns : List Int} {pend : Option Int} {fuse : Int} {down : Bool} {s t : List Int} {i : Nat}
theorem JR.more (h:JR ns pend fuse down s t i):JR ns pend fuse down s t (i+1):={ h with ns_:=fun n hn=>by have:=h.ns_ n hn;omega,pd:=fun n hn=>by have:=h.pd n hn;omega,len:=by have:=h.len;omega,cnt:=by have:=h.cnt;omega }
theorem JR.mx (h:JR ns pend fuse down s t i):0≤G4 ns∧G4 ns≤i:=df5 ns 0 i (by omega) fun x hx=>(h.ns_ x hx).2
theorem dP3 {k:Int} (h:JR ns pend fuse down s t i) (hk:n4 .i64 k):aU4 k fuse down s t=some (u5 k (-1))∧JR ns pend (u5 k (-1)) down s t i:=by
 refine ⟨rfl,{ h with fu:= ?_ }⟩
 have:=aa6.1 hk
 unfold V7 u5;split<;>omega
theorem cZ5 {n:Int}{i:Nat} (h:0≤n∧n≤i) (hi:i≤300):n4 .i64 n:=aa6.2 (by omega)
theorem dA0 {keep:Int} (h:JR ns pend fuse down s t i) (hi:i≤300):∃s' ns',al4 keep fuse down s t=some (-1,true,s',[])∧JR ns' none (-1) true s' [] i∧G4 ns≤G4 ns' :=by
 obtain ⟨fu,⟨J,dk,dj,dp⟩,tl,up,hn,pd,len,cnt⟩:=h
 have hc:=dS3 (keep:=keep) (fuse:=fuse) (down:=down) (s:=s) (t:=t) (by omega)
 have hkl:(ba1 keep t).length≤t.length:=by unfold ba1;rw [List.length_take];omega
 have f0:V7 (-1):=by unfold V7;omega
 have no:∀{P:Prop},true=false→P:=fun h=>by cases h
 cases hp:pend with
 | none=>
  rw [hp] at tl cnt
  subst tl
  exact ⟨_,ns,hc,⟨f0,⟨J,dk.crash0 keep,no,fun h=>absurd rfl h⟩,rfl,no,hn,fun n h=>(by cases h),by simp [ba1] at len ⊢;omega,by simp at cnt ⊢;omega⟩,Int.le_refl _⟩
 | some m=>
  have hm:=pd m hp
  have hJ:=dp (by rw [hp];simp)
  subst hJ
  rw [hp] at tl cnt
  have tl:t=Y8 [v9 m]:=tl
  simp only [Option.toList,List.length_cons,List.length_nil] at cnt
  rcases dk.crash (cw0 (cZ5 hm hi)) keep with h1 | ⟨J,h1⟩
  ·refine ⟨_,ns++ [m],hc,⟨f0,⟨[],by rw [tl,List.map_append];exact h1,no,fun h=>absurd rfl h⟩,rfl,no,fun n h=> ?_,fun n h=>(by cases h),by simp;omega,by simp;omega⟩,by rw [de2];exact cR9 _ _⟩
   rcases List.mem_append.1 h with h | h
   ·exact hn n h
   ·rw [List.mem_singleton.1 h];exact hm
  ·exact ⟨_,ns,hc,⟨f0,⟨J,by rw [tl];exact h1,no,fun h=>absurd rfl h⟩,rfl,no,hn,fun n h=>(by cases h),by simp;omega,by simp;omega⟩,Int.le_refl _⟩
/-! ### a boot -/
def as0 (ns:List Int):List (List Int):=ns.map fun n=>ai5 (v9 n)
def aj4 (ns:List Int):List Int:=ns.map fun _=>17
theorem wB {k:Nat} (h:k≤3000000):IntKind.i64.wrap ((k:Int)+1)=((k+1:Nat):Int):=by rw [u4 (by omega) (by omega)];norm_cast
theorem df1 {n:Int} (h:n4 .i64 n):be2 17 (ai5 (v9 n))=some (v9 n,0):=by
 have hm:=cw0 h
 have hb:=ci1 hm.1 hm.2
 have hby:r6 (ai5 (v9 n)):=hm.fr.2.1
 rw [dX1 (by decide) hby (by simp only [F6];omega)]
 exact congrArg some (dQ2 hm.1 hm.2)
theorem dH4 {k:Nat} (h:k<ns.length):(aj4 ns)[k]? =some 17∧(as0 ns)[k]? =some (ai5 (v9 ns[k])):=by simp [aj4,as0,h]
theorem dq6 {f:Int}{d:Bool}{s' t' :List Int}{r:Int×Int×Int×Bool×List Int×List Int} (hn:∀n∈ns,n4 .i64 n) (hl:ns.length≤1000):∀(j k:Nat) (a:Int),k+j=ns.length→
  Ev M1 (.s1 (as0 ns) ((ns.drop k).foldl u5 a) (aj4 ns) (ns.length:Nat) (ns.length:Nat) f d s' t') r→Ev M1 (.s1 (as0 ns) a (aj4 ns) (ns.length:Nat) (k:Nat) f d s' t') r:=by
 intro j
 induction j with
 | zero=>
  intro k a hk h
  have:k=ns.length:=by omega
  subst this
  simpa using h
 | succ j ih=>
  intro k a hk h
  have hlt:k<ns.length:=by omega
  rw [List.drop_eq_getElem_cons hlt,List.foldl_cons] at h
  obtain ⟨g1,g2⟩:=dH4 hlt
  have hof:=df1 (hn _ (List.getElem_mem hlt))
  have l1:(decide ((k:Int)<((aj4 ns).length:Int)))=true:=by simp [aj4];omega
  have l2:(decide ((k:Int)<((as0 ns).length:Int)))=true:=by simp [as0];omega
  refine .next (s' := .s2 (as0 ns) a (aj4 ns) (ns.length:Nat) (k:Nat) true f d (v9 ns[k]) s' t') ?_ ?_
  ·simp only [M1,U8,K0 hlt,cond_true,List.length_map,S5,l1,l2,Bool.and_self,Int.toNat_natCast,g1,g2,Option.bind_some,hof,beq_self_eq_true,show (v9 ns[k]).Kind=17 from rfl]
  ·refine .next (s' := .s1 (as0 ns) (u5 a ns[k]) (aj4 ns) (ns.length:Nat) ((k+1:Nat):Int) f d s' t') ?_ (ih (k+1) _ (by omega) h)
   simp only [M1,aM0,cond_true,wB (show k≤3000000 by omega),show (v9 ns[k]).Nonce=ns[k] from rfl]
theorem cQ8:eff (-1) false=some (-1):=by decide
theorem JR.open_ (h:JR ns pend fuse down s t i) (hi:i≤300):(∃f,Z6 fuse down s t=some (aj4 ns,as0 ns,0,f,false,Y8 (ns.map v9),[])∧JR ns none f false (Y8 (ns.map v9)) [] i∧(fuse= -1→f= -1))∨
  (∃f,Z6 fuse down s t=some ([],[],61,f,true,s,[])∧JR ns none f true s [] i∧fuse≠ -1):=by
 obtain ⟨fu,⟨J,dk,dj,dp⟩,tl,up,hn,pd,len,cnt⟩:=h
 obtain ⟨e0,hcut⟩:=dk.cut
 have ho:=dY5 (fuse:=fuse) (down:=down) (t:=t) (dG6 dk.ok) hcut dk.jb (by have:=dk.eq;unfold Y8 at this;rw [←this];omega) fu
 have hs:J9 ((ns.map v9).map be9)++J=s:=dk.eq.symm
 rw [hs] at ho
 have m1:((ns.map v9).map be9).map (·.1)=aj4 ns:=by simp [be9,aj4,v9]
 have m2:((ns.map v9).map be9).map (·.2)=as0 ns:=by simp [be9,as0]
 rw [m1,m2] at ho
 have no:∀{P:Prop},true=false→P:=fun h=>by cases h
 have hls:(Y8 (ns.map v9)).length≤s.length:=by rw [dk.eq];simp
 have good:∀f,V7 f→JR ns none f false (Y8 (ns.map v9)) [] i:=fun f hf=>⟨hf,⟨[],⟨dk.ok,by simp,⟨_,rfl⟩,fun c hc=>by simp at hc⟩,fun _=>rfl,fun _=>rfl⟩,rfl,fun _=>rfl,hn,fun n h=>(by cases h),by simp;omega,by simp;omega⟩
 by_cases hJ:J= []
 ·rw [if_pos hJ] at ho
  exact .inl ⟨fuse,ho,good _ fu,id⟩
 ·rw [if_neg hJ] at ho
  cases he:eff fuse false with
  | some f=>
   rw [he] at ho
   exact .inl ⟨f,ho,good _ (ck7 fu he),fun h=>by rw [h,cQ8] at he;exact (Option.some.inj he).symm⟩
  | none=>
   rw [he] at ho
   exact .inr ⟨fd fuse false,by rw [ho,←hs],⟨cx1 fu,⟨J,dk,no,fun h=>absurd rfl h⟩,rfl,no,hn,fun n h=>(by cases h),by simp;omega,by simp;omega⟩,fun h=>by rw [h,cQ8] at he;cases he⟩
theorem dK8 (h:JR ns pend fuse down s t i) (hi:i≤250):∃b e f d s' t' ns' pend',bb0 fuse down s t=some (b,e,f,d,s',t')∧JR ns' pend' f d s' t' (i+1)∧G4 ns≤G4 ns' ∧(e=0→d=false∧b=G4 ns+1∧G4 ns' =b)∧(fuse= -1→e=0):=by
 rcases h.open_ (by omega) with ⟨f,ho,hr,hf1⟩ | ⟨f,ho,hr,hf1⟩
 rotate_left
 ·refine ⟨0,61,f,true,s,[],ns,none,u0 (.done ?_),hr.more,Int.le_refl _,(fun h=>by cases h),fun h=>absurd h hf1⟩
  simp only [M1,aw9,ho,Option.bind_some,show ((61:Int) !=0)=true from rfl,cond_true]
 have hin:∀n∈ns,n4 .i64 n:=fun n hn=>cZ5 (h.ns_ n hn) (by omega)
 have hm:=h.mx
 have hl:ns.length≤1000:=by have:=h.cnt;omega
 have hrec:bw7 (v9 (G4 ns+1)):=cw0 (aa6.2 (by omega))
 have hb:bF8 (v9 (G4 ns+1))=some (17,ai5 (v9 (G4 ns+1)),0):=by rw [dO0 hrec.1,dk7,if_pos hrec.2];rfl
 obtain ⟨h1,h2,h3⟩:=hrec.fr
 have h1:0≤(17:Int)∧(17:Int)≤255:=by decide
 have h2:r6 (ai5 (v9 (G4 ns+1))):=h2
 have h3:(ai5 (v9 (G4 ns+1))).length≤8192:=h3
 have hlen:=hr.len
 have hcnt:=hr.cnt
 have ha:=dO8 (k:=17) (body:=ai5 (v9 (G4 ns+1))) h1 h2 h3 hr.fu (down:=false) (s:=Y8 (ns.map v9)) (t:= []) (by simp)
 have hlg:G3 17 (ai5 (v9 (G4 ns+1)))=Y8 [v9 (G4 ns+1)]:=(cA7 (v9 (G4 ns+1))).symm
 have hl' :(Y8 [v9 (G4 ns+1)]).length≤8500:=by rw [←hlg,aN6];omega
 have w1:IntKind.i64.wrap (G4 ns+1)=G4 ns+1:=u4 (by omega) (by omega)
 have ge:decide (G4 ns≥1099511627776)=false:=decide_eq_false (by omega)
 have lt:decide (((ns.length:Nat):Int)<((ns.length:Nat):Int))=false:=decide_eq_false (by omega)
 have first:∀{r},U8 (as0 ns) (G4 ns) (aj4 ns) (ns.length:Nat) (ns.length:Nat) f false (Y8 (ns.map v9)) []=some (.inr r)→bb0 fuse down s t=some r:=fun {r} hh=>by
  refine u0 (.next (s' := .s1 (as0 ns) 0 (aj4 ns) (ns.length:Nat) ((0:Nat):Int) f false (Y8 (ns.map v9)) []) ?_ (dq6 hin hl ns.length 0 0 (by omega) (.done ?_)))
  ·simp only [M1,aw9,ho,Option.bind_some,show ((0:Int) !=0)=false from rfl,cond_false,List.length_map]
   simp [aj4]
  ·simpa only [M1,List.drop_zero,G4] using hh
 have bm:(⟨17,0,0,0,0,0,G4 ns+1,0,0,0,false,(⟨0,0,0,0,0,0,0,0,0,0,[],[]⟩:Plan),[],[],[]⟩:e9)=v9 (G4 ns+1):=rfl
 have no:∀{P:Prop},true=false→P:=fun h=>by cases h
 obtain ⟨J,dk,dj,dp⟩:=hr.dk
 have hJ:=dj rfl
 subst hJ
 have b1:0≤G4 ns+1∧G4 ns+1≤((i+1:Nat):Int):=by omega
 have ns1:∀n∈ns,0≤n∧n≤((i+1:Nat):Int):=fun n hn=>by have:=h.ns_ n hn;omega
 simp only [List.length_nil,Nat.add_zero,Option.toList] at hlen hcnt
 simp only [List.nil_append,hlg] at ha
 cases he:eff f false with
 | none=>
  rw [he] at ha
  refine ⟨0,61,fd f false,true,Y8 (ns.map v9),[],ns,none,first ?_,⟨cx1 hr.fu,⟨[],dk,no,fun h=>absurd rfl h⟩,rfl,no,ns1,fun n h=>(by cases h),by simp;omega,by simp;omega⟩,Int.le_refl _,(fun h=>by cases h),fun h=>by rw [hf1 h,cQ8] at he;cases he⟩
  simp only [U8,lt,cond_false,ge,w1,bm,hb,Option.bind_some,ha,show ((61:Int) !=0)=true from rfl,cond_true]
 | some g=>
  rw [he] at ha
  have hg:=ck7 hr.fu he
  have hy:=dZ1 (fuse:=g) hg (down:=false) (s:=Y8 (ns.map v9)) (t:=Y8 [v9 (G4 ns+1)]) (by omega)
  cases he2:eff g false with
  | none=>
   rw [he2] at hy
   refine ⟨0,61,fd g false,true,Y8 (ns.map v9),Y8 [v9 (G4 ns+1)],ns,some (G4 ns+1),first ?_,⟨cx1 hg,⟨[],dk,no,fun _=>rfl⟩,rfl,no,ns1,fun n h=>(by cases h;exact b1),by omega,by simp;omega⟩,Int.le_refl _,(fun h=>by cases h),fun h=>by rw [hf1 h,cQ8] at he;cases he;rw [cQ8] at he2;cases he2⟩
   simp only [U8,lt,cond_false,ge,w1,bm,hb,Option.bind_some,ha,show ((0:Int) !=0)=false from rfl,hy,show ((61:Int) !=0)=true from rfl,cond_true]
  | some g2=>
   rw [he2] at hy
   have mx:G4 (ns++ [G4 ns+1])=G4 ns+1:=by rw [de2];unfold u5;split<;>omega
   refine ⟨G4 ns+1,0,g2,false,Y8 (ns.map v9)++Y8 [v9 (G4 ns+1)],[],ns++ [G4 ns+1],none,first ?_,⟨ck7 hg he2,⟨[],⟨fun x hx=> ?_,by simp [dg5],⟨_,rfl⟩,fun c hc=>by simp at hc⟩,fun _=>rfl,fun _=>rfl⟩,rfl,fun _=>rfl,fun n hn=> ?_,fun n h=>(by cases h),by simp;omega,by simp;omega⟩,by rw [mx];omega,(fun _=>⟨rfl,rfl,mx⟩),fun _=>rfl⟩
   ·simp only [U8,lt,cond_false,ge,w1,bm,hb,Option.bind_some,ha,show ((0:Int) !=0)=false from rfl,hy]
   ·rw [List.map_append] at hx
    rcases List.mem_append.1 hx with hx | hx
    ·exact dk.ok x hx
    ·simp only [List.map_cons,List.map_nil,List.mem_singleton] at hx
     rw [hx];exact hrec
   ·rcases List.mem_append.1 hn with hn | hn
    ·exact ns1 n hn
    ·rw [List.mem_singleton.1 hn];exact b1
end
end Go.RX.L

namespace Go.RX.L
open Go Go.RX Go.Proofs
attribute [local irreducible] f5
noncomputable def cn1 (y:Int×Bool):D×f3:=(.tup [.int .i64 y.1,.bool y.2],[])
noncomputable def aj6 (node first many:Int):Option (Int×Bool):=(bif (decide ((node:Int)≥first)) then (some ((IntKind.i64.wrap (node-first)),(decide ((node:Int)<(IntKind.i64.wrap (first+many)))))) else (some ((IntKind.i64.wrap (node-first)),false)))
theorem br3 {node first many:Int}{r:Int×Bool} (h:aj6 node first many=some r):i0 E 59 [.int .i64 node,.int .i64 first,.int .i64 many] [] (Rs cn1 r):=so (fn:=Tryz.f59) (k:=false) (m:=0) h<| by
 intro r h;unfold aj6 at h
 refine zs 15 h (fun h=> ?_) fun h=> ?_
 ·
  exact zu 14 h
 exact zu 14 h
end Go.RX.L

namespace Go.RX.L
open Go Go.RX Go.Proofs
attribute [local irreducible] f5
noncomputable def cz8 (state:d9) (c:d8) (index fuse:Int) (down:Bool) (b2 b3:List Int) (y:Bool):D×f3:=(.bool y,[some ⟨88,true,[(d9.l state (d8.l c [.int .i64 index,.ptr 1 0 0]))]⟩,some ⟨4,true,[[(f6 2 (List.map (d7 .u8) b2)),(f6 3 (List.map (d7 .u8) b3)),.int .i64 fuse,.bool down]]⟩,some ⟨1,false,(List.map (d7 .u8) b2)⟩,some ⟨1,false,(List.map (d7 .u8) b3)⟩])
noncomputable def aE0 (p_:Plan) (state:d9) (c:d8) (index fuse:Int) (down:Bool) (b2 b3:List Int):Option Bool:=(bif (!decide ((c.Targets:Int)<0)) then ((ae6 p_).bind fun y2=>(bif y2 then (bif (((((List.map (d7 .i64) p_.Pen).length:Nat):Int):Int)==c.Targets) then (bif (decide (((u5 (u5 p_.Target p_.Prev) p_.Spill):Int)<c.Targets)) then (bif (((al5 .u64 (orI .u64 p_.Up p_.Sup) (IntKind.u64.wrap ((E6 .u64 1 c.Targets)-1))):Int)==0) then (some (decide (((((List.map (d7 .i64) p_.Changes).length:Nat):Int):Int)≤c.B_))) else (some false)) else (some false)) else (some false)) else (some false))) else none)
theorem cn0 {p_:Plan}{state:d9}{c:d8}{index fuse:Int}{down:Bool}{b2 b3:List Int}{r:Bool} (h:aE0 p_ state c index fuse down b2 b3=some r):i0 E 68 [.ptr 0 0 0,.agg (Plan.enc p_)] [some ⟨88,true,[(d9.l state (d8.l c [.int .i64 index,.ptr 1 0 0]))]⟩,some ⟨4,true,[[(f6 2 (List.map (d7 .u8) b2)),(f6 3 (List.map (d7 .u8) b3)),.int .i64 fuse,.bool down]]⟩,some ⟨1,false,(List.map (d7 .u8) b2)⟩,some ⟨1,false,(List.map (d7 .u8) b3)⟩] (Rs (cz8 state c index fuse down b2 b3) r):=so (fn:=Tryz.f68) (k:=true) (m:=4) h<| by
 intro r h;unfold aE0 at h
 refine zn 14 h fun h=> ?_
 refine zd 6 [] h (fun _=>ax0) fun y2 h=> ?_
 refine zs 0 h (fun h=> ?_) fun h=> ?_
 ·
  refine zs 11 h (fun h=> ?_) fun h=> ?_
  ·
   refine zs 17 h (fun h=> ?_) fun h=> ?_
   ·
    refine zs 10 h (fun h=> ?_) fun h=> ?_
    ·
     exact zu 12 h
    exact zu 10 h
   exact zu 19 h
  exact zu 33 h
 exact zu 43 h
end Go.RX.L

namespace Go.RX.L
open Go Go.RX Go.Proofs
attribute [local irreducible] f5
noncomputable def cr6 (c:d8) (index fuse:Int) (down:Bool) (b2 b3:List Int) (y:d9):D×f3:=(.tup [],[some ⟨88,true,[(d9.l y (d8.l c [.int .i64 index,.ptr 1 0 0]))]⟩,some ⟨4,true,[[(f6 2 (List.map (d7 .u8) b2)),(f6 3 (List.map (d7 .u8) b3)),.int .i64 fuse,.bool down]]⟩,some ⟨1,false,(List.map (d7 .u8) b2)⟩,some ⟨1,false,(List.map (d7 .u8) b3)⟩])
noncomputable def aw8 (p_:Plan) (now:Int) (state:d9) (c:d8) (index fuse:Int) (down:Bool) (b2 b3:List Int):Option d9:=(some (⟨state.boot,p_,now,state.votes,state.hold,state.asked,(⟨0,0,0,(⟨0,0,0,0,0,0,0,0,0,0,[],[]⟩:Plan),0,(⟨0,0,0,0,0,0,0,0,0,0,[],[]⟩:Plan),0,0⟩:i5),state.made,state.top,0,state.told⟩:d9))
theorem br5 {p_:Plan}{now:Int}{state:d9}{c:d8}{index fuse:Int}{down:Bool}{b2 b3:List Int}{r:d9} (h:aw8 p_ now state c index fuse down b2 b3=some r):i0 E 66 [.ptr 0 0 0,.agg (Plan.enc p_),.int .i64 now] [some ⟨88,true,[(d9.l state (d8.l c [.int .i64 index,.ptr 1 0 0]))]⟩,some ⟨4,true,[[(f6 2 (List.map (d7 .u8) b2)),(f6 3 (List.map (d7 .u8) b3)),.int .i64 fuse,.bool down]]⟩,some ⟨1,false,(List.map (d7 .u8) b2)⟩,some ⟨1,false,(List.map (d7 .u8) b3)⟩] (Rs (cr6 c index fuse down b2 b3) r):=so (fn:=Tryz.f66) (k:=true) (m:=4) h<| by
 intro r h;unfold aw8 at h
 refine zf 38 [.blk 0 [some 1,some 1,some 1,some 1]] ?_
 exact zu 1 h
end Go.RX.L

namespace Go.RX.L
open Go Go.RX Go.Proofs
attribute [local irreducible] f5
noncomputable def cI6 (state:d9) (c:d8) (index fuse:Int) (down:Bool) (b2 b3:List Int) (y:Bool):D×f3:=(.bool y,[some ⟨88,true,[(d9.l state (d8.l c [.int .i64 index,.ptr 1 0 0]))]⟩,some ⟨4,true,[[(f6 2 (List.map (d7 .u8) b2)),(f6 3 (List.map (d7 .u8) b3)),.int .i64 fuse,.bool down]]⟩,some ⟨1,false,(List.map (d7 .u8) b2)⟩,some ⟨1,false,(List.map (d7 .u8) b3)⟩])
noncomputable def ay0 (now:Int) (state:d9) (c:d8) (index fuse:Int) (down:Bool) (b2 b3:List Int):Option Bool:=(bif (decide ((now:Int)<0)) then (some true) else (bif (decide ((now:Int)>1099511627776)) then (some true) else (bif ((state.boot:Int)==0) then (some true) else ((aq7 (⟨b2,b3,fuse,down⟩:q0)).bind fun y4=>(some y4)))))
theorem bz4 {now:Int}{state:d9}{c:d8}{index fuse:Int}{down:Bool}{b2 b3:List Int}{r:Bool} (h:ay0 now state c index fuse down b2 b3=some r):i0 E 49 [.ptr 0 0 0,.int .i64 now] [some ⟨88,true,[(d9.l state (d8.l c [.int .i64 index,.ptr 1 0 0]))]⟩,some ⟨4,true,[[(f6 2 (List.map (d7 .u8) b2)),(f6 3 (List.map (d7 .u8) b3)),.int .i64 fuse,.bool down]]⟩,some ⟨1,false,(List.map (d7 .u8) b2)⟩,some ⟨1,false,(List.map (d7 .u8) b3)⟩] (Rs (cI6 state c index fuse down b2 b3) r):=so (fn:=Tryz.f49) (k:=true) (m:=4) h<| by
 intro r h;unfold ay0 at h
 refine zs 10 h (fun h=> ?_) fun h=> ?_
 ·
  exact zu 35 h
 refine zs 6 h (fun h=> ?_) fun h=> ?_
 ·
  exact zu 28 h
 refine zs 15 h (fun h=> ?_) fun h=> ?_
 ·
  exact zu 13 h
 refine zm 9 (b:=(Nat.ble (0+(List.map (d7 .u8) b2).length) ((List.map (d7 .u8) b2).length))) (u7 _) ?_
 refine zm 0 (b:=(Nat.ble (0+(List.map (d7 .u8) b3).length) ((List.map (d7 .u8) b3).length))) (u7 _) ?_
 refine zcE 0 [] (args1:= [.iptr 4 [[.sl false 1 (List.take ((List.map (d7 .u8) b2).length) (List.drop 0 (List.map (d7 .u8) b2))),.sl false 1 (List.take ((List.map (d7 .u8) b3).length) (List.drop 0 (List.map (d7 .u8) b3))),.int .i64 fuse,.bool down]] 0 0]) h (fun _=>bu0) ⟨by simp [d8.enc,d8.l,i5.enc,i5.l,n5.enc,n5.l,q0.enc,q0.l,e9.enc,e9.l,Op.enc,Op.l,Plan.enc,Plan.l,C6.enc,C6.l,i6.enc,i6.l,n7.enc,n7.l,l8.enc,l8.l,d9.enc,d9.l,List.take_of_length_le,List.map_take,List.map_drop],rfl⟩ fun y4 h=> ?_
 exact zu 5 h
end Go.RX.L

namespace Go.RX.L
open Go Go.RX Go.Proofs
attribute [local irreducible] f5
noncomputable def B8:=n8 (p6 Tryz.f32)
noncomputable def bs3 (c:d8) (index fuse:Int) (down:Bool) (b2 b3:List Int) (y:(List e9)×d9):D×f3:=(.sl false 26 (List.map e9.enc y.1),[some ⟨88,true,[(d9.l y.2 (d8.l c [.int .i64 index,.ptr 1 0 0]))]⟩,some ⟨4,true,[[(f6 2 (List.map (d7 .u8) b2)),(f6 3 (List.map (d7 .u8) b3)),.int .i64 fuse,.bool down]]⟩,some ⟨1,false,(List.map (d7 .u8) b2)⟩,some ⟨1,false,(List.map (d7 .u8) b3)⟩])
abbrev W3 (m:e9) (now:Int) (state:d9) (c:d8) (index fuse:Int) (down:Bool) (b2 b3:List Int):=AOk E (Cx.of Tryz.f32 true 4) (bs3 c index fuse down b2 b3)
noncomputable def bZ9 (m:e9) (now:Int) (state:d9) (c:d8) (index fuse:Int) (down:Bool) (b2 b3:List Int) (i:Int) (t252:Bool):M:=⟨[.code (B8 [1,1,1,0,1,0,1,1,1,1,1,1,1,1,1,1,1,1,1,0,1,1]),.blk 0,.code (B8 [1,1,1,1])],[(0,.ptr 0 0 0),(10,.int .i64 i),(252,.bool t252)],[some ⟨88,true,[(d9.l state (d8.l c [.int .i64 index,.ptr 1 0 0]))]⟩,some ⟨4,true,[[(f6 2 (List.map (d7 .u8) b2)),(f6 3 (List.map (d7 .u8) b3)),.int .i64 fuse,.bool down]]⟩,some ⟨1,false,(List.map (d7 .u8) b2)⟩,some ⟨1,false,(List.map (d7 .u8) b3)⟩]⟩
noncomputable def W0 (m:e9) (now:Int) (state:d9) (c:d8) (index fuse:Int) (down:Bool) (b2 b3:List Int) (i:Int) (t252:Bool):Option ((List e9)×d9):=(bif t252 then (bif (!decide ((i:Int)<0)) then (some ([],(⟨state.boot,state.known,state.heard,state.votes,state.hold,state.asked,state.prop,state.made,state.top,(orI .u64 state.sealed (E6 .u64 1 i)),state.told⟩:d9))) else none) else (some ([],state)))
theorem aV1 {m now state c index fuse down b2 b3 i t252}:W3 m now state c index fuse down b2 b3 (bZ9 m now state c index fuse down b2 b3 i t252) (W0 m now state c index fuse down b2 b3 i t252):=by
 intro r h;unfold W0 at h
 refine zs 1 h (fun h=> ?_) fun h=> ?_
 ·
  refine zn 2 h fun h=> ?_
  exact zu 8 h [.slot 0 [some 26]]
 exact zu 7 h [.slot 0 [some 26]]
noncomputable def ca3 (m:e9) (now:Int) (state:d9) (c:d8) (index fuse:Int) (down:Bool) (b2 b3:List Int) (t216:Bool):M:=⟨[.code (B8 [1,1,1,0,1,0,1,1,1,1,1,1,1,1,1,1,1,0,1]),.blk 0,.code (B8 [1,1,1,1])],[(0,.ptr 0 0 0),(2,.int .i64 now),(4,.ptr 4 0 0),(216,.bool t216)],[some ⟨88,true,[(d9.l state (d8.l c [.int .i64 index,.ptr 1 0 0]))]⟩,some ⟨4,true,[[(f6 2 (List.map (d7 .u8) b2)),(f6 3 (List.map (d7 .u8) b3)),.int .i64 fuse,.bool down]]⟩,some ⟨1,false,(List.map (d7 .u8) b2)⟩,some ⟨1,false,(List.map (d7 .u8) b3)⟩,some ⟨26,false,[(e9.enc m)]⟩]⟩
noncomputable def X5 (m:e9) (now:Int) (state:d9) (c:d8) (index fuse:Int) (down:Bool) (b2 b3:List Int) (t216:Bool):Option ((List e9)×d9):=(bif t216 then ((aw8 m.Plan now state c index fuse down b2 b3).bind fun y2=>(some ([],y2))) else (some ([],state)))
theorem ay7 {m now state c index fuse down b2 b3 t216}:W3 m now state c index fuse down b2 b3 (ca3 m now state c index fuse down b2 b3 t216) (X5 m now state c index fuse down b2 b3 t216):=by
 intro r h;unfold X5 at h
 refine zs 1 h (fun h=> ?_) fun h=> ?_
 ·
  refine zc 7 [] h (fun _=>br5) fun y2 h=> ?_
  exact zu 7 h [.slot 0 [some 26]]
 exact zu 7 h [.slot 0 [some 26]]
noncomputable def cb0 (m:e9) (now:Int) (state:d9) (c:d8) (index fuse:Int) (down:Bool) (b2 b3:List Int) (t168:Bool) (state2:d9):M:=⟨[.code (B8 [1,1,1,0,1,0,1,1,1,1,1,1,1,0,1,1]),.blk 0,.code (B8 [1,1,1,1])],[(0,.ptr 0 0 0),(2,.int .i64 now),(168,.bool t168)],[some ⟨88,true,[(d9.l state2 (d8.l c [.int .i64 index,.ptr 1 0 0]))]⟩,some ⟨4,true,[[(f6 2 (List.map (d7 .u8) b2)),(f6 3 (List.map (d7 .u8) b3)),.int .i64 fuse,.bool down]]⟩,some ⟨1,false,(List.map (d7 .u8) b2)⟩,some ⟨1,false,(List.map (d7 .u8) b3)⟩]⟩
noncomputable def ah6 (m:e9) (now:Int) (state:d9) (c:d8) (index fuse:Int) (down:Bool) (b2 b3:List Int) (t168:Bool) (state2:d9):Option ((List e9)×d9):=(bif t168 then ((aw8 state2.prop.Value now state2 c index fuse down b2 b3).bind fun y2=>((as8 now y2 c index fuse down b2 b3).bind fun y3=>(some (y3.1,y3.2)))) else (some ([],state2)))
theorem aV3 {m now state c index fuse down b2 b3 t168 state2}:W3 m now state c index fuse down b2 b3 (cb0 m now state c index fuse down b2 b3 t168 state2) (ah6 m now state c index fuse down b2 b3 t168 state2):=by
 intro r h;unfold ah6 at h
 refine zs 1 h (fun h=> ?_) fun h=> ?_
 ·
  refine zc 12 [] h (fun _=>br5) fun y2 h=> ?_
  refine zc 6 [] h (fun _=>bu2) fun y3 h=> ?_
  exact zu 3 h
 exact zu 7 h [.slot 0 [some 26]]
noncomputable def bZ6 (m:e9) (now:Int) (state:d9) (c:d8) (index fuse:Int) (down:Bool) (b2 b3:List Int) (t117:Bool) (state2:d9):M:=⟨[.code (B8 [1,1,1,0,1,0,1,1,1,1,1,0,1,1]),.blk 0,.code (B8 [1,1,1,1])],[(0,.ptr 0 0 0),(117,.bool t117)],[some ⟨88,true,[(d9.l state2 (d8.l c [.int .i64 index,.ptr 1 0 0]))]⟩,some ⟨4,true,[[(f6 2 (List.map (d7 .u8) b2)),(f6 3 (List.map (d7 .u8) b3)),.int .i64 fuse,.bool down]]⟩,some ⟨1,false,(List.map (d7 .u8) b2)⟩,some ⟨1,false,(List.map (d7 .u8) b3)⟩]⟩
noncomputable def ai4 (m:e9) (now:Int) (state:d9) (c:d8) (index fuse:Int) (down:Bool) (b2 b3:List Int) (t117:Bool) (state2:d9):Option ((List e9)×d9):=(bif t117 then ((K6 state2 c index fuse down b2 b3).bind fun y2=>((I7 (⟨7,0,0,state2.prop.Epoch,state2.prop.Ballot,0,0,0,0,0,true,state2.prop.Value,[],[],[]⟩:e9) state2 c index fuse down b2 b3).bind fun y3=>(some (y3,state2)))) else (some ([],state2)))
theorem aV5 {m now state c index fuse down b2 b3 t117 state2}:W3 m now state c index fuse down b2 b3 (bZ6 m now state c index fuse down b2 b3 t117 state2) (ai4 m now state c index fuse down b2 b3 t117 state2):=by
 intro r h;unfold ai4 at h
 refine zs 1 h (fun h=> ?_) fun h=> ?_
 ·
  refine zdR 2 [] h (fun _=>au3) fun y2 h=> ?_
  refine zc 3 [some 1,some 1,some 1] h (fun _=>ac3) fun y3 h=> ?_
  refine bX2 6 (n1:=(0+(List.map e9.enc y3).length)) (n2:=((List.map e9.enc y3).length)) (raw:=(List.take ((List.map e9.enc y3).length) (List.drop 0 (List.map e9.enc y3)))) (rs:=(List.map e9.enc y3)) (by kernel_rfl) (u7 _) (by simp only [z7,E3,List.map_take,List.map_drop]) ?_
  exact zu 1 h
 exact zu 7 h [.slot 0 [some 26]]
noncomputable def cc7 (m:e9) (now:Int) (state:d9) (c:d8) (index fuse:Int) (down:Bool) (b2 b3:List Int) (t74:Bool):M:=⟨[.code (B8 [1,1,1,0,1,0,1,1,1,0,1]),.blk 0,.code (B8 [1,1,1,1])],[(0,.ptr 0 0 0),(4,.ptr 4 0 0),(74,.bool t74)],[some ⟨88,true,[(d9.l state (d8.l c [.int .i64 index,.ptr 1 0 0]))]⟩,some ⟨4,true,[[(f6 2 (List.map (d7 .u8) b2)),(f6 3 (List.map (d7 .u8) b3)),.int .i64 fuse,.bool down]]⟩,some ⟨1,false,(List.map (d7 .u8) b2)⟩,some ⟨1,false,(List.map (d7 .u8) b3)⟩,some ⟨26,false,[(e9.enc m)]⟩]⟩
noncomputable def W6 (m:e9) (now:Int) (state:d9) (c:d8) (index fuse:Int) (down:Bool) (b2 b3:List Int) (t74:Bool):Option ((List e9)×d9):=(bif t74 then ((aJ4 state.hold c m).bind fun y2=>(some ([],(⟨state.boot,state.known,state.heard,state.votes,y2,state.asked,state.prop,state.made,state.top,state.sealed,state.told⟩:d9)))) else (some ([],state)))
theorem aV7 {m now state c index fuse down b2 b3 t74}:W3 m now state c index fuse down b2 b3 (cc7 m now state c index fuse down b2 b3 t74) (W6 m now state c index fuse down b2 b3 t74):=by
 intro r h;unfold W6 at h
 refine zs 1 h (fun h=> ?_) fun h=> ?_
 ·
  refine zd 4 [] h (fun _=>cv8) fun y2 h=> ?_
  exact zu 8 h [.slot 0 [some 26]]
 exact zu 7 h [.slot 0 [some 26]]
noncomputable def cb6 (m:e9) (now:Int) (state:d9) (c:d8) (index fuse:Int) (down:Bool) (b2 b3:List Int) (t19:Bool):M:=⟨[.code (B8 [1,0,1]),.code (B8 [1,1])],[(0,.ptr 0 0 0),(2,.int .i64 now),(4,.ptr 4 0 0),(19,.bool t19)],[some ⟨88,true,[(d9.l state (d8.l c [.int .i64 index,.ptr 1 0 0]))]⟩,some ⟨4,true,[[(f6 2 (List.map (d7 .u8) b2)),(f6 3 (List.map (d7 .u8) b3)),.int .i64 fuse,.bool down]]⟩,some ⟨1,false,(List.map (d7 .u8) b2)⟩,some ⟨1,false,(List.map (d7 .u8) b3)⟩,some ⟨26,false,[(e9.enc m)]⟩]⟩
noncomputable def R0 (m:e9) (now:Int) (state:d9) (c:d8) (index fuse:Int) (down:Bool) (b2 b3:List Int) (t19:Bool):Option ((List e9)×d9):=(bif t19 then (some ([],state)) else (bif ((m.Kind:Int)==3) then ((X4 c 0).bind fun y3=>((aj6 m.From y3 c.Observers).bind fun y4=>(bif y4.2 then ((bc9 state.votes (⟨y4.1,m.Up,now⟩:i6)).bind fun y6=>(some ([],(⟨state.boot,state.known,state.heard,y6,state.hold,state.asked,state.prop,state.made,state.top,state.sealed,state.told⟩:d9)))) else (some ([],state))))) else (bif ((m.Kind:Int)==11) then (bif ((m.Code:Int)==2) then (W6 m now state c index fuse down b2 b3 state.asked.ever) else (W6 m now state c index fuse down b2 b3 false)) else (bif ((m.Kind:Int)==5) then ((ah2 state.prop c m).bind fun y10=>(bif ((state.prop.Phase:Int)==1) then (ai4 m now state c index fuse down b2 b3 ((y10.Phase:Int)==2) (⟨state.boot,state.known,state.heard,state.votes,state.hold,state.asked,y10,state.made,state.top,state.sealed,state.told⟩:d9)) else (ai4 m now state c index fuse down b2 b3 false (⟨state.boot,state.known,state.heard,state.votes,state.hold,state.asked,y10,state.made,state.top,state.sealed,state.told⟩:d9)))) else (bif ((m.Kind:Int)==8) then ((ad0 state.prop c m).bind fun y13=>(bif ((state.prop.Phase:Int)==2) then (ah6 m now state c index fuse down b2 b3 ((y13.Phase:Int)==3) (⟨state.boot,state.known,state.heard,state.votes,state.hold,state.asked,y13,state.made,state.top,state.sealed,state.told⟩:d9)) else (ah6 m now state c index fuse down b2 b3 false (⟨state.boot,state.known,state.heard,state.votes,state.hold,state.asked,y13,state.made,state.top,state.sealed,state.told⟩:d9)))) else (bif ((m.Kind:Int)==6) then (some ([],(⟨state.boot,state.known,state.heard,state.votes,state.hold,state.asked,state.prop,state.made,(u5 state.top m.Ballot),state.sealed,state.told⟩:d9))) else (bif ((m.Kind:Int)==9) then (bif m.HasPlan then ((aE0 m.Plan state c index fuse down b2 b3).bind fun y18=>(bif y18 then (X5 m now state c index fuse down b2 b3 (decide ((m.Plan.Epoch:Int)>state.known.Epoch))) else (X5 m now state c index fuse down b2 b3 false))) else (X5 m now state c index fuse down b2 b3 false)) else (bif ((m.Kind:Int)==13) then ((X2 c 0).bind fun y21=>((aj6 m.From y21 c.Targets).bind fun y22=>(bif y22.2 then (W0 m now state c index fuse down b2 b3 y22.1 ((m.Epoch:Int)==(IntKind.i64.wrap (state.known.Epoch+1)))) else (W0 m now state c index fuse down b2 b3 y22.1 false)))) else (some ([],state))))))))))
theorem aV9 {m now state c index fuse down b2 b3 t19}:W3 m now state c index fuse down b2 b3 (cb6 m now state c index fuse down b2 b3 t19) (R0 m now state c index fuse down b2 b3 t19):=by
 intro r h;unfold R0 at h
 refine zs 1 h (fun h=> ?_) fun h=> ?_
 ·
  exact zu 5 h [.slot 0 [some 26]]
 refine zs 26 h (fun h=> ?_) fun h=> ?_
 ·
  refine zd 4 [] h (fun _=>aV4) fun y3 h=> ?_
  refine zd 1 [] h (fun _=>br3) fun y4 h=> ?_
  refine zs 5 h (fun h=> ?_) fun h=> ?_
  ·
   refine zd 3 [] h (fun _=>cR1) fun y6 h=> ?_
   exact zu 8 h [.slot 0 [some 26]]
  exact zu 7 h [.slot 0 [some 26]]
 refine zs 6 h (fun h=> ?_) fun h=> ?_
 ·
  refine zs 8 h (fun h=> ?_) fun h=> ?_
  ·
   exact zg 14 (aV7 h)
  exact zg 13 (aV7 h)
 refine zs 6 h (fun h=> ?_) fun h=> ?_
 ·
  refine zd 5 [] h (fun _=>bN8) fun y10 h=> ?_
  refine zs 8 h (fun h=> ?_) fun h=> ?_
  ·
   exact zg 16 (aV5 h)
  exact zg 15 (aV5 h)
 refine zs 6 h (fun h=> ?_) fun h=> ?_
 ·
  refine zd 5 [] h (fun _=>bI7) fun y13 h=> ?_
  refine zs 8 h (fun h=> ?_) fun h=> ?_
  ·
   exact zg 16 (aV3 h)
  exact zg 15 (aV3 h)
 refine zs 6 h (fun h=> ?_) fun h=> ?_
 ·
  exact zu 11 h [.slot 0 [some 26]]
 refine zs 6 h (fun h=> ?_) fun h=> ?_
 ·
  refine zs 3 h (fun h=> ?_) fun h=> ?_
  ·
   refine zdR 4 [] h (fun _=>cn0) fun y18 h=> ?_
   refine zs 1 h (fun h=> ?_) fun h=> ?_
   ·
    exact zg 12 (ay7 h)
   exact zg 10 (ay7 h)
  exact zg 15 (ay7 h)
 refine zs 6 h (fun h=> ?_) fun h=> ?_
 ·
  refine zd 4 [] h (fun _=>aI3) fun y21 h=> ?_
  refine zd 1 [] h (fun _=>br3) fun y22 h=> ?_
  refine zs 2 h (fun h=> ?_) fun h=> ?_
  ·
   exact zg 12 (aV1 h)
  exact zg 10 (aV1 h)
 exact zu 7 h [.slot 0 [some 26]]
noncomputable def as1 (m:e9) (now:Int) (state:d9) (c:d8) (index fuse:Int) (down:Bool) (b2 b3:List Int):Option ((List e9)×d9):=((an6 m).bind fun y1=>(bif (!y1) then (R0 m now state c index fuse down b2 b3 true) else ((ay0 now state c index fuse down b2 b3).bind fun y3=>(R0 m now state c index fuse down b2 b3 y3))))
theorem cc6 {m:e9}{now:Int}{state:d9}{c:d8}{index fuse:Int}{down:Bool}{b2 b3:List Int}{r:(List e9)×d9} (h:as1 m now state c index fuse down b2 b3=some r):i0 E 32 [.ptr 0 0 0,.agg (e9.enc m),.int .i64 now] [some ⟨88,true,[(d9.l state (d8.l c [.int .i64 index,.ptr 1 0 0]))]⟩,some ⟨4,true,[[(f6 2 (List.map (d7 .u8) b2)),(f6 3 (List.map (d7 .u8) b3)),.int .i64 fuse,.bool down]]⟩,some ⟨1,false,(List.map (d7 .u8) b2)⟩,some ⟨1,false,(List.map (d7 .u8) b3)⟩] (Rs (bs3 c index fuse down b2 b3) r):=so (fn:=Tryz.f32) (k:=true) (m:=4) h<| by
 intro r h;unfold as1 at h
 refine zc 11 [] h (fun _=>br1) fun y1 h=> ?_
 refine zs 3 h (fun h=> ?_) fun h=> ?_
 ·
  exact zg 7 (aV9 h)
 refine zc 4 [] h (fun _=>bz4) fun y3 h=> ?_
 exact zg 3 (aV9 h)
end Go.RX.L

namespace Go.RX.L
open Go Go.RX Go.Proofs
attribute [local irreducible] f5
noncomputable def cB7 (c:d8) (index fuse:Int) (down:Bool) (b2 b3:List Int) (y:(List e9)×d9):D×f3:=(.sl false 26 (List.map e9.enc y.1),[some ⟨88,true,[(d9.l y.2 (d8.l c [.int .i64 index,.ptr 1 0 0]))]⟩,some ⟨4,true,[[(f6 2 (List.map (d7 .u8) b2)),(f6 3 (List.map (d7 .u8) b3)),.int .i64 fuse,.bool down]]⟩,some ⟨1,false,(List.map (d7 .u8) b2)⟩,some ⟨1,false,(List.map (d7 .u8) b3)⟩])
noncomputable def P9 (now:Int) (state:d9) (c:d8) (index fuse:Int) (down:Bool) (b2 b3:List Int):Option ((List e9)×d9):=((ay0 now state c index fuse down b2 b3).bind fun y1=>(bif y1 then (some ([],state)) else ((aE5 now state c index fuse down b2 b3).bind fun y3=>(bif (decide (((List.map e9.enc y3.1).length)*288≤i7)) then ((aK3 now y3.2 c index fuse down b2 b3).bind fun y5=>(bif (decide (((List.map e9.enc y3.1).length+(List.map e9.enc y5.1).length)*288≤i7)) then ((an3 now y5.2 c index fuse down b2 b3).bind fun y7=>(bif (decide (((List.map e9.enc (y3.1++y5.1)).length+(List.map e9.enc y7.1).length)*288≤i7)) then (some (((y3.1++y5.1)++y7.1),y7.2)) else none)) else none)) else none))))
theorem aQ0 {now:Int}{state:d9}{c:d8}{index fuse:Int}{down:Bool}{b2 b3:List Int}{r:(List e9)×d9} (h:P9 now state c index fuse down b2 b3=some r):i0 E 24 [.ptr 0 0 0,.int .i64 now] [some ⟨88,true,[(d9.l state (d8.l c [.int .i64 index,.ptr 1 0 0]))]⟩,some ⟨4,true,[[(f6 2 (List.map (d7 .u8) b2)),(f6 3 (List.map (d7 .u8) b3)),.int .i64 fuse,.bool down]]⟩,some ⟨1,false,(List.map (d7 .u8) b2)⟩,some ⟨1,false,(List.map (d7 .u8) b3)⟩] (Rs (cB7 c index fuse down b2 b3) r):=so (fn:=Tryz.f24) (k:=true) (m:=4) h<| by
 intro r h;unfold P9 at h
 refine zc 14 [] h (fun _=>bz4) fun y1 h=> ?_
 refine zs 2 h (fun h=> ?_) fun h=> ?_
 ·
  exact zu 5 h [.slot 0 [some 26]]
 refine zc 7 [] h (fun _=>cm4) fun y3 h=> ?_
 refine zn 1 h fun h=> ?_
 refine zc 9 [] h (fun _=>cB4) fun y5 h=> ?_
 refine zn 1 h fun h=> ?_
 refine za 0 e9.enc y3.1 y5.1 ?_
 refine zc 8 [] h (fun _=>bO8) fun y7 h=> ?_
 refine zn 1 h fun h=> ?_
 refine za 0 e9.enc (y3.1++y5.1) y7.1 ?_
 refine l5 hm 2 _ ?_
 refine bX2 4 (n1:=(0+(List.map e9.enc ((y3.1++y5.1)++y7.1)).length)) (n2:=((List.map e9.enc ((y3.1++y5.1)++y7.1)).length)) (raw:=(List.take ((List.map e9.enc ((y3.1++y5.1)++y7.1)).length) (List.drop 0 (List.map e9.enc ((y3.1++y5.1)++y7.1))))) (rs:=(List.map e9.enc ((y3.1++y5.1)++y7.1))) (by kernel_rfl) (u7 _) (by simp only [z7,E3,List.map_take,List.map_drop]) ?_
 exact zu 1 h
end Go.RX.L

namespace Go.RX.L
open Go Go.RX
def aU0 (p:Plan):Prop:=Rt p∧bf8 p
def bX8:i5:=⟨0,0,0,v7,0,v7,0,0⟩
/-- A proposal of what comes behind an epoch. -/
structure PI (p : i5) (e : Int) : Prop where
  pr : n4 .u64 p.Promises
  ac : n4 .u64 p.Accepts
  ph : p.Phase = 0 ∨ ((p.Phase = 1 ∨ p.Phase = 2) ∧ p.Epoch = e + 1 ∧ (aU0 p.Own ∧ p.Own.Epoch = p.Epoch) ∧ 0 ≤ p.Best ∧ (0 < p.Best → aU0 p.Value ∧ p.Value.Epoch = p.Epoch) ∧ (p.Phase = 2 → aU0 p.Value ∧ p.Value.Epoch = p.Epoch))
theorem PI0 (e:Int):PI bX8 e:=⟨J7.2 (by decide),J7.2 (by decide),.inl rfl⟩
/-- What a decider keeps true. -/
structure DI (c : d8) (st : d9) (M : Int) (i : Nat) : Prop where
  kn : aU0 st.known
  vl : st.votes.length ≤ i
  vo : ∀ v ∈ st.votes, VOk v
  gr : n4 .u64 st.hold.Grants
  bo : 0 ≤ st.boot ∧ st.boot ≤ M
  mi : M ≤ i
  tp : 0 ≤ st.top
  pi : PI st.prop st.known.Epoch
theorem cs6 {p:i5}{c:d8}{m:e9}{e:Int} (h:PI p e) (hr:C3 m=true) (hf:al9 m):
  PI (J1 p c m) e∧(J1 p c m).Epoch=p.Epoch∧(J1 p c m).Ballot=p.Ballot∧((J1 p c m).Phase=p.Phase∨(p.Phase=1∧(J1 p c m).Phase=2)):=by
 have hu:=da8 c m h.pr
 obtain ⟨h1,h2,h3⟩:=h
 cases hc:toP p c m 5 1&&cr0 p m with
 | false=>
  have e:J1 p c m=p:=by unfold J1;rw [hc];rfl
  rw [e];exact ⟨⟨h1,h2,h3⟩,rfl,rfl,.inl rfl⟩
 | true=>
  have hc2:=hc
  simp only [Bool.and_eq_true] at hc2
  have ph1:p.Phase=1:=by have:=hc2.1;simp only [toP,Bool.and_eq_true,decide_eq_true_eq] at this;exact this.1
  have wl:m.HasPlan=true→m.Plan.Epoch=p.Epoch:=fun hp=>by
   have:=hc2.2
   simp only [cr0,hp,Bool.true_and,Bool.not_eq_true',decide_eq_false_iff_not,Decidable.not_not] at this
   exact this
  have ep:J1 p c m=st3 (st2 (st1 p m) m) c:=by unfold J1;rw [hc];rfl
  rcases h3 with h3 | ⟨h4,h5,h6,h7,h8,h9⟩
  ·omega
  have b:∃q:i5,st2 (st1 p m) m=q∧q.Phase=1∧q.Epoch=p.Epoch∧q.Ballot=p.Ballot∧q.Own=p.Own∧q.Accepts=p.Accepts∧0≤q.Best∧(0<q.Best→aU0 q.Value∧q.Value.Epoch=p.Epoch):=by
   refine ⟨_,rfl,?_⟩
   unfold st2
   cases hh:m.HasPlan&&decide (m.Accepted>(st1 p m).Best) with
   | false=>exact ⟨ph1,rfl,rfl,rfl,rfl,h7,h8⟩
   | true=>
    simp only [Bool.and_eq_true,decide_eq_true_eq] at hh
    have hb:(st1 p m).Best=p.Best:=rfl
    rw [hb] at hh
    exact ⟨ph1,rfl,rfl,rfl,rfl,by simp only [cond_true];omega,fun _=>⟨⟨bj1 hr hh.1,hf.pl⟩,wl hh.1⟩⟩
  obtain ⟨q,hq,q1,q2,q3,q4,q5,q6,q7⟩:=b
  rw [ep,hq]
  rw [ep,hq] at hu
  unfold st3 at hu ⊢
  cases hm:aQ2 c q.Promises.toNat with
  | false=>
   rw [hm] at hu
   exact ⟨⟨hu,by simp only [cond_false];rw [q5];exact h2,.inr ⟨.inl q1,by simp only [cond_false];rw [q2];exact h5,by simp only [cond_false];rw [q4,q2];exact h6,q6,by simp only [cond_false];rw [q2];exact q7,fun h=>by simp only [cond_false] at h;omega⟩⟩,q2,q3,.inl (by simp only [cond_false];omega)⟩
  | true=>
   rw [hm] at hu
   simp only [cond_true] at hu ⊢
   have v:aU0 (bif decide (q.Best=0) then q.Own else q.Value)∧(bif decide (q.Best=0) then q.Own else q.Value).Epoch=p.Epoch:=by
    by_cases hb:q.Best=0
    ·rw [decide_eq_true hb];simp only [cond_true];rw [q4];exact h6
    ·rw [decide_eq_false hb];simp only [cond_false];exact q7 (by omega)
   exact ⟨⟨hu,by simp only;rw [q5];exact h2,.inr ⟨.inr rfl,by simp only;rw [q2];exact h5,by simp only;rw [q4,q2];exact h6,q6,fun _=>by simp only;rw [q2];exact v,fun _=>by simp only;rw [q2];exact v⟩⟩,q2,q3,.inr ⟨ph1,trivial⟩⟩
theorem cf5 {p:i5}{c:d8}{m:e9}{e:Int} (h:PI p e):(U4 p c m).Value=p.Value∧(((U4 p c m).Phase=p.Phase∧PI (U4 p c m) e)∨(p.Phase=2∧(U4 p c m).Phase=3)):=by
 have hu:=cY4 c m h.ac
 obtain ⟨h1,h2,h3⟩:=h
 unfold U4 at hu ⊢
 cases hc:toP p c m 8 2 with
 | false=>exact ⟨rfl,.inl ⟨rfl,⟨h1,h2,h3⟩⟩⟩
 | true=>
  have ph:p.Phase=2:=by simp only [toP,Bool.and_eq_true,decide_eq_true_eq] at hc;exact hc.1
  rw [hc] at hu
  simp only [cond_true] at hu ⊢
  refine ⟨trivial,?_⟩
  cases aQ2 c (orP p.Accepts m.From.toNat).toNat with
  | true=>exact .inr ⟨ph,rfl⟩
  | false=>exact .inl ⟨rfl,⟨h1,hu,h3⟩⟩
def bQ7 (st:d9) (p:Plan) (now:Int):d9:={ st with known:=p,heard:=now,prop:=bX8,sealed:=0 }
def ea9 (p:i5):e9:=⟨7,0,0,p.Epoch,p.Ballot,0,0,0,0,0,true,p.Value,[],[],[]⟩
/-- What a message does. -/
inductive HR (c : d8) (ix : Int) (st : d9) (m : e9) (now : Int) : List e9 → d9 → Prop
  | same : HR c ix st m now [] st
  | vote {v : i6} : VOk v → HR c ix st m now [] { st with votes := bJ3 st.votes v }
  | hold : HR c ix st m now [] { st with hold := ax1 st.hold c m }
  | prom : ¬(st.prop.Phase = 1 ∧ (J1 st.prop c m).Phase = 2) → HR c ix st m now [] { st with prop := J1 st.prop c m }
  | acc : st.prop.Phase = 1 → (J1 st.prop c m).Phase = 2 → HR c ix st m now (toL c ix (ea9 (J1 st.prop c m)) (av6 c)) { st with prop := J1 st.prop c m }
  | accd : ¬(st.prop.Phase = 2 ∧ (U4 st.prop c m).Phase = 3) → HR c ix st m now [] { st with prop := U4 st.prop c m }
  | learn : m.Kind = 8 → st.prop.Phase = 2 → HR c ix st m now (toL c ix (dz6 st.prop.Value) (bx2 c ix)) (cQ0 (bQ7 st st.prop.Value now) now)
  | nack : HR c ix st m now [] { st with top := u5 st.top m.Ballot }
  | told : m.Kind = 9 → Rt m.Plan → m.Plan.Epoch > st.known.Epoch → HR c ix st m now [] (bQ7 st m.Plan now)
  | shut {x : Int} : HR c ix st m now [] { st with sealed := x }
section
variable {c : d8} {ix : Int} {st : d9} {fuse : Int} {down : Bool} {s t : List Int} {M : Int} {i : Nat}
theorem cY5 (now:Int):ay0 now st c ix fuse down s t=some (decide (now<0) || (decide (now>1099511627776) || (decide (st.boot=0) || down))):=by
 simp only [ay0,aq7,Option.bind_some]
 cases decide (now<0)<;>cases decide (now>1099511627776)<;>simp
 by_cases h:st.boot=0<;>simp [h,beqF']
where beqF' :∀{a b:Int},¬a=b→(a==b)=false:=fun h=>beq_eq_false_iff_ne.2 h
theorem dQ4 (cb:CB c) {p:Plan} (hf:bf8 p):∃b,aE0 p st c ix fuse down s t=some b∧(b=true→Rt p):=by
 have nt:(!decide (c.Targets<0))=true:=by have:=cb.t;simp;omega
 simp only [aE0,nt,cond_true,aY1 hf.s hf.up hf.sup,Option.bind_some]
 cases hr:Z5 p with
 | false=>exact ⟨false,rfl,fun h=>by cases h⟩
 | true=>
  have r:=af0.1 hr
  simp only [cond_true]
  have key:∀(a b d e:Bool),∃x,(bif a then (bif b then (bif d then some e else some false) else some false) else some false)=some x∧(x=true→Rt p):=fun a b d e=>by
   cases a<;>cases b<;>cases d<;>exact ⟨_,rfl,fun _=>r⟩
  exact key _ _ _ _
theorem cT8 {node first many:Int} (h1:0≤node∧node≤255) (h2:0≤first∧first≤255) (h3:0≤many∧many≤255):∃b,aj6 node first many=some (node-first,b)∧(b=true→0≤node-first∧node-first<many):=by
 simp only [aj6,u4 (n:=node-first) (by omega) (by omega),u4 (n:=first+many) (by omega) (by omega)]
 by_cases h:node≥first
 ·rw [decide_eq_true h];exact ⟨_,rfl,fun h=>by have:=of_decide_eq_true h;omega⟩
 ·rw [decide_eq_false h];exact ⟨_,rfl,fun h=>by cases h⟩
theorem ds0 {m:e9}{now:Int} (h:DI c st M i) (cb:CB c) (hix:0≤ix∧ix≤4) (hf:al9 m) (hi:i≤300):
  ∃out st',as1 m now st c ix fuse down s t=some (out,st')∧((out= []∧st' =st)∨(C3 m=true∧0≤now∧now≤1099511627776∧st.boot≠0∧down=false∧HR c ix st m now out st')):=by
 have up:∀b:Bool,R0 m now st c ix fuse down s t true=some ([],st):=fun _=>rfl
 simp only [as1,bu1 hf.sh,Option.bind_some,cY5]
 cases hr:C3 m with
 | false=>exact ⟨[],st,rfl,.inl ⟨rfl,rfl⟩⟩
 | true=>
  simp only [Bool.not_true,cond_false]
  cases ho:decide (now<0) || (decide (now>1099511627776) || (decide (st.boot=0) || down)) with
  | true=>exact ⟨[],st,rfl,.inl ⟨rfl,rfl⟩⟩
  | false=>
   simp only [Bool.or_eq_false_iff,decide_eq_false_iff_not] at ho
   obtain ⟨o1,o2,o3,o4⟩:=ho
   subst o4
   have wrap:∀{out st'},HR c ix st m now out st' →(out= []∧st' =st)∨(C3 m=true∧0≤now∧now≤1099511627776∧st.boot≠0∧false=false∧HR c ix st m now out st'):=fun hh=> .inr ⟨hr,by omega,by omega,o3,rfl,hh⟩
   have key:∃out st',R0 m now st c ix fuse false s t false=some (out,st')∧HR c ix st m now out st' :=by
    obtain ⟨hd,-,-⟩:=am6 hr
    have hF:0≤m.From∧m.From≤255:=by unfold hdM at hd;omega
    have cF:=cb.f;have cD:=cb.dec;have cT:=cb.t;have cR:=cb.rou;have cO:=cb.obs
    unfold R0
    simp only [cond_false]
    by_cases k3:m.Kind=3
    ·rw [beq_iff_eq.2 k3]
     obtain ⟨b,hb,hb2⟩:=cT8 hF (first:=t0 c (c.Deciders+c.Targets+c.Routers+0)) (many:=c.Observers) (by unfold t0;omega) (by omega)
     simp only [cond_true,cU4 cb (i:=0) (by omega),Option.bind_some,hb]
     cases b with
     | false=>exact ⟨_,_,rfl,.same⟩
     | true=>
      have hv:=hb2 rfl
      have hup:=J7.1 hf.sh.up
      have vok:VOk ⟨m.From-t0 c (c.Deciders+c.Targets+c.Routers+0),m.Up,now⟩:=⟨by simp only;omega,⟨hf.up,by unfold hdM at hd;simp only;omega⟩,by simp only;omega⟩
      simp only [cond_true,dM6 st.votes ⟨m.From-t0 c (c.Deciders+c.Targets+c.Routers+0),m.Up,now⟩ (by have:=h.vl;omega),Option.bind_some]
      exact ⟨_,_,rfl,.vote vok⟩
    rw [beq_eq_false_iff_ne.2 k3]
    by_cases k11:m.Kind=11
    ·rw [beq_iff_eq.2 k11]
     have h2:∀b,∃out st',W6 m now st c ix fuse false s t b=some (out,st')∧HR c ix st m now out st' :=fun b=>by
      cases b with
      | false=>exact ⟨_,_,rfl,.same⟩
      | true=>simp only [W6,dB2 st.hold c m h.gr,Option.bind_some,cond_true];exact ⟨_,_,rfl,.hold⟩
     simp only [cond_true,cond_false]
     cases (m.Code==2) with
     | true=>exact h2 st.asked.ever
     | false=>exact h2 false
    rw [beq_eq_false_iff_ne.2 k11]
    by_cases k5:m.Kind=5
    ·rw [beq_iff_eq.2 k5]
     simp only [cond_true,cond_false,dj0 st.prop c m h.pi.pr,Option.bind_some]
     by_cases p1:st.prop.Phase=1
     ·rw [beq_iff_eq.2 p1]
      simp only [cond_true]
      by_cases p2:(J1 st.prop c m).Phase=2
      ·rw [beq_iff_eq.2 p2]
       have h0:∀st:d9,K6 st c ix fuse false s t=some ():=fun _=>rfl
       simp only [ai4,cond_true,h0,Option.bind_some,bn8 cb (show 0≤ix∧ix≤100 by omega)]
       exact ⟨_,_,rfl,.acc p1 p2⟩
      ·rw [beq_eq_false_iff_ne.2 p2]
       exact ⟨_,_,rfl,.prom fun hh=>p2 hh.2⟩
     ·rw [beq_eq_false_iff_ne.2 p1]
      exact ⟨_,_,rfl,.prom fun hh=>p1 hh.1⟩
    rw [beq_eq_false_iff_ne.2 k5]
    by_cases k8:m.Kind=8
    ·rw [beq_iff_eq.2 k8]
     simp only [cond_true,cond_false,dd0 st.prop c m h.pi.ac,Option.bind_some]
     by_cases p1:st.prop.Phase=2
     ·rw [beq_iff_eq.2 p1]
      simp only [cond_true]
      by_cases p2:(U4 st.prop c m).Phase=3
      ·rw [beq_iff_eq.2 p2]
       have hl:∀(p:Plan) (st:d9),aw8 p now st c ix fuse false s t=some (bQ7 st p now):=fun _ _=>rfl
       simp only [ah6,cond_true,hl,Option.bind_some,dg0 cb (show 0≤ix∧ix≤100 by omega)]
       have ev:=(cf5 (c:=c) (m:=m) h.pi).1
       refine ⟨_,_,rfl,?_⟩
       have:=HR.learn (c:=c) (ix:=ix) (now:=now) k8 p1
       rw [←ev] at this
       exact this
      ·rw [beq_eq_false_iff_ne.2 p2]
       exact ⟨_,_,rfl,.accd fun hh=>p2 hh.2⟩
     ·rw [beq_eq_false_iff_ne.2 p1]
      exact ⟨_,_,rfl,.accd fun hh=>p1 hh.1⟩
    rw [beq_eq_false_iff_ne.2 k8]
    by_cases k6:m.Kind=6
    ·rw [beq_iff_eq.2 k6]
     exact ⟨_,_,rfl,.nack⟩
    rw [beq_eq_false_iff_ne.2 k6]
    by_cases k9:m.Kind=9
    ·rw [beq_iff_eq.2 k9]
     simp only [cond_true,cond_false]
     have h5:X5 m now st c ix fuse false s t false=some ([],st):=rfl
     cases hp:m.HasPlan with
     | false=>exact ⟨_,_,h5,.same⟩
     | true=>
      obtain ⟨b,hb,hb2⟩:=dQ4 (st:=st) (ix:=ix) (fuse:=fuse) (down:=false) (s:=s) (t:=t) cb hf.pl
      simp only [cond_true,hb,Option.bind_some]
      cases b with
      | false=>exact ⟨_,_,h5,.same⟩
      | true=>
       simp only [cond_true]
       by_cases he:m.Plan.Epoch>st.known.Epoch
       ·rw [decide_eq_true he]
        exact ⟨_,_,rfl,.told k9 (hb2 rfl) he⟩
       ·rw [decide_eq_false he]
        exact ⟨_,_,h5,.same⟩
    rw [beq_eq_false_iff_ne.2 k9]
    by_cases k13:m.Kind=13
    ·rw [beq_iff_eq.2 k13]
     obtain ⟨b,hb,hb2⟩:=cT8 hF (first:=t0 c (c.Deciders+0)) (many:=c.Targets) (by unfold t0;omega) (by omega)
     have h6:∀x,W0 m now st c ix fuse false s t x false=some ([],st):=fun _=>rfl
     simp only [cond_true,cond_false,ci9 cb (i:=0) (by omega),Option.bind_some,hb]
     cases b with
     | false=>exact ⟨_,_,h6 (m.From-t0 c (c.Deciders+0)),.same⟩
     | true=>
      have hv:=hb2 rfl
      have n0:(!decide (m.From-t0 c (c.Deciders+0)<0))=true:=by rw [decide_eq_false (by omega)];rfl
      simp only [cond_true]
      cases (m.Epoch==IntKind.i64.wrap (st.known.Epoch+1)) with
      | false=>exact ⟨_,_,h6 (m.From-t0 c (c.Deciders+0)),.same⟩
      | true=>simp only [W0,cond_true,n0];exact ⟨_,_,rfl,.shut⟩
    ·rw [beq_eq_false_iff_ne.2 k13]
     exact ⟨_,_,rfl,.same⟩
   obtain ⟨out,st',h1,h2⟩:=key
   exact ⟨out,st',h1,(wrap h2).imp id fun x=>⟨trivial,x.2⟩⟩
end
end Go.RX.L

namespace Go.RX.L
open Go Go.RX
def dH2 (e:Int):e9:=⟨12,0,0,e,0,0,0,0,0,0,false,v7,[],[],[]⟩
def bY4 (e b code:Int) (p:Plan):e9:=⟨4,0,0,e,b,0,0,0,0,code,true,p,[],[],[]⟩
def am0 (e b:Int) (n:Plan):i5:=⟨e,b,1,dm1 n e,0,v7,0,0⟩
def isT (c:d8) (x:Int):Prop:=∃k:Int,0≤k∧k<c.Targets∧x=t0 c (c.Deciders+k)
/-- What is proposed. -/
inductive PR (c : d8) (ix now : Int) (st : d9) : List e9 → d9 → Prop
  | same : PR c ix now st [] st
  | none : PR c ix now st [] { st with prop := bX8 }
  | go {n : Plan} {b code : Int} {open_ : List Int} : st.boot ≠ 0 → bG0 st.hold 0 now = true → aW3 c st.known → au1 c st.known (bn9 st.votes c.Observers now c.Fresh) now = (n, true) →
      st.top < b → b % 16777216 = st.boot * 16 + ix → b < 18014398509481984 → (code = 0 ∨ code = 1) → open_.length ≤ 16 → (∀ x ∈ open_, isT c x) →
      PR c ix now st (toL c ix (dH2 (st.known.Epoch + 1)) open_ ++ toL c ix (bY4 (st.known.Epoch + 1) b code st.known) (av6 c)) { st with prop := am0 (st.known.Epoch + 1) b n, made := now, top := b }
section
variable {c : d8} {ix : Int} {st : d9} {fuse : Int} {down : Bool} {s t : List Int} {M : Int} {i : Nat} {now : Int}
theorem ck1:ak4 now st c ix fuse down s t=some (decide (st.boot≠0)&&(!down&&bG0 st.hold 0 now)):=by
 simp only [ak4,aq7,Option.bind_some,dN4]
 by_cases h:st.boot=0
 ·rw [bneF2 h,decide_eq_false (by simp [h])];rfl
 ·rw [bne_iff_ne.2 h,decide_eq_true h];cases down<;>rfl
where bneF2:∀{a b:Int},a=b→(a !=b)=false:=fun h=>by rw [h];simp
theorem du1 (p:Plan) (x:Int):∃b,aS8 p x=some b:=by
 unfold aS8
 cases decide (x≥0) with
 | false=>exact ⟨_,rfl⟩
 | true=>
  cases (x==p.Target) with
  | true=>exact ⟨_,rfl⟩
  | false=>
   cases (x==p.Prev) with
   | false=>exact ⟨_,rfl⟩
   | true=>cases decide (p.Percent<100)<;>exact ⟨_,rfl⟩
theorem dq9 (cb:CB c) {ch:Bool}{b:Int}{st2:d9}:∀(j k:Nat) (named open_:List Int),((k+j:Nat):Int)=c.Targets→named.length≤k→open_.length≤k→(∀x∈open_,isT c x)→
  ∃named' open',named'.length≤16∧open'.length≤16∧(∀x∈open',isT c x)∧∀r,Ev (m9 now st c ix fuse down s t) (.s4 ch b open' st2 named') r→Ev (m9 now st c ix fuse down s t) (.s2 ch b c.Targets (k:Int) st2 named open_) r:=by
 have cT:=cb.t
 intro j
 induction j with
 | zero=>
  intro k named open_ hk hn ho hx
  refine ⟨named,open_,by omega,by omega,hx,fun r h=> .next (s' := .s4 ch b open_ st2 named) ?_ h⟩
  have:decide ((k:Int)<c.Targets)=false:=decide_eq_false (by omega)
  simp only [m9,O2,this,cond_false]
 | succ j ih=>
  intro k named open_ hk hn ho hx
  have lt:decide ((k:Int)<c.Targets)=true:=decide_eq_true (by omega)
  have n0:(!decide ((k:Int)<0))=true:=by rw [decide_eq_false (by omega)];rfl
  obtain ⟨nb,hnb⟩:=du1 st2.known (k:Int)
  have l1:decide ((named.length+1)*8≤i7)=true:=D3 (by omega)
  have l2:decide ((open_.length+1)*8≤i7)=true:=D3 (by omega)
  have hw:=wD (show k≤3000000 by omega)
  have ht:=ci9 cb (i:=(k:Int)) (by omega)
  have e1:((k+1+j:Nat):Int)=c.Targets:=by omega
  cases nb with
  | false=>
   obtain ⟨n',o',h1,h2,h3,h4⟩:=ih (k+1) named open_ e1 (by omega) (by omega) hx
   refine ⟨n',o',h1,h2,h3,fun r h=> .next (s' := .s2 ch b c.Targets ((k+1:Nat):Int) st2 named open_) ?_ (h4 r h)⟩
   simp only [m9,O2,lt,cond_true,hnb,Option.bind_some,cond_false,hw]
  | true=>
   cases hs:((i9 .u64 (m7 .u64 st2.sealed (k:Int)) 1)==0) with
   | false=>
    obtain ⟨n',o',h1,h2,h3,h4⟩:=ih (k+1) (named++ [(k:Int)]) open_ e1 (by simp;omega) (by omega) hx
    refine ⟨n',o',h1,h2,h3,fun r h=> .next (s' := .s2 ch b c.Targets ((k+1:Nat):Int) st2 (named++ [(k:Int)]) open_) ?_ (h4 r h)⟩
    simp only [m9,O2,lt,cond_true,hnb,Option.bind_some,List.length_map,l1,n0,hs,cond_false,hw]
   | true=>
    have hx2:∀x∈open_++ [t0 c (c.Deciders+k)],isT c x:=fun x h=>by
     rcases List.mem_append.1 h with h | h
     ·exact hx x h
     ·exact ⟨k,by omega,by omega,List.mem_singleton.1 h⟩
    obtain ⟨n',o',h1,h2,h3,h4⟩:=ih (k+1) (named++ [(k:Int)]) (open_++ [t0 c (c.Deciders+k)]) e1 (by simp;omega) (by simp;omega) hx2
    refine ⟨n',o',h1,h2,h3,fun r h=> .next (s' := .s2 ch b c.Targets ((k+1:Nat):Int) st2 (named++ [(k:Int)]) (open_++ [t0 c (c.Deciders+k)])) ?_ (h4 r h)⟩
    simp only [m9,O2,lt,cond_true,hnb,Option.bind_some,List.length_map,l1,n0,hs,ht,l2,hw]
theorem dh6 (m:e9) (l:List Int):(toL c ix m l).length=l.length:=by simp [toL]
theorem di3 (h:DI c st M i) (hc:Z0 c=true) (ht:c.Tiers.length<9223372036854775807) (hix:0≤ix∧ix≤4) (hi:i≤300) (hn:0≤now∧now≤1099511627776) (hd:down=false):
  ∃out st',an3 now st c ix fuse down s t=some (out,st')∧PR c ix now st out st' :=by
 subst hd
 have cb:=aD1 hc
 have cT:=cb.t
 have b1:∃b:Bool,m9 now st c ix fuse false s t .s0=some (.inl (.s1 b))∧(b=false→st.boot≠0∧bG0 st.hold 0 now=true):=by
  simp only [m9,ad8,ck1,Option.bind_some]
  cases hl:(decide (st.boot≠0)&&(!false&&bG0 st.hold 0 now)) with
  | false=>exact ⟨true,rfl,fun h=>by cases h⟩
  | true=>
   simp only [Bool.and_eq_true,decide_eq_true_eq,Bool.not_false,true_and] at hl
   cases (st.prop.Phase !=0) with
   | true=>exact ⟨_,rfl,fun _=>hl⟩
   | false=>exact ⟨_,rfl,fun _=>hl⟩
 obtain ⟨b,hb,hlead⟩:=b1
 cases b with
 | true=>exact ⟨[],st,u0 (.next hb (.done rfl)),.same⟩
 | false=>
  obtain ⟨hboot,hlive⟩:=hlead rfl
  obtain ⟨r,hr,hr2⟩:=dZ0 hc ht h.kn.2.s h.kn.2.up h.kn.2.sup (ds6 st.votes c.Observers now c.Fresh) hn.1
  have htal:=dU0 (l:=st.votes) (o:=c.Observers) (n:=now) (f:=c.Fresh) (by have:=h.vl;omega) h.vo (by have:=cb.obs;omega)
  obtain ⟨n,is⟩:=r
  cases is with
  | false=>
   refine ⟨[],{ st with prop:=bX8 },u0 (.next hb (.done ?_)),.none⟩
   simp only [m9,ac9,cond_false,htal,Option.bind_some,hr,Bool.not_false,cond_true];rfl
  | true=>
   obtain ⟨hfit,-,hnx⟩:=hr2 rfl
   have s3:∃ch d:Bool,m9 now st c ix fuse false s t (.s1 false)=some (.inl (.s3 ch d n)):=by
    simp only [m9,ac9,cond_false,htal,Option.bind_some,hr,Bool.not_true]
    cases (n.Target !=st.known.Target)<;>exact ⟨_,_,rfl⟩
   obtain ⟨ch,d,h3⟩:=s3
   cases d with
   | true=>exact ⟨[],st,u0 (.next hb (.next h3 (.done rfl))),.same⟩
   | false=>
    obtain ⟨⟨b,e⟩,hbal,hb2⟩:=dM0 (b:=st.top) (boot:=st.boot) (index:=ix) h.tp (by have:=h.bo;have:=h.mi;omega) (by omega)
    by_cases he:e=0
    ·subst he
     obtain ⟨t1,t2,t3⟩:=hb2 rfl
     have hE:=hfit.e
     have hE0:=hfit.r.epoch
     have w1:IntKind.i64.wrap (st.known.Epoch+1)=st.known.Epoch+1:=u4 (by omega) (by omega)
     have s2:m9 now st c ix fuse false s t (.s3 ch false n)=some (.inl (.s2 ch b c.Targets ((0:Nat):Int) { st with prop:=am0 (st.known.Epoch+1) b n,made:=now,top:=b } [] [])):=by
      simp only [m9,ae4,cond_false,hbal,Option.bind_some,bne_self_eq_false,dD4,w1];rfl
     obtain ⟨named,op,g1,g2,g3,g4⟩:=dq9 (now:=now) (st:=st) (ix:=ix) (fuse:=fuse) (down:=false) (s:=s) (t:=t) (ch:=ch) (b:=b) (st2:={ st with prop:=am0 (st.known.Epoch+1) b n,made:=now,top:=b }) cb c.Targets.toNat 0 [] [] (by omega) (by simp) (by simp) (by simp)
     have hacc:∀m (st:d9),I7 m st c ix fuse false s t=some (toL c ix m (av6 c)):=fun m st=>bn8 cb (by omega) m
     have h0:∀st:d9,K6 st c ix fuse false s t=some ():=fun _=>rfl
     have hal:=bG8 cb
     --the last steps
     have fin:∀(out:List e9) (st2:d9) (ask:e9),out.length≤100→Ev (m9 now st c ix fuse false s t) (.s5 st2 out ask) (out++toL c ix ask (av6 c),st2):=fun out st2 ask ho=>by
      refine .done ?_
      have lim:decide ((out.length+(toL c ix ask (av6 c)).length)*288≤i7)=true:=D3 (by rw [dh6];omega)
      simp only [m9,aq0,h0,Option.bind_some,hacc,List.drop_zero,List.length_map,List.length_take,Nat.min_self,lim,cond_true]
     have six:∀(out:List e9) (q:Bool) (st2:d9),out.length≤100→∃code,(code=0∨code=1)∧Ev (m9 now st c ix fuse false s t) (.s6 q st2 out (bY4 (st.known.Epoch+1) b 0 st.known)) (out++toL c ix (bY4 (st.known.Epoch+1) b code st.known) (av6 c),st2):=fun out q st2 ho=>by
      cases q with
      | false=>exact ⟨0,.inl rfl,.next rfl (fin out st2 _ ho)⟩
      | true=>exact ⟨1,.inr rfl,.next rfl (fin out st2 (bY4 (st.known.Epoch+1) b 1 st.known) ho)⟩
     have seven:∀(out:List e9),out.length≤100→∃code,(code=0∨code=1)∧Ev (m9 now st c ix fuse false s t) (.s7 b op { st with prop:=am0 (st.known.Epoch+1) b n,made:=now,top:=b } named out) (out++toL c ix (bY4 (st.known.Epoch+1) b code st.known) (av6 c),{ st with prop:=am0 (st.known.Epoch+1) b n,made:=now,top:=b }):=fun out ho=>by
      have st7:∃q,m9 now st c ix fuse false s t (.s7 b op { st with prop:=am0 (st.known.Epoch+1) b n,made:=now,top:=b } named out)=some (.inl (.s6 q { st with prop:=am0 (st.known.Epoch+1) b n,made:=now,top:=b } out (bY4 (st.known.Epoch+1) b 0 st.known))):=by
       simp only [m9,ap7]
       cases decide (((List.map (d7 .i64) named).length:Int)>0)<;>exact ⟨_,rfl⟩
      obtain ⟨q,h7⟩:=st7
      obtain ⟨code,k1,k2⟩:=six out q { st with prop:=am0 (st.known.Epoch+1) b n,made:=now,top:=b } ho
      exact ⟨code,k1,.next h7 k2⟩
     cases hch:ch with
     | true=>
      obtain ⟨code,k1,k2⟩:=seven (toL c ix (dH2 (st.known.Epoch+1)) op) (by rw [dh6];omega)
      refine ⟨_,_,u0 (.next hb (.next h3 (.next s2 (g4 _ (.next ?_ k2))))),.go (n:=n) hboot hlive hfit hnx.symm t1 t2 t3 k1 g2 g3⟩
      have hv:aL3 op=some op:=rfl
      rw [hch]
      simp only [m9,ap6,cond_true,hv,Option.bind_some,dq2 op (show op.length≤100 by omega) cb (show 0≤ix∧ix≤100 by omega)];rfl
     | false=>
      obtain ⟨code,k1,k2⟩:=seven [] (by simp)
      refine ⟨_,_,u0 (.next hb (.next h3 (.next s2 (g4 _ (.next ?_ k2))))),PR.go (n:=n) (open_:= []) hboot hlive hfit hnx.symm t1 t2 t3 k1 (by simp) (by simp)⟩
      rw [hch];rfl
    ·refine ⟨[],st,u0 (.next hb (.next h3 (.done ?_))),.same⟩
     simp only [m9,ae4,cond_false,hbal,Option.bind_some,bne_iff_ne.2 he,cond_true]
def cx7 (c:d8) (ix now:Int) (st:d9):d9:=(aX1 c ix now (af5 c ix now st).2).2
theorem dE8 (cb:CB c):(af5 c ix now st).1.length≤7:=by
 have:=bG8 cb
 unfold af5;split<;>simp [toL];omega
theorem dO5 (cb:CB c):(aX1 c ix now st).1.length≤24:=by
 have:=cR3 cb ix
 unfold aX1;split<;>simp [toL];omega
theorem de6:∃ho a to,cx7 c ix now st={ st with hold:=ho,asked:=a,told:=to }∧(ho=st.hold∨ho=cX3 st.hold 0 now):=by
 unfold cx7 aX1 af5
 split<;>split<;>first | exact ⟨_,_,_,rfl,.inl rfl⟩ | exact ⟨_,_,_,rfl,.inr rfl⟩
theorem dh8 (h:DI c st M i):DI c (cx7 c ix now st) M i:=by
 obtain ⟨ho,a,to,he,hh⟩:=de6 (c:=c) (ix:=ix) (now:=now) (st:=st)
 rw [he]
 refine ⟨h.kn,h.vl,h.vo,?_,h.bo,h.mi,h.tp,h.pi⟩
 rcases hh with rfl | rfl
 ·exact h.gr
 ·exact J7.2 (by simp [cX3])
theorem dW3 (cb:CB c) {out:List e9}{st' :d9} (h:PR c ix now st out st'):out.length≤23:=by
 have:=bG8 cb
 cases h with
 | same=>simp
 | none=>simp
 | go _ _ _ _ _ _ _ _ h1 _=>simp [toL];omega
theorem dK4 (h:DI c st M i) (hc:Z0 c=true) (ht:c.Tiers.length<9223372036854775807) (hix:0≤ix∧ix≤4) (hi:i≤300):
  ∃out st',P9 now st c ix fuse down s t=some (out,st')∧((out= []∧st' =st)∨(0≤now∧now≤1099511627776∧st.boot≠0∧down=false∧∃o3,out=(af5 c ix now st).1++(aX1 c ix now (af5 c ix now st).2).1++o3∧PR c ix now (cx7 c ix now st) o3 st')):=by
 have cb:=aD1 hc
 simp only [P9,cY5,Option.bind_some]
 cases ho:decide (now<0) || (decide (now>1099511627776) || (decide (st.boot=0) || down)) with
 | true=>exact ⟨[],st,rfl,.inl ⟨rfl,rfl⟩⟩
 | false=>
  simp only [Bool.or_eq_false_iff,decide_eq_false_iff_not] at ho
  obtain ⟨o1,o2,o3,o4⟩:=ho
  obtain ⟨out,st',h1,h2⟩:=di3 (fuse:=fuse) (s:=s) (t:=t) (dh8 (ix:=ix) (now:=now) h) hc ht hix hi (now:=now) (by omega) o4
  have l1:=dE8 (ix:=ix) (now:=now) (st:=st) cb
  have l2:=dO5 (ix:=ix) (now:=now) (st:=(af5 c ix now st).2) cb
  have l3:=dW3 cb h2
  have e1:decide ((af5 c ix now st).1.length*288≤i7)=true:=D3 (by omega)
  have e2:decide (((af5 c ix now st).1.length+(aX1 c ix now (af5 c ix now st).2).1.length)*288≤i7)=true:=D3 (by omega)
  have e3:decide ((((af5 c ix now st).1.length+(aX1 c ix now (af5 c ix now st).2).1.length)+out.length)*288≤i7)=true:=D3 (by omega)
  refine ⟨_,st',?_,.inr ⟨by omega,by omega,o3,o4,out,rfl,h2⟩⟩
  have h1' :an3 now (aX1 c ix now (af5 c ix now st).2).2 c ix fuse down s t=some (out,st'):=h1
  simp only [cond_false,dg7 cb (show 0≤ix∧ix≤100 by omega),dr0 cb (show 0≤ix∧ix≤100 by omega),Option.bind_some,List.length_map,List.map_append,List.length_append,e1,e2,e3,cond_true,h1']
/-! ### what stays true -/
theorem DI.more {M' :Int}{j:Nat} (h:DI c st M i) (h1:i≤j) (h2:M≤M') (h3:M' ≤j):DI c st M' j:=⟨h.kn,by have:=h.vl;omega,h.vo,h.gr,by have:=h.bo;omega,h3,h.tp,h.pi⟩
theorem dX8 {m:e9}{out:List e9}{st' :d9} (h:DI c st M i) (hr:C3 m=true) (hf:al9 m) (hh:HR c ix st m now out st'):DI c st' M (i+1):=by
 have hv:=h.vl
 have hmi:M≤((i+1:Nat):Int):=by have:=h.mi;omega
 cases hh with
 | same=>exact h.more (by omega) (Int.le_refl _) hmi
 | vote vok=>
  rename_i v
  refine ⟨h.kn,?_,?_,h.gr,h.bo,hmi,h.tp,h.pi⟩
  ·have:=dE3 st.votes v;simp only;omega
  ·intro x hx
   rcases dC7 hx with hx | rfl
   ·exact h.vo x hx
   ·exact vok
 | hold=>exact ⟨h.kn,by simp only;omega,h.vo,dp9 _ _ _ h.gr,h.bo,hmi,h.tp,h.pi⟩
 | prom _=>exact ⟨h.kn,by simp only;omega,h.vo,h.gr,h.bo,hmi,h.tp,(cs6 h.pi hr hf).1⟩
 | acc _ _=>exact ⟨h.kn,by simp only;omega,h.vo,h.gr,h.bo,hmi,h.tp,(cs6 h.pi hr hf).1⟩
 | accd hno=>
  refine ⟨h.kn,by simp only;omega,h.vo,h.gr,h.bo,hmi,h.tp,?_⟩
  rcases (cf5 (c:=c) (m:=m) h.pi).2 with ⟨_,h2⟩ | h2
  ·exact h2
  ·exact absurd h2 hno
 | learn _ h2=>
  have hp:=h.pi.ph
  refine ⟨?_,by simp only [cQ0,bQ7];omega,h.vo,h.gr,h.bo,hmi,h.tp,PI0 _⟩
  rcases hp with hp | ⟨-,-,-,-,-,hp⟩
  ·omega
  ·exact (hp h2).1
 | nack=>exact ⟨h.kn,by simp only;omega,h.vo,h.gr,h.bo,hmi,by have:=h.tp;have:=cR9 st.top m.Ballot;simp only;omega,h.pi⟩
 | told _ h2 _=>exact ⟨⟨h2,hf.pl⟩,by simp only [bQ7];omega,h.vo,h.gr,h.bo,hmi,h.tp,PI0 _⟩
 | shut=>exact ⟨h.kn,by simp only;omega,h.vo,h.gr,h.bo,hmi,h.tp,h.pi⟩
theorem dA8 {e b:Int}{n:Plan} (hg:aU0 (dm1 n (e+1))):PI (am0 (e+1) b n) e:=
 ⟨J7.2 (by simp [am0]),J7.2 (by simp [am0]),.inr ⟨.inl rfl,rfl,⟨hg,rfl⟩,by simp [am0],fun h=>by simp [am0] at h,fun h=>by simp [am0] at h⟩⟩
theorem dM3 (cb:CB c) (hn:0≤now) {n:Plan}{u:Nat} (hfit:aW3 c st.known) (hnx:au1 c st.known u now=(n,true)):aU0 n∧n.Epoch=st.known.Epoch+1∧dm1 n (st.known.Epoch+1)=n:=by
 obtain ⟨r1,r2,r3,r4⟩:=dI9 cb hfit u hn (by rw [hnx])
 rw [hnx] at r1 r2 r3 r4
 have hE:=hfit.e
 have hE0:=hfit.r.epoch
 refine ⟨⟨r1,⟨aa6.2 (by simp only at r2;omega),r3,r4,r1.shrt⟩⟩,r2,?_⟩
 rw [←r2];rfl
theorem dY6 (cb:CB c) (hn:0≤now) {out:List e9}{st' :d9} (h:DI c st M i) (hh:PR c ix now st out st'):DI c st' M i:=by
 cases hh with
 | same=>exact h
 | none=>exact ⟨h.kn,h.vl,h.vo,h.gr,h.bo,h.mi,h.tp,PI0 _⟩
 | go h1 h2 hfit hnx t1 t2 t3 k1 k2 k3=>
  obtain ⟨g1,g2,g3⟩:=dM3 cb hn hfit hnx
  exact ⟨h.kn,h.vl,h.vo,h.gr,h.bo,h.mi,by have:=h.tp;simp only;omega,dA8 (by rw [g3];exact g1)⟩
end
end Go.RX.L

namespace Go.RX.L
open Go Go.RX Go.Proofs
attribute [local irreducible] f5
noncomputable def cK1 (y:Int×Bool×(List Int)×(List Int)):D×f3:=(.ptr 0 0 0,[some ⟨4,true,[[(f6 1 (List.map (d7 .u8) y.2.2.1)),(f6 2 (List.map (d7 .u8) y.2.2.2)),.int .i64 y.1,.bool y.2.1]]⟩,some ⟨1,false,(List.map (d7 .u8) y.2.2.1)⟩,some ⟨1,false,(List.map (d7 .u8) y.2.2.2)⟩])
noncomputable def ba7:Option (Int×Bool×(List Int)×(List Int)):=(some ((-1),false,[],[]))
theorem cw4 {r:Int×Bool×(List Int)×(List Int)} (h:ba7=some r):i0 E 28 [] [] (Rs cK1 r):=so (fn:=Tryz.f28) (k:=true) (m:=0) h<| by
 intro r h;unfold ba7 at h
 refine zf 10 [.matc 0 0 0 1,.matc 0 0 1 1] ?_
 exact zu 1 h
end Go.RX.L

namespace Go.RX.L
open Go Go.RX Go.Proofs
attribute [local irreducible] f5
noncomputable def bL8:=n8 (p6 Tryz.f8)
inductive al0 where
 | r0
 | r1 (a0:d9) (a1:Int) (a2:Bool) (a3:List Int) (a4:List Int)
noncomputable def bN2 (c:d8) (index:Int):al0→D×f3
 | .r0=>(.nilp,[])
 | .r1 a0 a1 a2 a3 a4=>(.ptr 0 0 0,[some ⟨88,true,[(d9.l a0 (d8.l c [.int .i64 index,.ptr 1 0 0]))]⟩,some ⟨4,true,[[(f6 2 (List.map (d7 .u8) a3)),(f6 3 (List.map (d7 .u8) a4)),.int .i64 a1,.bool a2]]⟩,some ⟨1,false,(List.map (d7 .u8) a3)⟩,some ⟨1,false,(List.map (d7 .u8) a4)⟩])
abbrev cM6 (c:d8) (index:Int):=AOk E (Cx.of Tryz.f8 true 0) (bN2 c index)
noncomputable def cD6 (c:d8) (index:Int) (t17:Bool):M:=⟨[.code (bL8 [1,0,1]),.code (bL8 [1,1])],[(1,.int .i64 index),(2,.ptr 0 0 0),(17,.bool t17)],[some ⟨30,false,[(d8.enc c)]⟩]⟩
noncomputable def Q3 (c:d8) (index:Int) (t17:Bool):Option al0:=(bif t17 then (some (al0.r0)) else ((ay5 c).bind fun y2=>((ba7).bind fun y3=>(some (al0.r1 (⟨0,y2,0,[],(⟨0,0,0,0⟩:n5),(⟨false,0⟩:S0),(⟨0,0,0,(⟨0,0,0,0,0,0,0,0,0,0,[],[]⟩:Plan),0,(⟨0,0,0,0,0,0,0,0,0,0,[],[]⟩:Plan),0,0⟩:i5),0,0,0,(⟨false,0⟩:S0)⟩:d9) y3.1 y3.2.1 y3.2.2.1 y3.2.2.2)))))
theorem aN4 {c index t17}:cM6 c index (cD6 c index t17) (Q3 c index t17):=by
 intro r h;unfold Q3 at h
 refine zs 1 h (fun h=> ?_) fun h=> ?_
 ·
  exact zu 5 h
 refine zd 4 [] h (fun _=>bE2) fun y2 h=> ?_
 refine zc 1 [] h (fun _=>cw4) fun y3 h=> ?_
 refine zf 0 [.blk 4 [some 3,some 1,some 1,some 1,some 1]] ?_
 exact zu 1 h
noncomputable def ao5 (c:d8) (index:Int):Option al0:=((ah8 c).bind fun y1=>(bif (!y1) then (Q3 c index true) else (bif (decide ((index:Int)<0)) then (Q3 c index true) else (Q3 c index (decide ((index:Int)≥c.Deciders))))))
theorem aW7 {c:d8}{index:Int}{r:al0} (h:ao5 c index=some r):i0 E 8 [.agg (d8.enc c),.int .i64 index] [] (Rs (bN2 c index) r):=so (fn:=Tryz.f8) (k:=true) (m:=0) h<| by
 intro r h;unfold ao5 at h
 refine zc 11 [] h (fun _=>aU3) fun y1 h=> ?_
 refine zs 3 h (fun h=> ?_) fun h=> ?_
 ·
  exact zg 16 (aN4 h)
 refine zs 6 h (fun h=> ?_) fun h=> ?_
 ·
  exact zg 9 (aN4 h)
 exact zg 10 (aN4 h)
end Go.RX.L

namespace Go.RX.L
open Go Go.RX Go.Proofs
attribute [local irreducible] f5
noncomputable def ca9 (state:d9) (c:d8) (index fuse:Int) (down:Bool) (b2 b3:List Int) (y:Unit):D×f3:=(.ptr 1 0 0,[some ⟨88,true,[(d9.l state (d8.l c [.int .i64 index,.ptr 1 0 0]))]⟩,some ⟨4,true,[[(f6 2 (List.map (d7 .u8) b2)),(f6 3 (List.map (d7 .u8) b3)),.int .i64 fuse,.bool down]]⟩,some ⟨1,false,(List.map (d7 .u8) b2)⟩,some ⟨1,false,(List.map (d7 .u8) b3)⟩])
noncomputable def O9 (state:d9) (c:d8) (index fuse:Int) (down:Bool) (b2 b3:List Int):Option Unit:=(some ())
theorem aE1 {state:d9}{c:d8}{index fuse:Int}{down:Bool}{b2 b3:List Int}{r:Unit} (h:O9 state c index fuse down b2 b3=some r):i0 E 23 [.ptr 0 0 0] [some ⟨88,true,[(d9.l state (d8.l c [.int .i64 index,.ptr 1 0 0]))]⟩,some ⟨4,true,[[(f6 2 (List.map (d7 .u8) b2)),(f6 3 (List.map (d7 .u8) b3)),.int .i64 fuse,.bool down]]⟩,some ⟨1,false,(List.map (d7 .u8) b2)⟩,some ⟨1,false,(List.map (d7 .u8) b3)⟩] (Rs (ca9 state c index fuse down b2 b3) r):=so (fn:=Tryz.f23) (k:=true) (m:=4) h<| by
 intro r h;unfold O9 at h
 exact zu 14 h
end Go.RX.L

namespace Go.RX.L
open Go Go.RX Go.Proofs
attribute [local irreducible] f5
noncomputable def cq9 (state:d9) (c:d8) (index fuse:Int) (down:Bool) (b2 b3:List Int) (y:Plan):D×f3:=(.agg (Plan.enc y),[some ⟨88,true,[(d9.l state (d8.l c [.int .i64 index,.ptr 1 0 0]))]⟩,some ⟨4,true,[[(f6 2 (List.map (d7 .u8) b2)),(f6 3 (List.map (d7 .u8) b3)),.int .i64 fuse,.bool down]]⟩,some ⟨1,false,(List.map (d7 .u8) b2)⟩,some ⟨1,false,(List.map (d7 .u8) b3)⟩])
noncomputable def ac7 (state:d9) (c:d8) (index fuse:Int) (down:Bool) (b2 b3:List Int):Option Plan:=(some state.known)
theorem aN0 {state:d9}{c:d8}{index fuse:Int}{down:Bool}{b2 b3:List Int}{r:Plan} (h:ac7 state c index fuse down b2 b3=some r):i0 E 12 [.ptr 0 0 0] [some ⟨88,true,[(d9.l state (d8.l c [.int .i64 index,.ptr 1 0 0]))]⟩,some ⟨4,true,[[(f6 2 (List.map (d7 .u8) b2)),(f6 3 (List.map (d7 .u8) b3)),.int .i64 fuse,.bool down]]⟩,some ⟨1,false,(List.map (d7 .u8) b2)⟩,some ⟨1,false,(List.map (d7 .u8) b3)⟩] (Rs (cq9 state c index fuse down b2 b3) r):=so (fn:=Tryz.f12) (k:=true) (m:=4) h<| by
 intro r h;unfold ac7 at h
 exact zu 18 h
end Go.RX.L

namespace Go.RX.L
open Go Go.RX Go.Proofs
attribute [local irreducible] f5
noncomputable def ar2:=n8 (p6 Tryz.f7)
noncomputable def bT8 (y:Bool):D×f3:=(.bool y,[])
abbrev aT8:=AOk E (Cx.of Tryz.f7 false 0) bT8
noncomputable def cL8:M:=⟨[.code (ar2 [1,1,1,0,1]),.code (ar2 [1,1,1,1])],[(2,.nilp),(29,.bool true)],[]⟩
noncomputable def bp2:Option Bool:=(some false)
theorem cn8:aT8 cL8 (bp2):=by
 intro r h;unfold bp2 at h
 exact zu 7 h
noncomputable def cJ3 (c:d8):M:=⟨[.code (ar2 [1,1,1])],[(1,.ptr 0 0 0),(2,.nilp)],[some ⟨30,false,[(d8.enc c)]⟩]⟩
noncomputable def bq5 (c:d8):Option Bool:=(bp2)
theorem cl9 {c}:aT8 (cJ3 c) (bq5 c):=by
 intro r h;unfold bq5 at h
 exact zg 44 (cn8 h)
noncomputable def cK6 (t29:Bool) (state:d9) (c:d8) (index fuse:Int) (down:Bool) (b2 b3:List Int):M:=⟨[.code (ar2 [1,1,1,0,1]),.code (ar2 [1,1,1,1])],[(2,.ptr 0 0 0),(29,.bool t29)],[some ⟨88,true,[(d9.l state (d8.l c [.int .i64 index,.ptr 1 0 0]))]⟩,some ⟨4,true,[[(f6 2 (List.map (d7 .u8) b2)),(f6 3 (List.map (d7 .u8) b3)),.int .i64 fuse,.bool down]]⟩,some ⟨1,false,(List.map (d7 .u8) b2)⟩,some ⟨1,false,(List.map (d7 .u8) b3)⟩]⟩
noncomputable def ar0 (t29:Bool) (state:d9) (c:d8) (index fuse:Int) (down:Bool) (b2 b3:List Int):Option Bool:=(bif t29 then (some false) else ((P9 0 state c index fuse down b2 b3).bind fun y2=>(bif (((((List.map e9.enc y2.1).length:Nat):Int):Int)==3) then (bif (decide ((0:Int)<(((List.map e9.enc y2.1).length:Nat):Int))) then (((y2.1)[0]?).bind fun y5=>(bif ((y5.Kind:Int)==10) then (bif (decide ((0:Int)<(((List.map e9.enc y2.1).length:Nat):Int))) then (((y2.1)[0]?).bind fun y9=>(bif ((y9.Code:Int)==2) then ((ak4 0 y2.2 c index fuse down b2 b3).bind fun y12=>(bif (!y12) then ((ac7 y2.2 c index fuse down b2 b3).bind fun y14=>(some ((y14.Target:Int)==(-1)))) else (some false))) else (some false))) else none) else (some false))) else none) else (some false))))
theorem aR3 {t29 state c index fuse down b2 b3}:aT8 (cK6 t29 state c index fuse down b2 b3) (ar0 t29 state c index fuse down b2 b3):=by
 intro r h;unfold ar0 at h
 refine zs 1 h (fun h=> ?_) fun h=> ?_
 ·
  exact zu 5 h
 refine zc 5 [] h (fun _=>aQ0) fun y2 h=> ?_
 refine zs 9 h (fun h=> ?_) fun h=> ?_
 ·
  refine zn 2 h fun h=> ?_
  refine zr 4 e9.enc h fun y5 h=> ?_
  refine zs 6 h (fun h=> ?_) fun h=> ?_
  ·
   refine zn 2 h fun h=> ?_
   refine zr 4 e9.enc h fun y9 h=> ?_
   refine zs 6 h (fun h=> ?_) fun h=> ?_
   ·
    refine zc 2 [] h (fun _=>br4) fun y12 h=> ?_
    refine zs 6 h (fun h=> ?_) fun h=> ?_
    ·
     refine zc 2 [] h (fun _=>aN0) fun y14 h=> ?_
     exact zu 9 h
    exact zu 11 h
   exact zu 20 h
  exact zu 33 h
 exact zu 46 h
noncomputable def cO1 (c:d8) (state:d9) (c2:d8) (index fuse:Int) (down:Bool) (b3 b4:List Int):M:=⟨[.code (ar2 [1,1,1])],[(1,.ptr 0 0 0),(2,.ptr 1 0 0)],[some ⟨30,false,[(d8.enc c)]⟩,some ⟨88,true,[(d9.l state (d8.l c2 [.int .i64 index,.ptr 2 0 0]))]⟩,some ⟨4,true,[[(f6 3 (List.map (d7 .u8) b3)),(f6 4 (List.map (d7 .u8) b4)),.int .i64 fuse,.bool down]]⟩,some ⟨1,false,(List.map (d7 .u8) b3)⟩,some ⟨1,false,(List.map (d7 .u8) b4)⟩]⟩
noncomputable def aR1 (c:d8) (state:d9) (c2:d8) (index fuse:Int) (down:Bool) (b3 b4:List Int):Option Bool:=((ao5 c 2).bind fun y1=>match y1 with | .r0=>((O9 state c2 index fuse down b3 b4).bind fun y2=>((P9 0 state c2 index fuse down b3 b4).bind fun y3=>(bif (((((List.map e9.enc y3.1).length:Nat):Int):Int) !=0) then (ar0 true y3.2 c2 index fuse down b3 b4) else ((al7 0 y3.2 c2 index fuse down b3 b4).bind fun y5=>(ar0 ((y5.1:Int) !=0) y5.2.1 c2 index y5.2.2.1 y5.2.2.2.1 y5.2.2.2.2.1 y5.2.2.2.2.2))))) | .r1 y1a0 y1a1 y1a2 y1a3 y1a4=>(ar0 true state c2 index fuse down b3 b4))
theorem ct8 {c state c2 index fuse down b3 b4}:aT8 (cO1 c state c2 index fuse down b3 b4) (aR1 c state c2 index fuse down b3 b4):=by
 intro r h;unfold aR1 at h
 refine zc 11 [] h (fun _=>aW7) fun y1 h=> ?_
 cases y1 with
 | r0=>
  dsimp only at h
  refine zc 9 [] h (fun _=>aE1) fun y2 h=> ?_
  refine zc 9 [] h (fun _=>aQ0) fun y3 h=> ?_
  refine zs 8 h (fun h=> ?_) fun h=> ?_
  ·
   exact zg 7 (aR3 h)
  refine zc 2 [] h (fun _=>bc1) fun y5 h=> ?_
  exact zg 5 (aR3 h)
 | r1 y1a0 y1a1 y1a2 y1a3 y1a4=>
  dsimp only at h
  exact zg 34 (aR3 h)
noncomputable def aS6:Option Bool:=((aZ7).bind fun y1=>((ao5 y1 0).bind fun y2=>match y2 with | .r0=>(bq5 y1) | .r1 y2a0 y2a1 y2a2 y2a3 y2a4=>(aR1 y1 y2a0 y1 0 y2a1 y2a2 y2a3 y2a4)))
theorem cJ6 {r:Bool} (h:aS6=some r):i0 E 7 [] [] (Rs bT8 r):=so (fn:=Tryz.f7) (k:=false) (m:=0) h<| by
 intro r h;unfold aS6 at h
 refine zc 7 [] h (fun _=>cA4) fun y1 h=> ?_
 refine zc 10 [] h (fun _=>aW7) fun y2 h=> ?_
 cases y2 with
 | r0=>
  dsimp only at h
  exact zg 2 (cl9 h)
 | r1 y2a0 y2a1 y2a2 y2a3 y2a4=>
  dsimp only at h
  exact zg 2 (ct8 h)
end Go.RX.L

namespace Go.RX.L
open Go Go.RX Go.Proofs
attribute [local irreducible] f5
noncomputable def cU6 (y:Int):D×f3:=(.int .i64 y,[])
noncomputable def bi6 (now:Int):Option Int:=(some (u5 0 (z9 now 1099511627776)))
theorem cJ8 {now r:Int} (h:bi6 now=some r):i0 E 31 [.int .i64 now] [] (Rs cU6 r):=so (fn:=Tryz.f31) (k:=false) (m:=0) h<| by
 intro r h;unfold bi6 at h
 exact zu 12 h
end Go.RX.L

namespace Go.RX.L
open Go Go.RX Go.Proofs
attribute [local irreducible] f5
noncomputable def da0 (c:d8) (index:Int) (y:(List e9)×d9×Int×Bool×(List Int)×(List Int)):D×f3:=(.sl false 26 (List.map e9.enc y.1),[some ⟨88,true,[(d9.l y.2.1 (d8.l c [.int .i64 index,.ptr 1 0 0]))]⟩,some ⟨4,true,[[(f6 4 (List.map (d7 .u8) y.2.2.2.2.1)),(f6 5 (List.map (d7 .u8) y.2.2.2.2.2)),.int .i64 y.2.2.1,.bool y.2.2.2.1]]⟩,none,none,some ⟨1,false,(List.map (d7 .u8) y.2.2.2.2.1)⟩,some ⟨1,false,(List.map (d7 .u8) y.2.2.2.2.2)⟩])
noncomputable def aR9 (o:Op) (state:d9) (c:d8) (index fuse:Int) (down:Bool) (b2 b3:List Int):Option ((List e9)×d9×Int×Bool×(List Int)×(List Int)):=(bif (((i9 .i64 o.What 7):Int)==1) then ((O9 state c index fuse down b2 b3).bind fun y2=>((aU4 o.N_ fuse down b2 b3).bind fun y3=>(some ([],state,y3,down,b2,b3)))) else (bif (((i9 .i64 o.What 7):Int)==2) then ((O9 state c index fuse down b2 b3).bind fun y5=>((al4 o.N_ fuse down b2 b3).bind fun y6=>(some ([],state,y6.1,y6.2.1,y6.2.2.1,y6.2.2.2)))) else (bif (((i9 .i64 o.What 7):Int)==3) then ((bi6 o.Now).bind fun y8=>((al7 y8 state c index fuse down b2 b3).bind fun y9=>(some ([],y9.2.1,y9.2.2.1,y9.2.2.2.1,y9.2.2.2.2.1,y9.2.2.2.2.2)))) else (bif (((i9 .i64 o.What 7):Int)==4) then ((P9 o.Now state c index fuse down b2 b3).bind fun y11=>(some (y11.1,y11.2,fuse,down,b2,b3))) else ((as1 o.M_ o.Now state c index fuse down b2 b3).bind fun y12=>(some (y12.1,y12.2,fuse,down,b2,b3)))))))
theorem cI9 {o:Op}{state:d9}{c:d8}{index fuse:Int}{down:Bool}{b2 b3:List Int}{r:(List e9)×d9×Int×Bool×(List Int)×(List Int)} (h:aR9 o state c index fuse down b2 b3=some r):i0 E 10 [.ptr 0 0 0,.agg (Op.enc o)] [some ⟨88,true,[(d9.l state (d8.l c [.int .i64 index,.ptr 1 0 0]))]⟩,some ⟨4,true,[[(f6 2 (List.map (d7 .u8) b2)),(f6 3 (List.map (d7 .u8) b3)),.int .i64 fuse,.bool down]]⟩,some ⟨1,false,(List.map (d7 .u8) b2)⟩,some ⟨1,false,(List.map (d7 .u8) b3)⟩] (Rs (da0 c index) r):=so (fn:=Tryz.f10) (k:=true) (m:=4) h<| by
 intro r h;unfold aR9 at h
 refine zs 20 h (fun h=> ?_) fun h=> ?_
 ·
  refine zdR 1 [] h (fun _=>aE1) fun y2 h=> ?_
  refine zc 1 [] h (fun _=>cq4) fun y3 h=> ?_
  refine zf 5 [.mv 2,.mv 3] ?_
  exact zu 1 h [.slot 0 [some 26]]
 refine zs 6 h (fun h=> ?_) fun h=> ?_
 ·
  refine zdR 1 [] h (fun _=>aE1) fun y5 h=> ?_
  refine zc 1 [] h (fun _=>ck8) fun y6 h=> ?_
  refine zf 5 [.mv 3] ?_
  exact zu 1 h [.slot 0 [some 26]]
 refine zs 6 h (fun h=> ?_) fun h=> ?_
 ·
  refine zc 6 [] h (fun _=>cJ8) fun y8 h=> ?_
  refine zc 1 [] h (fun _=>bc1) fun y9 h=> ?_
  exact zu 7 h [.slot 0 [some 26]]
 refine zs 6 h (fun h=> ?_) fun h=> ?_
 ·
  refine zc 7 [] h (fun _=>aQ0) fun y11 h=> ?_
  refine zf 2 [.mv 2,.mv 3] ?_
  exact zu 1 h
 refine zc 10 [] h (fun _=>cc6) fun y12 h=> ?_
 refine zf 2 [.mv 2,.mv 3] ?_
 exact zu 1 h
end Go.RX.L

namespace Go.RX.L
open Go Go.RX
def Y6 (c:d8):Plan:=⟨0,-1,-1,-1,0,0,0,0,0,0,List.replicate c.Targets.toNat 0,[]⟩
def zst (c:d8):d9:=⟨0,Y6 c,0,[],⟨0,0,0,0⟩,⟨false,0⟩,bX8,0,0,0,⟨false,0⟩⟩
def upS (c:d8) (b now:Int):d9:={ zst c with boot:=b,heard:=now }
theorem ct9 {c:d8} (cb:CB c):aU0 (Y6 c):=by
 have:=cb.t
 refine ⟨⟨by simp [Y6],by simp [Y6],by simp [Y6],by simp [Y6],by simp [Y6],by simp [Y6],by simp [Y6];omega,by simp [Y6],fun x hx=> ?_,by simp [Y6],rfl⟩,⟨aa6.2 (by simp [Y6]),by simp [Y6],by simp [Y6],⟨by simp [Y6];omega,by simp [Y6]⟩⟩⟩
 rw [(List.mem_replicate.1 hx).2];decide
theorem dv3 {c:d8} (cb:CB c) {M:Int}{i:Nat} (h0:0≤M) (hi:M≤i):DI c (zst c) M i:=⟨ct9 cb,by simp [zst],by simp [zst],J7.2 (by simp [zst]),by simp [zst];exact h0,hi,by simp [zst],PI0 _⟩
theorem dX4 {c:d8} (cb:CB c) {M now:Int}{i:Nat} (h0:0≤M) (hi:M≤i):DI c (upS c M now) M i:=⟨ct9 cb,by simp [upS,zst],by simp [upS,zst],J7.2 (by simp [upS,zst]),by simp [upS];exact h0,hi,by simp [upS,zst],PI0 _⟩
section
variable {c : d8} {ix : Int} {st : d9} {ns : List Int} {pend : Option Int} {fuse : Int} {down : Bool} {s t : List Int} {i : Nat}
theorem do5 {now f:Int}{d:Bool}{st2:d9}{s' t' :List Int}{r:Int×d9×Int×Bool×List Int×List Int} (hn:∀n∈ns,n4 .i64 n∧n<1048575) (hl:ns.length≤1000):∀(j k:Nat),k+j=ns.length→
  Ev (N1 now c ix) (.s1 (as0 ns) (aj4 ns) (ns.length:Nat) (ns.length:Nat) st2 f d s' t') r→Ev (N1 now c ix) (.s1 (as0 ns) (aj4 ns) (ns.length:Nat) (k:Nat) st2 f d s' t') r:=by
 intro j
 induction j with
 | zero=>
  intro k hk h
  have:k=ns.length:=by omega
  subst this
  exact h
 | succ j ih=>
  intro k hk h
  have hlt:k<ns.length:=by omega
  obtain ⟨g1,g2⟩:=dH4 hlt
  obtain ⟨hk1,hk2⟩:=hn _ (List.getElem_mem hlt)
  have hof:=df1 hk1
  have l1:(decide ((k:Int)<((aj4 ns).length:Int)))=true:=by simp [aj4];omega
  have l2:(decide ((k:Int)<((as0 ns).length:Int)))=true:=by simp [as0];omega
  have big:decide ((v9 ns[k]).Nonce≥1048575)=false:=decide_eq_false (by show ¬ns[k]≥1048575;omega)
  refine .next (s' := .s1 (as0 ns) (aj4 ns) (ns.length:Nat) ((k+1:Nat):Int) st2 f d s' t') ?_ (ih (k+1) (by omega) h)
  simp only [N1,O5,K0 hlt,cond_true,List.length_map,S5,l1,l2,Bool.and_self,Int.toNat_natCast,g1,g2,Option.bind_some,hof,beq_self_eq_true,show (v9 ns[k]).Kind=17 from rfl,big,cond_false,wB (show k≤3000000 by omega)]
theorem cn7 {now:Int} (h:JR ns pend fuse down s t i) (hc:Z0 c=true) (ht:c.Tiers.length<9223372036854775807) (hi:i≤250):
  ∃e st' f d s' t' ns' pend',al7 now st c ix fuse down s t=some (e,st',f,d,s',t')∧JR ns' pend' f d s' t' (i+1)∧G4 ns≤G4 ns' ∧(st' =zst c∨(G4 ns<G4 ns' ∧st' =upS c (G4 ns') now))∧(fuse= -1→e=0∧st' =upS c (G4 ns') now∧d=false∧G4 ns<G4 ns'):=by
 have hz:=cs7 ht hc
 rcases h.open_ (by omega) with ⟨f,ho,hr,hf1⟩ | ⟨f,ho,hr,hf1⟩
 rotate_left
 ·refine ⟨61,zst c,f,true,s,[],ns,none,u0 (.done ?_),hr.more,Int.le_refl _,.inl rfl,fun h=>absurd h hf1⟩
  simp only [N1,ae2,hz,ho,Option.bind_some,show ((61:Int) !=0)=true from rfl,cond_true];rfl
 have hin:∀n∈ns,n4 .i64 n∧n<1048575:=fun n hn=>⟨cZ5 (h.ns_ n hn) (by omega),by have:=h.ns_ n hn;omega⟩
 have hl:ns.length≤1000:=by have:=h.cnt;omega
 obtain ⟨b,e,g,d,s',t',ns',pend',hb,hj,hm,he,hfe⟩:=dK8 hr hi
 have lt:decide (((ns.length:Nat):Int)<((ns.length:Nat):Int))=false:=decide_eq_false (by omega)
 have first:∀{r},O5 now c ix (as0 ns) (aj4 ns) (ns.length:Nat) (ns.length:Nat) (zst c) f false (Y8 (ns.map v9)) []=some (.inr r)→al7 now st c ix fuse down s t=some r:=fun {r} hh=>by
  refine u0 (.next (s' := .s1 (as0 ns) (aj4 ns) (ns.length:Nat) ((0:Nat):Int) (zst c) f false (Y8 (ns.map v9)) []) ?_ (do5 hin hl ns.length 0 (by omega) (.done hh)))
  simp only [N1,ae2,hz,ho,Option.bind_some,show ((0:Int) !=0)=false from rfl,cond_false,List.length_map]
  simp [aj4];rfl
 by_cases h0:e=0
 ·subst h0
  obtain ⟨q1,q2,q3⟩:=he rfl
  refine ⟨0,upS c (G4 ns') now,g,d,s',t',ns',pend',first ?_,hj,hm,.inr ⟨by omega,rfl⟩,fun _=>⟨rfl,rfl,q1,by omega⟩⟩
  simp only [O5,lt,cond_false,hb,Option.bind_some,show ((0:Int) !=0)=false from rfl,q3];rfl
 ·refine ⟨e,zst c,g,d,s',t',ns',pend',first ?_,hj,hm,.inl rfl,fun h=>absurd (hfe (hf1 h)) h0⟩
  simp only [O5,lt,cond_false,hb,Option.bind_some,bne_iff_ne.2 h0,cond_true]
end
/-- One step of whatever is done: what is sent, what it is then, the highest boot on its disk. -/
inductive SR (c : d8) (ix : Int) (o : Op) (st : d9) (M : Int) (d : Bool) : List e9 → d9 → Int → Prop
  | idle {M' : Int} : i9 .i64 o.What 7 ≠ 3 → M ≤ M' → SR c ix o st M d [] st M'
  | fall {M' : Int} : i9 .i64 o.What 7 = 3 → M ≤ M' → SR c ix o st M d [] (zst c) M'
  | boot {M' now : Int} : i9 .i64 o.What 7 = 3 → M < M' → SR c ix o st M d [] (upS c M' now) M'
  | tick {o3 : List e9} {st' : d9} : i9 .i64 o.What 7 = 4 → 0 ≤ o.Now → o.Now ≤ 1099511627776 → st.boot ≠ 0 → d = false → PR c ix o.Now (cx7 c ix o.Now st) o3 st' → SR c ix o st M d ((af5 c ix o.Now st).1 ++ (aX1 c ix o.Now (af5 c ix o.Now st).2).1 ++ o3) st' M
  | handle {out : List e9} {st' : d9} : i9 .i64 o.What 7 ≠ 3 → C3 o.M_ = true → 0 ≤ o.Now → o.Now ≤ 1099511627776 → st.boot ≠ 0 → d = false → HR c ix st o.M_ o.Now out st' → SR c ix o st M d out st' M
theorem dM5 {c:d8}{ix:Int}{o:Op}{st:d9}{ns:List Int}{pend:Option Int}{fuse:Int}{down:Bool}{s t:List Int}{i:Nat} (h:DI c st (G4 ns) i) (hj:JR ns pend fuse down s t i) (hc:Z0 c=true) (ht:c.Tiers.length<9223372036854775807) (hix:0≤ix∧ix≤4) (ho:o.Ok) (hi:i≤250):
  ∃out st' f d s' t' ns' pend',aR9 o st c ix fuse down s t=some (out,st',f,d,s',t')∧DI c st' (G4 ns') (i+1)∧JR ns' pend' f d s' t' (i+1)∧SR c ix o st (G4 ns) d out st' (G4 ns'):=by
 have cb:=aD1 hc
 have hm:=hj.mx
 have hm1:G4 ns≤((i+1:Nat):Int):=by omega
 have hN:=ho.2.2.2
 have hf:al9 o.M_:=ho.2.1.fine
 have mid:=h.more (j:=i+1) (by omega) (Int.le_refl _) hm1
 unfold aR9
 by_cases w1:i9 .i64 o.What 7=1
 ·rw [beq_iff_eq.2 w1]
  obtain ⟨e1,e2⟩:=dP3 hj hN
  have h0:O9 st c ix fuse down s t=some ():=rfl
  simp only [cond_true,h0,e1,Option.bind_some]
  exact ⟨_,_,_,_,_,_,ns,pend,rfl,mid,e2.more,.idle (by omega) (Int.le_refl _)⟩
 rw [beq_eq_false_iff_ne.2 w1]
 by_cases w2:i9 .i64 o.What 7=2
 ·rw [beq_iff_eq.2 w2]
  obtain ⟨s',ns',e1,e2,e3⟩:=dA0 (keep:=o.N_) hj (by omega)
  have h0:O9 st c ix fuse down s t=some ():=rfl
  simp only [cond_true,cond_false,h0,e1,Option.bind_some]
  exact ⟨_,_,_,_,_,_,ns',none,rfl,h.more (by omega) e3 (by have:=e2.mx;omega),e2.more,.idle (by omega) e3⟩
 rw [beq_eq_false_iff_ne.2 w2]
 by_cases w3:i9 .i64 o.What 7=3
 ·rw [beq_iff_eq.2 w3]
  obtain ⟨e,st',f,d,s',t',ns',pend',e1,e2,e3,e4,-⟩:=cn7 (st:=st) (ix:=ix) (now:=u5 0 (z9 o.Now 1099511627776)) hj hc ht hi
  have hm' :=e2.mx
  simp only [cond_true,cond_false,bi6,Option.bind_some,e1]
  refine ⟨_,_,_,_,_,_,ns',pend',rfl,?_,e2,?_⟩
  ·rcases e4 with rfl | ⟨-,rfl⟩
   ·exact dv3 cb hm'.1 hm'.2
   ·exact dX4 cb hm'.1 hm'.2
  ·rcases e4 with rfl | ⟨e5,rfl⟩
   ·exact .fall w3 e3
   ·exact .boot w3 e5
 rw [beq_eq_false_iff_ne.2 w3]
 by_cases w4:i9 .i64 o.What 7=4
 ·rw [beq_iff_eq.2 w4]
  obtain ⟨out,st',e1,e2⟩:=dK4 (now:=o.Now) (fuse:=fuse) (down:=down) (s:=s) (t:=t) h hc ht hix (by omega)
  simp only [cond_true,cond_false,e1,Option.bind_some]
  rcases e2 with ⟨rfl,rfl⟩ | ⟨q1,q2,q3,q4,o3,rfl,q5⟩
  ·exact ⟨_,_,_,_,_,_,ns,pend,rfl,mid,hj.more,.idle w3 (Int.le_refl _)⟩
  ·exact ⟨_,_,_,_,_,_,ns,pend,rfl,(dY6 cb q1 (dh8 h) q5).more (by omega) (Int.le_refl _) hm1,hj.more,.tick w4 q1 q2 q3 q4 q5⟩
 rw [beq_eq_false_iff_ne.2 w4]
 obtain ⟨out,st',e1,e2⟩:=ds0 (m:=o.M_) (now:=o.Now) (fuse:=fuse) (down:=down) (s:=s) (t:=t) h cb hix hf (by omega)
 simp only [cond_false,e1,Option.bind_some]
 rcases e2 with ⟨rfl,rfl⟩ | ⟨q1,q2,q3,q4,q5,q6⟩
 ·exact ⟨_,_,_,_,_,_,ns,pend,rfl,mid,hj.more,.idle w3 (Int.le_refl _)⟩
 ·exact ⟨_,_,_,_,_,_,ns,pend,rfl,dX8 h q1 hf q6,hj.more,.handle w3 q1 q2 q3 q4 q5 q6⟩
theorem cw9 {c:d8}{index:Int} (ht:c.Tiers.length<9223372036854775807):ao5 c index=some (if Z0 c=true∧0≤index∧index<c.Deciders then .r1 (zst c) (-1) false [] [] else .r0):=by
 simp only [ao5,bb4 ht,Option.bind_some]
 cases h:Z0 c with
 | false=>simp [Q3]
 | true=>
  have hz:=cs7 ht h
  by_cases h1:index<0
  ·have:¬(0≤index):=by omega
   simp [h1,Q3,this]
  ·by_cases h2:index≥c.Deciders
   ·have:¬(index<c.Deciders):=by omega
    simp [h1,h2,Q3,this]
   ·have h3:0≤index∧index<c.Deciders:=by omega
    simp [h1,h2,Q3,ba7,hz,h3,zst,Y6,bX8,v7]
theorem cg4:Z0 A7=true:=by decide+kernel
theorem cF3:aS6=some true:=by
 have ht:A7.Tiers.length<9223372036854775807:=by decide
 have cb:=aD1 cg4
 have n0:=cw9 (index:=0) ht
 have n2:=cw9 (index:=2) ht
 rw [if_pos ⟨cg4,by decide,by decide⟩] at n0
 rw [if_neg (by decide)] at n2
 have t1:P9 0 (zst A7) A7 0 (-1) false [] []=some ([],zst A7):=rfl
 obtain ⟨e,st',f,d,s',t',ns',pend',e1,e2,e3,e4,e5⟩:=cn7 (st:=zst A7) (ix:=0) (now:=0) JR0 cg4 ht (by decide)
 obtain ⟨rfl,rfl,rfl,hlt⟩:=e5 rfl
 have m0:G4 []=0:=rfl
 generalize hb:G4 ns' =b at*
 have hl:af5 A7 0 0 (upS A7 b 0)=(toL A7 0 (bP9 0) (av6 A7),bw6 (upS A7 b 0) 0):=by unfold af5;rw [if_pos];rfl
 have hs:aX1 A7 0 0 (bw6 (upS A7 b 0) 0)=([],bw6 (upS A7 b 0) 0):=by unfold aX1;rw [if_pos (.inl rfl)]
 have lv:bG0 (bw6 (upS A7 b 0) 0).hold 0 0=false:=rfl
 have hp:an3 0 (bw6 (upS A7 b 0) 0) A7 0 f false s' t' =some ([],bw6 (upS A7 b 0) 0):=by
  refine u0 (.next (s' := .s1 true) ?_ (.done rfl))
  simp only [m9,ad8,ck1,Option.bind_some,lv,Bool.and_false,Bool.not_false,cond_true]
 have of:(decide ((0:Int)<0) || (decide ((0:Int)>1099511627776) || (decide ((upS A7 b 0).boot=0) || false)))=false:=by
  have:decide ((upS A7 b 0).boot=0)=false:=decide_eq_false (by show ¬b=0;omega)
  rw [this];rfl
 have la:(toL A7 0 (bP9 0) (av6 A7)).length=3:=rfl
 have e1' :decide (3*288≤i7)=true:=D3 (by omega)
 have e2' :decide ((3+0)*288≤i7)=true:=D3 (by omega)
 have tk:P9 0 (upS A7 b 0) A7 0 f false s' t' =some (toL A7 0 (bP9 0) (av6 A7),bw6 (upS A7 b 0) 0):=by
  simp only [P9,cY5,Option.bind_some,of,cond_false,dg7 cb (show (0:Int)≤0∧(0:Int)≤100 by decide),dr0 cb (show (0:Int)≤0∧(0:Int)≤100 by decide),hl,hs,hp,List.length_map,List.map_append,List.length_append,List.length_nil,la,e1',e2',cond_true,List.append_nil]
 have g0:(toL A7 0 (bP9 0) (av6 A7))[0]? =some (ftM (bP9 0) (t0 A7 0) 0):=rfl
 have j0:∀(st:d9) (f:Int) (d:Bool) (s t:List Int),O9 st A7 0 f d s t=some ():=fun _ _ _ _ _=>rfl
 have k0:∀(st:d9) (f:Int) (d:Bool) (s t:List Int),ac7 st A7 0 f d s t=some st.known:=fun _ _ _ _ _=>rfl
 simp only [aS6,dA2,Option.bind_some,n0,aR1,n2,j0,t1,e1,List.length_map,List.length_nil,ar0,show (((0:Nat):Int) !=0)=false from rfl,show ((0:Int) !=0)=false from rfl,cond_false,tk,la,show (((3:Nat):Int)==3)=true from rfl,cond_true,show decide ((0:Int)<((3:Nat):Int))=true from rfl,g0,show ((ftM (bP9 0) (t0 A7 0) 0).Kind==10)=true from rfl,show ((ftM (bP9 0) (t0 A7 0) 0).Code==2)=true from rfl,ck1,lv,Bool.and_false,Bool.not_false,k0]
 rfl
end Go.RX.L

namespace Go.RX.L
open Go Go.RX Go.Proofs
attribute [local irreducible] f5
noncomputable def cw6 (state:d9) (c:d8) (index fuse:Int) (down:Bool) (b2 b3:List Int) (y:i5):D×f3:=(.agg (i5.enc y),[some ⟨88,true,[(d9.l state (d8.l c [.int .i64 index,.ptr 1 0 0]))]⟩,some ⟨4,true,[[(f6 2 (List.map (d7 .u8) b2)),(f6 3 (List.map (d7 .u8) b3)),.int .i64 fuse,.bool down]]⟩,some ⟨1,false,(List.map (d7 .u8) b2)⟩,some ⟨1,false,(List.map (d7 .u8) b3)⟩])
noncomputable def aR2 (state:d9) (c:d8) (index fuse:Int) (down:Bool) (b2 b3:List Int):Option i5:=(some state.prop)
theorem ct7 {state:d9}{c:d8}{index fuse:Int}{down:Bool}{b2 b3:List Int}{r:i5} (h:aR2 state c index fuse down b2 b3=some r):i0 E 13 [.ptr 0 0 0] [some ⟨88,true,[(d9.l state (d8.l c [.int .i64 index,.ptr 1 0 0]))]⟩,some ⟨4,true,[[(f6 2 (List.map (d7 .u8) b2)),(f6 3 (List.map (d7 .u8) b3)),.int .i64 fuse,.bool down]]⟩,some ⟨1,false,(List.map (d7 .u8) b2)⟩,some ⟨1,false,(List.map (d7 .u8) b3)⟩] (Rs (cw6 state c index fuse down b2 b3) r):=so (fn:=Tryz.f13) (k:=true) (m:=4) h<| by
 intro r h;unfold aR2 at h
 exact zu 18 h
end Go.RX.L

namespace Go.RX.L
open Go Go.RX Go.Proofs
attribute [local irreducible] f5
noncomputable def cJ9 (y:Bool):D×f3:=(.bool y,[])
noncomputable def aL0 (l_:List Op):Option Bool:=(some (decide (((((List.map Op.enc l_).length:Nat):Int):Int)>200)))
theorem cC7 {l_:List Op}{r:Bool} (h:aL0 l_=some r):i0 E 9 [.sl false 29 (List.map Op.enc l_)] [] (Rs cJ9 r):=so (fn:=Tryz.f9) (k:=false) (m:=0) h<| by
 intro r h;unfold aL0 at h
 exact zu 12 h
end Go.RX.L

namespace Go.RX.L
open Go Go.RX Go.Proofs
attribute [local irreducible] f5
noncomputable def v8:=n8 (p6 Tryz.f4)
noncomputable def aT6 (y:Bool):D×f3:=(.bool y,[])
inductive C7 where
 | s0
 | s1 (up:Bool)
 | s2 (up:Bool) (state:d9) (index fuse:Int) (down:Bool) (b2 b3:List Int)
 | s3 (up:Bool) (i:Int) (state:d9) (index fuse:Int) (down:Bool) (b2 b3:List Int)
 | s5 (up:Bool) (i:Int) (told:Bool) (state:d9) (index:Int) (o:Op) (before value after:Plan) (fuse:Int) (down:Bool) (b6 b7:List Int)
 | s4 (up:Bool) (i:Int) (told had:Bool) (state:d9) (index:Int) (before after:Plan) (fuse:Int) (down:Bool) (b4 b5:List Int)
noncomputable def aQ7 (c:d8) (l_:List Op):C7→M
 | .s0=>A2 Tryz.f4 [.agg (d8.enc c),.sl false 29 (List.map Op.enc l_)] []
 | .s1 up=>⟨[.code (v8 [1,1,1])],[(1,.sl false 29 (List.map Op.enc l_)),(5,.bool up),(6,.nilp)],[]⟩
 | .s2 up state index fuse down b2 b3=>⟨[.code (v8 [1,1,1])],[(1,.sl false 29 (List.map Op.enc l_)),(5,.bool up),(6,.ptr 0 0 0)],[some ⟨88,true,[(d9.l state (d8.l c [.int .i64 index,.ptr 1 0 0]))]⟩,some ⟨4,true,[[(f6 2 (List.map (d7 .u8) b2)),(f6 3 (List.map (d7 .u8) b3)),.int .i64 fuse,.bool down]]⟩,some ⟨1,false,(List.map (d7 .u8) b2)⟩,some ⟨1,false,(List.map (d7 .u8) b3)⟩]⟩
 | .s3 up i state index fuse down b2 b3=>⟨[.lpc (v8 [1,1,1,1,0,1,0,0]) 226,.blk 0,.code (v8 [1,1,1,1,1])],[(1,.sl false 29 (List.map Op.enc l_)),(5,.bool up),(6,.ptr 0 0 0),(7,.int .i64 i)],[some ⟨88,true,[(d9.l state (d8.l c [.int .i64 index,.ptr 1 0 0]))]⟩,some ⟨4,true,[[(f6 2 (List.map (d7 .u8) b2)),(f6 3 (List.map (d7 .u8) b3)),.int .i64 fuse,.bool down]]⟩,some ⟨1,false,(List.map (d7 .u8) b2)⟩,some ⟨1,false,(List.map (d7 .u8) b3)⟩]⟩
 | .s5 up i told state index o before value after fuse down b6 b7=>⟨[.code (v8 [1,1,1,1,0,1,0,0,1,0,0,1,1,1,1,1,1,1,1]),.blk 1,.code (v8 [1,1,1,1,0,1,0,0,1,1]),.lp (v8 [1,1,1,1,0,1,0,0]) 226,.blk 0,.code (v8 [1,1,1,1,1])],[(1,.sl false 29 (List.map Op.enc l_)),(5,.bool up),(6,.ptr 0 0 0),(7,.int .i64 i),(8,.ptr 1 0 0),(9,.ptr 2 0 0),(10,.ptr 3 0 0),(11,.ptr 4 0 0),(12,.bool told)],[some ⟨88,true,[(d9.l state (d8.l c [.int .i64 index,.ptr 5 0 0]))]⟩,some ⟨29,false,[(Op.enc o)]⟩,some ⟨12,false,[(Plan.enc before)]⟩,some ⟨12,false,[(Plan.enc value)]⟩,some ⟨12,false,[(Plan.enc after)]⟩,some ⟨4,true,[[(f6 6 (List.map (d7 .u8) b6)),(f6 7 (List.map (d7 .u8) b7)),.int .i64 fuse,.bool down]]⟩,some ⟨1,false,(List.map (d7 .u8) b6)⟩,some ⟨1,false,(List.map (d7 .u8) b7)⟩]⟩
 | .s4 up i told had state index before after fuse down b4 b5=>⟨[.code (v8 [1,1,1,1,0,1,0,0,1,0,0,1,1,1,1,1,1,1,1,1]),.blk 1,.code (v8 [1,1,1,1,0,1,0,0,1,1]),.lp (v8 [1,1,1,1,0,1,0,0]) 226,.blk 0,.code (v8 [1,1,1,1,1])],[(1,.sl false 29 (List.map Op.enc l_)),(5,.bool up),(6,.ptr 0 0 0),(7,.int .i64 i),(9,.ptr 1 0 0),(11,.ptr 2 0 0),(12,.bool told),(13,.bool had)],[some ⟨88,true,[(d9.l state (d8.l c [.int .i64 index,.ptr 3 0 0]))]⟩,some ⟨12,false,[(Plan.enc before)]⟩,some ⟨12,false,[(Plan.enc after)]⟩,some ⟨4,true,[[(f6 4 (List.map (d7 .u8) b4)),(f6 5 (List.map (d7 .u8) b5)),.int .i64 fuse,.bool down]]⟩,some ⟨1,false,(List.map (d7 .u8) b4)⟩,some ⟨1,false,(List.map (d7 .u8) b5)⟩]⟩
abbrev N0 (c:d8) (l_:List Op):=SOk E (Cx.of Tryz.f4 false 0) aT6 (aQ7 c l_)
noncomputable def T0 (c:d8) (l_:List Op):Option (C7⊕Bool):=((aS6).bind fun y1=>((ao5 c 0).bind fun y2=>match y2 with | .r0=>(some (.inl (.s1 y1))) | .r1 y2a0 y2a1 y2a2 y2a3 y2a4=>(some (.inl (.s2 y1 y2a0 0 y2a1 y2a2 y2a3 y2a4)))))
noncomputable def av1 (c:d8) (l_:List Op) (up:Bool):Option (C7⊕Bool):=(some (.inr up))
noncomputable def S7 (c:d8) (l_:List Op) (up:Bool) (state:d9) (index fuse:Int) (down:Bool) (b2 b3:List Int):Option (C7⊕Bool):=((aL0 l_).bind fun y1=>(bif y1 then (some (.inr up)) else (some (.inl (.s3 up 0 state index fuse down b2 b3)))))
noncomputable def F3 (c:d8) (l_:List Op) (up:Bool) (i:Int) (state:d9) (index fuse:Int) (down:Bool) (b2 b3:List Int):Option (C7⊕Bool):=(bif (decide ((i:Int)<(((List.map Op.enc l_).length:Nat):Int))) then (bif ((decide ((0:Int)≤i))&&(decide ((i:Int)<(((List.map Op.enc l_).length:Nat):Int)))) then (((l_)[i.toNat]?).bind fun y3=>((ac7 state c index fuse down b2 b3).bind fun y5=>((aR2 state c index fuse down b2 b3).bind fun y6=>((aR9 y3 state c index fuse down b2 b3).bind fun y7=>((ac7 y7.2.1 c index y7.2.2.1 y7.2.2.2.1 y7.2.2.2.2.1 y7.2.2.2.2.2).bind fun y8=>(bif (((i9 .i64 y3.What 7):Int)==3) then (bif ((y8.Epoch:Int) !=0) then (some (.inr false)) else (some (.inl (.s3 up (IntKind.i64.wrap (i+1)) y7.2.1 index y7.2.2.1 y7.2.2.2.1 y7.2.2.2.2.1 y7.2.2.2.2.2)))) else ((aS4 y5 y8).bind fun y11=>(bif y11 then (some (.inl (.s3 up (IntKind.i64.wrap (i+1)) y7.2.1 index y7.2.2.1 y7.2.2.2.1 y7.2.2.2.2.1 y7.2.2.2.2.2))) else (bif ((y3.M_.Kind:Int)==9) then ((aS4 y8 y3.M_.Plan).bind fun y14=>(some (.inl (.s5 up i y14 y7.2.1 index y3 y5 y6.Value y8 y7.2.2.1 y7.2.2.2.1 y7.2.2.2.2.1 y7.2.2.2.2.2)))) else (some (.inl (.s5 up i false y7.2.1 index y3 y5 y6.Value y8 y7.2.2.1 y7.2.2.2.1 y7.2.2.2.2.1 y7.2.2.2.2.2)))))))))))) else none) else (some (.inr up)))
noncomputable def T6 (c:d8) (l_:List Op) (up:Bool) (i:Int) (told:Bool) (state:d9) (index:Int) (o:Op) (before value after:Plan) (fuse:Int) (down:Bool) (b6 b7:List Int):Option (C7⊕Bool):=(bif ((o.M_.Kind:Int)==8) then ((aS4 after value).bind fun y2=>(some (.inl (.s4 up i told y2 state index before after fuse down b6 b7)))) else (some (.inl (.s4 up i told false state index before after fuse down b6 b7))))
noncomputable def af4 (c:d8) (l_:List Op) (up:Bool) (i:Int) (told had:Bool) (state:d9) (index:Int) (before after:Plan) (fuse:Int) (down:Bool) (b4 b5:List Int):Option (C7⊕Bool):=(bif (decide ((after.Epoch:Int)≤before.Epoch)) then (some (.inr false)) else (bif (!told) then (bif (!had) then (some (.inr false)) else (some (.inl (.s3 up (IntKind.i64.wrap (i+1)) state index fuse down b4 b5)))) else (some (.inl (.s3 up (IntKind.i64.wrap (i+1)) state index fuse down b4 b5)))))
noncomputable def q9 (c:d8) (l_:List Op):C7→Option (C7⊕Bool)
 | .s0=>T0 c l_
 | .s1 up=>av1 c l_ up
 | .s2 up state index fuse down b2 b3=>S7 c l_ up state index fuse down b2 b3
 | .s3 up i state index fuse down b2 b3=>F3 c l_ up i state index fuse down b2 b3
 | .s5 up i told state index o before value after fuse down b6 b7=>T6 c l_ up i told state index o before value after fuse down b6 b7
 | .s4 up i told had state index before after fuse down b4 b5=>af4 c l_ up i told had state index before after fuse down b4 b5
theorem bt5 {c l_}:N0 c l_ .s0 (T0 c l_):=by
 intro r x h ha;unfold T0 at h
 refine zc 8 [] h (fun _=>cJ6) fun y1 h=> ?_
 refine zc 7 [] h (fun _=>aW7) fun y2 h=> ?_
 cases y2 with
 | r0=>
  dsimp only at h
  exact zk 2 h ha
 | r1 y2a0 y2a1 y2a2 y2a3 y2a4=>
  dsimp only at h
  exact zk 2 h ha
theorem bt3 {c l_ up}:N0 c l_ (.s1 up) (av1 c l_ up):=by
 intro r x h ha;unfold av1 at h
 exact zt 21 h ha
theorem bt4 {c l_ up state index fuse down b2 b3}:N0 c l_ (.s2 up state index fuse down b2 b3) (S7 c l_ up state index fuse down b2 b3):=by
 intro r x h ha;unfold S7 at h
 refine zc 10 [] h (fun _=>cC7) fun y1 h=> ?_
 refine zs 4 h (fun h=> ?_) fun h=> ?_
 ·
  exact zt 6 h ha
 exact zj 9 h ha
theorem bt8 {c l_ up i state index fuse down b2 b3}:N0 c l_ (.s3 up i state index fuse down b2 b3) (F3 c l_ up i state index fuse down b2 b3):=by
 intro r x h ha;unfold F3 at h
 refine zs 10 h (fun h=> ?_) fun h=> ?_
 ·
  refine zn 8 h fun h=> ?_
  refine zr 1 Op.enc h fun y3 h=> ?_
  refine zc 9 [] h (fun _=>aN0) fun y5 h=> ?_
  refine zc 9 [] h (fun _=>ct7) fun y6 h=> ?_
  refine zc 12 [] h (fun _=>cI9) fun y7 h=> ?_
  refine zc 5 [] h (fun _=>aN0) fun y8 h=> ?_
  refine zs 15 h (fun h=> ?_) fun h=> ?_
  ·
   refine zs 9 h (fun h=> ?_) fun h=> ?_
   ·
    exact zt 5 h ha
   exact zj 8 h ha
  refine zc 9 [] h (fun _=>be7) fun y11 h=> ?_
  refine zs 2 h (fun h=> ?_) fun h=> ?_
  ·
   exact zj 7 h ha
  refine zs 10 h (fun h=> ?_) fun h=> ?_
  ·
   refine zc 10 [] h (fun _=>be7) fun y14 h=> ?_
   exact zk 4 h ha
  exact zk 12 h ha
 exact zt 7 h ha
theorem bt0 {c l_ up i told state index o before value after fuse down b6 b7}:N0 c l_ (.s5 up i told state index o before value after fuse down b6 b7) (T6 c l_ up i told state index o before value after fuse down b6 b7):=by
 intro r x h ha;unfold T6 at h
 refine zs 9 h (fun h=> ?_) fun h=> ?_
 ·
  refine zc 6 [] h (fun _=>be7) fun y2 h=> ?_
  exact zk 4 h ha
 exact zk 8 h ha
theorem bt6 {c l_ up i told had state index before after fuse down b4 b5}:N0 c l_ (.s4 up i told had state index before after fuse down b4 b5) (af4 c l_ up i told had state index before after fuse down b4 b5):=by
 intro r x h ha;unfold af4 at h
 refine zs 11 h (fun h=> ?_) fun h=> ?_
 ·
  exact zt 18 h ha
 refine zs 5 h (fun h=> ?_) fun h=> ?_
 ·
  refine zs 9 h (fun h=> ?_) fun h=> ?_
  ·
   exact zt 5 h ha
  exact zj 8 h ha
 exact zj 18 h ha
noncomputable def aD3 (c:d8) (l_:List Op):Option Bool:=U9 (q9 c l_) (.s0)
theorem by7 {c:d8}{l_:List Op}{r:Bool} (h:aD3 c l_=some r):i0 E 4 [.agg (d8.enc c),.sl false 29 (List.map Op.enc l_)] [] (Rs aT6 r):=sc (fn:=Tryz.f4) (k:=false) (m:=0) (stM:=(aQ7 c l_)) h fun s=>by
 cases s with
 | s0=>exact bt5
 | s1=>exact bt3
 | s2=>exact bt4
 | s3=>exact bt8
 | s5=>exact bt0
 | s4=>exact bt6
end Go.RX.L

namespace Go.RX.L
open Go Go.RX Go.Proofs
theorem i8 {n:Nat}{ds:List D} (h:Q8 Tryz.prog (n+1) 3 ds):∃x:Int,ds=(d7 .i64) x∧n4 .i64 x:=by
 obtain ⟨m,rfl,o⟩:=bR8 (k:= .i64) (by kernel_rfl) h
 exact ⟨m,rfl,o⟩
theorem az8 {n:Nat}{ds:List D} (h:Q8 Tryz.prog (n+2) 22 ds):∃x:List Int,ds=(E0 1 (d7 .i64)) x∧(x.length*8≤reachBytes∧∀y∈x,n4 .i64 y):=by
 obtain ⟨rows,rfl,o,w⟩:=bI2 (n:=n+1) (e:=3) (sz:=1) (by_:=8) (by kernel_rfl) (by kernel_rfl) (by kernel_rfl) h
 obtain ⟨l,rfl,q⟩:=bz7 (en:=(d7 .i64)) (Ok:=fun y=>n4 .i64 y) (fun r hr=>i8 (n:=n+0) hr) rows w
 exact ⟨l,rfl,by simpa using o,q⟩
theorem l4 {n:Nat}{ds:List D} (h:Q8 Tryz.prog (n+1) 2 ds):∃x:Int,ds=(d7 .i64) x∧n4 .i64 x:=by
 obtain ⟨m,rfl,o⟩:=bR8 (k:= .i64) (by kernel_rfl) h
 exact ⟨m,rfl,o⟩
theorem bj0 {n:Nat}{ds:List D} (h:Q8 Tryz.prog (n+3) 24 ds):∃x:d8,ds=d8.enc x∧x.Ok:=by
 have h0:=bu4 (n:=n+2) (ts:= [3,3,3,3,3,22,2,2,3,3,2,2,2,2,2,2,3,3,3,3,2,3,3,2,2,3,2,3,3,2]) (by kernel_rfl) h
 obtain ⟨a0,b0,rfl,w0,h1⟩:=m8 h0
 obtain ⟨x0,rfl,o0⟩:=i8 (n:=n+1) w0
 obtain ⟨a1,b1,rfl,w1,h2⟩:=m8 h1
 obtain ⟨x1,rfl,o1⟩:=i8 (n:=n+1) w1
 obtain ⟨a2,b2,rfl,w2,h3⟩:=m8 h2
 obtain ⟨x2,rfl,o2⟩:=i8 (n:=n+1) w2
 obtain ⟨a3,b3,rfl,w3,h4⟩:=m8 h3
 obtain ⟨x3,rfl,o3⟩:=i8 (n:=n+1) w3
 obtain ⟨a4,b4,rfl,w4,h5⟩:=m8 h4
 obtain ⟨x4,rfl,o4⟩:=i8 (n:=n+1) w4
 obtain ⟨a5,b5,rfl,w5,h6⟩:=m8 h5
 obtain ⟨x5,rfl,o5⟩:=az8 (n:=n+0) w5
 obtain ⟨a6,b6,rfl,w6,h7⟩:=m8 h6
 obtain ⟨x6,rfl,o6⟩:=l4 (n:=n+1) w6
 obtain ⟨a7,b7,rfl,w7,h8⟩:=m8 h7
 obtain ⟨x7,rfl,o7⟩:=l4 (n:=n+1) w7
 obtain ⟨a8,b8,rfl,w8,h9⟩:=m8 h8
 obtain ⟨x8,rfl,o8⟩:=i8 (n:=n+1) w8
 obtain ⟨a9,b9,rfl,w9,h10⟩:=m8 h9
 obtain ⟨x9,rfl,o9⟩:=i8 (n:=n+1) w9
 obtain ⟨a10,b10,rfl,w10,h11⟩:=m8 h10
 obtain ⟨x10,rfl,o10⟩:=l4 (n:=n+1) w10
 obtain ⟨a11,b11,rfl,w11,h12⟩:=m8 h11
 obtain ⟨x11,rfl,o11⟩:=l4 (n:=n+1) w11
 obtain ⟨a12,b12,rfl,w12,h13⟩:=m8 h12
 obtain ⟨x12,rfl,o12⟩:=l4 (n:=n+1) w12
 obtain ⟨a13,b13,rfl,w13,h14⟩:=m8 h13
 obtain ⟨x13,rfl,o13⟩:=l4 (n:=n+1) w13
 obtain ⟨a14,b14,rfl,w14,h15⟩:=m8 h14
 obtain ⟨x14,rfl,o14⟩:=l4 (n:=n+1) w14
 obtain ⟨a15,b15,rfl,w15,h16⟩:=m8 h15
 obtain ⟨x15,rfl,o15⟩:=l4 (n:=n+1) w15
 obtain ⟨a16,b16,rfl,w16,h17⟩:=m8 h16
 obtain ⟨x16,rfl,o16⟩:=i8 (n:=n+1) w16
 obtain ⟨a17,b17,rfl,w17,h18⟩:=m8 h17
 obtain ⟨x17,rfl,o17⟩:=i8 (n:=n+1) w17
 obtain ⟨a18,b18,rfl,w18,h19⟩:=m8 h18
 obtain ⟨x18,rfl,o18⟩:=i8 (n:=n+1) w18
 obtain ⟨a19,b19,rfl,w19,h20⟩:=m8 h19
 obtain ⟨x19,rfl,o19⟩:=i8 (n:=n+1) w19
 obtain ⟨a20,b20,rfl,w20,h21⟩:=m8 h20
 obtain ⟨x20,rfl,o20⟩:=l4 (n:=n+1) w20
 obtain ⟨a21,b21,rfl,w21,h22⟩:=m8 h21
 obtain ⟨x21,rfl,o21⟩:=i8 (n:=n+1) w21
 obtain ⟨a22,b22,rfl,w22,h23⟩:=m8 h22
 obtain ⟨x22,rfl,o22⟩:=i8 (n:=n+1) w22
 obtain ⟨a23,b23,rfl,w23,h24⟩:=m8 h23
 obtain ⟨x23,rfl,o23⟩:=l4 (n:=n+1) w23
 obtain ⟨a24,b24,rfl,w24,h25⟩:=m8 h24
 obtain ⟨x24,rfl,o24⟩:=l4 (n:=n+1) w24
 obtain ⟨a25,b25,rfl,w25,h26⟩:=m8 h25
 obtain ⟨x25,rfl,o25⟩:=i8 (n:=n+1) w25
 obtain ⟨a26,b26,rfl,w26,h27⟩:=m8 h26
 obtain ⟨x26,rfl,o26⟩:=l4 (n:=n+1) w26
 obtain ⟨a27,b27,rfl,w27,h28⟩:=m8 h27
 obtain ⟨x27,rfl,o27⟩:=i8 (n:=n+1) w27
 obtain ⟨a28,b28,rfl,w28,h29⟩:=m8 h28
 obtain ⟨x28,rfl,o28⟩:=i8 (n:=n+1) w28
 obtain ⟨a29,b29,rfl,w29,h30⟩:=m8 h29
 obtain ⟨x29,rfl,o29⟩:=l4 (n:=n+1) w29
 obtain rfl:=bZ2 h30
 exact ⟨⟨x0,x1,x2,x3,x4,x5,x6,x7,x8,x9,x10,x11,x12,x13,x14,x15,x16,x17,x18,x19,x20,x21,x22,x23,x24,x25,x26,x27,x28,x29⟩,rfl,o0,o1,o2,o3,o4,o5,o6,o7,o8,o9,o10,o11,o12,o13,o14,o15,o16,o17,o18,o19,o20,o21,o22,o23,o24,o25,o26,o27,o28,o29⟩
theorem bk4 {n:Nat}{ds:List D} (h:Q8 Tryz.prog (n+1) 34 ds):∃x:Int,ds=(d7 .i64) x∧n4 .i64 x:=by
 obtain ⟨m,rfl,o⟩:=bR8 (k:= .i64) (by kernel_rfl) h
 exact ⟨m,rfl,o⟩
theorem af2 {n:Nat}{ds:List D} (h:Q8 Tryz.prog (n+1) 35 ds):∃x:Int,ds=(d7 .u64) x∧n4 .u64 x:=by
 obtain ⟨m,rfl,o⟩:=bR8 (k:= .u64) (by kernel_rfl) h
 exact ⟨m,rfl,o⟩
theorem br0 {n:Nat}{ds:List D} (h:Q8 Tryz.prog (n+1) 4 ds):∃x:Bool,ds=dW8 x∧True:=by
 obtain ⟨m,rfl⟩:=dP1 (by kernel_rfl) h
 exact ⟨m,rfl,trivial⟩
theorem aA2 {n:Nat}{ds:List D} (h:Q8 Tryz.prog (n+2) 31 ds):∃x:List Int,ds=(E0 1 (d7 .i64)) x∧(x.length*8≤reachBytes∧∀y∈x,n4 .i64 y):=by
 obtain ⟨rows,rfl,o,w⟩:=bI2 (n:=n+1) (e:=2) (sz:=1) (by_:=8) (by kernel_rfl) (by kernel_rfl) (by kernel_rfl) h
 obtain ⟨l,rfl,q⟩:=bz7 (en:=(d7 .i64)) (Ok:=fun y=>n4 .i64 y) (fun r hr=>l4 (n:=n+0) hr) rows w
 exact ⟨l,rfl,by simpa using o,q⟩
theorem bl5 {n:Nat}{ds:List D} (h:Q8 Tryz.prog (n+3) 37 ds):∃x:Plan,ds=Plan.enc x∧x.Ok:=by
 have h0:=bu4 (n:=n+2) (ts:= [2,3,3,3,3,2,2,2,35,35,22,31]) (by kernel_rfl) h
 obtain ⟨a0,b0,rfl,w0,h1⟩:=m8 h0
 obtain ⟨x0,rfl,o0⟩:=l4 (n:=n+1) w0
 obtain ⟨a1,b1,rfl,w1,h2⟩:=m8 h1
 obtain ⟨x1,rfl,o1⟩:=i8 (n:=n+1) w1
 obtain ⟨a2,b2,rfl,w2,h3⟩:=m8 h2
 obtain ⟨x2,rfl,o2⟩:=i8 (n:=n+1) w2
 obtain ⟨a3,b3,rfl,w3,h4⟩:=m8 h3
 obtain ⟨x3,rfl,o3⟩:=i8 (n:=n+1) w3
 obtain ⟨a4,b4,rfl,w4,h5⟩:=m8 h4
 obtain ⟨x4,rfl,o4⟩:=i8 (n:=n+1) w4
 obtain ⟨a5,b5,rfl,w5,h6⟩:=m8 h5
 obtain ⟨x5,rfl,o5⟩:=l4 (n:=n+1) w5
 obtain ⟨a6,b6,rfl,w6,h7⟩:=m8 h6
 obtain ⟨x6,rfl,o6⟩:=l4 (n:=n+1) w6
 obtain ⟨a7,b7,rfl,w7,h8⟩:=m8 h7
 obtain ⟨x7,rfl,o7⟩:=l4 (n:=n+1) w7
 obtain ⟨a8,b8,rfl,w8,h9⟩:=m8 h8
 obtain ⟨x8,rfl,o8⟩:=af2 (n:=n+1) w8
 obtain ⟨a9,b9,rfl,w9,h10⟩:=m8 h9
 obtain ⟨x9,rfl,o9⟩:=af2 (n:=n+1) w9
 obtain ⟨a10,b10,rfl,w10,h11⟩:=m8 h10
 obtain ⟨x10,rfl,o10⟩:=az8 (n:=n+0) w10
 obtain ⟨a11,b11,rfl,w11,h12⟩:=m8 h11
 obtain ⟨x11,rfl,o11⟩:=aA2 (n:=n+0) w11
 obtain rfl:=bZ2 h12
 exact ⟨⟨x0,x1,x2,x3,x4,x5,x6,x7,x8,x9,x10,x11⟩,rfl,o0,o1,o2,o3,o4,o5,o6,o7,o8,o9,o10,o11⟩
theorem bp1 {n:Nat}{ds:List D} (h:Q8 Tryz.prog (n+1) 5 ds):∃x:Int,ds=(d7 .u8) x∧n4 .u8 x:=by
 obtain ⟨m,rfl,o⟩:=bR8 (k:= .u8) (by kernel_rfl) h
 exact ⟨m,rfl,o⟩
theorem aA5 {n:Nat}{ds:List D} (h:Q8 Tryz.prog (n+2) 38 ds):∃x:List Int,ds=(E0 1 (d7 .u8)) x∧(x.length*1≤reachBytes∧∀y∈x,n4 .u8 y):=by
 obtain ⟨rows,rfl,o,w⟩:=bI2 (n:=n+1) (e:=5) (sz:=1) (by_:=1) (by kernel_rfl) (by kernel_rfl) (by kernel_rfl) h
 obtain ⟨l,rfl,q⟩:=bz7 (en:=(d7 .u8)) (Ok:=fun y=>n4 .u8 y) (fun r hr=>bp1 (n:=n+0) hr) rows w
 exact ⟨l,rfl,by simpa using o,q⟩
theorem bl3 {n:Nat}{ds:List D} (h:Q8 Tryz.prog (n+4) 40 ds):∃x:e9,ds=e9.enc x∧x.Ok:=by
 have h0:=bu4 (n:=n+3) (ts:= [34,3,3,2,2,2,2,2,35,3,4,37,31,38,38]) (by kernel_rfl) h
 obtain ⟨a0,b0,rfl,w0,h1⟩:=m8 h0
 obtain ⟨x0,rfl,o0⟩:=bk4 (n:=n+2) w0
 obtain ⟨a1,b1,rfl,w1,h2⟩:=m8 h1
 obtain ⟨x1,rfl,o1⟩:=i8 (n:=n+2) w1
 obtain ⟨a2,b2,rfl,w2,h3⟩:=m8 h2
 obtain ⟨x2,rfl,o2⟩:=i8 (n:=n+2) w2
 obtain ⟨a3,b3,rfl,w3,h4⟩:=m8 h3
 obtain ⟨x3,rfl,o3⟩:=l4 (n:=n+2) w3
 obtain ⟨a4,b4,rfl,w4,h5⟩:=m8 h4
 obtain ⟨x4,rfl,o4⟩:=l4 (n:=n+2) w4
 obtain ⟨a5,b5,rfl,w5,h6⟩:=m8 h5
 obtain ⟨x5,rfl,o5⟩:=l4 (n:=n+2) w5
 obtain ⟨a6,b6,rfl,w6,h7⟩:=m8 h6
 obtain ⟨x6,rfl,o6⟩:=l4 (n:=n+2) w6
 obtain ⟨a7,b7,rfl,w7,h8⟩:=m8 h7
 obtain ⟨x7,rfl,o7⟩:=l4 (n:=n+2) w7
 obtain ⟨a8,b8,rfl,w8,h9⟩:=m8 h8
 obtain ⟨x8,rfl,o8⟩:=af2 (n:=n+2) w8
 obtain ⟨a9,b9,rfl,w9,h10⟩:=m8 h9
 obtain ⟨x9,rfl,o9⟩:=i8 (n:=n+2) w9
 obtain ⟨a10,b10,rfl,w10,h11⟩:=m8 h10
 obtain ⟨x10,rfl,o10⟩:=br0 (n:=n+2) w10
 obtain ⟨a11,b11,rfl,w11,h12⟩:=m8 h11
 obtain ⟨x11,rfl,o11⟩:=bl5 (n:=n+0) w11
 obtain ⟨a12,b12,rfl,w12,h13⟩:=m8 h12
 obtain ⟨x12,rfl,o12⟩:=aA2 (n:=n+1) w12
 obtain ⟨a13,b13,rfl,w13,h14⟩:=m8 h13
 obtain ⟨x13,rfl,o13⟩:=aA5 (n:=n+1) w13
 obtain ⟨a14,b14,rfl,w14,h15⟩:=m8 h14
 obtain ⟨x14,rfl,o14⟩:=aA5 (n:=n+1) w14
 obtain rfl:=bZ2 h15
 exact ⟨⟨x0,x1,x2,x3,x4,x5,x6,x7,x8,x9,x10,x11,x12,x13,x14⟩,rfl,o0,o1,o2,o3,o4,o5,o6,o7,o8,o9,o10,o11,o12,o13,o14⟩
theorem bk7 {n:Nat}{ds:List D} (h:Q8 Tryz.prog (n+5) 42 ds):∃x:Op,ds=Op.enc x∧x.Ok:=by
 have h0:=bu4 (n:=n+4) (ts:= [3,40,2,3]) (by kernel_rfl) h
 obtain ⟨a0,b0,rfl,w0,h1⟩:=m8 h0
 obtain ⟨x0,rfl,o0⟩:=i8 (n:=n+3) w0
 obtain ⟨a1,b1,rfl,w1,h2⟩:=m8 h1
 obtain ⟨x1,rfl,o1⟩:=bl3 (n:=n+0) w1
 obtain ⟨a2,b2,rfl,w2,h3⟩:=m8 h2
 obtain ⟨x2,rfl,o2⟩:=l4 (n:=n+3) w2
 obtain ⟨a3,b3,rfl,w3,h4⟩:=m8 h3
 obtain ⟨x3,rfl,o3⟩:=i8 (n:=n+3) w3
 obtain rfl:=bZ2 h4
 exact ⟨⟨x0,x1,x2,x3⟩,rfl,o0,o1,o2,o3⟩
theorem bk1 {n:Nat}{ds:List D} (h:Q8 Tryz.prog (n+6) 25 ds):∃x:List Op,ds=(E0 29 Op.enc) x∧(x.length*312≤reachBytes∧∀y∈x,y.Ok):=by
 obtain ⟨rows,rfl,o,w⟩:=bI2 (n:=n+5) (e:=42) (sz:=29) (by_:=312) (by kernel_rfl) (by kernel_rfl) (by kernel_rfl) h
 obtain ⟨l,rfl,q⟩:=bz7 (en:=Op.enc) (Ok:=fun y=>y.Ok) (fun r hr=>bk7 (n:=n+0) hr) rows w
 exact ⟨l,rfl,by simpa using o,q⟩
theorem law24_DeciderKnows_sound (H:∀(c:d8) (l_:List Op),c.Ok→(l_.length*312≤reachBytes∧∀y∈l_,y.Ok)→aD3 c l_=some true):∀xs,wtA Tryz.prog Tryz.f4.params.toList xs→i0 E 4 xs [] fun d _=>d= .bool true:=by
 intro xs h
 have h0:wtA Tryz.prog [24,25] xs:=h
 obtain ⟨d0,r0,rfl,w0,h1⟩:=cQ6 h0
 obtain ⟨c0,rfl,v0⟩:=dO7 (by kernel_rfl) w0
 obtain ⟨x0,rfl,o0⟩:=bj0 (n:=3) v0
 obtain ⟨d1,r1,rfl,w1,h2⟩:=cQ6 h1
 have v1:=dC1 (by kernel_rfl) w1
 obtain ⟨x1,e1,o1⟩:=bk1 (n:=0) v1
 obtain ⟨rfl,-⟩:=List.cons.inj e1
 obtain rfl:=dM4 h2
 exact (by7 (H x0 x1 o0 o1)).mono fun d s h=>h.1
end Go.RX.L

namespace Go.RX.L
open Go Go.RX
theorem dA6 {c:d8}{ix now:Int}{st:d9}{o:List e9}{st' :d9} (h:PR c ix now st o st'):st'.known=st.known:=by cases h<;>rfl
theorem dj8 {c:d8}{ix now:Int}{st:d9}:(cx7 c ix now st).known=st.known:=by
 obtain ⟨ho,a,to,he,-⟩:=de6 (c:=c) (ix:=ix) (now:=now) (st:=st)
 rw [he]
theorem dD2 {c:d8}{ix:Int}{o:Op}{st:d9}{M M' :Int}{d:Bool}{out:List e9}{st' :d9}{i:Nat} (h:DI c st M i) (hs:SR c ix o st M d out st' M') (hw:i9 .i64 o.What 7≠3):
  st'.known=st.known∨(o.M_.Kind=9∧st'.known=o.M_.Plan∧st'.known.Epoch>st.known.Epoch)∨(o.M_.Kind=8∧st'.known=st.prop.Value∧st'.known.Epoch>st.known.Epoch):=by
 cases hs with
 | idle _ _=>exact .inl rfl
 | fall h _=>exact absurd h hw
 | boot h _=>exact absurd h hw
 | tick _ _ _ _ _ hp=>exact .inl ((dA6 hp).trans dj8)
 | handle _ _ _ _ _ _ hh=>
  cases hh with
  | learn k8 p2=>
   refine .inr (.inr ⟨k8,rfl,?_⟩)
   rcases h.pi.ph with hp | ⟨-,h5,-,-,-,hp⟩
   ·omega
   ·have:=(hp p2).2
    show st.prop.Value.Epoch>_
    omega
  | told k9 _ he=>exact .inr (.inl ⟨k9,rfl,he⟩)
  | _=>exact .inl rfl
theorem dN3 {c:d8}{ix:Int}{o:Op}{st:d9}{M M' :Int}{d:Bool}{out:List e9}{st' :d9} (hs:SR c ix o st M d out st' M') (hw:i9 .i64 o.What 7=3):st'.known.Epoch=0:=by
 cases hs with
 | idle h _=>exact absurd hw h
 | fall _ _=>rfl
 | boot _ _=>rfl
 | tick h _ _ _ _ _=>rw [hw] at h;cases h
 | handle h _ _ _ _ _ _=>exact absurd hw h
theorem deciderKnows (c:d8) (l_:List Op) (hc0:c.Ok) (hl:l_.length*312≤reachBytes∧∀y∈l_,y.Ok):aD3 c l_=some true:=by
 have ht:c.Tiers.length<9223372036854775807:=by
  obtain ⟨-,-,-,-,-,⟨h1,-⟩,-⟩:=hc0
  exact di5 h1
 have hnew:=cw9 (c:=c) (index:=0) ht
 have s0:q9 c l_ .s0=T0 c l_:=rfl
 unfold T0 at s0
 by_cases hr:Z0 c=true∧0≤(0:Int)∧0<c.Deciders
 rotate_left
 ·rw [if_neg hr] at hnew
  exact u0 (.next (s' := .s1 true) (by rw [s0,cF3];simp only [Option.bind_some,hnew]) (.done rfl))
 rw [if_pos hr] at hnew
 obtain ⟨hc,-,-⟩:=hr
 have cb:=aD1 hc
 refine u0 (.next (s' := .s2 true (zst c) 0 (-1) false [] []) (by rw [s0,cF3];simp only [Option.bind_some,hnew]) ?_)
 by_cases hg:l_.length≤200
 rotate_left
 ·refine .done ?_
  have:decide (((l_.length:Nat):Int)>200)=true:=decide_eq_true (by omega)
  simp only [q9,S7,aL0,List.length_map,this,Option.bind_some,cond_true]
 have key:∀(j i:Nat) (st:d9) (ns:List Int) (pend:Option Int) (f:Int) (d:Bool) (s t:List Int),i+j=l_.length→DI c st (G4 ns) i→JR ns pend f d s t i→Ev (q9 c l_) (.s3 true (i:Int) st 0 f d s t) true:=by
  intro j
  induction j with
  | zero=>
   intro i st ns pend f d s t hi hd hj
   refine .done ?_
   simp only [q9,F3,List.length_map,geB (show l_.length≤i by omega),cond_false]
  | succ j ih=>
   intro i st ns pend f d s t hi hd hj
   have hlt:i<l_.length:=by omega
   have ho:=hl.2 _ (List.getElem_mem hlt)
   obtain ⟨out,st',f',d',s',t',ns',pend',e1,e2,e3,e4⟩:=dM5 (ix:=0) hd hj hc ht (by decide) ho (by omega)
   have ih:=ih (i+1) st' ns' pend' f' d' s' t' (by omega) e2 e3
   have w:=wD (show i≤3000000 by omega)
   have k0:∀(st:d9) (f:Int) (d:Bool) (s t:List Int),ac7 st c 0 f d s t=some st.known:=fun _ _ _ _ _=>rfl
   have k1:∀(st:d9) (f:Int) (d:Bool) (s t:List Int),aR2 st c 0 f d s t=some st.prop:=fun _ _ _ _ _=>rfl
   by_cases w3:i9 .i64 (l_[i]).What 7=3
   ·have hz:=dN3 e4 w3
    refine .next (s' := .s3 true ((i+1:Nat):Int) st' 0 f' d' s' t') ?_ ih
    simp only [q9,F3,List.length_map,K0 hlt,S5,Bool.and_self,cond_true,Int.toNat_natCast,List.getE hlt,Option.bind_some,k0,k1,e1,beq_iff_eq.2 w3,hz,bne_self_eq_false,cond_false,w]
   ·have hsame:=ch2 (a:=st.known) (b:=st'.known) hd.kn.2.s
    have hs2:=ch2 (a:=st'.known) (b:=(l_[i]).M_.Plan) e2.kn.2.s
    have hs3:=ch2 (a:=st'.known) (b:=st.prop.Value) e2.kn.2.s
    have hk:=dD2 hd e4 w3
    have fin:∀b1 b2:Bool,st'.known.Epoch>st.known.Epoch→(b1 || b2)=true→Ev (q9 c l_) (.s4 true (i:Int) b1 b2 st' 0 st.known st'.known f' d' s' t') true:=fun b1 b2 h hb=>by
     refine .next (s' := .s3 true ((i+1:Nat):Int) st' 0 f' d' s' t') ?_ ih
     have:decide (st'.known.Epoch≤st.known.Epoch)=false:=decide_eq_false (by omega)
     simp only [q9,af4,this,cond_false,w]
     cases b1 with
     | true=>rfl
     | false=>cases b2 with
      | true=>rfl
      | false=>cases hb
    cases hq:ba8 st.known st'.known with
    | true=>
     refine .next (s' := .s3 true ((i+1:Nat):Int) st' 0 f' d' s' t') ?_ ih
     simp only [q9,F3,List.length_map,K0 hlt,S5,Bool.and_self,cond_true,Int.toNat_natCast,List.getE hlt,Option.bind_some,k0,k1,e1,beq_eq_false_iff_ne.2 w3,hsame,hq,cond_false,w]
    | false=>
     have five:∀b1:Bool,st'.known.Epoch>st.known.Epoch→(b1=true∨((l_[i]).M_.Kind=8∧st'.known=st.prop.Value))→Ev (q9 c l_) (.s5 true (i:Int) b1 st' 0 l_[i] st.known st.prop.Value st'.known f' d' s' t') true:=fun b1 h hb=>by
      by_cases k8:(l_[i]).M_.Kind=8
      ·refine .next (s' := .s4 true (i:Int) b1 (ba8 st'.known st.prop.Value) st' 0 st.known st'.known f' d' s' t') ?_ (fin _ _ h ?_)
       ·simp only [q9,T6,beq_iff_eq.2 k8,cond_true,hs3,Option.bind_some]
       ·rcases hb with rfl | ⟨-,hb⟩
        ·rfl
        ·rw [bc5.2 hb,Bool.or_true]
      ·refine .next (s' := .s4 true (i:Int) b1 false st' 0 st.known st'.known f' d' s' t') ?_ (fin _ _ h ?_)
       ·simp only [q9,T6,beq_eq_false_iff_ne.2 k8,cond_false]
       ·rcases hb with rfl | ⟨hb,-⟩
        ·rfl
        ·exact absurd hb k8
     rcases hk with hk | ⟨k9,hk,he⟩ | ⟨k8,hk,he⟩
     ·rw [hk,bc5.2 rfl] at hq;cases hq
     ·refine .next (s' := .s5 true (i:Int) (ba8 st'.known (l_[i]).M_.Plan) st' 0 l_[i] st.known st.prop.Value st'.known f' d' s' t') ?_ (five _ he (.inl (bc5.2 hk)))
      simp only [q9,F3,List.length_map,K0 hlt,S5,Bool.and_self,cond_true,Int.toNat_natCast,List.getE hlt,Option.bind_some,k0,k1,e1,beq_eq_false_iff_ne.2 w3,hsame,hq,cond_false,beq_iff_eq.2 k9,hs2]
     ·refine .next (s' := .s5 true (i:Int) false st' 0 l_[i] st.known st.prop.Value st'.known f' d' s' t') ?_ (five _ he (.inr ⟨k8,hk⟩))
      have n9:((l_[i]).M_.Kind==9)=false:=by rw [k8];rfl
      simp only [q9,F3,List.length_map,K0 hlt,S5,Bool.and_self,cond_true,Int.toNat_natCast,List.getE hlt,Option.bind_some,k0,k1,e1,beq_eq_false_iff_ne.2 w3,hsame,hq,cond_false,n9]
 refine .next (s' := .s3 true ((0:Nat):Int) (zst c) 0 (-1) false [] []) ?_ (key l_.length 0 (zst c) [] none (-1) false [] [] (by omega) (dv3 cb (by decide) (by decide)) JR0)
 have:decide (((l_.length:Nat):Int)>200)=false:=decide_eq_false (by omega)
 simp only [q9,S7,aL0,List.length_map,this,Option.bind_some,cond_false];rfl
end Go.RX.L
