/-
  Words and walks for DeciderProposes. No condition.
-/
import Derived.Test.YtajehicfjidaiaaGreatDoorDeciderProposesY7
set_option linter.unusedSectionVars false
set_option linter.unnecessarySimpa false
set_option linter.unusedSimpArgs false
set_option linter.unusedVariables false
set_option maxRecDepth 100000
namespace Go.RX.L
open Go Go.RX
theorem ek3:bA4 B9:=⟨aj2.2 (by decide),by decide,by decide,⟨by decide,by decide⟩⟩
theorem et1 (k f t e b a n ti u co:Int):Shm ⟨k,f,t,e,b,a,n,ti,u,co,false,B9,[],[],[]⟩:=⟨⟨by simp[B9],by simp[B9]⟩,O4.2 (by simp[B9]),O4.2 (by simp[B9])⟩
theorem ec0 {k f t e b a n ti co:Int} (hk:1≤k∧k≤19) (hf:0≤f∧f≤255) (ht:0≤t∧t≤255) (hc:0≤co∧co≤1000):G8 ⟨k,f,t,e,b,a,n,ti,0,co,false,B9,[],[],[]⟩=true:=by
 simp only[G8,Bool.and_eq_true,decide_eq_true_eq,bG2,cond_false]
 refine⟨?_,by unfold txM;simp,by rw[be7]⟩
 unfold hdM;simp only;omega
def C4 (n:Int):f5:=⟨17,0,0,0,0,0,n,0,0,0,false,B9,[],[],[]⟩
theorem dc8 {n:Int} (h:u0 .i64 n):bR0 (C4 n):=by
 refine⟨⟨et1 ..,ek3,?_,by simp[C4],fun x hx=>by simp[C4] at hx,fun x hx=>by simp[C4] at hx,fun x hx=>by simp[C4] at hx⟩,ec0 (by decide) (by decide) (by decide) (by decide)⟩
 intro x hx
 simp only[C4,List.mem_cons,List.not_mem_nil,or_false] at hx
 rcases hx with rfl | rfl | rfl | rfl | rfl<;>first | assumption | exact aj2.2 (by decide)
def L4 (l:List Int):Int:=l.foldl A0 0
theorem eA2 {a b n:Int} (h1:a≤n) (h2:b≤n):A0 a b≤n:=by unfold A0;split<;>omega
theorem dz6 (a b:Int):a≤A0 a b:=by unfold A0;split<;>omega
theorem dO7:∀(l:List Int) (a n:Int),a≤n→(∀x∈l,x≤n)→a≤l.foldl A0 a∧l.foldl A0 a≤n
 | [],a,n,h,_=>⟨Int.le_refl _,h⟩
 | x::l,a,n,h,hl=>by
  have:=dO7 l (A0 a x) n (eA2 h (hl x (by simp))) fun y hy=>hl y (by simp[hy])
  have h2:=dz6 a x
  rw[List.foldl_cons];omega
theorem dM2 (l:List Int) (n:Int):L4 (l++ [n])=A0 (L4 l) n:=by simp[L4]
def eG7:Option Int→List Int
 | none=> []
 | some n=>log [C4 n]
/-- What the disk has: boots, one that is not synced. -/
structure JR (ns : List Int) (pend : Option Int) (fuse : Int) (down : Bool) (s t : List Int) (i : Nat) : Prop where
  fu : ae6 fuse
  dk : ∃ J, bI6 (ns.map C4) J s ∧ (down = false → J = []) ∧ (pend ≠ none → J = [])
  tl : t = eG7 pend
  up : down = false → pend = none
  ns_ : ∀ n ∈ ns, 0 ≤ n ∧ n ≤ i
  pd : ∀ n, pend = some n → 0 ≤ n ∧ n ≤ i
  len : s.length + t.length ≤ 9000 * i
  cnt : ns.length + pend.toList.length ≤ i
theorem JR0:JR [] none (-1) false [] [] 0:=⟨by unfold ae6;omega,⟨[],bI6.nil,fun _=>rfl,fun _=>rfl⟩,rfl,fun _=>rfl,by simp,by simp,by simp,by simp⟩
section
variable {ns : List Int} {pend : Option Int} {fuse : Int} {down : Bool} {s t : List Int} {i : Nat}
theorem JR.more (h:JR ns pend fuse down s t i):JR ns pend fuse down s t (i+1):={ h with ns_:=fun n hn=>by have:=h.ns_ n hn;omega,pd:=fun n hn=>by have:=h.pd n hn;omega,len:=by have:=h.len;omega,cnt:=by have:=h.cnt;omega }
theorem JR.mx (h:JR ns pend fuse down s t i):0≤L4 ns∧L4 ns≤i:=dO7 ns 0 i (by omega) fun x hx=>(h.ns_ x hx).2
theorem eu3 {k:Int} (h:JR ns pend fuse down s t i) (hk:u0 .i64 k):bj0 k fuse down s t=some (A0 k (-1))∧JR ns pend (A0 k (-1)) down s t i:=by
 refine⟨rfl,{ h with fu:=?_ }⟩
 have:=aj2.1 hk
 unfold ae6 A0;split<;>omega
theorem dy8 {n:Int}{i:Nat} (h:0≤n∧n≤i) (hi:i≤300):u0 .i64 n:=aj2.2 (by omega)
theorem ek7 {keep:Int} (h:JR ns pend fuse down s t i) (hi:i≤300):∃s' ns',av4 keep fuse down s t=some (-1,true,s',[])∧JR ns' none (-1) true s' [] i∧L4 ns≤L4 ns' :=by
 obtain⟨fu,⟨J,dk,dj,dp⟩,tl,up,hn,pd,len,cnt⟩:=h
 have hc:=eA6 (keep:=keep) (fuse:=fuse) (down:=down) (s:=s) (t:=t) (by omega)
 have hkl:(bu0 keep t).length≤t.length:=by unfold bu0;rw[List.length_take];omega
 have f0:ae6 (-1):=by unfold ae6;omega
 have no:∀{P:Prop},true=false→P:=fun h=>by cases h
 cases hp:pend with
 | none=>
  rw[hp] at tl cnt
  subst tl
  exact⟨_,ns,hc,⟨f0,⟨J,dk.crash0 keep,no,fun h=>absurd rfl h⟩,rfl,no,hn,fun n h=>(by cases h),by simp[bu0] at len ⊢;omega,by simp at cnt ⊢;omega⟩,Int.le_refl _⟩
 | some m=>
  have hm:=pd m hp
  have hJ:=dp (by rw[hp];simp)
  subst hJ
  rw[hp] at tl cnt
  have tl:t=log [C4 m]:=tl
  simp only[Option.toList,List.length_cons,List.length_nil] at cnt
  rcases dk.crash (dc8 (dy8 hm hi)) keep with h1 | ⟨J,h1⟩
  ·refine⟨_,ns++ [m],hc,⟨f0,⟨[],by rw[tl,List.map_append];exact h1,no,fun h=>absurd rfl h⟩,rfl,no,fun n h=> ?_,fun n h=>(by cases h),by simp;omega,by simp;omega⟩,by rw[dM2];exact dz6 _ _⟩
   rcases List.mem_append.1 h with h | h
   ·exact hn n h
   ·rw[List.mem_singleton.1 h];exact hm
  ·exact⟨_,ns,hc,⟨f0,⟨J,by rw[tl];exact h1,no,fun h=>absurd rfl h⟩,rfl,no,hn,fun n h=>(by cases h),by simp;omega,by simp;omega⟩,Int.le_refl _⟩
/-! ### a boot -/
def aF8 (ns:List Int):List (List Int):=ns.map fun n=>as2 (C4 n)
def at8 (ns:List Int):List Int:=ns.map fun _=>17
theorem wB {k:Nat} (h:k≤3000000):IntKind.i64.wrap ((k:Int)+1)=((k+1:Nat):Int):=by rw[v9 (by omega) (by omega)];norm_cast
theorem dP6 {n:Int} (h:u0 .i64 n):bw0 17 (as2 (C4 n))=some (C4 n,0):=by
 have hm:=dc8 h
 have hb:=cL1 hm.1 hm.2
 have hby:A1 (as2 (C4 n)):=hm.fr.2.1
 rw[eG4 (by decide) hby (by simp only[K3];omega)]
 exact congrArg some (ev6 hm.1 hm.2)
theorem ep2 {k:Nat} (h:k<ns.length):(at8 ns)[k]? =some 17∧(aF8 ns)[k]? =some (as2 (C4 ns[k])):=by simp[at8,aF8,h]
theorem ea6 {f:Int}{d:Bool}{s' t' :List Int}{r:Int×Int×Int×Bool×List Int×List Int} (hn:∀n∈ns,u0 .i64 n) (hl:ns.length≤1000):∀(j k:Nat) (a:Int),k+j=ns.length→
  Ev R2 (.s1 (aF8 ns) ((ns.drop k).foldl A0 a) (at8 ns) (ns.length:Nat) (ns.length:Nat) f d s' t') r→Ev R2 (.s1 (aF8 ns) a (at8 ns) (ns.length:Nat) (k:Nat) f d s' t') r:=by
 intro j
 induction j with
 | zero=>
  intro k a hk h
  have:k=ns.length:=by omega
  subst this
  simpa using h
 | succ j ih=>
  intro k a hk h
  have hlt:k<ns.length:=by omega
  rw[List.drop_eq_getElem_cons hlt,List.foldl_cons] at h
  obtain⟨g1,g2⟩:=ep2 hlt
  have hof:=dP6 (hn _ (List.getElem_mem hlt))
  have l1:(decide ((k:Int)<((at8 ns).length:Int)))=true:=by simp[at8];omega
  have l2:(decide ((k:Int)<((aF8 ns).length:Int)))=true:=by simp[aF8];omega
  refine .next (s' :=.s2 (aF8 ns) a (at8 ns) (ns.length:Nat) (k:Nat) true f d (C4 ns[k]) s' t') ?_ ?_
  ·simp only[R2,ad4,G4 hlt,cond_true,List.length_map,O9,l1,l2,Bool.and_self,Int.toNat_natCast,g1,g2,Option.bind_some,hof,beq_self_eq_true,show(C4 ns[k]).Kind=17 from rfl]
  ·refine .next (s' :=.s1 (aF8 ns) (A0 a ns[k]) (at8 ns) (ns.length:Nat) ((k+1:Nat):Int) f d s' t') ?_ (ih (k+1) _ (by omega) h)
   simp only[R2,aZ9,cond_true,wB (show k≤3000000 by omega),show(C4 ns[k]).Nonce=ns[k] from rfl]
theorem dx7:eff (-1) false=some (-1):=by decide
theorem JR.open_ (h:JR ns pend fuse down s t i) (hi:i≤300):(∃f,ai7 fuse down s t=some (at8 ns,aF8 ns,0,f,false,log (ns.map C4),[])∧JR ns none f false (log (ns.map C4)) [] i∧(fuse= -1→f= -1))∨
  (∃f,ai7 fuse down s t=some ([],[],61,f,true,s,[])∧JR ns none f true s [] i∧fuse≠ -1):=by
 obtain⟨fu,⟨J,dk,dj,dp⟩,tl,up,hn,pd,len,cnt⟩:=h
 obtain⟨e0,hcut⟩:=dk.cut
 have ho:=eF9 (fuse:=fuse) (down:=down) (t:=t) (ep4 dk.ok) hcut dk.jb (by have:=dk.eq;unfold log at this;rw[←this];omega) fu
 have hs:P2 ((ns.map C4).map by4)++J=s:=dk.eq.symm
 rw[hs] at ho
 have m1:((ns.map C4).map by4).map (·.1)=at8 ns:=by simp[by4,at8,C4]
 have m2:((ns.map C4).map by4).map (·.2)=aF8 ns:=by simp[by4,aF8]
 rw[m1,m2] at ho
 have no:∀{P:Prop},true=false→P:=fun h=>by cases h
 have hls:(log (ns.map C4)).length≤s.length:=by rw[dk.eq];simp
 have s9:∀f,ae6 f→JR ns none f false (log (ns.map C4)) [] i:=fun f hf=>⟨hf,⟨[],⟨dk.ok,by simp,⟨_,rfl⟩,fun c hc=>by simp at hc⟩,fun _=>rfl,fun _=>rfl⟩,rfl,fun _=>rfl,hn,fun n h=>(by cases h),by simp;omega,by simp;omega⟩
 by_cases hJ:J= []
 ·rw[if_pos hJ] at ho
  exact .inl ⟨fuse,ho,s9 _ fu,id⟩
 ·rw[if_neg hJ] at ho
  cases he:eff fuse false with
  | some f=>
   rw[he] at ho
   exact .inl ⟨f,ho,s9 _ (cE9 fu he),fun h=>by rw[h,dx7] at he;exact(Option.some.inj he).symm⟩
  | none=>
   rw[he] at ho
   exact .inr ⟨fd fuse false,by rw[ho,←hs],⟨dg2 fu,⟨J,dk,no,fun h=>absurd rfl h⟩,rfl,no,hn,fun n h=>(by cases h),by simp;omega,by simp;omega⟩,fun h=>by rw[h,dx7] at he;cases he⟩
theorem ez1 (h:JR ns pend fuse down s t i) (hi:i≤250):∃b e f d s' t' ns' pend',bt8 fuse down s t=some (b,e,f,d,s',t')∧JR ns' pend' f d s' t' (i+1)∧L4 ns≤L4 ns' ∧(e=0→d=false∧b=L4 ns+1∧L4 ns' =b)∧(fuse= -1→e=0):=by
 rcases h.open_ (by omega) with⟨f,ho,hr,hf1⟩ | ⟨f,ho,hr,hf1⟩
 rotate_left
 ·refine⟨0,61,f,true,s,[],ns,none,z7 (.done ?_),hr.more,Int.le_refl _,(fun h=>by cases h),fun h=>absurd h hf1⟩
  simp only[R2,aK4,ho,Option.bind_some,show((61:Int) !=0)=true from rfl,cond_true]
 have hin:∀n∈ns,u0 .i64 n:=fun n hn=>dy8 (h.ns_ n hn) (by omega)
 have hm:=h.mx
 have hl:ns.length≤1000:=by have:=h.cnt;omega
 have hrec:bR0 (C4 (L4 ns+1)):=dc8 (aj2.2 (by omega))
 have hb:cg4 (C4 (L4 ns+1))=some (17,as2 (C4 (L4 ns+1)),0):=by rw[eu5 hrec.1,dS2,if_pos hrec.2];rfl
 obtain⟨h1,h2,h3⟩:=hrec.fr
 have h1:0≤(17:Int)∧(17:Int)≤255:=by decide
 have h2:A1 (as2 (C4 (L4 ns+1))):=h2
 have h3:(as2 (C4 (L4 ns+1))).length≤8192:=h3
 have hlen:=hr.len
 have hcnt:=hr.cnt
 have ha:=ey8 (k:=17) (body:=as2 (C4 (L4 ns+1))) h1 h2 h3 hr.fu (down:=false) (s:=log (ns.map C4)) (t:= []) (by simp)
 have hlg:L1 17 (as2 (C4 (L4 ns+1)))=log [C4 (L4 ns+1)]:=(de0 (C4 (L4 ns+1))).symm
 have hl' :(log [C4 (L4 ns+1)]).length≤8500:=by rw[←hlg,bd4];omega
 have w1:IntKind.i64.wrap (L4 ns+1)=L4 ns+1:=v9 (by omega) (by omega)
 have ge:decide (L4 ns≥1099511627776)=false:=decide_eq_false (by omega)
 have lt:decide (((ns.length:Nat):Int)<((ns.length:Nat):Int))=false:=decide_eq_false (by omega)
 have first:∀{r},ad4 (aF8 ns) (L4 ns) (at8 ns) (ns.length:Nat) (ns.length:Nat) f false (log (ns.map C4)) []=some (.inr r)→bt8 fuse down s t=some r:=fun {r} hh=>by
  refine z7 (.next (s' :=.s1 (aF8 ns) 0 (at8 ns) (ns.length:Nat) ((0:Nat):Int) f false (log (ns.map C4)) []) ?_ (ea6 hin hl ns.length 0 0 (by omega) (.done ?_)))
  ·simp only[R2,aK4,ho,Option.bind_some,show((0:Int) !=0)=false from rfl,cond_false,List.length_map]
   simp[at8]
  ·simpa only[R2,List.drop_zero,L4] using hh
 have bm:(⟨17,0,0,0,0,0,L4 ns+1,0,0,0,false,(⟨0,0,0,0,0,0,0,0,0,0,[],[]⟩:Plan),[],[],[]⟩:f5)=C4 (L4 ns+1):=rfl
 have no:∀{P:Prop},true=false→P:=fun h=>by cases h
 obtain⟨J,dk,dj,dp⟩:=hr.dk
 have hJ:=dj rfl
 subst hJ
 have b1:0≤L4 ns+1∧L4 ns+1≤((i+1:Nat):Int):=by omega
 have ns1:∀n∈ns,0≤n∧n≤((i+1:Nat):Int):=fun n hn=>by have:=h.ns_ n hn;omega
 simp only[List.length_nil,Nat.add_zero,Option.toList] at hlen hcnt
 simp only[List.nil_append,hlg] at ha
 cases he:eff f false with
 | none=>
  rw[he] at ha
  refine⟨0,61,fd f false,true,log (ns.map C4),[],ns,none,first ?_,⟨dg2 hr.fu,⟨[],dk,no,fun h=>absurd rfl h⟩,rfl,no,ns1,fun n h=>(by cases h),by simp;omega,by simp;omega⟩,Int.le_refl _,(fun h=>by cases h),fun h=>by rw[hf1 h,dx7] at he;cases he⟩
  simp only[ad4,lt,cond_false,ge,w1,bm,hb,Option.bind_some,ha,show((61:Int) !=0)=true from rfl,cond_true]
 | some g=>
  rw[he] at ha
  have hg:=cE9 hr.fu he
  have hy:=eH8 (fuse:=g) hg (down:=false) (s:=log (ns.map C4)) (t:=log [C4 (L4 ns+1)]) (by omega)
  cases he2:eff g false with
  | none=>
   rw[he2] at hy
   refine⟨0,61,fd g false,true,log (ns.map C4),log [C4 (L4 ns+1)],ns,some (L4 ns+1),first ?_,⟨dg2 hg,⟨[],dk,no,fun _=>rfl⟩,rfl,no,ns1,fun n h=>(by cases h;exact b1),by omega,by simp;omega⟩,Int.le_refl _,(fun h=>by cases h),fun h=>by rw[hf1 h,dx7] at he;cases he;rw[dx7] at he2;cases he2⟩
   simp only[ad4,lt,cond_false,ge,w1,bm,hb,Option.bind_some,ha,show((0:Int) !=0)=false from rfl,hy,show((61:Int) !=0)=true from rfl,cond_true]
  | some g2=>
   rw[he2] at hy
   have mx:L4 (ns++ [L4 ns+1])=L4 ns+1:=by rw[dM2];unfold A0;split<;>omega
   refine⟨L4 ns+1,0,g2,false,log (ns.map C4)++log [C4 (L4 ns+1)],[],ns++ [L4 ns+1],none,first ?_,⟨cE9 hg he2,⟨[],⟨fun x hx=> ?_,by simp[dO0],⟨_,rfl⟩,fun c hc=>by simp at hc⟩,fun _=>rfl,fun _=>rfl⟩,rfl,fun _=>rfl,fun n hn=> ?_,fun n h=>(by cases h),by simp;omega,by simp;omega⟩,by rw[mx];omega,(fun _=>⟨rfl,rfl,mx⟩),fun _=>rfl⟩
   ·simp only[ad4,lt,cond_false,ge,w1,bm,hb,Option.bind_some,ha,show((0:Int) !=0)=false from rfl,hy]
   ·rw[List.map_append] at hx
    rcases List.mem_append.1 hx with hx | hx
    ·exact dk.ok x hx
    ·simp only[List.map_cons,List.map_nil,List.mem_singleton] at hx
     rw[hx];exact hrec
   ·rcases List.mem_append.1 hn with hn | hn
    ·exact ns1 n hn
    ·rw[List.mem_singleton.1 hn];exact b1
end
end Go.RX.L

set_option maxHeartbeats 4000000
namespace Go.RX.L
open Go Go.RX Go.Proofs
attribute [local irreducible] i4
noncomputable def cQ0 (y:Int×Bool):D×i0:=(.tup [.int .i64 y.1,.bool y.2],[])
noncomputable def av5 (aW4 first bz7:Int):Option (Int×Bool):=(bif (decide (aW4≥first)) then (some ((IntKind.i64.wrap (aW4-first)),(decide (aW4<(IntKind.i64.wrap (first+bz7)))))) else (some ((IntKind.i64.wrap (aW4-first)),false)))
theorem bI5 {aW4 first bz7:Int}{r:Int×Bool} (h:av5 aW4 first bz7=some r):i7 E 59 [.int .i64 aW4,.int .i64 first,.int .i64 bz7] [] (Rs cQ0 r):=so (fn:=Tryz.f59) (k:=false) (m:=0) h<| by
 intro r h;unfold av5 at h
 refine zs 15 h (fun h=> ?_) fun h=> ?_
 ·
  exact zu 14 h
 exact zu 14 h
noncomputable def df7 (aa4:f3) (c:d9) (ac9 ae5:Int) (ad1:Bool) (b2 b3:List Int) (y:Bool):D×i0:=(.bool y,[some ⟨88,true,[(f3.l aa4 (d9.l c [.int .i64 ac9,.ptr 1 0 0]))]⟩,some ⟨4,true,[[(i5 2 (List.map (d8 .u8) b2)),(i5 3 (List.map (d8 .u8) b3)),.int .i64 ae5,.bool ad1]]⟩,some ⟨1,false,(List.map (d8 .u8) b2)⟩,some ⟨1,false,(List.map (d8 .u8) b3)⟩])
noncomputable def aR9 (p_:Plan) (aa4:f3) (c:d9) (ac9 ae5:Int) (ad1:Bool) (b2 b3:List Int):Option Bool:=(bif (!decide (c.Targets<0)) then ((ap4 p_).bind fun y2=>(bif y2 then (bif (((((List.map (d8 .i64) p_.Pen).length:Nat):Int):Int)==c.Targets) then (bif (decide (((A0 (A0 p_.Target p_.Prev) p_.Spill):Int)<c.Targets)) then (bif (((Z8 .u64 (orI .u64 p_.Up p_.Sup) (IntKind.u64.wrap ((D3 .u64 1 c.Targets)-1))):Int)==0) then (some (decide (((((List.map (d8 .i64) p_.Changes).length:Nat):Int):Int)≤c.B_))) else (some false)) else (some false)) else (some false)) else (some false))) else none)
theorem cO4 {p_:Plan}{aa4:f3}{c:d9}{ac9 ae5:Int}{ad1:Bool}{b2 b3:List Int}{r:Bool} (h:aR9 p_ aa4 c ac9 ae5 ad1 b2 b3=some r):i7 E 68 [.ptr 0 0 0,.agg (Plan.enc p_)] [some ⟨88,true,[(f3.l aa4 (d9.l c [.int .i64 ac9,.ptr 1 0 0]))]⟩,some ⟨4,true,[[(i5 2 (List.map (d8 .u8) b2)),(i5 3 (List.map (d8 .u8) b3)),.int .i64 ae5,.bool ad1]]⟩,some ⟨1,false,(List.map (d8 .u8) b2)⟩,some ⟨1,false,(List.map (d8 .u8) b3)⟩] (Rs (df7 aa4 c ac9 ae5 ad1 b2 b3) r):=so (fn:=Tryz.f68) (k:=true) (m:=4) h<| by
 intro r h;unfold aR9 at h
 refine zn 14 h fun h=> ?_
 refine zd 6 [] h (fun _=>aK0) fun y2 h=> ?_
 refine zs 0 h (fun h=> ?_) fun h=> ?_
 ·
  refine zs 11 h (fun h=> ?_) fun h=> ?_
  ·
   refine zs 17 h (fun h=> ?_) fun h=> ?_
   ·
    refine zs 10 h (fun h=> ?_) fun h=> ?_
    ·
     exact zu 12 h
    exact zu 10 h
   exact zu 19 h
  exact zu 33 h
 exact zu 43 h
noncomputable def cS8 (c:d9) (ac9 ae5:Int) (ad1:Bool) (b2 b3:List Int) (y:f3):D×i0:=(.tup [],[some ⟨88,true,[(f3.l y (d9.l c [.int .i64 ac9,.ptr 1 0 0]))]⟩,some ⟨4,true,[[(i5 2 (List.map (d8 .u8) b2)),(i5 3 (List.map (d8 .u8) b3)),.int .i64 ae5,.bool ad1]]⟩,some ⟨1,false,(List.map (d8 .u8) b2)⟩,some ⟨1,false,(List.map (d8 .u8) b3)⟩])
noncomputable def aL3 (p_:Plan) (f4:Int) (aa4:f3) (c:d9) (ac9 ae5:Int) (ad1:Bool) (b2 b3:List Int):Option f3:=(some (⟨aa4.boot,p_,f4,aa4.votes,aa4.hold,aa4.asked,(⟨0,0,0,(⟨0,0,0,0,0,0,0,0,0,0,[],[]⟩:Plan),0,(⟨0,0,0,0,0,0,0,0,0,0,[],[]⟩:Plan),0,0⟩:l7),aa4.made,aa4.top,0,aa4.told⟩:f3))
theorem bL2 {p_:Plan}{f4:Int}{aa4:f3}{c:d9}{ac9 ae5:Int}{ad1:Bool}{b2 b3:List Int}{r:f3} (h:aL3 p_ f4 aa4 c ac9 ae5 ad1 b2 b3=some r):i7 E 66 [.ptr 0 0 0,.agg (Plan.enc p_),.int .i64 f4] [some ⟨88,true,[(f3.l aa4 (d9.l c [.int .i64 ac9,.ptr 1 0 0]))]⟩,some ⟨4,true,[[(i5 2 (List.map (d8 .u8) b2)),(i5 3 (List.map (d8 .u8) b3)),.int .i64 ae5,.bool ad1]]⟩,some ⟨1,false,(List.map (d8 .u8) b2)⟩,some ⟨1,false,(List.map (d8 .u8) b3)⟩] (Rs (cS8 c ac9 ae5 ad1 b2 b3) r):=so (fn:=Tryz.f66) (k:=true) (m:=4) h<| by
 intro r h;unfold aL3 at h
 refine zf 38 [.blk 0 [some 1,some 1,some 1,some 1]] ?_
 exact zu 1 h
noncomputable def dt9 (aa4:f3) (c:d9) (ac9 ae5:Int) (ad1:Bool) (b2 b3:List Int) (y:Bool):D×i0:=(.bool y,[some ⟨88,true,[(f3.l aa4 (d9.l c [.int .i64 ac9,.ptr 1 0 0]))]⟩,some ⟨4,true,[[(i5 2 (List.map (d8 .u8) b2)),(i5 3 (List.map (d8 .u8) b3)),.int .i64 ae5,.bool ad1]]⟩,some ⟨1,false,(List.map (d8 .u8) b2)⟩,some ⟨1,false,(List.map (d8 .u8) b3)⟩])
noncomputable def aL6 (f4:Int) (aa4:f3) (c:d9) (ac9 ae5:Int) (ad1:Bool) (b2 b3:List Int):Option Bool:=(bif (decide (f4<0)) then (some true) else (bif (decide (f4>1099511627776)) then (some true) else (bif (aa4.boot==0) then (some true) else ((aB4 (⟨b2,b3,ae5,ad1⟩:v6)).bind fun y4=>(some y4)))))
theorem bV8 {f4:Int}{aa4:f3}{c:d9}{ac9 ae5:Int}{ad1:Bool}{b2 b3:List Int}{r:Bool} (h:aL6 f4 aa4 c ac9 ae5 ad1 b2 b3=some r):i7 E 49 [.ptr 0 0 0,.int .i64 f4] [some ⟨88,true,[(f3.l aa4 (d9.l c [.int .i64 ac9,.ptr 1 0 0]))]⟩,some ⟨4,true,[[(i5 2 (List.map (d8 .u8) b2)),(i5 3 (List.map (d8 .u8) b3)),.int .i64 ae5,.bool ad1]]⟩,some ⟨1,false,(List.map (d8 .u8) b2)⟩,some ⟨1,false,(List.map (d8 .u8) b3)⟩] (Rs (dt9 aa4 c ac9 ae5 ad1 b2 b3) r):=so (fn:=Tryz.f49) (k:=true) (m:=4) h<| by
 intro r h;unfold aL6 at h
 refine zs 10 h (fun h=> ?_) fun h=> ?_
 ·
  exact zu 35 h
 refine zs 6 h (fun h=> ?_) fun h=> ?_
 ·
  exact zu 28 h
 refine zs 15 h (fun h=> ?_) fun h=> ?_
 ·
  exact zu 13 h
 refine zm 9 (b:=(Nat.ble (0+(List.map (d8 .u8) b2).length) ((List.map (d8 .u8) b2).length))) (A7 _) ?_
 refine zm 0 (b:=(Nat.ble (0+(List.map (d8 .u8) b3).length) ((List.map (d8 .u8) b3).length))) (A7 _) ?_
 refine zcE 0 [] (args1:= [.iptr 4 [[.sl false 1 (List.take ((List.map (d8 .u8) b2).length) (List.drop 0 (List.map (d8 .u8) b2))),.sl false 1 (List.take ((List.map (d8 .u8) b3).length) (List.drop 0 (List.map (d8 .u8) b3))),.int .i64 ae5,.bool ad1]] 0 0]) h (fun _=>bR1) ⟨by simp[d9.enc,d9.l,l7.enc,l7.l,u4.enc,u4.l,v6.enc,v6.l,f5.enc,f5.l,Op.enc,Op.l,Plan.enc,Plan.l,E6.enc,E6.l,i8.enc,i8.l,u9.enc,u9.l,p6.enc,p6.l,f3.enc,f3.l,List.take_of_length_le,List.map_take,List.map_drop],rfl⟩ fun y4 h=> ?_
 exact zu 5 h
noncomputable def G0:=u5 (u6 Tryz.f32)
noncomputable def bN1 (c:d9) (ac9 ae5:Int) (ad1:Bool) (b2 b3:List Int) (y:(List f5)×f3):D×i0:=(.sl false 26 (List.map f5.enc y.1),[some ⟨88,true,[(f3.l y.2 (d9.l c [.int .i64 ac9,.ptr 1 0 0]))]⟩,some ⟨4,true,[[(i5 2 (List.map (d8 .u8) b2)),(i5 3 (List.map (d8 .u8) b3)),.int .i64 ae5,.bool ad1]]⟩,some ⟨1,false,(List.map (d8 .u8) b2)⟩,some ⟨1,false,(List.map (d8 .u8) b3)⟩])
abbrev af9 (m:f5) (f4:Int) (aa4:f3) (c:d9) (ac9 ae5:Int) (ad1:Bool) (b2 b3:List Int):=AOk E (Cx.of Tryz.f32 true 4) (bN1 c ac9 ae5 ad1 b2 b3)
noncomputable def cA7 (m:f5) (f4:Int) (aa4:f3) (c:d9) (ac9 ae5:Int) (ad1:Bool) (b2 b3:List Int) (i:Int) (cY6:Bool):M:=⟨[.code (G0 [1,1,1,0,1,0,1,1,1,1,1,1,1,1,1,1,1,1,1,0,1,1]),.blk 0,.code (G0 [1,1,1,1])],[(0,.ptr 0 0 0),(10,.int .i64 i),(252,.bool cY6)],[some ⟨88,true,[(f3.l aa4 (d9.l c [.int .i64 ac9,.ptr 1 0 0]))]⟩,some ⟨4,true,[[(i5 2 (List.map (d8 .u8) b2)),(i5 3 (List.map (d8 .u8) b3)),.int .i64 ae5,.bool ad1]]⟩,some ⟨1,false,(List.map (d8 .u8) b2)⟩,some ⟨1,false,(List.map (d8 .u8) b3)⟩]⟩
noncomputable def af4 (m:f5) (f4:Int) (aa4:f3) (c:d9) (ac9 ae5:Int) (ad1:Bool) (b2 b3:List Int) (i:Int) (cY6:Bool):Option ((List f5)×f3):=(bif cY6 then (bif (!decide (i<0)) then (some ([],(⟨aa4.boot,aa4.known,aa4.heard,aa4.votes,aa4.hold,aa4.asked,aa4.prop,aa4.made,aa4.top,(orI .u64 aa4.sealed (D3 .u64 1 i)),aa4.told⟩:f3))) else none) else (some ([],aa4)))
theorem bn2 {m f4 aa4 c ac9 ae5 ad1 b2 b3 i cY6}:af9 m f4 aa4 c ac9 ae5 ad1 b2 b3 (cA7 m f4 aa4 c ac9 ae5 ad1 b2 b3 i cY6) (af4 m f4 aa4 c ac9 ae5 ad1 b2 b3 i cY6):=by
 intro r h;unfold af4 at h
 refine zs 1 h (fun h=> ?_) fun h=> ?_
 ·
  refine zn 2 h fun h=> ?_
  exact zu 8 h [.slot 0 [some 26]]
 exact zu 7 h [.slot 0 [some 26]]
noncomputable def cz8 (m:f5) (f4:Int) (aa4:f3) (c:d9) (ac9 ae5:Int) (ad1:Bool) (b2 b3:List Int) (de6:Bool):M:=⟨[.code (G0 [1,1,1,0,1,0,1,1,1,1,1,1,1,1,1,1,1,0,1]),.blk 0,.code (G0 [1,1,1,1])],[(0,.ptr 0 0 0),(2,.int .i64 f4),(4,.ptr 4 0 0),(216,.bool de6)],[some ⟨88,true,[(f3.l aa4 (d9.l c [.int .i64 ac9,.ptr 1 0 0]))]⟩,some ⟨4,true,[[(i5 2 (List.map (d8 .u8) b2)),(i5 3 (List.map (d8 .u8) b3)),.int .i64 ae5,.bool ad1]]⟩,some ⟨1,false,(List.map (d8 .u8) b2)⟩,some ⟨1,false,(List.map (d8 .u8) b3)⟩,some ⟨26,false,[(f5.enc m)]⟩]⟩
noncomputable def ae9 (m:f5) (f4:Int) (aa4:f3) (c:d9) (ac9 ae5:Int) (ad1:Bool) (b2 b3:List Int) (de6:Bool):Option ((List f5)×f3):=(bif de6 then ((aL3 m.Plan f4 aa4 c ac9 ae5 ad1 b2 b3).bind fun y2=>(some ([],y2))) else (some ([],aa4)))
theorem aM7 {m f4 aa4 c ac9 ae5 ad1 b2 b3 de6}:af9 m f4 aa4 c ac9 ae5 ad1 b2 b3 (cz8 m f4 aa4 c ac9 ae5 ad1 b2 b3 de6) (ae9 m f4 aa4 c ac9 ae5 ad1 b2 b3 de6):=by
 intro r h;unfold ae9 at h
 refine zs 1 h (fun h=> ?_) fun h=> ?_
 ·
  refine zc 7 [] h (fun _=>bL2) fun y2 h=> ?_
  exact zu 7 h [.slot 0 [some 26]]
 exact zu 7 h [.slot 0 [some 26]]
noncomputable def cz7 (m:f5) (f4:Int) (aa4:f3) (c:d9) (ac9 ae5:Int) (ad1:Bool) (b2 b3:List Int) (bn6:Bool) (e9:f3):M:=⟨[.code (G0 [1,1,1,0,1,0,1,1,1,1,1,1,1,0,1,1]),.blk 0,.code (G0 [1,1,1,1])],[(0,.ptr 0 0 0),(2,.int .i64 f4),(168,.bool bn6)],[some ⟨88,true,[(f3.l e9 (d9.l c [.int .i64 ac9,.ptr 1 0 0]))]⟩,some ⟨4,true,[[(i5 2 (List.map (d8 .u8) b2)),(i5 3 (List.map (d8 .u8) b3)),.int .i64 ae5,.bool ad1]]⟩,some ⟨1,false,(List.map (d8 .u8) b2)⟩,some ⟨1,false,(List.map (d8 .u8) b3)⟩]⟩
noncomputable def ar1 (m:f5) (f4:Int) (aa4:f3) (c:d9) (ac9 ae5:Int) (ad1:Bool) (b2 b3:List Int) (bn6:Bool) (e9:f3):Option ((List f5)×f3):=(bif bn6 then ((aL3 e9.prop.Value f4 e9 c ac9 ae5 ad1 b2 b3).bind fun y2=>((aD7 f4 y2 c ac9 ae5 ad1 b2 b3).bind fun y3=>(some (y3.1,y3.2)))) else (some ([],e9)))
theorem bm4 {m f4 aa4 c ac9 ae5 ad1 b2 b3 bn6 e9}:af9 m f4 aa4 c ac9 ae5 ad1 b2 b3 (cz7 m f4 aa4 c ac9 ae5 ad1 b2 b3 bn6 e9) (ar1 m f4 aa4 c ac9 ae5 ad1 b2 b3 bn6 e9):=by
 intro r h;unfold ar1 at h
 refine zs 1 h (fun h=> ?_) fun h=> ?_
 ·
  refine zc 12 [] h (fun _=>bL2) fun y2 h=> ?_
  refine zc 6 [] h (fun _=>bO1) fun y3 h=> ?_
  exact zu 3 h
 exact zu 7 h [.slot 0 [some 26]]
noncomputable def cx9 (m:f5) (f4:Int) (aa4:f3) (c:d9) (ac9 ae5:Int) (ad1:Bool) (b2 b3:List Int) (dg0:Bool) (e9:f3):M:=⟨[.code (G0 [1,1,1,0,1,0,1,1,1,1,1,0,1,1]),.blk 0,.code (G0 [1,1,1,1])],[(0,.ptr 0 0 0),(117,.bool dg0)],[some ⟨88,true,[(f3.l e9 (d9.l c [.int .i64 ac9,.ptr 1 0 0]))]⟩,some ⟨4,true,[[(i5 2 (List.map (d8 .u8) b2)),(i5 3 (List.map (d8 .u8) b3)),.int .i64 ae5,.bool ad1]]⟩,some ⟨1,false,(List.map (d8 .u8) b2)⟩,some ⟨1,false,(List.map (d8 .u8) b3)⟩]⟩
noncomputable def ar9 (m:f5) (f4:Int) (aa4:f3) (c:d9) (ac9 ae5:Int) (ad1:Bool) (b2 b3:List Int) (dg0:Bool) (e9:f3):Option ((List f5)×f3):=(bif dg0 then ((P9 e9 c ac9 ae5 ad1 b2 b3).bind fun y2=>((O0 (⟨7,0,0,e9.prop.Epoch,e9.prop.Ballot,0,0,0,0,0,true,e9.prop.Value,[],[],[]⟩:f5) e9 c ac9 ae5 ad1 b2 b3).bind fun y3=>(some (y3,e9)))) else (some ([],e9)))
theorem bm8 {m f4 aa4 c ac9 ae5 ad1 b2 b3 dg0 e9}:af9 m f4 aa4 c ac9 ae5 ad1 b2 b3 (cx9 m f4 aa4 c ac9 ae5 ad1 b2 b3 dg0 e9) (ar9 m f4 aa4 c ac9 ae5 ad1 b2 b3 dg0 e9):=by
 intro r h;unfold ar9 at h
 refine zs 1 h (fun h=> ?_) fun h=> ?_
 ·
  refine zdR 2 [] h (fun _=>aH5) fun y2 h=> ?_
  refine zc 3 [some 1,some 1,some 1] h (fun _=>am2) fun y3 h=> ?_
  refine bR7 6 (n1:=(0+(List.map f5.enc y3).length)) (n2:=((List.map f5.enc y3).length)) (raw:=(List.take ((List.map f5.enc y3).length) (List.drop 0 (List.map f5.enc y3)))) (rs:=(List.map f5.enc y3)) (by kernel_rfl) (A7 _) (by simp only[C0,E8,List.map_take,List.map_drop]) ?_
  exact zu 1 h
 exact zu 7 h [.slot 0 [some 26]]
noncomputable def cz6 (m:f5) (f4:Int) (aa4:f3) (c:d9) (ac9 ae5:Int) (ad1:Bool) (b2 b3:List Int) (t74:Bool):M:=⟨[.code (G0 [1,1,1,0,1,0,1,1,1,0,1]),.blk 0,.code (G0 [1,1,1,1])],[(0,.ptr 0 0 0),(4,.ptr 4 0 0),(74,.bool t74)],[some ⟨88,true,[(f3.l aa4 (d9.l c [.int .i64 ac9,.ptr 1 0 0]))]⟩,some ⟨4,true,[[(i5 2 (List.map (d8 .u8) b2)),(i5 3 (List.map (d8 .u8) b3)),.int .i64 ae5,.bool ad1]]⟩,some ⟨1,false,(List.map (d8 .u8) b2)⟩,some ⟨1,false,(List.map (d8 .u8) b3)⟩,some ⟨26,false,[(f5.enc m)]⟩]⟩
noncomputable def af2 (m:f5) (f4:Int) (aa4:f3) (c:d9) (ac9 ae5:Int) (ad1:Bool) (b2 b3:List Int) (t74:Bool):Option ((List f5)×f3):=(bif t74 then ((aY3 aa4.hold c m).bind fun y2=>(some ([],(⟨aa4.boot,aa4.known,aa4.heard,aa4.votes,y2,aa4.asked,aa4.prop,aa4.made,aa4.top,aa4.sealed,aa4.told⟩:f3)))) else (some ([],aa4)))
theorem bm9 {m f4 aa4 c ac9 ae5 ad1 b2 b3 t74}:af9 m f4 aa4 c ac9 ae5 ad1 b2 b3 (cz6 m f4 aa4 c ac9 ae5 ad1 b2 b3 t74) (af2 m f4 aa4 c ac9 ae5 ad1 b2 b3 t74):=by
 intro r h;unfold af2 at h
 refine zs 1 h (fun h=> ?_) fun h=> ?_
 ·
  refine zd 4 [] h (fun _=>df9) fun y2 h=> ?_
  exact zu 8 h [.slot 0 [some 26]]
 exact zu 7 h [.slot 0 [some 26]]
noncomputable def cA9 (m:f5) (f4:Int) (aa4:f3) (c:d9) (ac9 ae5:Int) (ad1:Bool) (b2 b3:List Int) (P5:Bool):M:=⟨[.code (G0 [1,0,1]),.code (G0 [1,1])],[(0,.ptr 0 0 0),(2,.int .i64 f4),(4,.ptr 4 0 0),(19,.bool P5)],[some ⟨88,true,[(f3.l aa4 (d9.l c [.int .i64 ac9,.ptr 1 0 0]))]⟩,some ⟨4,true,[[(i5 2 (List.map (d8 .u8) b2)),(i5 3 (List.map (d8 .u8) b3)),.int .i64 ae5,.bool ad1]]⟩,some ⟨1,false,(List.map (d8 .u8) b2)⟩,some ⟨1,false,(List.map (d8 .u8) b3)⟩,some ⟨26,false,[(f5.enc m)]⟩]⟩
noncomputable def Y6 (m:f5) (f4:Int) (aa4:f3) (c:d9) (ac9 ae5:Int) (ad1:Bool) (b2 b3:List Int) (P5:Bool):Option ((List f5)×f3):=(bif P5 then (some ([],aa4)) else (bif (m.Kind==3) then ((af0 c 0).bind fun y3=>((av5 m.From y3 c.Observers).bind fun y4=>(bif y4.2 then ((bv8 aa4.votes (⟨y4.1,m.Up,f4⟩:i8)).bind fun y6=>(some ([],(⟨aa4.boot,aa4.known,aa4.heard,y6,aa4.hold,aa4.asked,aa4.prop,aa4.made,aa4.top,aa4.sealed,aa4.told⟩:f3)))) else (some ([],aa4))))) else (bif (m.Kind==11) then (bif (m.Code==2) then (af2 m f4 aa4 c ac9 ae5 ad1 b2 b3 aa4.asked.ever) else (af2 m f4 aa4 c ac9 ae5 ad1 b2 b3 false)) else (bif (m.Kind==5) then ((as5 aa4.prop c m).bind fun y10=>(bif (aa4.prop.Phase==1) then (ar9 m f4 aa4 c ac9 ae5 ad1 b2 b3 (y10.Phase==2) (⟨aa4.boot,aa4.known,aa4.heard,aa4.votes,aa4.hold,aa4.asked,y10,aa4.made,aa4.top,aa4.sealed,aa4.told⟩:f3)) else (ar9 m f4 aa4 c ac9 ae5 ad1 b2 b3 false (⟨aa4.boot,aa4.known,aa4.heard,aa4.votes,aa4.hold,aa4.asked,y10,aa4.made,aa4.top,aa4.sealed,aa4.told⟩:f3)))) else (bif (m.Kind==8) then ((ao4 aa4.prop c m).bind fun y13=>(bif (aa4.prop.Phase==2) then (ar1 m f4 aa4 c ac9 ae5 ad1 b2 b3 (y13.Phase==3) (⟨aa4.boot,aa4.known,aa4.heard,aa4.votes,aa4.hold,aa4.asked,y13,aa4.made,aa4.top,aa4.sealed,aa4.told⟩:f3)) else (ar1 m f4 aa4 c ac9 ae5 ad1 b2 b3 false (⟨aa4.boot,aa4.known,aa4.heard,aa4.votes,aa4.hold,aa4.asked,y13,aa4.made,aa4.top,aa4.sealed,aa4.told⟩:f3)))) else (bif (m.Kind==6) then (some ([],(⟨aa4.boot,aa4.known,aa4.heard,aa4.votes,aa4.hold,aa4.asked,aa4.prop,aa4.made,(A0 aa4.top m.Ballot),aa4.sealed,aa4.told⟩:f3))) else (bif (m.Kind==9) then (bif m.HasPlan then ((aR9 m.Plan aa4 c ac9 ae5 ad1 b2 b3).bind fun y18=>(bif y18 then (ae9 m f4 aa4 c ac9 ae5 ad1 b2 b3 (decide (m.Plan.Epoch>aa4.known.Epoch))) else (ae9 m f4 aa4 c ac9 ae5 ad1 b2 b3 false))) else (ae9 m f4 aa4 c ac9 ae5 ad1 b2 b3 false)) else (bif (m.Kind==13) then ((af5 c 0).bind fun y21=>((av5 m.From y21 c.Targets).bind fun y22=>(bif y22.2 then (af4 m f4 aa4 c ac9 ae5 ad1 b2 b3 y22.1 (m.Epoch==(IntKind.i64.wrap (aa4.known.Epoch+1)))) else (af4 m f4 aa4 c ac9 ae5 ad1 b2 b3 y22.1 false)))) else (some ([],aa4))))))))))
theorem bn3 {m f4 aa4 c ac9 ae5 ad1 b2 b3 P5}:af9 m f4 aa4 c ac9 ae5 ad1 b2 b3 (cA9 m f4 aa4 c ac9 ae5 ad1 b2 b3 P5) (Y6 m f4 aa4 c ac9 ae5 ad1 b2 b3 P5):=by
 intro r h;unfold Y6 at h
 refine zs 1 h (fun h=> ?_) fun h=> ?_
 ·
  exact zu 5 h [.slot 0 [some 26]]
 refine zs 26 h (fun h=> ?_) fun h=> ?_
 ·
  refine zd 4 [] h (fun _=>bn1) fun y3 h=> ?_
  refine zd 1 [] h (fun _=>bI5) fun y4 h=> ?_
  refine zs 5 h (fun h=> ?_) fun h=> ?_
  ·
   refine zd 3 [] h (fun _=>dy3) fun y6 h=> ?_
   exact zu 8 h [.slot 0 [some 26]]
  exact zu 7 h [.slot 0 [some 26]]
 refine zs 6 h (fun h=> ?_) fun h=> ?_
 ·
  refine zs 8 h (fun h=> ?_) fun h=> ?_
  ·
   exact zg 14 (bm9 h)
  exact zg 13 (bm9 h)
 refine zs 6 h (fun h=> ?_) fun h=> ?_
 ·
  refine zd 5 [] h (fun _=>cl6) fun y10 h=> ?_
  refine zs 8 h (fun h=> ?_) fun h=> ?_
  ·
   exact zg 16 (bm8 h)
  exact zg 15 (bm8 h)
 refine zs 6 h (fun h=> ?_) fun h=> ?_
 ·
  refine zd 5 [] h (fun _=>ch6) fun y13 h=> ?_
  refine zs 8 h (fun h=> ?_) fun h=> ?_
  ·
   exact zg 16 (bm4 h)
  exact zg 15 (bm4 h)
 refine zs 6 h (fun h=> ?_) fun h=> ?_
 ·
  exact zu 11 h [.slot 0 [some 26]]
 refine zs 6 h (fun h=> ?_) fun h=> ?_
 ·
  refine zs 3 h (fun h=> ?_) fun h=> ?_
  ·
   refine zdR 4 [] h (fun _=>cO4) fun y18 h=> ?_
   refine zs 1 h (fun h=> ?_) fun h=> ?_
   ·
    exact zg 12 (aM7 h)
   exact zg 10 (aM7 h)
  exact zg 15 (aM7 h)
 refine zs 6 h (fun h=> ?_) fun h=> ?_
 ·
  refine zd 4 [] h (fun _=>aX0) fun y21 h=> ?_
  refine zd 1 [] h (fun _=>bI5) fun y22 h=> ?_
  refine zs 2 h (fun h=> ?_) fun h=> ?_
  ·
   exact zg 12 (bn2 h)
  exact zg 10 (bn2 h)
 exact zu 7 h [.slot 0 [some 26]]
noncomputable def aF2 (m:f5) (f4:Int) (aa4:f3) (c:d9) (ac9 ae5:Int) (ad1:Bool) (b2 b3:List Int):Option ((List f5)×f3):=((aw7 m).bind fun y1=>(bif (!y1) then (Y6 m f4 aa4 c ac9 ae5 ad1 b2 b3 true) else ((aL6 f4 aa4 c ac9 ae5 ad1 b2 b3).bind fun y3=>(Y6 m f4 aa4 c ac9 ae5 ad1 b2 b3 y3))))
theorem cz2 {m:f5}{f4:Int}{aa4:f3}{c:d9}{ac9 ae5:Int}{ad1:Bool}{b2 b3:List Int}{r:(List f5)×f3} (h:aF2 m f4 aa4 c ac9 ae5 ad1 b2 b3=some r):i7 E 32 [.ptr 0 0 0,.agg (f5.enc m),.int .i64 f4] [some ⟨88,true,[(f3.l aa4 (d9.l c [.int .i64 ac9,.ptr 1 0 0]))]⟩,some ⟨4,true,[[(i5 2 (List.map (d8 .u8) b2)),(i5 3 (List.map (d8 .u8) b3)),.int .i64 ae5,.bool ad1]]⟩,some ⟨1,false,(List.map (d8 .u8) b2)⟩,some ⟨1,false,(List.map (d8 .u8) b3)⟩] (Rs (bN1 c ac9 ae5 ad1 b2 b3) r):=so (fn:=Tryz.f32) (k:=true) (m:=4) h<| by
 intro r h;unfold aF2 at h
 refine zc 11 [] h (fun _=>bI8) fun y1 h=> ?_
 refine zs 3 h (fun h=> ?_) fun h=> ?_
 ·
  exact zg 7 (bn3 h)
 refine zc 4 [] h (fun _=>bV8) fun y3 h=> ?_
 exact zg 3 (bn3 h)
noncomputable def cX8 (c:d9) (ac9 ae5:Int) (ad1:Bool) (b2 b3:List Int) (y:(List f5)×f3):D×i0:=(.sl false 26 (List.map f5.enc y.1),[some ⟨88,true,[(f3.l y.2 (d9.l c [.int .i64 ac9,.ptr 1 0 0]))]⟩,some ⟨4,true,[[(i5 2 (List.map (d8 .u8) b2)),(i5 3 (List.map (d8 .u8) b3)),.int .i64 ae5,.bool ad1]]⟩,some ⟨1,false,(List.map (d8 .u8) b2)⟩,some ⟨1,false,(List.map (d8 .u8) b3)⟩])
noncomputable def X0 (f4:Int) (aa4:f3) (c:d9) (ac9 ae5:Int) (ad1:Bool) (b2 b3:List Int):Option ((List f5)×f3):=((aL6 f4 aa4 c ac9 ae5 ad1 b2 b3).bind fun y1=>(bif y1 then (some ([],aa4)) else ((aT3 f4 aa4 c ac9 ae5 ad1 b2 b3).bind fun y3=>(bif (decide (((List.map f5.enc y3.1).length)*288≤l6)) then ((aZ4 f4 y3.2 c ac9 ae5 ad1 b2 b3).bind fun y5=>(bif (decide (((List.map f5.enc y3.1).length+(List.map f5.enc y5.1).length)*288≤l6)) then ((aw6 f4 y5.2 c ac9 ae5 ad1 b2 b3).bind fun y7=>(bif (decide (((List.map f5.enc (y3.1++y5.1)).length+(List.map f5.enc y7.1).length)*288≤l6)) then (some (((y3.1++y5.1)++y7.1),y7.2)) else none)) else none)) else none))))
theorem bi5 {f4:Int}{aa4:f3}{c:d9}{ac9 ae5:Int}{ad1:Bool}{b2 b3:List Int}{r:(List f5)×f3} (h:X0 f4 aa4 c ac9 ae5 ad1 b2 b3=some r):i7 E 24 [.ptr 0 0 0,.int .i64 f4] [some ⟨88,true,[(f3.l aa4 (d9.l c [.int .i64 ac9,.ptr 1 0 0]))]⟩,some ⟨4,true,[[(i5 2 (List.map (d8 .u8) b2)),(i5 3 (List.map (d8 .u8) b3)),.int .i64 ae5,.bool ad1]]⟩,some ⟨1,false,(List.map (d8 .u8) b2)⟩,some ⟨1,false,(List.map (d8 .u8) b3)⟩] (Rs (cX8 c ac9 ae5 ad1 b2 b3) r):=so (fn:=Tryz.f24) (k:=true) (m:=4) h<| by
 intro r h;unfold X0 at h
 refine zc 14 [] h (fun _=>bV8) fun y1 h=> ?_
 refine zs 2 h (fun h=> ?_) fun h=> ?_
 ·
  exact zu 5 h [.slot 0 [some 26]]
 refine zc 7 [] h (fun _=>cS5) fun y3 h=> ?_
 refine zn 1 h fun h=> ?_
 refine zc 9 [] h (fun _=>cZ2) fun y5 h=> ?_
 refine zn 1 h fun h=> ?_
 refine za 0 f5.enc y3.1 y5.1 ?_
 refine zc 8 [] h (fun _=>cr6) fun y7 h=> ?_
 refine zn 1 h fun h=> ?_
 refine za 0 f5.enc (y3.1++y5.1) y7.1 ?_
 refine n8 hm 2 _ ?_
 refine bR7 4 (n1:=(0+(List.map f5.enc ((y3.1++y5.1)++y7.1)).length)) (n2:=((List.map f5.enc ((y3.1++y5.1)++y7.1)).length)) (raw:=(List.take ((List.map f5.enc ((y3.1++y5.1)++y7.1)).length) (List.drop 0 (List.map f5.enc ((y3.1++y5.1)++y7.1))))) (rs:=(List.map f5.enc ((y3.1++y5.1)++y7.1))) (by kernel_rfl) (A7 _) (by simp only[C0,E8,List.map_take,List.map_drop]) ?_
 exact zu 1 h
def aS8 (p:Plan):Prop:=Rt p∧bA4 p
def cx2:l7:=⟨0,0,0,B9,0,B9,0,0⟩
/-- A proposal of what comes D9 an epoch. -/
structure PI (p : l7) (e : Int) : Prop where
  pr : u0 .u64 p.Promises
  ac : u0 .u64 p.Accepts
  ph : p.Phase = 0 ∨ ((p.Phase = 1 ∨ p.Phase = 2) ∧ p.Epoch = e + 1 ∧ (aS8 p.Own ∧ p.Own.Epoch = p.Epoch) ∧ 0 ≤ p.Best ∧ (0 < p.Best → aS8 p.Value ∧ p.Value.Epoch = p.Epoch) ∧ (p.Phase = 2 → aS8 p.Value ∧ p.Value.Epoch = p.Epoch))
theorem PI0 (e:Int):PI cx2 e:=⟨O4.2 (by decide),O4.2 (by decide),.inl rfl⟩
/-- What a decider keeps true. -/
structure DI (c : d9) (st : f3) (M : Int) (i : Nat) : Prop where
  kn : aS8 st.known
  vl : st.votes.length ≤ i
  vo : ∀ v ∈ st.votes, VOk v
  gr : u0 .u64 st.hold.Grants
  bo : 0 ≤ st.boot ∧ st.boot ≤ M
  mi : M ≤ i
  tp : 0 ≤ st.top
  pi : PI st.prop st.known.Epoch
theorem cc6 {p:l7}{c:d9}{m:f5}{e:Int} (h:PI p e) (hr:G8 m=true) (hf:at7 m):
  PI (L9 p c m) e∧(L9 p c m).Epoch=p.Epoch∧(L9 p c m).Ballot=p.Ballot∧((L9 p c m).Phase=p.Phase∨(p.Phase=1∧(L9 p c m).Phase=2)):=by
 have hu:=dI9 c m h.pr
 obtain⟨h1,h2,h3⟩:=h
 cases hc:toP p c m 5 1&&cS7 p m with
 | false=>
  have e:L9 p c m=p:=by unfold L9;rw[hc];rfl
  rw[e];exact⟨⟨h1,h2,h3⟩,rfl,rfl,.inl rfl⟩
 | true=>
  have hc2:=hc
  simp only[Bool.and_eq_true] at hc2
  have ph1:p.Phase=1:=by have:=hc2.1;simp only[toP,Bool.and_eq_true,decide_eq_true_eq] at this;exact this.1
  have wl:m.HasPlan=true→m.Plan.Epoch=p.Epoch:=fun hp=>by
   have:=hc2.2
   simp only[cS7,hp,Bool.true_and,Bool.not_eq_true',decide_eq_false_iff_not,Decidable.not_not] at this
   exact this
  have ep:L9 p c m=st3 (st2 (st1 p m) m) c:=by unfold L9;rw[hc];rfl
  rcases h3 with h3 | ⟨h4,h5,h6,h7,h8,h9⟩
  ·omega
  have b:∃q:l7,st2 (st1 p m) m=q∧q.Phase=1∧q.Epoch=p.Epoch∧q.Ballot=p.Ballot∧q.Own=p.Own∧q.Accepts=p.Accepts∧0≤q.Best∧(0<q.Best→aS8 q.Value∧q.Value.Epoch=p.Epoch):=by
   refine⟨_,rfl,?_⟩
   unfold st2
   cases hh:m.HasPlan&&decide (m.Accepted>(st1 p m).Best) with
   | false=>exact⟨ph1,rfl,rfl,rfl,rfl,h7,h8⟩
   | true=>
    simp only[Bool.and_eq_true,decide_eq_true_eq] at hh
    have hb:(st1 p m).Best=p.Best:=rfl
    rw[hb] at hh
    exact⟨ph1,rfl,rfl,rfl,rfl,by simp only[cond_true];omega,fun _=>⟨⟨bG7 hr hh.1,hf.pl⟩,wl hh.1⟩⟩
  obtain⟨q,hq,q1,q2,q3,q4,q5,q6,q7⟩:=b
  rw[ep,hq]
  rw[ep,hq] at hu
  unfold st3 at hu ⊢
  cases hm:bk3 c q.Promises.toNat with
  | false=>
   rw[hm] at hu
   exact⟨⟨hu,by simp only[cond_false];rw[q5];exact h2,.inr ⟨.inl q1,by simp only[cond_false];rw[q2];exact h5,by simp only[cond_false];rw[q4,q2];exact h6,q6,by simp only[cond_false];rw[q2];exact q7,fun h=>by simp only[cond_false] at h;omega⟩⟩,q2,q3,.inl (by simp only[cond_false];omega)⟩
  | true=>
   rw[hm] at hu
   simp only[cond_true] at hu ⊢
   have v:aS8 (bif decide (q.Best=0) then q.Own else q.Value)∧(bif decide (q.Best=0) then q.Own else q.Value).Epoch=p.Epoch:=by
    by_cases hb:q.Best=0
    ·rw[decide_eq_true hb];simp only[cond_true];rw[q4];exact h6
    ·rw[decide_eq_false hb];simp only[cond_false];exact q7 (by omega)
   exact⟨⟨hu,by simp only;rw[q5];exact h2,.inr ⟨.inr rfl,by simp only;rw[q2];exact h5,by simp only;rw[q4,q2];exact h6,q6,fun _=>by simp only;rw[q2];exact v,fun _=>by simp only;rw[q2];exact v⟩⟩,q2,q3,.inr ⟨ph1,trivial⟩⟩
theorem cB7 {p:l7}{c:d9}{m:f5}{e:Int} (h:PI p e):(ac4 p c m).Value=p.Value∧(((ac4 p c m).Phase=p.Phase∧PI (ac4 p c m) e)∨(p.Phase=2∧(ac4 p c m).Phase=3)):=by
 have hu:=dF1 c m h.ac
 obtain⟨h1,h2,h3⟩:=h
 unfold ac4 at hu ⊢
 cases hc:toP p c m 8 2 with
 | false=>exact⟨rfl,.inl ⟨rfl,⟨h1,h2,h3⟩⟩⟩
 | true=>
  have ph:p.Phase=2:=by simp only[toP,Bool.and_eq_true,decide_eq_true_eq] at hc;exact hc.1
  rw[hc] at hu
  simp only[cond_true] at hu ⊢
  refine⟨trivial,?_⟩
  cases bk3 c (orP p.Accepts m.From.toNat).toNat with
  | true=>exact .inr ⟨ph,rfl⟩
  | false=>exact .inl ⟨rfl,⟨h1,hu,h3⟩⟩
def cp4 (st:f3) (p:Plan) (f4:Int):f3:={ st with known:=p,heard:=f4,prop:=cx2,sealed:=0 }
def eK0 (p:l7):f5:=⟨7,0,0,p.Epoch,p.Ballot,0,0,0,0,0,true,p.Value,[],[],[]⟩
/-- What a message does. -/
inductive HR (c : d9) (ix : Int) (st : f3) (m : f5) (f4 : Int) : List f5 → f3 → Prop
  | same : HR c ix st m f4 [] st
  | vote {v : i8} : VOk v → HR c ix st m f4 [] { st with votes := cb6 st.votes v }
  | hold : HR c ix st m f4 [] { st with hold := aK5 st.hold c m }
  | prom : ¬(st.prop.Phase = 1 ∧ (L9 st.prop c m).Phase = 2) → HR c ix st m f4 [] { st with prop := L9 st.prop c m }
  | acc : st.prop.Phase = 1 → (L9 st.prop c m).Phase = 2 → HR c ix st m f4 (toL c ix (eK0 (L9 st.prop c m)) (aH6 c)) { st with prop := L9 st.prop c m }
  | accd : ¬(st.prop.Phase = 2 ∧ (ac4 st.prop c m).Phase = 3) → HR c ix st m f4 [] { st with prop := ac4 st.prop c m }
  | learn : m.Kind = 8 → st.prop.Phase = 2 → HR c ix st m f4 (toL c ix (ei5 st.prop.Value) (bT1 c ix)) (dv3 (cp4 st st.prop.Value f4) f4)
  | nack : HR c ix st m f4 [] { st with top := A0 st.top m.Ballot }
  | told : m.Kind = 9 → Rt m.Plan → m.Plan.Epoch > st.known.Epoch → HR c ix st m f4 [] (cp4 st m.Plan f4)
  | shut {x : Int} : HR c ix st m f4 [] { st with sealed := x }
section
variable {c : d9} {ix : Int} {st : f3} {fuse : Int} {down : Bool} {s t : List Int} {M : Int} {i : Nat}
theorem dz4 (f4:Int):aL6 f4 st c ix fuse down s t=some (decide (f4<0) || (decide (f4>1099511627776) || (decide (st.boot=0) || down))):=by
 simp only[aL6,aB4,Option.bind_some]
 cases decide (f4<0)<;>cases decide (f4>1099511627776)<;>simp
 by_cases h:st.boot=0<;>simp[h,beqF']
where beqF' :∀{a b:Int},¬a=b→(a==b)=false:=fun h=>beq_eq_false_iff_ne.2 h
theorem ex7 (cb:CB c) {p:Plan} (hf:bA4 p):∃b,aR9 p st c ix fuse down s t=some b∧(b=true→Rt p):=by
 have nt:(!decide (c.Targets<0))=true:=by have:=cb.t;simp;omega
 simp only[aR9,nt,cond_true,bq3 hf.s hf.up hf.sup,Option.bind_some]
 cases hr:aa7 p with
 | false=>exact⟨false,rfl,fun h=>by cases h⟩
 | true=>
  have r:=ag6.1 hr
  simp only[cond_true]
  have key:∀(a b d e:Bool),∃x,(bif a then (bif b then (bif d then some e else some false) else some false) else some false)=some x∧(x=true→Rt p):=fun a b d e=>by
   cases a<;>cases b<;>cases d<;>exact⟨_,rfl,fun _=>r⟩
  exact key _ _ _ _
theorem dy7 {aW4 first bz7:Int} (h1:0≤aW4∧aW4≤255) (h2:0≤first∧first≤255) (h3:0≤bz7∧bz7≤255):∃b,av5 aW4 first bz7=some (aW4-first,b)∧(b=true→0≤aW4-first∧aW4-first<bz7):=by
 simp only[av5,v9 (n:=aW4-first) (by omega) (by omega),v9 (n:=first+bz7) (by omega) (by omega)]
 by_cases h:aW4≥first
 ·rw[decide_eq_true h];exact⟨_,rfl,fun h=>by have:=of_decide_eq_true h;omega⟩
 ·rw[decide_eq_false h];exact⟨_,rfl,fun h=>by cases h⟩
theorem dW4 {m:f5}{f4:Int} (h:DI c st M i) (cb:CB c) (hix:0≤ix∧ix≤4) (hf:at7 m) (hi:i≤300):
  ∃i6 st',aF2 m f4 st c ix fuse down s t=some (i6,st')∧((i6= []∧st' =st)∨(G8 m=true∧0≤f4∧f4≤1099511627776∧st.boot≠0∧down=false∧HR c ix st m f4 i6 st')):=by
 have up:∀b:Bool,Y6 m f4 st c ix fuse down s t true=some ([],st):=fun _=>rfl
 simp only[aF2,bP0 hf.sh,Option.bind_some,dz4]
 cases hr:G8 m with
 | false=>exact⟨[],st,rfl,.inl ⟨rfl,rfl⟩⟩
 | true=>
  simp only[Bool.not_true,cond_false]
  cases ho:decide (f4<0) || (decide (f4>1099511627776) || (decide (st.boot=0) || down)) with
  | true=>exact⟨[],st,rfl,.inl ⟨rfl,rfl⟩⟩
  | false=>
   simp only[Bool.or_eq_false_iff,decide_eq_false_iff_not] at ho
   obtain⟨o1,o2,o3,o4⟩:=ho
   subst o4
   have wrap:∀{i6 st'},HR c ix st m f4 i6 st' →(i6= []∧st' =st)∨(G8 m=true∧0≤f4∧f4≤1099511627776∧st.boot≠0∧false=false∧HR c ix st m f4 i6 st'):=fun hh=> .inr ⟨hr,by omega,by omega,o3,rfl,hh⟩
   have key:∃i6 st',Y6 m f4 st c ix fuse false s t false=some (i6,st')∧HR c ix st m f4 i6 st' :=by
    obtain⟨hd,-,-⟩:=ay1 hr
    have hF:0≤m.From∧m.From≤255:=by unfold hdM at hd;omega
    have cF:=cb.f;have cD:=cb.dec;have cT:=cb.t;have cR:=cb.rou;have cO:=cb.obs
    unfold Y6
    simp only[cond_false]
    by_cases k3:m.Kind=3
    ·rw[beq_iff_eq.2 k3]
     obtain⟨b,hb,hb2⟩:=dy7 hF (first:=A8 c (c.Deciders+c.Targets+c.Routers+0)) (bz7:=c.Observers) (by unfold A8;omega) (by omega)
     simp only[cond_true,dD8 cb (i:=0) (by omega),Option.bind_some,hb]
     cases b with
     | false=>exact⟨_,_,rfl,.same⟩
     | true=>
      have hv:=hb2 rfl
      have hup:=O4.1 hf.sh.up
      have vok:VOk ⟨m.From-A8 c (c.Deciders+c.Targets+c.Routers+0),m.Up,f4⟩:=⟨by simp only;omega,⟨hf.up,by unfold hdM at hd;simp only;omega⟩,by simp only;omega⟩
      simp only[cond_true,ey0 st.votes ⟨m.From-A8 c (c.Deciders+c.Targets+c.Routers+0),m.Up,f4⟩ (by have:=h.vl;omega),Option.bind_some]
      exact⟨_,_,rfl,.vote vok⟩
    rw[beq_eq_false_iff_ne.2 k3]
    by_cases k11:m.Kind=11
    ·rw[beq_iff_eq.2 k11]
     have h2:∀b,∃i6 st',af2 m f4 st c ix fuse false s t b=some (i6,st')∧HR c ix st m f4 i6 st' :=fun b=>by
      cases b with
      | false=>exact⟨_,_,rfl,.same⟩
      | true=>simp only[af2,ej9 st.hold c m h.gr,Option.bind_some,cond_true];exact⟨_,_,rfl,.hold⟩
     simp only[cond_true,cond_false]
     cases(m.Code==2) with
     | true=>exact h2 st.asked.ever
     | false=>exact h2 false
    rw[beq_eq_false_iff_ne.2 k11]
    by_cases k5:m.Kind=5
    ·rw[beq_iff_eq.2 k5]
     simp only[cond_true,cond_false,dR2 st.prop c m h.pi.pr,Option.bind_some]
     by_cases p1:st.prop.Phase=1
     ·rw[beq_iff_eq.2 p1]
      simp only[cond_true]
      by_cases p2:(L9 st.prop c m).Phase=2
      ·rw[beq_iff_eq.2 p2]
       have h0:∀st:f3,P9 st c ix fuse false s t=some ():=fun _=>rfl
       simp only[ar9,cond_true,h0,Option.bind_some,bI9 cb (show 0≤ix∧ix≤100 by omega)]
       exact⟨_,_,rfl,.acc p1 p2⟩
      ·rw[beq_eq_false_iff_ne.2 p2]
       exact⟨_,_,rfl,.prom fun hh=>p2 hh.2⟩
     ·rw[beq_eq_false_iff_ne.2 p1]
      exact⟨_,_,rfl,.prom fun hh=>p1 hh.1⟩
    rw[beq_eq_false_iff_ne.2 k5]
    by_cases k8:m.Kind=8
    ·rw[beq_iff_eq.2 k8]
     simp only[cond_true,cond_false,dI0 st.prop c m h.pi.ac,Option.bind_some]
     by_cases p1:st.prop.Phase=2
     ·rw[beq_iff_eq.2 p1]
      simp only[cond_true]
      by_cases p2:(ac4 st.prop c m).Phase=3
      ·rw[beq_iff_eq.2 p2]
       have hl:∀(p:Plan) (st:f3),aL3 p f4 st c ix fuse false s t=some (cp4 st p f4):=fun _ _=>rfl
       simp only[ar1,cond_true,hl,Option.bind_some,dM0 cb (show 0≤ix∧ix≤100 by omega)]
       have ev:=(cB7 (c:=c) (m:=m) h.pi).1
       refine⟨_,_,rfl,?_⟩
       have:=HR.learn (c:=c) (ix:=ix) (f4:=f4) k8 p1
       rw[←ev] at this
       exact this
      ·rw[beq_eq_false_iff_ne.2 p2]
       exact⟨_,_,rfl,.accd fun hh=>p2 hh.2⟩
     ·rw[beq_eq_false_iff_ne.2 p1]
      exact⟨_,_,rfl,.accd fun hh=>p1 hh.1⟩
    rw[beq_eq_false_iff_ne.2 k8]
    by_cases k6:m.Kind=6
    ·rw[beq_iff_eq.2 k6]
     exact⟨_,_,rfl,.nack⟩
    rw[beq_eq_false_iff_ne.2 k6]
    by_cases k9:m.Kind=9
    ·rw[beq_iff_eq.2 k9]
     simp only[cond_true,cond_false]
     have h5:ae9 m f4 st c ix fuse false s t false=some ([],st):=rfl
     cases hp:m.HasPlan with
     | false=>exact⟨_,_,h5,.same⟩
     | true=>
      obtain⟨b,hb,hb2⟩:=ex7 (st:=st) (ix:=ix) (fuse:=fuse) (down:=false) (s:=s) (t:=t) cb hf.pl
      simp only[cond_true,hb,Option.bind_some]
      cases b with
      | false=>exact⟨_,_,h5,.same⟩
      | true=>
       simp only[cond_true]
       by_cases he:m.Plan.Epoch>st.known.Epoch
       ·rw[decide_eq_true he]
        exact⟨_,_,rfl,.told k9 (hb2 rfl) he⟩
       ·rw[decide_eq_false he]
        exact⟨_,_,h5,.same⟩
    rw[beq_eq_false_iff_ne.2 k9]
    by_cases k13:m.Kind=13
    ·rw[beq_iff_eq.2 k13]
     obtain⟨b,hb,hb2⟩:=dy7 hF (first:=A8 c (c.Deciders+0)) (bz7:=c.Targets) (by unfold A8;omega) (by omega)
     have h6:∀x,af4 m f4 st c ix fuse false s t x false=some ([],st):=fun _=>rfl
     simp only[cond_true,cond_false,cG3 cb (i:=0) (by omega),Option.bind_some,hb]
     cases b with
     | false=>exact⟨_,_,h6 (m.From-A8 c (c.Deciders+0)),.same⟩
     | true=>
      have hv:=hb2 rfl
      have n0:(!decide (m.From-A8 c (c.Deciders+0)<0))=true:=by rw[decide_eq_false (by omega)];rfl
      simp only[cond_true]
      cases(m.Epoch==IntKind.i64.wrap (st.known.Epoch+1)) with
      | false=>exact⟨_,_,h6 (m.From-A8 c (c.Deciders+0)),.same⟩
      | true=>simp only[af4,cond_true,n0];exact⟨_,_,rfl,.shut⟩
    ·rw[beq_eq_false_iff_ne.2 k13]
     exact⟨_,_,rfl,.same⟩
   obtain⟨i6,st',h1,h2⟩:=key
   exact⟨i6,st',h1,(wrap h2).imp id fun x=>⟨trivial,x.2⟩⟩
end
def ep3 (e:Int):f5:=⟨12,0,0,e,0,0,0,0,0,0,false,B9,[],[],[]⟩
def cw0 (e b code:Int) (p:Plan):f5:=⟨4,0,0,e,b,0,0,0,0,code,true,p,[],[],[]⟩
def an4 (e b:Int) (n:Plan):l7:=⟨e,b,1,dQ6 n e,0,B9,0,0⟩
def isT (c:d9) (x:Int):Prop:=∃k:Int,0≤k∧k<c.Targets∧x=A8 c (c.Deciders+k)
/-- What is proposed. -/
inductive PR (c : d9) (ix f4 : Int) (st : f3) : List f5 → f3 → Prop
  | same : PR c ix f4 st [] st
  | none : PR c ix f4 st [] { st with prop := cx2 }
  | go {n : Plan} {b code : Int} {open_ : List Int} : st.boot ≠ 0 → bR5 st.hold 0 f4 = true → aM9 c st.known → ak5 c st.known (ab2 st.votes c.Observers f4 c.Fresh) f4 = (n, true) →
      st.top < b → b % 16777216 = st.boot * 16 + ix → b < 18014398509481984 → (code = 0 ∨ code = 1) → open_.length ≤ 16 → (∀ x ∈ open_, isT c x) →
      PR c ix f4 st (toL c ix (ep3 (st.known.Epoch + 1)) open_ ++ toL c ix (cw0 (st.known.Epoch + 1) b code st.known) (aH6 c)) { st with prop := an4 (st.known.Epoch + 1) b n, made := f4, top := b }
section
variable {c : d9} {ix : Int} {st : f3} {fuse : Int} {down : Bool} {s t : List Int} {M : Int} {i : Nat} {f4 : Int}
theorem cg0:al9 f4 st c ix fuse down s t=some (decide (st.boot≠0)&&(!down&&bR5 st.hold 0 f4)):=by
 simp only[al9,aB4,Option.bind_some,et4]
 by_cases h:st.boot=0
 ·rw[bneF2 h,decide_eq_false (by simp[h])];rfl
 ·rw[bne_iff_ne.2 h,decide_eq_true h];cases down<;>rfl
where bneF2:∀{a b:Int},a=b→(a !=b)=false:=fun h=>by rw[h];simp
theorem ef4 (p:Plan) (x:Int):∃b,bj5 p x=some b:=by
 unfold bj5
 cases decide (x≥0) with
 | false=>exact⟨_,rfl⟩
 | true=>
  cases(x==p.Target) with
  | true=>exact⟨_,rfl⟩
  | false=>
   cases(x==p.Prev) with
   | false=>exact⟨_,rfl⟩
   | true=>cases decide (p.Percent<100)<;>exact⟨_,rfl⟩
theorem ed0 (cb:CB c) {ch:Bool}{b:Int}{st2:f3}:∀(j k:Nat) (A9 open_:List Int),((k+j:Nat):Int)=c.Targets→A9.length≤k→open_.length≤k→(∀x∈open_,isT c x)→
  ∃named' open',named'.length≤16∧open'.length≤16∧(∀x∈open',isT c x)∧∀r,Ev (t0 f4 st c ix fuse down s t) (.s4 ch b open' st2 named') r→Ev (t0 f4 st c ix fuse down s t) (.s2 ch b c.Targets (k:Int) st2 A9 open_) r:=by
 have cT:=cb.t
 intro j
 induction j with
 | zero=>
  intro k A9 open_ hk hn ho hx
  refine⟨A9,open_,by omega,by omega,hx,fun r h=> .next (s' :=.s4 ch b open_ st2 A9) ?_ h⟩
  have:decide ((k:Int)<c.Targets)=false:=decide_eq_false (by omega)
  simp only[t0,U4,this,cond_false]
 | succ j ih=>
  intro k A9 open_ hk hn ho hx
  have lt:decide ((k:Int)<c.Targets)=true:=decide_eq_true (by omega)
  have n0:(!decide ((k:Int)<0))=true:=by rw[decide_eq_false (by omega)];rfl
  obtain⟨nb,hnb⟩:=ef4 st2.known (k:Int)
  have l1:decide ((A9.length+1)*8≤l6)=true:=E0 (by omega)
  have l2:decide ((open_.length+1)*8≤l6)=true:=E0 (by omega)
  have hw:=wD (show k≤3000000 by omega)
  have ht:=cG3 cb (i:=(k:Int)) (by omega)
  have e1:((k+1+j:Nat):Int)=c.Targets:=by omega
  cases nb with
  | false=>
   obtain⟨n',o',h1,h2,h3,h4⟩:=ih (k+1) A9 open_ e1 (by omega) (by omega) hx
   refine⟨n',o',h1,h2,h3,fun r h=> .next (s' :=.s2 ch b c.Targets ((k+1:Nat):Int) st2 A9 open_) ?_ (h4 r h)⟩
   simp only[t0,U4,lt,cond_true,hnb,Option.bind_some,cond_false,hw]
  | true=>
   cases hs:((m9 .u64 (r5 .u64 st2.sealed (k:Int)) 1)==0) with
   | false=>
    obtain⟨n',o',h1,h2,h3,h4⟩:=ih (k+1) (A9++ [(k:Int)]) open_ e1 (by simp;omega) (by omega) hx
    refine⟨n',o',h1,h2,h3,fun r h=> .next (s' :=.s2 ch b c.Targets ((k+1:Nat):Int) st2 (A9++ [(k:Int)]) open_) ?_ (h4 r h)⟩
    simp only[t0,U4,lt,cond_true,hnb,Option.bind_some,List.length_map,l1,n0,hs,cond_false,hw]
   | true=>
    have hx2:∀x∈open_++ [A8 c (c.Deciders+k)],isT c x:=fun x h=>by
     rcases List.mem_append.1 h with h | h
     ·exact hx x h
     ·exact⟨k,by omega,by omega,List.mem_singleton.1 h⟩
    obtain⟨n',o',h1,h2,h3,h4⟩:=ih (k+1) (A9++ [(k:Int)]) (open_++ [A8 c (c.Deciders+k)]) e1 (by simp;omega) (by simp;omega) hx2
    refine⟨n',o',h1,h2,h3,fun r h=> .next (s' :=.s2 ch b c.Targets ((k+1:Nat):Int) st2 (A9++ [(k:Int)]) (open_++ [A8 c (c.Deciders+k)])) ?_ (h4 r h)⟩
    simp only[t0,U4,lt,cond_true,hnb,Option.bind_some,List.length_map,l1,n0,hs,ht,l2,hw]
theorem cx1 (m:f5) (l:List Int):(toL c ix m l).length=l.length:=by simp[toL]
theorem dU4 (h:DI c st M i) (hc:W7 c=true) (ht:c.Tiers.length<9223372036854775807) (hix:0≤ix∧ix≤4) (hi:i≤300) (hn:0≤f4∧f4≤1099511627776) (hd:down=false):
  ∃i6 st',aw6 f4 st c ix fuse down s t=some (i6,st')∧PR c ix f4 st i6 st' :=by
 subst hd
 have cb:=ax7 hc
 have cT:=cb.t
 have b1:∃b:Bool,t0 f4 st c ix fuse false s t .s0=some (.inl (.s1 b))∧(b=false→st.boot≠0∧bR5 st.hold 0 f4=true):=by
  simp only[t0,am7,cg0,Option.bind_some]
  cases hl:(decide (st.boot≠0)&&(!false&&bR5 st.hold 0 f4)) with
  | false=>exact⟨true,rfl,fun h=>by cases h⟩
  | true=>
   simp only[Bool.and_eq_true,decide_eq_true_eq,Bool.not_false,true_and] at hl
   cases(st.prop.Phase !=0) with
   | true=>exact⟨_,rfl,fun _=>hl⟩
   | false=>exact⟨_,rfl,fun _=>hl⟩
 obtain⟨b,hb,hlead⟩:=b1
 cases b with
 | true=>exact⟨[],st,z7 (.next hb (.done rfl)),.same⟩
 | false=>
  obtain⟨hboot,hlive⟩:=hlead rfl
  obtain⟨r,hr,hr2⟩:=eI1 hc ht h.kn.2.s h.kn.2.up h.kn.2.sup (di8 st.votes c.Observers f4 c.Fresh) hn.1
  have htal:=eE9 (l:=st.votes) (o:=c.Observers) (n:=f4) (f:=c.Fresh) (by have:=h.vl;omega) h.vo (by have:=cb.obs;omega)
  obtain⟨n,is⟩:=r
  cases is with
  | false=>
   refine⟨[],{ st with prop:=cx2 },z7 (.next hb (.done ?_)),.none⟩
   simp only[t0,an2,cond_false,htal,Option.bind_some,hr,Bool.not_false,cond_true];rfl
  | true=>
   obtain⟨hfit,-,hnx⟩:=hr2 rfl
   have s3:∃ch d:Bool,t0 f4 st c ix fuse false s t (.s1 false)=some (.inl (.s3 ch d n)):=by
    simp only[t0,an2,cond_false,htal,Option.bind_some,hr,Bool.not_true]
    cases(n.Target !=st.known.Target)<;>exact⟨_,_,rfl⟩
   obtain⟨ch,d,h3⟩:=s3
   cases d with
   | true=>exact⟨[],st,z7 (.next hb (.next h3 (.done rfl))),.same⟩
   | false=>
    obtain⟨⟨b,e⟩,hbal,hb2⟩:=er8 (b:=st.top) (boot:=st.boot) (index:=ix) h.tp (by have:=h.bo;have:=h.mi;omega) (by omega)
    by_cases he:e=0
    ·subst he
     obtain⟨t1,t2,t3⟩:=hb2 rfl
     have hE:=hfit.e
     have hE0:=hfit.r.epoch
     have w1:IntKind.i64.wrap (st.known.Epoch+1)=st.known.Epoch+1:=v9 (by omega) (by omega)
     have s2:t0 f4 st c ix fuse false s t (.s3 ch false n)=some (.inl (.s2 ch b c.Targets ((0:Nat):Int) { st with prop:=an4 (st.known.Epoch+1) b n,made:=f4,top:=b } [] [])):=by
      simp only[t0,ao5,cond_false,hbal,Option.bind_some,bne_self_eq_false,em1,w1];rfl
     obtain⟨A9,op,g1,g2,g3,g4⟩:=ed0 (f4:=f4) (st:=st) (ix:=ix) (fuse:=fuse) (down:=false) (s:=s) (t:=t) (ch:=ch) (b:=b) (st2:={ st with prop:=an4 (st.known.Epoch+1) b n,made:=f4,top:=b }) cb c.Targets.toNat 0 [] [] (by omega) (by simp) (by simp) (by simp)
     have hacc:∀m (st:f3),O0 m st c ix fuse false s t=some (toL c ix m (aH6 c)):=fun m st=>bI9 cb (by omega) m
     have h0:∀st:f3,P9 st c ix fuse false s t=some ():=fun _=>rfl
     have hal:=bJ3 cb
     --the last steps
     have fin:∀(i6:List f5) (st2:f3) (ask:f5),i6.length≤100→Ev (t0 f4 st c ix fuse false s t) (.s5 st2 i6 ask) (i6++toL c ix ask (aH6 c),st2):=fun i6 st2 ask ho=>by
      refine .done ?_
      have lim:decide ((i6.length+(toL c ix ask (aH6 c)).length)*288≤l6)=true:=E0 (by rw[cx1];omega)
      simp only[t0,aA7,h0,Option.bind_some,hacc,List.drop_zero,List.length_map,List.length_take,Nat.min_self,lim,cond_true]
     have six:∀(i6:List f5) (q:Bool) (st2:f3),i6.length≤100→∃code,(code=0∨code=1)∧Ev (t0 f4 st c ix fuse false s t) (.s6 q st2 i6 (cw0 (st.known.Epoch+1) b 0 st.known)) (i6++toL c ix (cw0 (st.known.Epoch+1) b code st.known) (aH6 c),st2):=fun i6 q st2 ho=>by
      cases q with
      | false=>exact⟨0,.inl rfl,.next rfl (fin i6 st2 _ ho)⟩
      | true=>exact⟨1,.inr rfl,.next rfl (fin i6 st2 (cw0 (st.known.Epoch+1) b 1 st.known) ho)⟩
     have seven:∀(i6:List f5),i6.length≤100→∃code,(code=0∨code=1)∧Ev (t0 f4 st c ix fuse false s t) (.s7 b op { st with prop:=an4 (st.known.Epoch+1) b n,made:=f4,top:=b } A9 i6) (i6++toL c ix (cw0 (st.known.Epoch+1) b code st.known) (aH6 c),{ st with prop:=an4 (st.known.Epoch+1) b n,made:=f4,top:=b }):=fun i6 ho=>by
      have st7:∃q,t0 f4 st c ix fuse false s t (.s7 b op { st with prop:=an4 (st.known.Epoch+1) b n,made:=f4,top:=b } A9 i6)=some (.inl (.s6 q { st with prop:=an4 (st.known.Epoch+1) b n,made:=f4,top:=b } i6 (cw0 (st.known.Epoch+1) b 0 st.known))):=by
       simp only[t0,aB0]
       cases decide (((List.map (d8 .i64) A9).length:Int)>0)<;>exact⟨_,rfl⟩
      obtain⟨q,h7⟩:=st7
      obtain⟨code,k1,k2⟩:=six i6 q { st with prop:=an4 (st.known.Epoch+1) b n,made:=f4,top:=b } ho
      exact⟨code,k1,.next h7 k2⟩
     cases hch:ch with
     | true=>
      obtain⟨code,k1,k2⟩:=seven (toL c ix (ep3 (st.known.Epoch+1)) op) (by rw[cx1];omega)
      refine⟨_,_,z7 (.next hb (.next h3 (.next s2 (g4 _ (.next ?_ k2))))),.go (n:=n) hboot hlive hfit hnx.symm t1 t2 t3 k1 g2 g3⟩
      have hv:bb6 op=some op:=rfl
      rw[hch]
      simp only[t0,aA8,cond_true,hv,Option.bind_some,ed5 op (show op.length≤100 by omega) cb (show 0≤ix∧ix≤100 by omega)];rfl
     | false=>
      obtain⟨code,k1,k2⟩:=seven [] (by simp)
      refine⟨_,_,z7 (.next hb (.next h3 (.next s2 (g4 _ (.next ?_ k2))))),PR.go (n:=n) (open_:= []) hboot hlive hfit hnx.symm t1 t2 t3 k1 (by simp) (by simp)⟩
      rw[hch];rfl
    ·refine⟨[],st,z7 (.next hb (.next h3 (.done ?_))),.same⟩
     simp only[t0,ao5,cond_false,hbal,Option.bind_some,bne_iff_ne.2 he,cond_true]
def ce3 (c:d9) (ix f4:Int) (st:f3):f3:=(bl3 c ix f4 (ab3 c ix f4 st).2).2
theorem dD7 (cb:CB c):(ab3 c ix f4 st).1.length≤7:=by
 have:=bJ3 cb
 unfold ab3;split<;>simp[toL];omega
theorem dO6 (cb:CB c):(bl3 c ix f4 st).1.length≤24:=by
 have:=cJ6 cb ix
 unfold bl3;split<;>simp[toL];omega
theorem dN9:∃ho a to,ce3 c ix f4 st={ st with hold:=ho,asked:=a,told:=to }∧(ho=st.hold∨ho=dC4 st.hold 0 f4):=by
 unfold ce3 bl3 ab3
 split<;>split<;>first | exact⟨_,_,_,rfl,.inl rfl⟩ | exact⟨_,_,_,rfl,.inr rfl⟩
theorem dL4 (h:DI c st M i):DI c (ce3 c ix f4 st) M i:=by
 obtain⟨ho,a,to,he,hh⟩:=dN9 (c:=c) (ix:=ix) (f4:=f4) (st:=st)
 rw[he]
 refine⟨h.kn,h.vl,h.vo,?_,h.bo,h.mi,h.tp,h.pi⟩
 rcases hh with rfl | rfl
 ·exact h.gr
 ·exact O4.2 (by simp[dC4])
theorem ec4 (cb:CB c) {i6:List f5}{st' :f3} (h:PR c ix f4 st i6 st'):i6.length≤23:=by
 have:=bJ3 cb
 cases h with
 | same=>simp
 | none=>simp
 | go _ _ _ _ _ _ _ _ h1 _=>simp[toL];omega
theorem es7 (h:DI c st M i) (hc:W7 c=true) (ht:c.Tiers.length<9223372036854775807) (hix:0≤ix∧ix≤4) (hi:i≤300):
  ∃i6 st',X0 f4 st c ix fuse down s t=some (i6,st')∧((i6= []∧st' =st)∨(0≤f4∧f4≤1099511627776∧st.boot≠0∧down=false∧∃o3,i6=(ab3 c ix f4 st).1++(bl3 c ix f4 (ab3 c ix f4 st).2).1++o3∧PR c ix f4 (ce3 c ix f4 st) o3 st')):=by
 have cb:=ax7 hc
 simp only[X0,dz4,Option.bind_some]
 cases ho:decide (f4<0) || (decide (f4>1099511627776) || (decide (st.boot=0) || down)) with
 | true=>exact⟨[],st,rfl,.inl ⟨rfl,rfl⟩⟩
 | false=>
  simp only[Bool.or_eq_false_iff,decide_eq_false_iff_not] at ho
  obtain⟨o1,o2,o3,o4⟩:=ho
  obtain⟨i6,st',h1,h2⟩:=dU4 (fuse:=fuse) (s:=s) (t:=t) (dL4 (ix:=ix) (f4:=f4) h) hc ht hix hi (f4:=f4) (by omega) o4
  have l1:=dD7 (ix:=ix) (f4:=f4) (st:=st) cb
  have l2:=dO6 (ix:=ix) (f4:=f4) (st:=(ab3 c ix f4 st).2) cb
  have l3:=ec4 cb h2
  have e1:decide ((ab3 c ix f4 st).1.length*288≤l6)=true:=E0 (by omega)
  have e2:decide (((ab3 c ix f4 st).1.length+(bl3 c ix f4 (ab3 c ix f4 st).2).1.length)*288≤l6)=true:=E0 (by omega)
  have e3:decide ((((ab3 c ix f4 st).1.length+(bl3 c ix f4 (ab3 c ix f4 st).2).1.length)+i6.length)*288≤l6)=true:=E0 (by omega)
  refine⟨_,st',?_,.inr ⟨by omega,by omega,o3,o4,i6,rfl,h2⟩⟩
  have h1' :aw6 f4 (bl3 c ix f4 (ab3 c ix f4 st).2).2 c ix fuse down s t=some (i6,st'):=h1
  simp only[cond_false,dM9 cb (show 0≤ix∧ix≤100 by omega),dZ3 cb (show 0≤ix∧ix≤100 by omega),Option.bind_some,List.length_map,List.map_append,List.length_append,e1,e2,e3,cond_true,h1']
/-! ### what stays true -/
theorem DI.more {M' :Int}{j:Nat} (h:DI c st M i) (h1:i≤j) (h2:M≤M') (h3:M' ≤j):DI c st M' j:=⟨h.kn,by have:=h.vl;omega,h.vo,h.gr,by have:=h.bo;omega,h3,h.tp,h.pi⟩
theorem eF7 {m:f5}{i6:List f5}{st' :f3} (h:DI c st M i) (hr:G8 m=true) (hf:at7 m) (hh:HR c ix st m f4 i6 st'):DI c st' M (i+1):=by
 have hv:=h.vl
 have hmi:M≤((i+1:Nat):Int):=by have:=h.mi;omega
 cases hh with
 | same=>exact h.more (by omega) (Int.le_refl _) hmi
 | vote vok=>
  rename_i v
  refine⟨h.kn,?_,?_,h.gr,h.bo,hmi,h.tp,h.pi⟩
  ·have:=em2 st.votes v;simp only;omega
  ·intro x hx
   rcases el9 hx with hx | rfl
   ·exact h.vo x hx
   ·exact vok
 | hold=>exact⟨h.kn,by simp only;omega,h.vo,eb9 _ _ _ h.gr,h.bo,hmi,h.tp,h.pi⟩
 | prom _=>exact⟨h.kn,by simp only;omega,h.vo,h.gr,h.bo,hmi,h.tp,(cc6 h.pi hr hf).1⟩
 | acc _ _=>exact⟨h.kn,by simp only;omega,h.vo,h.gr,h.bo,hmi,h.tp,(cc6 h.pi hr hf).1⟩
 | accd hno=>
  refine⟨h.kn,by simp only;omega,h.vo,h.gr,h.bo,hmi,h.tp,?_⟩
  rcases(cB7 (c:=c) (m:=m) h.pi).2 with⟨_,h2⟩ | h2
  ·exact h2
  ·exact absurd h2 hno
 | learn _ h2=>
  have hp:=h.pi.ph
  refine⟨?_,by simp only[dv3,cp4];omega,h.vo,h.gr,h.bo,hmi,h.tp,PI0 _⟩
  rcases hp with hp | ⟨-,-,-,-,-,hp⟩
  ·omega
  ·exact(hp h2).1
 | nack=>exact⟨h.kn,by simp only;omega,h.vo,h.gr,h.bo,hmi,by have:=h.tp;have:=dz6 st.top m.Ballot;simp only;omega,h.pi⟩
 | told _ h2 _=>exact⟨⟨h2,hf.pl⟩,by simp only[cp4];omega,h.vo,h.gr,h.bo,hmi,h.tp,PI0 _⟩
 | shut=>exact⟨h.kn,by simp only;omega,h.vo,h.gr,h.bo,hmi,h.tp,h.pi⟩
theorem ej3 {e b:Int}{n:Plan} (hg:aS8 (dQ6 n (e+1))):PI (an4 (e+1) b n) e:=
 ⟨O4.2 (by simp[an4]),O4.2 (by simp[an4]),.inr ⟨.inl rfl,rfl,⟨hg,rfl⟩,by simp[an4],fun h=>by simp[an4] at h,fun h=>by simp[an4] at h⟩⟩
theorem dM8 (cb:CB c) (hn:0≤f4) {n:Plan}{u:Nat} (hfit:aM9 c st.known) (hnx:ak5 c st.known u f4=(n,true)):aS8 n∧n.Epoch=st.known.Epoch+1∧dQ6 n (st.known.Epoch+1)=n:=by
 obtain⟨r1,r2,r3,r4⟩:=es4 cb hfit u hn (by rw[hnx])
 rw[hnx] at r1 r2 r3 r4
 have hE:=hfit.e
 have hE0:=hfit.r.epoch
 refine⟨⟨r1,⟨aj2.2 (by simp only at r2;omega),r3,r4,r1.shrt⟩⟩,r2,?_⟩
 rw[←r2];rfl
theorem eH4 (cb:CB c) (hn:0≤f4) {i6:List f5}{st' :f3} (h:DI c st M i) (hh:PR c ix f4 st i6 st'):DI c st' M i:=by
 cases hh with
 | same=>exact h
 | none=>exact⟨h.kn,h.vl,h.vo,h.gr,h.bo,h.mi,h.tp,PI0 _⟩
 | go h1 h2 hfit hnx t1 t2 t3 k1 k2 k3=>
  obtain⟨g1,g2,g3⟩:=dM8 cb hn hfit hnx
  exact⟨h.kn,h.vl,h.vo,h.gr,h.bo,h.mi,by have:=h.tp;simp only;omega,ej3 (by rw[g3];exact g1)⟩
end
noncomputable def dq7 (y:Int×Bool×(List Int)×(List Int)):D×i0:=(.ptr 0 0 0,[some ⟨4,true,[[(i5 1 (List.map (d8 .u8) y.2.2.1)),(i5 2 (List.map (d8 .u8) y.2.2.2)),.int .i64 y.1,.bool y.2.1]]⟩,some ⟨1,false,(List.map (d8 .u8) y.2.2.1)⟩,some ⟨1,false,(List.map (d8 .u8) y.2.2.2)⟩])
noncomputable def bs8:Option (Int×Bool×(List Int)×(List Int)):=(some ((-1),false,[],[]))
theorem de1 {r:Int×Bool×(List Int)×(List Int)} (h:bs8=some r):i7 E 28 [] [] (Rs dq7 r):=so (fn:=Tryz.f28) (k:=true) (m:=0) h<| by
 intro r h;unfold bs8 at h
 refine zf 10 [.matc 0 0 0 1,.matc 0 0 1 1] ?_
 exact zu 1 h
noncomputable def cj3:=u5 (u6 Tryz.f8)
inductive aw1 where
 | r0
 | r1 (a0:f3) (a1:Int) (a2:Bool) (a3:List Int) (a4:List Int)
noncomputable def cj1 (c:d9) (ac9:Int):aw1→D×i0
 | .r0=>(.nilp,[])
 | .r1 a0 a1 a2 a3 a4=>(.ptr 0 0 0,[some ⟨88,true,[(f3.l a0 (d9.l c [.int .i64 ac9,.ptr 1 0 0]))]⟩,some ⟨4,true,[[(i5 2 (List.map (d8 .u8) a3)),(i5 3 (List.map (d8 .u8) a4)),.int .i64 a1,.bool a2]]⟩,some ⟨1,false,(List.map (d8 .u8) a3)⟩,some ⟨1,false,(List.map (d8 .u8) a4)⟩])
abbrev do7 (c:d9) (ac9:Int):=AOk E (Cx.of Tryz.f8 true 0) (cj1 c ac9)
noncomputable def dh6 (c:d9) (ac9:Int) (t17:Bool):M:=⟨[.code (cj3 [1,0,1]),.code (cj3 [1,1])],[(1,.int .i64 ac9),(2,.ptr 0 0 0),(17,.bool t17)],[some ⟨30,false,[(d9.enc c)]⟩]⟩
noncomputable def X5 (c:d9) (ac9:Int) (t17:Bool):Option aw1:=(bif t17 then (some (aw1.r0)) else ((aL8 c).bind fun y2=>((bs8).bind fun y3=>(some (aw1.r1 (⟨0,y2,0,[],(⟨0,0,0,0⟩:u4),(⟨false,0⟩:aa3),(⟨0,0,0,(⟨0,0,0,0,0,0,0,0,0,0,[],[]⟩:Plan),0,(⟨0,0,0,0,0,0,0,0,0,0,[],[]⟩:Plan),0,0⟩:l7),0,0,0,(⟨false,0⟩:aa3)⟩:f3) y3.1 y3.2.1 y3.2.2.1 y3.2.2.2)))))
theorem bd1 {c ac9 t17}:do7 c ac9 (dh6 c ac9 t17) (X5 c ac9 t17):=by
 intro r h;unfold X5 at h
 refine zs 1 h (fun h=> ?_) fun h=> ?_
 ·
  exact zu 5 h
 refine zd 4 [] h (fun _=>bX4) fun y2 h=> ?_
 refine zc 1 [] h (fun _=>de1) fun y3 h=> ?_
 refine zf 0 [.blk 4 [some 3,some 1,some 1,some 1,some 1]] ?_
 exact zu 1 h
noncomputable def aA1 (c:d9) (ac9:Int):Option aw1:=((at1 c).bind fun y1=>(bif (!y1) then (X5 c ac9 true) else (bif (decide (ac9<0)) then (X5 c ac9 true) else (X5 c ac9 (decide (ac9≥c.Deciders))))))
theorem bo4 {c:d9}{ac9:Int}{r:aw1} (h:aA1 c ac9=some r):i7 E 8 [.agg (d9.enc c),.int .i64 ac9] [] (Rs (cj1 c ac9) r):=so (fn:=Tryz.f8) (k:=true) (m:=0) h<| by
 intro r h;unfold aA1 at h
 refine zc 11 [] h (fun _=>bg3) fun y1 h=> ?_
 refine zs 3 h (fun h=> ?_) fun h=> ?_
 ·
  exact zg 16 (bd1 h)
 refine zs 6 h (fun h=> ?_) fun h=> ?_
 ·
  exact zg 9 (bd1 h)
 exact zg 10 (bd1 h)
noncomputable def cx7 (aa4:f3) (c:d9) (ac9 ae5:Int) (ad1:Bool) (b2 b3:List Int) (y:Unit):D×i0:=(.ptr 1 0 0,[some ⟨88,true,[(f3.l aa4 (d9.l c [.int .i64 ac9,.ptr 1 0 0]))]⟩,some ⟨4,true,[[(i5 2 (List.map (d8 .u8) b2)),(i5 3 (List.map (d8 .u8) b3)),.int .i64 ae5,.bool ad1]]⟩,some ⟨1,false,(List.map (d8 .u8) b2)⟩,some ⟨1,false,(List.map (d8 .u8) b3)⟩])
noncomputable def V5 (aa4:f3) (c:d9) (ac9 ae5:Int) (ad1:Bool) (b2 b3:List Int):Option Unit:=(some ())
theorem aQ0 {aa4:f3}{c:d9}{ac9 ae5:Int}{ad1:Bool}{b2 b3:List Int}{r:Unit} (h:V5 aa4 c ac9 ae5 ad1 b2 b3=some r):i7 E 23 [.ptr 0 0 0] [some ⟨88,true,[(f3.l aa4 (d9.l c [.int .i64 ac9,.ptr 1 0 0]))]⟩,some ⟨4,true,[[(i5 2 (List.map (d8 .u8) b2)),(i5 3 (List.map (d8 .u8) b3)),.int .i64 ae5,.bool ad1]]⟩,some ⟨1,false,(List.map (d8 .u8) b2)⟩,some ⟨1,false,(List.map (d8 .u8) b3)⟩] (Rs (cx7 aa4 c ac9 ae5 ad1 b2 b3) r):=so (fn:=Tryz.f23) (k:=true) (m:=4) h<| by
 intro r h;unfold V5 at h
 exact zu 14 h
noncomputable def cN7 (aa4:f3) (c:d9) (ac9 ae5:Int) (ad1:Bool) (b2 b3:List Int) (y:Plan):D×i0:=(.agg (Plan.enc y),[some ⟨88,true,[(f3.l aa4 (d9.l c [.int .i64 ac9,.ptr 1 0 0]))]⟩,some ⟨4,true,[[(i5 2 (List.map (d8 .u8) b2)),(i5 3 (List.map (d8 .u8) b3)),.int .i64 ae5,.bool ad1]]⟩,some ⟨1,false,(List.map (d8 .u8) b2)⟩,some ⟨1,false,(List.map (d8 .u8) b3)⟩])
noncomputable def ac5 (aa4:f3) (c:d9) (ac9 ae5:Int) (ad1:Bool) (b2 b3:List Int):Option Plan:=(some aa4.known)
theorem bc6 {aa4:f3}{c:d9}{ac9 ae5:Int}{ad1:Bool}{b2 b3:List Int}{r:Plan} (h:ac5 aa4 c ac9 ae5 ad1 b2 b3=some r):i7 E 12 [.ptr 0 0 0] [some ⟨88,true,[(f3.l aa4 (d9.l c [.int .i64 ac9,.ptr 1 0 0]))]⟩,some ⟨4,true,[[(i5 2 (List.map (d8 .u8) b2)),(i5 3 (List.map (d8 .u8) b3)),.int .i64 ae5,.bool ad1]]⟩,some ⟨1,false,(List.map (d8 .u8) b2)⟩,some ⟨1,false,(List.map (d8 .u8) b3)⟩] (Rs (cN7 aa4 c ac9 ae5 ad1 b2 b3) r):=so (fn:=Tryz.f12) (k:=true) (m:=4) h<| by
 intro r h;unfold ac5 at h
 exact zu 18 h
noncomputable def aE0:=u5 (u6 Tryz.f7)
noncomputable def cp7 (y:Bool):D×i0:=(.bool y,[])
abbrev bh8:=AOk E (Cx.of Tryz.f7 false 0) cp7
noncomputable def ds4:M:=⟨[.code (aE0 [1,1,1,0,1]),.code (aE0 [1,1,1,1])],[(2,.nilp),(29,.bool true)],[]⟩
noncomputable def bJ1:Option Bool:=(some false)
theorem cU9:bh8 ds4 (bJ1):=by
 intro r h;unfold bJ1 at h
 exact zu 7 h
noncomputable def ds3 (c:d9):M:=⟨[.code (aE0 [1,1,1])],[(1,.ptr 0 0 0),(2,.nilp)],[some ⟨30,false,[(d9.enc c)]⟩]⟩
noncomputable def bK6 (c:d9):Option Bool:=(bJ1)
theorem cN5 {c}:bh8 (ds3 c) (bK6 c):=by
 intro r h;unfold bK6 at h
 exact zg 44 (cU9 h)
noncomputable def ds5 (V7:Bool) (aa4:f3) (c:d9) (ac9 ae5:Int) (ad1:Bool) (b2 b3:List Int):M:=⟨[.code (aE0 [1,1,1,0,1]),.code (aE0 [1,1,1,1])],[(2,.ptr 0 0 0),(29,.bool V7)],[some ⟨88,true,[(f3.l aa4 (d9.l c [.int .i64 ac9,.ptr 1 0 0]))]⟩,some ⟨4,true,[[(i5 2 (List.map (d8 .u8) b2)),(i5 3 (List.map (d8 .u8) b3)),.int .i64 ae5,.bool ad1]]⟩,some ⟨1,false,(List.map (d8 .u8) b2)⟩,some ⟨1,false,(List.map (d8 .u8) b3)⟩]⟩
noncomputable def aB8 (V7:Bool) (aa4:f3) (c:d9) (ac9 ae5:Int) (ad1:Bool) (b2 b3:List Int):Option Bool:=(bif V7 then (some false) else ((X0 0 aa4 c ac9 ae5 ad1 b2 b3).bind fun y2=>(bif (((((List.map f5.enc y2.1).length:Nat):Int):Int)==3) then (bif (decide ((0:Int)<(((List.map f5.enc y2.1).length:Nat):Int))) then (((y2.1)[0]?).bind fun y5=>(bif (y5.Kind==10) then (bif (decide ((0:Int)<(((List.map f5.enc y2.1).length:Nat):Int))) then (((y2.1)[0]?).bind fun y9=>(bif (y9.Code==2) then ((al9 0 y2.2 c ac9 ae5 ad1 b2 b3).bind fun y12=>(bif (!y12) then ((ac5 y2.2 c ac9 ae5 ad1 b2 b3).bind fun y14=>(some (y14.Target==(-1)))) else (some false))) else (some false))) else none) else (some false))) else none) else (some false))))
theorem bg4 {V7 aa4 c ac9 ae5 ad1 b2 b3}:bh8 (ds5 V7 aa4 c ac9 ae5 ad1 b2 b3) (aB8 V7 aa4 c ac9 ae5 ad1 b2 b3):=by
 intro r h;unfold aB8 at h
 refine zs 1 h (fun h=> ?_) fun h=> ?_
 ·
  exact zu 5 h
 refine zc 5 [] h (fun _=>bi5) fun y2 h=> ?_
 refine zs 9 h (fun h=> ?_) fun h=> ?_
 ·
  refine zn 2 h fun h=> ?_
  refine zr 4 f5.enc h fun y5 h=> ?_
  refine zs 6 h (fun h=> ?_) fun h=> ?_
  ·
   refine zn 2 h fun h=> ?_
   refine zr 4 f5.enc h fun y9 h=> ?_
   refine zs 6 h (fun h=> ?_) fun h=> ?_
   ·
    refine zc 2 [] h (fun _=>bc0) fun y12 h=> ?_
    refine zs 6 h (fun h=> ?_) fun h=> ?_
    ·
     refine zc 2 [] h (fun _=>bc6) fun y14 h=> ?_
     exact zu 9 h
    exact zu 11 h
   exact zu 20 h
  exact zu 33 h
 exact zu 46 h
noncomputable def ds8 (c:d9) (aa4:f3) (c2:d9) (ac9 ae5:Int) (ad1:Bool) (b3 b4:List Int):M:=⟨[.code (aE0 [1,1,1])],[(1,.ptr 0 0 0),(2,.ptr 1 0 0)],[some ⟨30,false,[(d9.enc c)]⟩,some ⟨88,true,[(f3.l aa4 (d9.l c2 [.int .i64 ac9,.ptr 2 0 0]))]⟩,some ⟨4,true,[[(i5 3 (List.map (d8 .u8) b3)),(i5 4 (List.map (d8 .u8) b4)),.int .i64 ae5,.bool ad1]]⟩,some ⟨1,false,(List.map (d8 .u8) b3)⟩,some ⟨1,false,(List.map (d8 .u8) b4)⟩]⟩
noncomputable def bi8 (c:d9) (aa4:f3) (c2:d9) (ac9 ae5:Int) (ad1:Bool) (b3 b4:List Int):Option Bool:=((aA1 c 2).bind fun y1=>match y1 with | .r0=>((V5 aa4 c2 ac9 ae5 ad1 b3 b4).bind fun y2=>((X0 0 aa4 c2 ac9 ae5 ad1 b3 b4).bind fun y3=>(bif (((((List.map f5.enc y3.1).length:Nat):Int):Int) !=0) then (aB8 true y3.2 c2 ac9 ae5 ad1 b3 b4) else ((ax9 0 y3.2 c2 ac9 ae5 ad1 b3 b4).bind fun y5=>(aB8 ((y5.1:Int) !=0) y5.2.1 c2 ac9 y5.2.2.1 y5.2.2.2.1 y5.2.2.2.2.1 y5.2.2.2.2.2))))) | .r1 y1a0 y1a1 y1a2 y1a3 y1a4=>(aB8 true aa4 c2 ac9 ae5 ad1 b3 b4))
theorem cP3 {c aa4 c2 ac9 ae5 ad1 b3 b4}:bh8 (ds8 c aa4 c2 ac9 ae5 ad1 b3 b4) (bi8 c aa4 c2 ac9 ae5 ad1 b3 b4):=by
 intro r h;unfold bi8 at h
 refine zc 11 [] h (fun _=>bo4) fun y1 h=> ?_
 cases y1 with
 | r0=>
  dsimp only at h
  refine zc 9 [] h (fun _=>aQ0) fun y2 h=> ?_
  refine zc 9 [] h (fun _=>bi5) fun y3 h=> ?_
  refine zs 8 h (fun h=> ?_) fun h=> ?_
  ·
   exact zg 7 (bg4 h)
  refine zc 2 [] h (fun _=>bw8) fun y5 h=> ?_
  exact zg 5 (bg4 h)
 | r1 y1a0 y1a1 y1a2 y1a3 y1a4=>
  dsimp only at h
  exact zg 34 (bg4 h)
noncomputable def bi1:Option Bool:=((bs7).bind fun y1=>((aA1 y1 0).bind fun y2=>match y2 with | .r0=>(bK6 y1) | .r1 y2a0 y2a1 y2a2 y2a3 y2a4=>(bi8 y1 y2a0 y1 0 y2a1 y2a2 y2a3 y2a4)))
theorem dq0 {r:Bool} (h:bi1=some r):i7 E 7 [] [] (Rs cp7 r):=so (fn:=Tryz.f7) (k:=false) (m:=0) h<| by
 intro r h;unfold bi1 at h
 refine zc 7 [] h (fun _=>da3) fun y1 h=> ?_
 refine zc 10 [] h (fun _=>bo4) fun y2 h=> ?_
 cases y2 with
 | r0=>
  dsimp only at h
  exact zg 2 (cN5 h)
 | r1 y2a0 y2a1 y2a2 y2a3 y2a4=>
  dsimp only at h
  exact zg 2 (cP3 h)
noncomputable def dz3 (y:Int):D×i0:=(.int .i64 y,[])
noncomputable def bG5 (f4:Int):Option Int:=(some (A0 0 (B7 f4 1099511627776)))
theorem ds0 {f4 r:Int} (h:bG5 f4=some r):i7 E 31 [.int .i64 f4] [] (Rs dz3 r):=so (fn:=Tryz.f31) (k:=false) (m:=0) h<| by
 intro r h;unfold bG5 at h
 exact zu 12 h
noncomputable def dE8 (c:d9) (ac9:Int) (y:(List f5)×f3×Int×Bool×(List Int)×(List Int)):D×i0:=(.sl false 26 (List.map f5.enc y.1),[some ⟨88,true,[(f3.l y.2.1 (d9.l c [.int .i64 ac9,.ptr 1 0 0]))]⟩,some ⟨4,true,[[(i5 4 (List.map (d8 .u8) y.2.2.2.2.1)),(i5 5 (List.map (d8 .u8) y.2.2.2.2.2)),.int .i64 y.2.2.1,.bool y.2.2.2.1]]⟩,none,none,some ⟨1,false,(List.map (d8 .u8) y.2.2.2.2.1)⟩,some ⟨1,false,(List.map (d8 .u8) y.2.2.2.2.2)⟩])
noncomputable def bl0 (o:Op) (aa4:f3) (c:d9) (ac9 ae5:Int) (ad1:Bool) (b2 b3:List Int):Option ((List f5)×f3×Int×Bool×(List Int)×(List Int)):=(bif (((m9 .i64 o.What 7):Int)==1) then ((V5 aa4 c ac9 ae5 ad1 b2 b3).bind fun y2=>((bj0 o.N_ ae5 ad1 b2 b3).bind fun y3=>(some ([],aa4,y3,ad1,b2,b3)))) else (bif (((m9 .i64 o.What 7):Int)==2) then ((V5 aa4 c ac9 ae5 ad1 b2 b3).bind fun y5=>((av4 o.N_ ae5 ad1 b2 b3).bind fun y6=>(some ([],aa4,y6.1,y6.2.1,y6.2.2.1,y6.2.2.2)))) else (bif (((m9 .i64 o.What 7):Int)==3) then ((bG5 o.Now).bind fun y8=>((ax9 y8 aa4 c ac9 ae5 ad1 b2 b3).bind fun y9=>(some ([],y9.2.1,y9.2.2.1,y9.2.2.2.1,y9.2.2.2.2.1,y9.2.2.2.2.2)))) else (bif (((m9 .i64 o.What 7):Int)==4) then ((X0 o.Now aa4 c ac9 ae5 ad1 b2 b3).bind fun y11=>(some (y11.1,y11.2,ae5,ad1,b2,b3))) else ((aF2 o.M_ o.Now aa4 c ac9 ae5 ad1 b2 b3).bind fun y12=>(some (y12.1,y12.2,ae5,ad1,b2,b3)))))))
theorem dp6 {o:Op}{aa4:f3}{c:d9}{ac9 ae5:Int}{ad1:Bool}{b2 b3:List Int}{r:(List f5)×f3×Int×Bool×(List Int)×(List Int)} (h:bl0 o aa4 c ac9 ae5 ad1 b2 b3=some r):i7 E 10 [.ptr 0 0 0,.agg (Op.enc o)] [some ⟨88,true,[(f3.l aa4 (d9.l c [.int .i64 ac9,.ptr 1 0 0]))]⟩,some ⟨4,true,[[(i5 2 (List.map (d8 .u8) b2)),(i5 3 (List.map (d8 .u8) b3)),.int .i64 ae5,.bool ad1]]⟩,some ⟨1,false,(List.map (d8 .u8) b2)⟩,some ⟨1,false,(List.map (d8 .u8) b3)⟩] (Rs (dE8 c ac9) r):=so (fn:=Tryz.f10) (k:=true) (m:=4) h<| by
 intro r h;unfold bl0 at h
 refine zs 20 h (fun h=> ?_) fun h=> ?_
 ·
  refine zdR 1 [] h (fun _=>aQ0) fun y2 h=> ?_
  refine zc 1 [] h (fun _=>cU5) fun y3 h=> ?_
  refine zf 5 [.mv 2,.mv 3] ?_
  exact zu 1 h [.slot 0 [some 26]]
 refine zs 6 h (fun h=> ?_) fun h=> ?_
 ·
  refine zdR 1 [] h (fun _=>aQ0) fun y5 h=> ?_
  refine zc 1 [] h (fun _=>cL0) fun y6 h=> ?_
  refine zf 5 [.mv 3] ?_
  exact zu 1 h [.slot 0 [some 26]]
 refine zs 6 h (fun h=> ?_) fun h=> ?_
 ·
  refine zc 6 [] h (fun _=>ds0) fun y8 h=> ?_
  refine zc 1 [] h (fun _=>bw8) fun y9 h=> ?_
  exact zu 7 h [.slot 0 [some 26]]
 refine zs 6 h (fun h=> ?_) fun h=> ?_
 ·
  refine zc 7 [] h (fun _=>bi5) fun y11 h=> ?_
  refine zf 2 [.mv 2,.mv 3] ?_
  exact zu 1 h
 refine zc 10 [] h (fun _=>cz2) fun y12 h=> ?_
 refine zf 2 [.mv 2,.mv 3] ?_
 exact zu 1 h
def ah6 (c:d9):Plan:=⟨0,-1,-1,-1,0,0,0,0,0,0,List.replicate c.Targets.toNat 0,[]⟩
def zst (c:d9):f3:=⟨0,ah6 c,0,[],⟨0,0,0,0⟩,⟨false,0⟩,cx2,0,0,0,⟨false,0⟩⟩
def upS (c:d9) (b f4:Int):f3:={ zst c with boot:=b,heard:=f4 }
theorem cV0 {c:d9} (cb:CB c):aS8 (ah6 c):=by
 have:=cb.t
 refine⟨⟨by simp[ah6],by simp[ah6],by simp[ah6],by simp[ah6],by simp[ah6],by simp[ah6],by simp[ah6];omega,by simp[ah6],fun x hx=> ?_,by simp[ah6],rfl⟩,⟨aj2.2 (by simp[ah6]),by simp[ah6],by simp[ah6],⟨by simp[ah6];omega,by simp[ah6]⟩⟩⟩
 rw[(List.mem_replicate.1 hx).2];decide
theorem dY4 {c:d9} (cb:CB c) {M:Int}{i:Nat} (h0:0≤M) (hi:M≤i):DI c (zst c) M i:=⟨cV0 cb,by simp[zst],by simp[zst],O4.2 (by simp[zst]),by simp[zst];exact h0,hi,by simp[zst],PI0 _⟩
theorem eG1 {c:d9} (cb:CB c) {M f4:Int}{i:Nat} (h0:0≤M) (hi:M≤i):DI c (upS c M f4) M i:=⟨cV0 cb,by simp[upS,zst],by simp[upS,zst],O4.2 (by simp[upS,zst]),by simp[upS];exact h0,hi,by simp[upS,zst],PI0 _⟩
section
variable {c : d9} {ix : Int} {st : f3} {ns : List Int} {pend : Option Int} {fuse : Int} {down : Bool} {s t : List Int} {i : Nat}
theorem dV3 {f4 f:Int}{d:Bool}{st2:f3}{s' t' :List Int}{r:Int×f3×Int×Bool×List Int×List Int} (hn:∀n∈ns,u0 .i64 n∧n<1048575) (hl:ns.length≤1000):∀(j k:Nat),k+j=ns.length→
  Ev (S9 f4 c ix) (.s1 (aF8 ns) (at8 ns) (ns.length:Nat) (ns.length:Nat) st2 f d s' t') r→Ev (S9 f4 c ix) (.s1 (aF8 ns) (at8 ns) (ns.length:Nat) (k:Nat) st2 f d s' t') r:=by
 intro j
 induction j with
 | zero=>
  intro k hk h
  have:k=ns.length:=by omega
  subst this
  exact h
 | succ j ih=>
  intro k hk h
  have hlt:k<ns.length:=by omega
  obtain⟨g1,g2⟩:=ep2 hlt
  obtain⟨hk1,hk2⟩:=hn _ (List.getElem_mem hlt)
  have hof:=dP6 hk1
  have l1:(decide ((k:Int)<((at8 ns).length:Int)))=true:=by simp[at8];omega
  have l2:(decide ((k:Int)<((aF8 ns).length:Int)))=true:=by simp[aF8];omega
  have big:decide ((C4 ns[k]).Nonce≥1048575)=false:=decide_eq_false (by show ¬ns[k]≥1048575;omega)
  refine .next (s' :=.s1 (aF8 ns) (at8 ns) (ns.length:Nat) ((k+1:Nat):Int) st2 f d s' t') ?_ (ih (k+1) (by omega) h)
  simp only[S9,U2,G4 hlt,cond_true,List.length_map,O9,l1,l2,Bool.and_self,Int.toNat_natCast,g1,g2,Option.bind_some,hof,beq_self_eq_true,show(C4 ns[k]).Kind=17 from rfl,big,cond_false,wB (show k≤3000000 by omega)]
theorem cR5 {f4:Int} (h:JR ns pend fuse down s t i) (hc:W7 c=true) (ht:c.Tiers.length<9223372036854775807) (hi:i≤250):
  ∃e st' f d s' t' ns' pend',ax9 f4 st c ix fuse down s t=some (e,st',f,d,s',t')∧JR ns' pend' f d s' t' (i+1)∧L4 ns≤L4 ns' ∧(st' =zst c∨(L4 ns<L4 ns' ∧st' =upS c (L4 ns') f4))∧(fuse= -1→e=0∧st' =upS c (L4 ns') f4∧d=false∧L4 ns<L4 ns'):=by
 have hz:=cW4 ht hc
 rcases h.open_ (by omega) with⟨f,ho,hr,hf1⟩ | ⟨f,ho,hr,hf1⟩
 rotate_left
 ·refine⟨61,zst c,f,true,s,[],ns,none,z7 (.done ?_),hr.more,Int.le_refl _,.inl rfl,fun h=>absurd h hf1⟩
  simp only[S9,an5,hz,ho,Option.bind_some,show((61:Int) !=0)=true from rfl,cond_true];rfl
 have hin:∀n∈ns,u0 .i64 n∧n<1048575:=fun n hn=>⟨dy8 (h.ns_ n hn) (by omega),by have:=h.ns_ n hn;omega⟩
 have hl:ns.length≤1000:=by have:=h.cnt;omega
 obtain⟨b,e,g,d,s',t',ns',pend',hb,hj,hm,he,hfe⟩:=ez1 hr hi
 have lt:decide (((ns.length:Nat):Int)<((ns.length:Nat):Int))=false:=decide_eq_false (by omega)
 have first:∀{r},U2 f4 c ix (aF8 ns) (at8 ns) (ns.length:Nat) (ns.length:Nat) (zst c) f false (log (ns.map C4)) []=some (.inr r)→ax9 f4 st c ix fuse down s t=some r:=fun {r} hh=>by
  refine z7 (.next (s' :=.s1 (aF8 ns) (at8 ns) (ns.length:Nat) ((0:Nat):Int) (zst c) f false (log (ns.map C4)) []) ?_ (dV3 hin hl ns.length 0 (by omega) (.done hh)))
  simp only[S9,an5,hz,ho,Option.bind_some,show((0:Int) !=0)=false from rfl,cond_false,List.length_map]
  simp[at8];rfl
 by_cases h0:e=0
 ·subst h0
  obtain⟨q1,q2,q3⟩:=he rfl
  refine⟨0,upS c (L4 ns') f4,g,d,s',t',ns',pend',first ?_,hj,hm,.inr ⟨by omega,rfl⟩,fun _=>⟨rfl,rfl,q1,by omega⟩⟩
  simp only[U2,lt,cond_false,hb,Option.bind_some,show((0:Int) !=0)=false from rfl,q3];rfl
 ·refine⟨e,zst c,g,d,s',t',ns',pend',first ?_,hj,hm,.inl rfl,fun h=>absurd (hfe (hf1 h)) h0⟩
  simp only[U2,lt,cond_false,hb,Option.bind_some,bne_iff_ne.2 h0,cond_true]
end
/-- One step of whatever is done: what is sent, what it is then, the highest boot on its disk. -/
inductive SR (c : d9) (ix : Int) (o : Op) (st : f3) (M : Int) (d : Bool) : List f5 → f3 → Int → Prop
  | idle {M' : Int} : m9 .i64 o.What 7 ≠ 3 → M ≤ M' → SR c ix o st M d [] st M'
  | fall {M' : Int} : m9 .i64 o.What 7 = 3 → M ≤ M' → SR c ix o st M d [] (zst c) M'
  | boot {M' f4 : Int} : m9 .i64 o.What 7 = 3 → M < M' → SR c ix o st M d [] (upS c M' f4) M'
  | tick {o3 : List f5} {st' : f3} : m9 .i64 o.What 7 = 4 → 0 ≤ o.Now → o.Now ≤ 1099511627776 → st.boot ≠ 0 → d = false → PR c ix o.Now (ce3 c ix o.Now st) o3 st' → SR c ix o st M d ((ab3 c ix o.Now st).1 ++ (bl3 c ix o.Now (ab3 c ix o.Now st).2).1 ++ o3) st' M
  | handle {i6 : List f5} {st' : f3} : m9 .i64 o.What 7 ≠ 3 → G8 o.M_ = true → 0 ≤ o.Now → o.Now ≤ 1099511627776 → st.boot ≠ 0 → d = false → HR c ix st o.M_ o.Now i6 st' → SR c ix o st M d i6 st' M
theorem ex6 {c:d9}{ix:Int}{o:Op}{st:f3}{ns:List Int}{pend:Option Int}{fuse:Int}{down:Bool}{s t:List Int}{i:Nat} (h:DI c st (L4 ns) i) (hj:JR ns pend fuse down s t i) (hc:W7 c=true) (ht:c.Tiers.length<9223372036854775807) (hix:0≤ix∧ix≤4) (ho:o.Ok) (hi:i≤250):
  ∃i6 st' f d s' t' ns' pend',bl0 o st c ix fuse down s t=some (i6,st',f,d,s',t')∧DI c st' (L4 ns') (i+1)∧JR ns' pend' f d s' t' (i+1)∧SR c ix o st (L4 ns) d i6 st' (L4 ns'):=by
 have cb:=ax7 hc
 have hm:=hj.mx
 have hm1:L4 ns≤((i+1:Nat):Int):=by omega
 have hN:=ho.2.2.2
 have hf:at7 o.M_:=ho.2.1.fine
 have mid:=h.more (j:=i+1) (by omega) (Int.le_refl _) hm1
 unfold bl0
 by_cases w1:m9 .i64 o.What 7=1
 ·rw[beq_iff_eq.2 w1]
  obtain⟨e1,e2⟩:=eu3 hj hN
  have h0:V5 st c ix fuse down s t=some ():=rfl
  simp only[cond_true,h0,e1,Option.bind_some]
  exact⟨_,_,_,_,_,_,ns,pend,rfl,mid,e2.more,.idle (by omega) (Int.le_refl _)⟩
 rw[beq_eq_false_iff_ne.2 w1]
 by_cases w2:m9 .i64 o.What 7=2
 ·rw[beq_iff_eq.2 w2]
  obtain⟨s',ns',e1,e2,e3⟩:=ek7 (keep:=o.N_) hj (by omega)
  have h0:V5 st c ix fuse down s t=some ():=rfl
  simp only[cond_true,cond_false,h0,e1,Option.bind_some]
  exact⟨_,_,_,_,_,_,ns',none,rfl,h.more (by omega) e3 (by have:=e2.mx;omega),e2.more,.idle (by omega) e3⟩
 rw[beq_eq_false_iff_ne.2 w2]
 by_cases w3:m9 .i64 o.What 7=3
 ·rw[beq_iff_eq.2 w3]
  obtain⟨e,st',f,d,s',t',ns',pend',e1,e2,e3,e4,-⟩:=cR5 (st:=st) (ix:=ix) (f4:=A0 0 (B7 o.Now 1099511627776)) hj hc ht hi
  have hm' :=e2.mx
  simp only[cond_true,cond_false,bG5,Option.bind_some,e1]
  refine⟨_,_,_,_,_,_,ns',pend',rfl,?_,e2,?_⟩
  ·rcases e4 with rfl | ⟨-,rfl⟩
   ·exact dY4 cb hm'.1 hm'.2
   ·exact eG1 cb hm'.1 hm'.2
  ·rcases e4 with rfl | ⟨e5,rfl⟩
   ·exact .fall w3 e3
   ·exact .boot w3 e5
 rw[beq_eq_false_iff_ne.2 w3]
 by_cases w4:m9 .i64 o.What 7=4
 ·rw[beq_iff_eq.2 w4]
  obtain⟨i6,st',e1,e2⟩:=es7 (f4:=o.Now) (fuse:=fuse) (down:=down) (s:=s) (t:=t) h hc ht hix (by omega)
  simp only[cond_true,cond_false,e1,Option.bind_some]
  rcases e2 with⟨rfl,rfl⟩ | ⟨q1,q2,q3,q4,o3,rfl,q5⟩
  ·exact⟨_,_,_,_,_,_,ns,pend,rfl,mid,hj.more,.idle w3 (Int.le_refl _)⟩
  ·exact⟨_,_,_,_,_,_,ns,pend,rfl,(eH4 cb q1 (dL4 h) q5).more (by omega) (Int.le_refl _) hm1,hj.more,.tick w4 q1 q2 q3 q4 q5⟩
 rw[beq_eq_false_iff_ne.2 w4]
 obtain⟨i6,st',e1,e2⟩:=dW4 (m:=o.M_) (f4:=o.Now) (fuse:=fuse) (down:=down) (s:=s) (t:=t) h cb hix hf (by omega)
 simp only[cond_false,e1,Option.bind_some]
 rcases e2 with⟨rfl,rfl⟩ | ⟨q1,q2,q3,q4,q5,q6⟩
 ·exact⟨_,_,_,_,_,_,ns,pend,rfl,mid,hj.more,.idle w3 (Int.le_refl _)⟩
 ·exact⟨_,_,_,_,_,_,ns,pend,rfl,eF7 h q1 hf q6,hj.more,.handle w3 q1 q2 q3 q4 q5 q6⟩
theorem cY0 {c:d9}{index:Int} (ht:c.Tiers.length<9223372036854775807):aA1 c index=some (if W7 c=true∧0≤index∧index<c.Deciders then .r1 (zst c) (-1) false [] [] else .r0):=by
 simp only[aA1,bs9 ht,Option.bind_some]
 cases h:W7 c with
 | false=>simp[X5]
 | true=>
  have hz:=cW4 ht h
  by_cases h1:index<0
  ·have:¬(0≤index):=by omega
   simp[h1,X5,this]
  ·by_cases h2:index≥c.Deciders
   ·have:¬(index<c.Deciders):=by omega
    simp[h1,h2,X5,this]
   ·have h3:0≤index∧index<c.Deciders:=by omega
    simp[h1,h2,X5,bs8,hz,h3,zst,ah6,cx2,B9]
theorem cF8:W7 F2=true:=by decide+kernel
theorem di1:bi1=some true:=by
 have ht:F2.Tiers.length<9223372036854775807:=by decide
 have cb:=ax7 cF8
 have n0:=cY0 (index:=0) ht
 have n2:=cY0 (index:=2) ht
 rw[if_pos ⟨cF8,by decide,by decide⟩] at n0
 rw[if_neg (by decide)] at n2
 have t1:X0 0 (zst F2) F2 0 (-1) false [] []=some ([],zst F2):=rfl
 obtain⟨e,st',f,d,s',t',ns',pend',e1,e2,e3,e4,e5⟩:=cR5 (st:=zst F2) (ix:=0) (f4:=0) JR0 cF8 ht (by decide)
 obtain⟨rfl,rfl,rfl,hlt⟩:=e5 rfl
 have m0:L4 []=0:=rfl
 generalize hb:L4 ns' =b at*
 have hl:ab3 F2 0 0 (upS F2 b 0)=(toL F2 0 (cn9 0) (aH6 F2),bP8 (upS F2 b 0) 0):=by unfold ab3;rw[if_pos];rfl
 have hs:bl3 F2 0 0 (bP8 (upS F2 b 0) 0)=([],bP8 (upS F2 b 0) 0):=by unfold bl3;rw[if_pos (.inl rfl)]
 have lv:bR5 (bP8 (upS F2 b 0) 0).hold 0 0=false:=rfl
 have hp:aw6 0 (bP8 (upS F2 b 0) 0) F2 0 f false s' t' =some ([],bP8 (upS F2 b 0) 0):=by
  refine z7 (.next (s' :=.s1 true) ?_ (.done rfl))
  simp only[t0,am7,cg0,Option.bind_some,lv,Bool.and_false,Bool.not_false,cond_true]
 have of:(decide ((0:Int)<0) || (decide ((0:Int)>1099511627776) || (decide ((upS F2 b 0).boot=0) || false)))=false:=by
  have:decide ((upS F2 b 0).boot=0)=false:=decide_eq_false (by show ¬b=0;omega)
  rw[this];rfl
 have la:(toL F2 0 (cn9 0) (aH6 F2)).length=3:=rfl
 have e1' :decide (3*288≤l6)=true:=E0 (by omega)
 have e2' :decide ((3+0)*288≤l6)=true:=E0 (by omega)
 have tk:X0 0 (upS F2 b 0) F2 0 f false s' t' =some (toL F2 0 (cn9 0) (aH6 F2),bP8 (upS F2 b 0) 0):=by
  simp only[X0,dz4,Option.bind_some,of,cond_false,dM9 cb (show(0:Int)≤0∧(0:Int)≤100 by decide),dZ3 cb (show(0:Int)≤0∧(0:Int)≤100 by decide),hl,hs,hp,List.length_map,List.map_append,List.length_append,List.length_nil,la,e1',e2',cond_true,List.append_nil]
 have g0:(toL F2 0 (cn9 0) (aH6 F2))[0]? =some (ftM (cn9 0) (A8 F2 0) 0):=rfl
 have j0:∀(st:f3) (f:Int) (d:Bool) (s t:List Int),V5 st F2 0 f d s t=some ():=fun _ _ _ _ _=>rfl
 have k0:∀(st:f3) (f:Int) (d:Bool) (s t:List Int),ac5 st F2 0 f d s t=some st.known:=fun _ _ _ _ _=>rfl
 simp only[bi1,ek6,Option.bind_some,n0,bi8,n2,j0,t1,e1,List.length_map,List.length_nil,aB8,show(((0:Nat):Int) !=0)=false from rfl,show((0:Int) !=0)=false from rfl,cond_false,tk,la,show(((3:Nat):Int)==3)=true from rfl,cond_true,show decide ((0:Int)<((3:Nat):Int))=true from rfl,g0,show((ftM (cn9 0) (A8 F2 0) 0).Kind==10)=true from rfl,show((ftM (cn9 0) (A8 F2 0) 0).Code==2)=true from rfl,cg0,lv,Bool.and_false,Bool.not_false,k0]
 rfl
noncomputable def dJ6 (y:Bool):D×i0:=(.bool y,[])
noncomputable def ap8 (r8 i:Int):Option Bool:=(bif (decide (i≥0)) then (bif (!decide (i<0)) then (some (((m9 .u64 (r5 .u64 r8 i) 1):Int)==1)) else none) else (some false))
theorem aC1 {r8 i:Int}{r:Bool} (h:ap8 r8 i=some r):i7 E 44 [.int .u64 r8,.int .i64 i] [] (Rs dJ6 r):=so (fn:=Tryz.f44) (k:=false) (m:=0) h<| by
 intro r h;unfold ap8 at h
 refine zs 10 h (fun h=> ?_) fun h=> ?_
 ·
  refine zn 4 h fun h=> ?_
  exact zu 9 h
 exact zu 13 h
noncomputable def aB5:=u5 (u6 Tryz.f41)
noncomputable def ct7 (y:Int):D×i0:=(.int .i64 y,[])
inductive aF0 where
 | s0
 | s1 (i6 i:Int)
 | s2 (i6 i:Int) (t32:Bool)
noncomputable def co1 (c:d9) (r8:Int):aF0→M
 | .s0=>C3 Tryz.f41 [.agg (d9.enc c),.int .u64 r8] []
 | .s1 i6 i=>⟨[.lpc (aB5 [1,1,0,1,0,0]) 102,.blk 0,.code (aB5 [1,1,1])],[(1,.int .u64 r8),(2,.ptr 0 0 0),(5,.int .i64 i6),(6,.int .i64 i)],[some ⟨30,false,[(d9.enc c)]⟩]⟩
 | .s2 i6 i t32=>⟨[.code (aB5 [1,1,0,1,0,0,1,0,0,1]),.blk 1,.code (aB5 [1,1,0,1,0,0,1,1]),.lp (aB5 [1,1,0,1,0,0]) 102,.blk 0,.code (aB5 [1,1,1])],[(1,.int .u64 r8),(2,.ptr 0 0 0),(5,.int .i64 i6),(6,.int .i64 i),(32,.bool t32)],[some ⟨30,false,[(d9.enc c)]⟩]⟩
abbrev bI2 (c:d9) (r8:Int):=SOk E (Cx.of Tryz.f41 false 0) ct7 (co1 c r8)
noncomputable def bI3 (c:d9) (r8:Int):Option (aF0⊕Int):=(some (.inl (.s1 (-1) 0)))
noncomputable def as1 (c:d9) (r8 i6 i:Int):Option (aF0⊕Int):=(bif (decide (i<c.Targets)) then ((ap8 r8 i).bind fun y2=>(bif y2 then (bif (decide (i6<0)) then (some (.inl (.s2 i6 i true))) else (bif ((decide ((0:Int)≤i))&&(decide (i<(((List.map (d8 .i64) c.Tiers).length:Nat):Int)))) then (((c.Tiers)[i.toNat]?).bind fun y6=>(bif ((decide ((0:Int)≤i6))&&(decide (i6<(((List.map (d8 .i64) c.Tiers).length:Nat):Int)))) then (((c.Tiers)[i6.toNat]?).bind fun y9=>(some (.inl (.s2 i6 i (decide (y6<y9)))))) else none)) else none)) else (some (.inl (.s2 i6 i false))))) else (some (.inr i6)))
noncomputable def bh5 (c:d9) (r8 i6 i:Int) (t32:Bool):Option (aF0⊕Int):=(bif t32 then (some (.inl (.s1 i (IntKind.i64.wrap (i+1))))) else (some (.inl (.s1 i6 (IntKind.i64.wrap (i+1))))))
noncomputable def V2 (c:d9) (r8:Int):aF0→Option (aF0⊕Int)
 | .s0=>bI3 c r8
 | .s1 i6 i=>as1 c r8 i6 i
 | .s2 i6 i t32=>bh5 c r8 i6 i t32
theorem cW6 {c r8}:bI2 c r8 .s0 (bI3 c r8):=by
 intro r x h ha;unfold bI3 at h
 exact zj 17 h ha
theorem cR3 {c r8 i6 i}:bI2 c r8 (.s1 i6 i) (as1 c r8 i6 i):=by
 intro r x h ha;unfold as1 at h
 refine zs 11 h (fun h=> ?_) fun h=> ?_
 ·
  refine zd 5 [] h (fun _=>aC1) fun y2 h=> ?_
  refine zs 0 h (fun h=> ?_) fun h=> ?_
  ·
   refine zs 2 h (fun h=> ?_) fun h=> ?_
   ·
    exact zk 13 h ha
   refine zn 4 h fun h=> ?_
   refine zr 1 (d8 .i64) h fun y6 h=> ?_
   refine zn 5 h fun h=> ?_
   refine zr 1 (d8 .i64) h fun y9 h=> ?_
   exact zk 4 h ha
  exact zk 4 h ha
 exact zt 7 h ha
theorem cU1 {c r8 i6 i t32}:bI2 c r8 (.s2 i6 i t32) (bh5 c r8 i6 i t32):=by
 intro r x h ha;unfold bh5 at h
 refine zs 1 h (fun h=> ?_) fun h=> ?_
 ·
  exact zj 11 h ha
 exact zj 8 h ha
noncomputable def bj6 (c:d9) (r8:Int):Option Int:=T3 (V2 c r8) (.s0)
theorem bA1 {c:d9}{r8 r:Int} (h:bj6 c r8=some r):i7 E 41 [.agg (d9.enc c),.int .u64 r8] [] (Rs ct7 r):=sc (fn:=Tryz.f41) (k:=false) (m:=0) (H9:=(co1 c r8)) h fun s=>by
 cases s with
 | s0=>exact cW6
 | s1=>exact cR3
 | s2=>exact cU1
noncomputable def ad8:=u5 (u6 Tryz.f73)
noncomputable def ck8 (y:Int×Int):D×i0:=(.tup [.int .i64 y.1,.int .i64 y.2],[])
inductive av2 where
 | s0
 | s1 (t33:Bool)
 | s2 (bS9 q:Int) (r_ i:Int) (l_:List Int)
noncomputable def ci3 (pen dt aj7:Int):av2→M
 | .s0=>C3 Tryz.f73 [.int .i64 pen,.int .i64 dt,.int .i64 aj7] []
 | .s1 t33=>⟨[.code (ad8 [1,0,1]),.code (ad8 [1,1])],[(0,.int .i64 pen),(1,.int .i64 dt),(2,.int .i64 aj7),(33,.bool t33)],[]⟩
 | .s2 bS9 q r_ i l_=>⟨[.lpc (ad8 [1,1,1,1,1,1,0,1,0,0]) 3845,.blk 0,.code (ad8 [1,1,1,1,1,1,1])],[(0,.int .i64 bS9),(2,.int .i64 aj7),(8,.msl 0 0 ((List.map (d8 .i64) l_).length) ((List.map (d8 .i64) l_).length) true),(9,.int .i64 q),(10,.int .i64 r_),(11,.int .i64 i)],[some ⟨1,false,(List.map (d8 .i64) l_)⟩]⟩
abbrev bA7 (pen dt aj7:Int):=SOk E (Cx.of Tryz.f73 false 0) ck8 (ci3 pen dt aj7)
noncomputable def ba7 (pen dt aj7:Int):Option (av2⊕(Int×Int)):=(bif (decide (pen<0)) then (some (.inl (.s1 true))) else (bif (decide (pen>1000000)) then (some (.inl (.s1 true))) else (bif (decide (dt<0)) then (some (.inl (.s1 true))) else (bif (decide (dt>1099511627776)) then (some (.inl (.s1 true))) else (bif (decide (aj7<1)) then (some (.inl (.s1 true))) else (some (.inl (.s1 (decide (aj7>1099511627776))))))))))
noncomputable def aJ3 (pen dt aj7:Int) (t33:Bool):Option (av2⊕(Int×Int)):=(bif t33 then (some (.inr (0,1))) else (bif (!decide (aj7=0)) then (bif (decide (((IntKind.i64.wrap (Int.tdiv dt aj7)):Int)>20)) then (some (.inr (0,0))) else (some (.inl (.s2 pen (IntKind.i64.wrap (Int.tdiv dt aj7)) (IntKind.i64.wrap (dt-(IntKind.i64.wrap ((IntKind.i64.wrap (Int.tdiv dt aj7))*aj7)))) 0 ([65536,62757,60097,57549,55109,52773,50535,48393,46341,44376,42495,40693,38968,37316,35734,34219]))))) else none))
noncomputable def aK7 (pen dt:Int) (aj7 bS9:Int) (q r_ i:Int) (l_:List Int):Option (av2⊕(Int×Int)):=(bif (decide (i<q)) then (some (.inl (.s2 (IntKind.i64.wrap (Int.tdiv bS9 2)) q r_ (IntKind.i64.wrap (i+1)) l_))) else (bif (!decide (aj7=0)) then (bif ((decide ((0:Int)≤(IntKind.i64.wrap (Int.tdiv (IntKind.i64.wrap ((16:Int)*r_)) aj7))))&&(decide (((IntKind.i64.wrap (Int.tdiv (IntKind.i64.wrap ((16:Int)*r_)) aj7)):Int)<(((List.map (d8 .i64) l_).length:Nat):Int)))) then (((l_)[(0+(IntKind.i64.wrap (Int.tdiv (IntKind.i64.wrap ((16:Int)*r_)) aj7)).toNat)]?).bind fun y4=>(some (.inr ((IntKind.i64.wrap (Int.tdiv (IntKind.i64.wrap (bS9*y4)) 65536)),0)))) else none) else none))
noncomputable def R4 (pen dt aj7:Int):av2→Option (av2⊕(Int×Int))
 | .s0=>ba7 pen dt aj7
 | .s1 t33=>aJ3 pen dt aj7 t33
 | .s2 bS9 q r_ i l_=>aK7 pen dt aj7 bS9 q r_ i l_
theorem cI6 {pen dt aj7}:bA7 pen dt aj7 .s0 (ba7 pen dt aj7):=by
 intro r x h ha;unfold ba7 at h
 refine zs 12 h (fun h=> ?_) fun h=> ?_
 ·
  exact zk 33 h ha
 refine zs 6 h (fun h=> ?_) fun h=> ?_
 ·
  exact zk 26 h ha
 refine zs 6 h (fun h=> ?_) fun h=> ?_
 ·
  exact zk 19 h ha
 refine zs 6 h (fun h=> ?_) fun h=> ?_
 ·
  exact zk 12 h ha
 refine zs 6 h (fun h=> ?_) fun h=> ?_
 ·
  exact zk 5 h ha
 exact zk 5 h ha
theorem cG4 {pen dt aj7 t33}:bA7 pen dt aj7 (.s1 t33) (aJ3 pen dt aj7 t33):=by
 intro r x h ha;unfold aJ3 at h
 refine zs 1 h (fun h=> ?_) fun h=> ?_
 ·
  exact zt 6 h ha
 refine zn 11 h fun h=> ?_
 refine zs 18 h (fun h=> ?_) fun h=> ?_
 ·
  exact zt 6 h ha
 refine n8 hm 9 _ ?_
 obtain rfl:=Option.some.inj h
 refine bc4 (q' :=.go ⟨[.lpc (ad8 [1,1,1,1,1,1,0,1,0,0]) 3845,.blk 0,.code (ad8 [1,1,1,1,1,1,1])],[(0,.int .i64 pen),(2,.int .i64 aj7),(8,.msl 0 0 16 16 true),(9,.int .i64 (IntKind.i64.wrap (Int.tdiv dt aj7))),(10,.int .i64 (IntKind.i64.wrap (dt-(IntKind.i64.wrap ((IntKind.i64.wrap (Int.tdiv dt aj7))*aj7))))),(11,.int .i64 0)],[some ⟨1,false,[[.int .i64 65536],[.int .i64 62757],[.int .i64 60097],[.int .i64 57549],[.int .i64 55109],[.int .i64 52773],[.int .i64 50535],[.int .i64 48393],[.int .i64 46341],[.int .i64 44376],[.int .i64 42495],[.int .i64 40693],[.int .i64 38968],[.int .i64 37316],[.int .i64 35734],[.int .i64 34219]]⟩]⟩) (by kernel_rfl) ?_
 refine ah4 (n1:=16) (n2:=(List.map (d8 .i64) ([65536,62757,60097,57549,55109,52773,50535,48393,46341,44376,42495,40693,38968,37316,35734,34219])).length) (fun n_len=> .go ⟨[.lpc (ad8 [1,1,1,1,1,1,0,1,0,0]) 3845,.blk 0,.code (ad8 [1,1,1,1,1,1,1])],[(0,.int .i64 pen),(2,.int .i64 aj7),(8,.msl 0 0 n_len n_len true),(9,.int .i64 (IntKind.i64.wrap (Int.tdiv dt aj7))),(10,.int .i64 (IntKind.i64.wrap (dt-(IntKind.i64.wrap ((IntKind.i64.wrap (Int.tdiv dt aj7))*aj7))))),(11,.int .i64 0)],[some ⟨1,false,[[.int .i64 65536],[.int .i64 62757],[.int .i64 60097],[.int .i64 57549],[.int .i64 55109],[.int .i64 52773],[.int .i64 50535],[.int .i64 48393],[.int .i64 46341],[.int .i64 44376],[.int .i64 42495],[.int .i64 40693],[.int .i64 38968],[.int .i64 37316],[.int .i64 35734],[.int .i64 34219]]⟩]⟩) (by simp) ?_
 exact ha
theorem cK9 {pen dt aj7 bS9 q r_ i l_}:bA7 pen dt aj7 (.s2 bS9 q r_ i l_) (aK7 pen dt aj7 bS9 q r_ i l_):=by
 intro r x h ha;unfold aK7 at h
 refine zs 9 h (fun h=> ?_) fun h=> ?_
 ·
  exact zj 16 h ha
 refine zn 9 h fun h=> ?_
 refine zn 1 h fun h=> ?_
 refine zr 1 (d8 .i64) h fun y4 h=> ?_
 exact zt 7 h ha
noncomputable def bS5 (pen dt aj7:Int):Option (Int×Int):=T3 (R4 pen dt aj7) (.s0)
theorem df5 {pen dt aj7:Int}{r:Int×Int} (h:bS5 pen dt aj7=some r):i7 E 73 [.int .i64 pen,.int .i64 dt,.int .i64 aj7] [] (Rs ck8 r):=sc (fn:=Tryz.f73) (k:=false) (m:=0) (H9:=(ci3 pen dt aj7)) h fun s=>by
 cases s with
 | s0=>exact cI6
 | s1=>exact cG4
 | s2=>exact cK9
noncomputable def ds7 (y:Int):D×i0:=(.int .i64 y,[])
noncomputable def aL9 (n:Int):Option Int:=(some (B7 (A0 n 0) 1000000))
theorem br1 {n r:Int} (h:aL9 n=some r):i7 E 107 [.int .i64 n] [] (Rs ds7 r):=so (fn:=Tryz.f107) (k:=false) (m:=0) h<| by
 intro r h;unfold aL9 at h
 exact zu 12 h
noncomputable def dK5 (y:Int):D×i0:=(.int .i64 y,[])
noncomputable def bx8 (pen bJ6:Int):Option Int:=((aL9 pen).bind fun y1=>((aL9 bJ6).bind fun y2=>((aL9 (IntKind.i64.wrap (y1+y2))).bind fun y3=>(some y3))))
theorem dG4 {pen bJ6 r:Int} (h:bx8 pen bJ6=some r):i7 E 74 [.int .i64 pen,.int .i64 bJ6] [] (Rs dK5 r):=so (fn:=Tryz.f74) (k:=false) (m:=0) h<| by
 intro r h;unfold bx8 at h
 refine zc 8 [] h (fun _=>br1) fun y1 h=> ?_
 refine zc 2 [] h (fun _=>br1) fun y2 h=> ?_
 refine zc 2 [] h (fun _=>br1) fun y3 h=> ?_
 exact zu 3 h
noncomputable def dI1 (y:Bool):D×i0:=(.bool y,[])
noncomputable def be1 (was:Bool) (pen aH3 bx6:Int):Option Bool:=(bif (decide (pen≥aH3)) then (some true) else (bif (decide (pen≤bx6)) then (some false) else (some was)))
theorem dG0 {was:Bool}{pen aH3 bx6:Int}{r:Bool} (h:be1 was pen aH3 bx6=some r):i7 E 75 [.bool was,.int .i64 pen,.int .i64 aH3,.int .i64 bx6] [] (Rs dI1 r):=so (fn:=Tryz.f75) (k:=false) (m:=0) h<| by
 intro r h;unfold be1 at h
 refine zs 12 h (fun h=> ?_) fun h=> ?_
 ·
  exact zu 5 h
 refine zs 9 h (fun h=> ?_) fun h=> ?_
 ·
  exact zu 5 h
 exact zu 7 h
noncomputable def I6:=u5 (u6 Tryz.f40)
noncomputable def cm8 (y:(List Int)×Int):D×i0:=(.tup [.sl false 1 (List.map (d8 .i64) y.1),.int .u64 y.2],[])
inductive as8 where
 | s0
 | s1 (sup i:Int) (pen:List Int)
 | s3 (sup i n:Int) (t46:Bool) (pen:List Int)
 | s2 (sup i n:Int) (pen:List Int)
noncomputable def ct5 (c:d9) (p_:Plan) (up t:Int):as8→M
 | .s0=>C3 Tryz.f40 [.agg (d9.enc c),.agg (Plan.enc p_),.int .u64 up,.int .i64 t] []
 | .s1 sup i pen=>⟨[.lpc (I6 [1,1,1,0,1,0,0]) 7228,.blk 0,.code (I6 [1,1,1,1])],[(2,.int .u64 up),(3,.int .i64 t),(4,.ptr 0 0 0),(5,.ptr 1 0 0),(10,(i5 2 (List.map (d8 .i64) pen))),(11,.int .u64 sup),(12,.int .i64 i)],[some ⟨30,false,[(d9.enc c)]⟩,some ⟨12,false,[(Plan.enc p_)]⟩,some ⟨1,false,(List.map (d8 .i64) pen)⟩]⟩
 | .s3 sup i n t46 pen=>⟨[.code (I6 [1,1,1,0,1,0,0,1,0,0,1,0,1]),.code (I6 [1,1,1,0,1,0,0,1,0,0,1,1]),.blk 1,.code (I6 [1,1,1,0,1,0,0,1,1]),.lp (I6 [1,1,1,0,1,0,0]) 7228,.blk 0,.code (I6 [1,1,1,1])],[(2,.int .u64 up),(3,.int .i64 t),(4,.ptr 0 0 0),(5,.ptr 1 0 0),(10,(i5 2 (List.map (d8 .i64) pen))),(11,.int .u64 sup),(12,.int .i64 i),(13,.int .i64 n),(46,.bool t46)],[some ⟨30,false,[(d9.enc c)]⟩,some ⟨12,false,[(Plan.enc p_)]⟩,some ⟨1,false,(List.map (d8 .i64) pen)⟩]⟩
 | .s2 sup i n pen=>⟨[.code (I6 [1,1,1,0,1,0,0,1,0,0,1,1]),.blk 1,.code (I6 [1,1,1,0,1,0,0,1,1]),.lp (I6 [1,1,1,0,1,0,0]) 7228,.blk 0,.code (I6 [1,1,1,1])],[(2,.int .u64 up),(3,.int .i64 t),(4,.ptr 0 0 0),(5,.ptr 1 0 0),(10,(i5 2 (List.map (d8 .i64) pen))),(11,.int .u64 sup),(12,.int .i64 i),(13,.int .i64 n)],[some ⟨30,false,[(d9.enc c)]⟩,some ⟨12,false,[(Plan.enc p_)]⟩,some ⟨1,false,(List.map (d8 .i64) pen)⟩]⟩
abbrev bi7 (c:d9) (p_:Plan) (up t:Int):=SOk E (Cx.of Tryz.f40 false 0) cm8 (ct5 c p_ up t)
noncomputable def bK7 (c:d9) (p_:Plan) (up t:Int):Option (as8⊕((List Int)×Int)):=(some (.inl (.s1 0 0 ([]))))
noncomputable def aP3 (c:d9) (p_:Plan) (up t:Int) (sup i:Int) (pen:List Int):Option (as8⊕((List Int)×Int)):=(bif (decide (i<c.Targets)) then (bif ((decide ((0:Int)≤i))&&(decide (i<(((List.map (d8 .i64) p_.Pen).length:Nat):Int)))) then (((p_.Pen)[i.toNat]?).bind fun y3=>((bS5 y3 (IntKind.i64.wrap (t-p_.Stamp)) c.Half).bind fun y5=>((ap8 p_.Up i).bind fun y6=>(bif y6 then ((ap8 up i).bind fun y8=>(some (.inl (.s3 sup i y5.1 (!y8) pen)))) else (some (.inl (.s3 sup i y5.1 false pen))))))) else none) else (some (.inr (pen,sup))))
noncomputable def aQ6 (c:d9) (p_:Plan) (up t:Int) (sup i n:Int) (t46:Bool) (pen:List Int):Option (as8⊕((List Int)×Int)):=(bif t46 then ((bx8 n c.Hit).bind fun y2=>(some (.inl (.s2 sup i y2 pen)))) else (some (.inl (.s2 sup i n pen))))
noncomputable def bh1 (c:d9) (p_:Plan) (up t:Int) (sup i n:Int) (pen:List Int):Option (as8⊕((List Int)×Int)):=(bif (decide (((List.map (d8 .i64) pen).length+1)*8≤l6)) then ((ap8 p_.Sup i).bind fun y2=>((be1 y2 n c.Suppress c.Reuse).bind fun y3=>(bif y3 then (bif (!decide (i<0)) then (some (.inl (.s1 (orI .u64 sup (D3 .u64 1 i)) (IntKind.i64.wrap (i+1)) (pen++ [n])))) else none) else (some (.inl (.s1 sup (IntKind.i64.wrap (i+1)) (pen++ [n]))))))) else none)
noncomputable def Q4 (c:d9) (p_:Plan) (up t:Int):as8→Option (as8⊕((List Int)×Int))
 | .s0=>bK7 c p_ up t
 | .s1 sup i pen=>aP3 c p_ up t sup i pen
 | .s3 sup i n t46 pen=>aQ6 c p_ up t sup i n t46 pen
 | .s2 sup i n pen=>bh1 c p_ up t sup i n pen
theorem cW9 {c p_ up t}:bi7 c p_ up t .s0 (bK7 c p_ up t):=by
 intro r x h ha;unfold bK7 at h
 refine n8 hm 23 _ ?_
 obtain rfl:=Option.some.inj h
 refine ay5 7228 [.mat 10 1] (m' :=⟨[.lpc (I6 [1,1,1,0,1,0,0]) 7228,.blk 0,.code (I6 [1,1,1,1])],[(2,.int .u64 up),(3,.int .i64 t),(4,.ptr 0 0 0),(5,.ptr 1 0 0),(10,.msl 2 0 0 0 false),(11,.int .u64 0),(12,.int .i64 0)],[some ⟨30,false,[(d9.enc c)]⟩,some ⟨12,false,[(Plan.enc p_)]⟩,some ⟨1,false,[]⟩]⟩) (by kernel_rfl) ?_
 refine ah4 (n1:=0) (n2:=(List.map (d8 .i64) ([])).length) (fun n_len=> .go ⟨[.lpc (I6 [1,1,1,0,1,0,0]) 7228,.blk 0,.code (I6 [1,1,1,1])],[(2,.int .u64 up),(3,.int .i64 t),(4,.ptr 0 0 0),(5,.ptr 1 0 0),(10,.msl 2 0 n_len n_len false),(11,.int .u64 0),(12,.int .i64 0)],[some ⟨30,false,[(d9.enc c)]⟩,some ⟨12,false,[(Plan.enc p_)]⟩,some ⟨1,false,[]⟩]⟩) (by simp) ?_
 exact ha
theorem cT9 {c p_ up t sup i pen}:bi7 c p_ up t (.s1 sup i pen) (aP3 c p_ up t sup i pen):=by
 intro r x h ha;unfold aP3 at h
 refine zs 11 h (fun h=> ?_) fun h=> ?_
 ·
  refine zn 6 h fun h=> ?_
  refine zr 0 (d8 .i64) h fun y3 h=> ?_
  refine zd 2 [] h (fun _=>df5) fun y5 h=> ?_
  refine zc 8 [] h (fun _=>aC1) fun y6 h=> ?_
  refine zs 2 h (fun h=> ?_) fun h=> ?_
  ·
   refine zc 4 [] h (fun _=>aC1) fun y8 h=> ?_
   exact zk 5 h ha
  exact zk 9 h ha
 refine zm 9 (b:=(Nat.ble (0+(List.map (d8 .i64) pen).length) ((List.map (d8 .i64) pen).length))) (A7 _) ?_
 obtain rfl:=Option.some.inj h
 have hv:=ha
 simp only[aZ6] at hv
 subst hv
 exact as6 [] (d1:=.tup [.sl false 1 (List.take ((List.map (d8 .i64) pen).length) (List.drop 0 (List.map (d8 .i64) pen))),.int .u64 sup]) (d:=.tup [.sl false 1 (List.map (d8 .i64) pen),.int .u64 sup]) (s1:= []) (s:= []) (by kernel_rfl) ⟨by simp[d9.enc,d9.l,l7.enc,l7.l,u4.enc,u4.l,v6.enc,v6.l,f5.enc,f5.l,Op.enc,Op.l,Plan.enc,Plan.l,E6.enc,E6.l,i8.enc,i8.l,u9.enc,u9.l,p6.enc,p6.l,f3.enc,f3.l,List.take_of_length_le,List.map_take,List.map_drop],rfl⟩ ⟨rfl,rfl⟩ Cx.fin_of
theorem cV6 {c p_ up t sup i n t46 pen}:bi7 c p_ up t (.s3 sup i n t46 pen) (aQ6 c p_ up t sup i n t46 pen):=by
 intro r x h ha;unfold aQ6 at h
 refine zs 1 h (fun h=> ?_) fun h=> ?_
 ·
  refine zc 6 [] h (fun _=>dG4) fun y2 h=> ?_
  exact zk 2 h ha
 exact zk 1 h ha
theorem cP8 {c p_ up t sup i n pen}:bi7 c p_ up t (.s2 sup i n pen) (bh1 c p_ up t sup i n pen):=by
 intro r x h ha;unfold bh1 at h
 refine zn 7 h fun h=> ?_
 refine za 0 (d8 .i64) pen ([n]) ?_
 refine zd 5 [] h (fun _=>aC1) fun y2 h=> ?_
 refine zd 2 [] h (fun _=>dG0) fun y3 h=> ?_
 refine zs 5 h (fun h=> ?_) fun h=> ?_
 ·
  refine zn 4 h fun h=> ?_
  exact zj 10 h ha
 exact zj 8 h ha
noncomputable def ch5 (c:d9) (p_:Plan) (up t:Int):Option ((List Int)×Int):=T3 (Q4 c p_ up t) (.s0)
theorem dt8 {c:d9}{p_:Plan}{up t:Int}{r:(List Int)×Int} (h:ch5 c p_ up t=some r):i7 E 40 [.agg (d9.enc c),.agg (Plan.enc p_),.int .u64 up,.int .i64 t] [] (Rs cm8 r):=sc (fn:=Tryz.f40) (k:=false) (m:=0) (H9:=(ct5 c p_ up t)) h fun s=>by
 cases s with
 | s0=>exact cW9
 | s1=>exact cT9
 | s3=>exact cV6
 | s2=>exact cP8
noncomputable def dw4 (y:Bool):D×i0:=(.bool y,[])
noncomputable def bj2 (c:d9) (p_:Plan):Option Bool:=((bS0 p_).bind fun y1=>(bif y1 then (bif (((((List.map (d8 .i64) p_.Pen).length:Nat):Int):Int)==c.Targets) then (bif (decide (p_.Target<c.Targets)) then (bif (decide (p_.Prev<c.Targets)) then (bif (decide (p_.Spill<c.Targets)) then (bif (!decide (c.Targets<0)) then (bif (((r5 .u64 p_.Up c.Targets):Int)==0) then (bif (!decide (c.Targets<0)) then (bif (((r5 .u64 p_.Sup c.Targets):Int)==0) then (some (decide (((((List.map (d8 .i64) p_.Changes).length:Nat):Int):Int)≤c.B_))) else (some false)) else none) else (some false)) else none) else (some false)) else (some false)) else (some false)) else (some false)) else (some false)))
theorem dp9 {c:d9}{p_:Plan}{r:Bool} (h:bj2 c p_=some r):i7 E 39 [.agg (d9.enc c),.agg (Plan.enc p_)] [] (Rs dw4 r):=so (fn:=Tryz.f39) (k:=false) (m:=0) h<| by
 intro r h;unfold bj2 at h
 refine zc 11 [] h (fun _=>cY5) fun y1 h=> ?_
 refine zs 7 h (fun h=> ?_) fun h=> ?_
 ·
  refine zs 16 h (fun h=> ?_) fun h=> ?_
  ·
   refine zs 14 h (fun h=> ?_) fun h=> ?_
   ·
    refine zs 14 h (fun h=> ?_) fun h=> ?_
    ·
     refine zs 14 h (fun h=> ?_) fun h=> ?_
     ·
      refine zn 10 h fun h=> ?_
      refine zs 6 h (fun h=> ?_) fun h=> ?_
      ·
       refine zn 10 h fun h=> ?_
       refine zs 6 h (fun h=> ?_) fun h=> ?_
       ·
        exact zu 17 h
       exact zu 15 h
      exact zu 30 h
     exact zu 45 h
    exact zu 58 h
   exact zu 71 h
  exact zu 84 h
 exact zu 99 h
noncomputable def bt3:=u5 (u6 Tryz.f42)
noncomputable def cE1 (y:Bool):D×i0:=(.bool y,[])
abbrev cD4 (c:d9) (p_:Plan) (s9 t:Int):=AOk E (Cx.of Tryz.f42 false 0) cE1
noncomputable def dC9 (c:d9) (p_:Plan) (s9 t:Int) (t54:Bool):M:=⟨[.code (bt3 [1,1,1,0,1]),.code (bt3 [1,1,1,1])],[(3,.int .u64 s9),(4,.int .i64 t),(5,.ptr 0 0 0),(6,.ptr 1 0 0),(54,.bool t54)],[some ⟨30,false,[(d9.enc c)]⟩,some ⟨12,false,[(Plan.enc p_)]⟩]⟩
noncomputable def aM0 (c:d9) (p_:Plan) (s9 t:Int) (t54:Bool):Option Bool:=(bif t54 then (some false) else ((ap8 s9 p_.Target).bind fun y2=>(bif (!y2) then (some true) else (some (decide (((IntKind.i64.wrap (t-p_.Since)):Int)≥c.Dwell))))))
theorem bV1 {c p_ s9 t t54}:cD4 c p_ s9 t (dC9 c p_ s9 t t54) (aM0 c p_ s9 t t54):=by
 intro r h;unfold aM0 at h
 refine zs 1 h (fun h=> ?_) fun h=> ?_
 ·
  exact zu 5 h
 refine zc 8 [] h (fun _=>aC1) fun y2 h=> ?_
 refine zs 3 h (fun h=> ?_) fun h=> ?_
 ·
  exact zu 17 h
 exact zu 19 h
noncomputable def dB7 (c:d9) (p_:Plan) (s9 t n:Int) (t35:Bool):M:=⟨[.code (bt3 [1,1,0,1]),.code (bt3 [1,1,1])],[(3,.int .u64 s9),(4,.int .i64 t),(5,.ptr 0 0 0),(6,.ptr 1 0 0),(11,.int .i64 n),(35,.bool t35)],[some ⟨30,false,[(d9.enc c)]⟩,some ⟨12,false,[(Plan.enc p_)]⟩]⟩
noncomputable def ay6 (c:d9) (p_:Plan) (s9 t n:Int) (t35:Bool):Option Bool:=(bif t35 then (some false) else (bif (decide (n≥c.B_)) then (bif ((decide ((0:Int)≤(IntKind.i64.wrap (n-c.B_))))&&(decide (((IntKind.i64.wrap (n-c.B_)):Int)<(((List.map (d8 .i64) p_.Changes).length:Nat):Int)))) then (((p_.Changes)[(IntKind.i64.wrap (n-c.B_)).toNat]?).bind fun y4=>(aM0 c p_ s9 t (decide (((IntKind.i64.wrap (t-y4)):Int)≤c.W_)))) else none) else (aM0 c p_ s9 t false)))
theorem br2 {c p_ s9 t n t35}:cD4 c p_ s9 t (dB7 c p_ s9 t n t35) (ay6 c p_ s9 t n t35):=by
 intro r h;unfold ay6 at h
 refine zs 1 h (fun h=> ?_) fun h=> ?_
 ·
  exact zu 5 h
 refine zs 5 h (fun h=> ?_) fun h=> ?_
 ·
  refine zn 9 h fun h=> ?_
  refine zr 1 (d8 .i64) h fun y4 h=> ?_
  exact zg 6 (bV1 h)
 exact zg 13 (bV1 h)
noncomputable def bw6 (c:d9) (p_:Plan) (V6 s9 t:Int):Option Bool:=(bif (V6==p_.Target) then (ay6 c p_ s9 t (((List.map (d8 .i64) p_.Changes).length:Nat):Int) true) else (bif (decide (((((List.map (d8 .i64) p_.Changes).length:Nat):Int):Int)>0)) then (bif ((decide ((0:Int)≤(IntKind.i64.wrap ((((List.map (d8 .i64) p_.Changes).length:Nat):Int)-1))))&&(decide (((IntKind.i64.wrap ((((List.map (d8 .i64) p_.Changes).length:Nat):Int)-1)):Int)<(((List.map (d8 .i64) p_.Changes).length:Nat):Int)))) then (((p_.Changes)[(IntKind.i64.wrap ((((List.map (d8 .i64) p_.Changes).length:Nat):Int)-1)).toNat]?).bind fun y4=>(ay6 c p_ s9 t (((List.map (d8 .i64) p_.Changes).length:Nat):Int) (decide (((IntKind.i64.wrap (t-y4)):Int)<c.D_)))) else none) else (ay6 c p_ s9 t (((List.map (d8 .i64) p_.Changes).length:Nat):Int) false)))
theorem dD6 {c:d9}{p_:Plan}{V6 s9 t:Int}{r:Bool} (h:bw6 c p_ V6 s9 t=some r):i7 E 42 [.agg (d9.enc c),.agg (Plan.enc p_),.int .i64 V6,.int .u64 s9,.int .i64 t] [] (Rs cE1 r):=so (fn:=Tryz.f42) (k:=false) (m:=0) h<| by
 intro r h;unfold bw6 at h
 refine zs 18 h (fun h=> ?_) fun h=> ?_
 ·
  exact zg 4 (br2 h)
 refine zs 2 h (fun h=> ?_) fun h=> ?_
 ·
  refine zn 6 h fun h=> ?_
  refine zr 1 (d8 .i64) h fun y4 h=> ?_
  exact zg 8 (br2 h)
 exact zg 13 (br2 h)
noncomputable def dT4 (y:Bool):D×i0:=(.bool y,[])
noncomputable def K2 (n low aa9:Int):Option Bool:=(bif (decide (n≥low)) then (some (decide (n≤aa9))) else (some false))
theorem H2 {n low aa9:Int}{r:Bool} (h:K2 n low aa9=some r):i7 E 71 [.int .i64 n,.int .i64 low,.int .i64 aa9] [] (Rs dT4 r):=so (fn:=Tryz.f71) (k:=false) (m:=0) h<| by
 intro r h;unfold K2 at h
 refine zs 11 h (fun h=> ?_) fun h=> ?_
 ·
  exact zu 9 h
 exact zu 9 h
noncomputable def dG1 (y:Bool):D×i0:=(.bool y,[])
noncomputable def L7 (n:Int):Option Bool:=(bif (decide (n≥1)) then (some (decide (n≤1048576))) else (some false))
theorem L8 {n:Int}{r:Bool} (h:L7 n=some r):i7 E 72 [.int .i64 n] [] (Rs dG1 r):=so (fn:=Tryz.f72) (k:=false) (m:=0) h<| by
 intro r h;unfold L7 at h
 refine zs 10 h (fun h=> ?_) fun h=> ?_
 ·
  exact zu 7 h
 exact zu 7 h
noncomputable def ad0:=u5 (u6 Tryz.f38)
noncomputable def cj5 (y:Bool):D×i0:=(.bool y,[])
inductive ad3 where
 | s0
 | s1 (t39:Bool)
 | s2 (i:Int)
 | s3 (cb1:Bool)
 | s4 (ca8:Bool)
noncomputable def ci0 (c:d9):ad3→M
 | .s0=>C3 Tryz.f38 [.agg (d9.enc c)] []
 | .s1 t39=>⟨[.code (ad0 [1,0,1]),.code (ad0 [1,1])],[(1,.ptr 0 0 0),(39,.bool t39)],[some ⟨30,false,[(d9.enc c)]⟩]⟩
 | .s2 i=>⟨[.lpc (ad0 [1,1,0,1,0,0]) 10,.blk 0,.code (ad0 [1,1,1])],[(1,.ptr 0 0 0),(3,.int .i64 i)],[some ⟨30,false,[(d9.enc c)]⟩]⟩
 | .s3 cb1=>⟨[.code (ad0 [1,1,1,0,1]),.code (ad0 [1,1,1,1])],[(1,.ptr 0 0 0),(133,.bool cb1)],[some ⟨30,false,[(d9.enc c)]⟩]⟩
 | .s4 ca8=>⟨[.code (ad0 [1,1,1,1,0,1]),.code (ad0 [1,1,1,1,1])],[(1,.ptr 0 0 0),(170,.bool ca8)],[some ⟨30,false,[(d9.enc c)]⟩]⟩
abbrev aJ2 (c:d9):=SOk E (Cx.of Tryz.f38 false 0) cj5 (ci0 c)
noncomputable def aZ8 (c:d9):Option (ad3⊕Bool):=((K2 c.F_ 0 3).bind fun y1=>(bif (!y1) then (some (.inl (.s1 true))) else ((K2 c.Deciders 1 4).bind fun y3=>(bif (!y3) then (some (.inl (.s1 true))) else ((K2 c.Routers 1 4).bind fun y5=>(bif (!y5) then (some (.inl (.s1 true))) else ((K2 c.Targets 1 16).bind fun y7=>(bif (!y7) then (some (.inl (.s1 true))) else ((K2 c.Observers 1 7).bind fun y9=>(bif (!y9) then (some (.inl (.s1 true))) else (some (.inl (.s1 (((((List.map (d8 .i64) c.Tiers).length:Nat):Int):Int) !=c.Targets))))))))))))))
noncomputable def bz8 (c:d9) (t39:Bool):Option (ad3⊕Bool):=(bif t39 then (some (.inr false)) else (some (.inl (.s2 0))))
noncomputable def aL0 (c:d9) (i:Int):Option (ad3⊕Bool):=(bif (decide (i<(((List.map (d8 .i64) c.Tiers).length:Nat):Int))) then (bif ((decide ((0:Int)≤i))&&(decide (i<(((List.map (d8 .i64) c.Tiers).length:Nat):Int)))) then (((c.Tiers)[i.toNat]?).bind fun y3=>((K2 y3 0 15).bind fun y5=>(bif (!y5) then (some (.inr false)) else (some (.inl (.s2 (IntKind.i64.wrap (i+1)))))))) else none) else ((L7 c.Every).bind fun y7=>(bif (!y7) then (some (.inl (.s3 true))) else ((L7 c.Wait).bind fun y9=>(bif (!y9) then (some (.inl (.s3 true))) else ((L7 c.Fresh).bind fun y11=>(bif (!y11) then (some (.inl (.s3 true))) else ((L7 c.L_).bind fun y13=>(bif (!y13) then (some (.inl (.s3 true))) else ((L7 c.Dwell).bind fun y15=>(bif (!y15) then (some (.inl (.s3 true))) else ((L7 c.D_).bind fun y17=>(bif (!y17) then (some (.inl (.s3 true))) else ((L7 c.W_).bind fun y19=>(bif (!y19) then (some (.inl (.s3 true))) else ((L7 c.Half).bind fun y21=>(bif (!y21) then (some (.inl (.s3 true))) else ((L7 c.StepTime).bind fun y23=>(bif (!y23) then (some (.inl (.s3 true))) else ((L7 c.S_).bind fun y25=>(bif (!y25) then (some (.inl (.s3 true))) else ((L7 c.Span).bind fun y27=>(bif (!y27) then (some (.inl (.s3 true))) else ((L7 c.Retry).bind fun y29=>(bif (!y29) then (some (.inl (.s3 true))) else (bif (decide (c.M_<0)) then (some (.inl (.s3 true))) else (some (.inl (.s3 (decide (c.M_>1048576)))))))))))))))))))))))))))))))
noncomputable def aZ7 (c:d9) (cb1:Bool):Option (ad3⊕Bool):=(bif cb1 then (some (.inr false)) else ((K2 c.Rise 1 100).bind fun y2=>(bif (!y2) then (some (.inl (.s4 true))) else ((K2 c.Fall 1 100).bind fun y4=>(bif (!y4) then (some (.inl (.s4 true))) else ((K2 c.B_ 1 8).bind fun y6=>(bif (!y6) then (some (.inl (.s4 true))) else ((K2 c.Hit 0 1000000).bind fun y8=>(bif (!y8) then (some (.inl (.s4 true))) else ((K2 c.Suppress 1 1000000).bind fun y10=>(bif (!y10) then (some (.inl (.s4 true))) else ((K2 c.Reuse 0 (IntKind.i64.wrap (c.Suppress-1))).bind fun y12=>(some (.inl (.s4 (!y12))))))))))))))))
noncomputable def ba0 (c:d9) (ca8:Bool):Option (ad3⊕Bool):=(bif ca8 then (some (.inr false)) else ((K2 c.First 1 100).bind fun y2=>(bif y2 then ((K2 c.Step 1 100).bind fun y4=>(bif y4 then ((K2 c.Cap 1 1000).bind fun y6=>(bif y6 then ((K2 c.Room 1 64).bind fun y8=>(bif y8 then ((K2 c.Tries 1 20).bind fun y10=>(some (.inr y10))) else (some (.inr false)))) else (some (.inr false)))) else (some (.inr false)))) else (some (.inr false)))))
noncomputable def Y5 (c:d9):ad3→Option (ad3⊕Bool)
 | .s0=>aZ8 c
 | .s1 t39=>bz8 c t39
 | .s2 i=>aL0 c i
 | .s3 cb1=>aZ7 c cb1
 | .s4 ca8=>ba0 c ca8
theorem cK1 {c}:aJ2 c .s0 (aZ8 c):=by
 intro r x h ha;unfold aZ8 at h
 refine zc 12 [] h (fun _=>H2) fun y1 h=> ?_
 refine zs 3 h (fun h=> ?_) fun h=> ?_
 ·
  exact zk 57 h ha
 refine zc 5 [] h (fun _=>H2) fun y3 h=> ?_
 refine zs 6 h (fun h=> ?_) fun h=> ?_
 ·
  exact zk 46 h ha
 refine zc 5 [] h (fun _=>H2) fun y5 h=> ?_
 refine zs 6 h (fun h=> ?_) fun h=> ?_
 ·
  exact zk 35 h ha
 refine zc 5 [] h (fun _=>H2) fun y7 h=> ?_
 refine zs 6 h (fun h=> ?_) fun h=> ?_
 ·
  exact zk 24 h ha
 refine zc 5 [] h (fun _=>H2) fun y9 h=> ?_
 refine zs 6 h (fun h=> ?_) fun h=> ?_
 ·
  exact zk 13 h ha
 exact zk 15 h ha
theorem cH5 {c t39}:aJ2 c (.s1 t39) (bz8 c t39):=by
 intro r x h ha;unfold bz8 at h
 refine zs 1 h (fun h=> ?_) fun h=> ?_
 ·
  exact zt 5 h ha
 exact zj 9 h ha
theorem cJ8 {c i}:aJ2 c (.s2 i) (aL0 c i):=by
 intro r x h ha;unfold aL0 at h
 refine zs 12 h (fun h=> ?_) fun h=> ?_
 ·
  refine zn 10 h fun h=> ?_
  refine zr 1 (d8 .i64) h fun y3 h=> ?_
  refine zc 1 [] h (fun _=>H2) fun y5 h=> ?_
  refine zs 3 h (fun h=> ?_) fun h=> ?_
  ·
   exact zt 5 h ha
  exact zj 8 h ha
 refine zc 8 [] h (fun _=>L8) fun y7 h=> ?_
 refine zs 3 h (fun h=> ?_) fun h=> ?_
 ·
  exact zk 137 h ha
 refine zc 5 [] h (fun _=>L8) fun y9 h=> ?_
 refine zs 6 h (fun h=> ?_) fun h=> ?_
 ·
  exact zk 126 h ha
 refine zc 5 [] h (fun _=>L8) fun y11 h=> ?_
 refine zs 6 h (fun h=> ?_) fun h=> ?_
 ·
  exact zk 115 h ha
 refine zc 5 [] h (fun _=>L8) fun y13 h=> ?_
 refine zs 6 h (fun h=> ?_) fun h=> ?_
 ·
  exact zk 104 h ha
 refine zc 5 [] h (fun _=>L8) fun y15 h=> ?_
 refine zs 6 h (fun h=> ?_) fun h=> ?_
 ·
  exact zk 93 h ha
 refine zc 5 [] h (fun _=>L8) fun y17 h=> ?_
 refine zs 6 h (fun h=> ?_) fun h=> ?_
 ·
  exact zk 82 h ha
 refine zc 5 [] h (fun _=>L8) fun y19 h=> ?_
 refine zs 6 h (fun h=> ?_) fun h=> ?_
 ·
  exact zk 71 h ha
 refine zc 5 [] h (fun _=>L8) fun y21 h=> ?_
 refine zs 6 h (fun h=> ?_) fun h=> ?_
 ·
  exact zk 60 h ha
 refine zc 5 [] h (fun _=>L8) fun y23 h=> ?_
 refine zs 6 h (fun h=> ?_) fun h=> ?_
 ·
  exact zk 49 h ha
 refine zc 5 [] h (fun _=>L8) fun y25 h=> ?_
 refine zs 6 h (fun h=> ?_) fun h=> ?_
 ·
  exact zk 38 h ha
 refine zc 5 [] h (fun _=>L8) fun y27 h=> ?_
 refine zs 6 h (fun h=> ?_) fun h=> ?_
 ·
  exact zk 27 h ha
 refine zc 5 [] h (fun _=>L8) fun y29 h=> ?_
 refine zs 6 h (fun h=> ?_) fun h=> ?_
 ·
  exact zk 16 h ha
 refine zs 9 h (fun h=> ?_) fun h=> ?_
 ·
  exact zk 7 h ha
 exact zk 8 h ha
theorem cL5 {c cb1}:aJ2 c (.s3 cb1) (aZ7 c cb1):=by
 intro r x h ha;unfold aZ7 at h
 refine zs 1 h (fun h=> ?_) fun h=> ?_
 ·
  exact zt 5 h ha
 refine zc 8 [] h (fun _=>H2) fun y2 h=> ?_
 refine zs 3 h (fun h=> ?_) fun h=> ?_
 ·
  exact zk 59 h ha
 refine zc 5 [] h (fun _=>H2) fun y4 h=> ?_
 refine zs 6 h (fun h=> ?_) fun h=> ?_
 ·
  exact zk 48 h ha
 refine zc 5 [] h (fun _=>H2) fun y6 h=> ?_
 refine zs 6 h (fun h=> ?_) fun h=> ?_
 ·
  exact zk 37 h ha
 refine zc 5 [] h (fun _=>H2) fun y8 h=> ?_
 refine zs 6 h (fun h=> ?_) fun h=> ?_
 ·
  exact zk 26 h ha
 refine zc 5 [] h (fun _=>H2) fun y10 h=> ?_
 refine zs 6 h (fun h=> ?_) fun h=> ?_
 ·
  exact zk 15 h ha
 refine zc 12 [] h (fun _=>H2) fun y12 h=> ?_
 exact zk 5 h ha
theorem cJ7 {c ca8}:aJ2 c (.s4 ca8) (ba0 c ca8):=by
 intro r x h ha;unfold ba0 at h
 refine zs 1 h (fun h=> ?_) fun h=> ?_
 ·
  exact zt 5 h ha
 refine zc 7 [] h (fun _=>H2) fun y2 h=> ?_
 refine zs 2 h (fun h=> ?_) fun h=> ?_
 ·
  refine zc 5 [] h (fun _=>H2) fun y4 h=> ?_
  refine zs 4 h (fun h=> ?_) fun h=> ?_
  ·
   refine zc 5 [] h (fun _=>H2) fun y6 h=> ?_
   refine zs 4 h (fun h=> ?_) fun h=> ?_
   ·
    refine zc 5 [] h (fun _=>H2) fun y8 h=> ?_
    refine zs 4 h (fun h=> ?_) fun h=> ?_
    ·
     refine zc 5 [] h (fun _=>H2) fun y10 h=> ?_
     exact zt 5 h ha
    exact zt 9 h ha
   exact zt 18 h ha
  exact zt 27 h ha
 exact zt 36 h ha
noncomputable def bT7 (c:d9):Option Bool:=T3 (Y5 c) (.s0)
theorem de7 {c:d9}{r:Bool} (h:bT7 c=some r):i7 E 38 [.agg (d9.enc c)] [] (Rs cj5 r):=sc (fn:=Tryz.f38) (k:=false) (m:=0) (H9:=(ci0 c)) h fun s=>by
 cases s with
 | s0=>exact cK1
 | s1=>exact cH5
 | s2=>exact cJ8
 | s3=>exact cL5
 | s4=>exact cJ7
noncomputable def cs5:=u5 (u6 Tryz.f43)
noncomputable def cr9 (y:Plan):D×i0:=(.agg (Plan.enc y),[])
abbrev cr2 (c:d9) (t:Int):=AOk E (Cx.of Tryz.f43 false 0) cr9
noncomputable def ds9 (c:d9) (t:Int) (llo lln lcp:Nat) (n2 b1:Plan) (l_:List Int):M:=⟨[.code (cs5 [1,1,1,1,1,1,1,1,1])],[(4,.int .i64 t),(6,.ptr 0 0 0),(10,.ptr 1 0 0),(11,.msl 2 llo lln lcp false)],[some ⟨12,false,[(Plan.enc n2)]⟩,some ⟨12,false,[(Plan.enc b1)]⟩,some ⟨1,false,(List.map (d8 .i64) l_)⟩]⟩
noncomputable def aE6 (c:d9) (t:Int) (llo lln lcp:Nat) (n2 b1:Plan) (l_:List Int):Option Plan:=(bif (decide ((lln+1)*8≤l6)) then (bif (Nat.ble (llo+lln) ((List.map (d8 .i64) l_).length)) then (some (⟨n2.Epoch,n2.Target,n2.Prev,n2.Spill,n2.Percent,n2.Stamp,n2.Since,n2.Ramped,n2.Up,n2.Sup,n2.Pen,(List.take lln (List.drop llo l_)++ [t])⟩:Plan)) else none) else none)
theorem bR6 {c t llo lln lcp n2 b1 l_}:cr2 c t (ds9 c t llo lln lcp n2 b1 l_) (aE6 c t llo lln lcp n2 b1 l_):=by
 intro r h;unfold aE6 at h
 refine zn 7 h fun h=> ?_
 refine zn 0 h fun h=> ?_
 refine zw 0 (a:=(List.take lln (List.drop llo (List.map (d8 .i64) l_))++(List.map (d8 .i64) ([t])))) (b:=(List.map (d8 .i64) (List.take lln (List.drop llo l_)++ [t]))) (by simp only[C0,E8,List.map_append,List.map_take,List.map_drop]) ?_
 refine zm 15 (b:=(Nat.ble (0+(List.map (d8 .i64) (List.take lln (List.drop llo l_)++ [t])).length) ((List.map (d8 .i64) (List.take lln (List.drop llo l_)++ [t])).length))) (A7 _) ?_
 obtain rfl:=Option.some.inj h
 exact as6 [] (d1:=.agg [.int .i64 n2.Epoch,.int .i64 n2.Target,.int .i64 n2.Prev,.int .i64 n2.Spill,.int .i64 n2.Percent,.int .i64 n2.Stamp,.int .i64 n2.Since,.int .i64 n2.Ramped,.int .u64 n2.Up,.int .u64 n2.Sup,.sl false 1 (List.map (d8 .i64) n2.Pen),.sl false 1 (List.take ((List.map (d8 .i64) (List.take lln (List.drop llo l_)++ [t])).length) (List.drop 0 (List.map (d8 .i64) (List.take lln (List.drop llo l_)++ [t]))))]) (d:=.agg [.int .i64 n2.Epoch,.int .i64 n2.Target,.int .i64 n2.Prev,.int .i64 n2.Spill,.int .i64 n2.Percent,.int .i64 n2.Stamp,.int .i64 n2.Since,.int .i64 n2.Ramped,.int .u64 n2.Up,.int .u64 n2.Sup,.sl false 1 (List.map (d8 .i64) n2.Pen),.sl false 1 (List.map (d8 .i64) (List.take lln (List.drop llo l_)++ [t]))]) (s1:= []) (s:= []) (by kernel_rfl) ⟨by simp[d9.enc,d9.l,l7.enc,l7.l,u4.enc,u4.l,v6.enc,v6.l,f5.enc,f5.l,Op.enc,Op.l,Plan.enc,Plan.l,E6.enc,E6.l,i8.enc,i8.l,u9.enc,u9.l,p6.enc,p6.l,f3.enc,f3.l,List.take_of_length_le,List.map_take,List.map_drop],rfl⟩ ⟨rfl,rfl⟩ Cx.fin_of
noncomputable def dr7 (c:d9) (t:Int) (n2 b2:Plan):M:=⟨[.code (cs5 [1,1,1,1,1])],[(4,.int .i64 t),(5,.ptr 0 0 0),(6,.ptr 1 0 0),(10,.ptr 2 0 0)],[some ⟨30,false,[(d9.enc c)]⟩,some ⟨12,false,[(Plan.enc n2)]⟩,some ⟨12,false,[(Plan.enc b2)]⟩]⟩
noncomputable def aC2 (c:d9) (t:Int) (n2 b2:Plan):Option Plan:=(bif (decide ((0+(List.map (d8 .i64) n2.Changes).length)*8≤l6)) then (bif (decide (((((List.map (d8 .i64) n2.Changes).length:Nat):Int):Int)≥c.B_)) then (bif ((decide (((0:Nat):Int)≤(IntKind.i64.wrap ((IntKind.i64.wrap ((((List.map (d8 .i64) n2.Changes).length:Nat):Int)-c.B_))+1))))&&(decide (((IntKind.i64.wrap ((IntKind.i64.wrap ((((List.map (d8 .i64) n2.Changes).length:Nat):Int)-c.B_))+1)):Int)≤(((List.map (d8 .i64) n2.Changes).length:Nat):Int)))) then (aE6 c t (0+(IntKind.i64.wrap ((IntKind.i64.wrap ((((List.map (d8 .i64) n2.Changes).length:Nat):Int)-c.B_))+1)).toNat) ((List.map (d8 .i64) n2.Changes).length-(IntKind.i64.wrap ((IntKind.i64.wrap ((((List.map (d8 .i64) n2.Changes).length:Nat):Int)-c.B_))+1)).toNat) ((List.map (d8 .i64) n2.Changes).length-(IntKind.i64.wrap ((IntKind.i64.wrap ((((List.map (d8 .i64) n2.Changes).length:Nat):Int)-c.B_))+1)).toNat) (⟨n2.Epoch,n2.Target,n2.Prev,n2.Spill,n2.Percent,n2.Stamp,t,t,n2.Up,n2.Sup,n2.Pen,n2.Changes⟩:Plan) b2 n2.Changes) else none) else (aE6 c t 0 ((List.map (d8 .i64) n2.Changes).length) ((List.map (d8 .i64) n2.Changes).length) (⟨n2.Epoch,n2.Target,n2.Prev,n2.Spill,n2.Percent,n2.Stamp,t,t,n2.Up,n2.Sup,n2.Pen,n2.Changes⟩:Plan) b2 n2.Changes)) else none)
theorem bO8 {c t n2 b2}:cr2 c t (dr7 c t n2 b2) (aC2 c t n2 b2):=by
 intro r h;unfold aC2 at h
 refine zn 23 h fun h=> ?_
 refine zw 1 (a:=(List.map (d8 .i64) n2.Changes)) (b:=(List.map (d8 .i64) n2.Changes)) (rfl) ?_
 refine zs 13 h (fun h=> ?_) fun h=> ?_
 ·
  refine zn 10 h fun h=> ?_
  exact zg 2 (bR6 h)
 exact zg 1 (bR6 h)
noncomputable def bk6 (c:d9) (n:Plan) (V6:Int) (aN2:Bool) (t:Int):Option Plan:=(bif aN2 then (aC2 c t (⟨n.Epoch,V6,n.Target,n.Spill,100,n.Stamp,n.Since,n.Ramped,n.Up,n.Sup,n.Pen,n.Changes⟩:Plan) (⟨0,0,0,0,0,0,0,0,0,0,[],[]⟩:Plan)) else (aC2 c t (⟨n.Epoch,V6,n.Target,n.Spill,c.First,n.Stamp,n.Since,n.Ramped,n.Up,n.Sup,n.Pen,n.Changes⟩:Plan) (⟨0,0,0,0,0,0,0,0,0,0,[],[]⟩:Plan)))
theorem dn5 {c:d9}{n:Plan}{V6:Int}{aN2:Bool}{t:Int}{r:Plan} (h:bk6 c n V6 aN2 t=some r):i7 E 43 [.agg (d9.enc c),.agg (Plan.enc n),.int .i64 V6,.bool aN2,.int .i64 t] [] (Rs cr9 r):=so (fn:=Tryz.f43) (k:=false) (m:=0) h<| by
 intro r h;unfold bk6 at h
 refine zs 40 h (fun h=> ?_) fun h=> ?_
 ·
  exact zg 6 (bO8 h) [.blk 2 [some 1,some 1]]
 exact zg 1 (bO8 h) [.blk 2 [some 1,some 1]]
noncomputable def W0:=u5 (u6 Tryz.f19)
noncomputable def cn5 (y:Plan×Bool):D×i0:=(.tup [.agg (Plan.enc y.1),.bool y.2],[])
abbrev aq9 (c:d9) (p_:Plan) (up f4:Int):=AOk E (Cx.of Tryz.f19 false 0) cn5
noncomputable def do9 (c:d9) (p_:Plan) (up f4:Int) (bn6:Bool) (b0 n:Plan):M:=⟨[.code (W0 [1,1,1,1,1,1,1,1,1,1,1,1,1,1,1,1,1,1,1,1,1,1,0,1]),.code (W0 [1,1,1,1,1,1,1,1,1,1,1,1,1,1,1,1,1,1,1,1,1,1,1])],[(8,.ptr 0 0 0),(12,.ptr 1 0 0),(168,.bool bn6)],[some ⟨12,false,[(Plan.enc b0)]⟩,some ⟨12,false,[(Plan.enc n)]⟩]⟩
noncomputable def ai4 (c:d9) (p_:Plan) (up f4:Int) (bn6:Bool) (b0 n:Plan):Option (Plan×Bool):=(bif bn6 then (some ((⟨0,0,0,0,0,0,0,0,0,0,[],[]⟩:Plan),false)) else (some (n,true)))
theorem ax2 {c p_ up f4 bn6 b0 n}:aq9 c p_ up f4 (do9 c p_ up f4 bn6 b0 n) (ai4 c p_ up f4 bn6 b0 n):=by
 intro r h;unfold ai4 at h
 refine zs 1 h (fun h=> ?_) fun h=> ?_
 ·
  exact zu 10 h [.slot 0 [some 1,some 1]]
 exact zu 12 h
noncomputable def dn6 (c:d9) (p_:Plan) (up f4 s9:Int) (b2 n:Plan):M:=⟨[.code (W0 [1,1,1,1,1,1,1,1,1,1,1,1,1,1,1,1,1,1,1,1,1])],[(4,.ptr 0 0 0),(5,.ptr 1 0 0),(8,.ptr 2 0 0),(12,.ptr 3 0 0),(15,.int .u64 s9)],[some ⟨30,false,[(d9.enc c)]⟩,some ⟨12,false,[(Plan.enc p_)]⟩,some ⟨12,false,[(Plan.enc b2)]⟩,some ⟨12,false,[(Plan.enc n)]⟩]⟩
noncomputable def aD1 (c:d9) (p_:Plan) (up f4 s9:Int) (b2 n:Plan):Option (Plan×Bool):=((bj6 c s9).bind fun y1=>(bif (n.Target==p_.Target) then (bif (n.Percent==p_.Percent) then (bif (n.Up==p_.Up) then (bif (n.Sup==p_.Sup) then (ai4 c p_ up f4 (y1==p_.Spill) b2 (⟨n.Epoch,n.Target,n.Prev,y1,n.Percent,n.Stamp,n.Since,n.Ramped,n.Up,n.Sup,n.Pen,n.Changes⟩:Plan)) else (ai4 c p_ up f4 false b2 (⟨n.Epoch,n.Target,n.Prev,y1,n.Percent,n.Stamp,n.Since,n.Ramped,n.Up,n.Sup,n.Pen,n.Changes⟩:Plan))) else (ai4 c p_ up f4 false b2 (⟨n.Epoch,n.Target,n.Prev,y1,n.Percent,n.Stamp,n.Since,n.Ramped,n.Up,n.Sup,n.Pen,n.Changes⟩:Plan))) else (ai4 c p_ up f4 false b2 (⟨n.Epoch,n.Target,n.Prev,y1,n.Percent,n.Stamp,n.Since,n.Ramped,n.Up,n.Sup,n.Pen,n.Changes⟩:Plan))) else (ai4 c p_ up f4 false b2 (⟨n.Epoch,n.Target,n.Prev,y1,n.Percent,n.Stamp,n.Since,n.Ramped,n.Up,n.Sup,n.Pen,n.Changes⟩:Plan))))
theorem bO4 {c p_ up f4 s9 b2 n}:aq9 c p_ up f4 (dn6 c p_ up f4 s9 b2 n) (aD1 c p_ up f4 s9 b2 n):=by
 intro r h;unfold aD1 at h
 refine zc 6 [] h (fun _=>bA1) fun y1 h=> ?_
 refine zs 17 h (fun h=> ?_) fun h=> ?_
 ·
  refine zs 14 h (fun h=> ?_) fun h=> ?_
  ·
   refine zs 14 h (fun h=> ?_) fun h=> ?_
   ·
    refine zs 14 h (fun h=> ?_) fun h=> ?_
    ·
     exact zg 13 (ax2 h)
    exact zg 11 (ax2 h)
   exact zg 24 (ax2 h)
  exact zg 37 (ax2 h)
 exact zg 50 (ax2 h)
noncomputable def dt3 (c:d9) (p_:Plan) (up f4 s9:Int) (b2 n:Plan):M:=⟨[.code (W0 [1,1,1,1,1,1,1,1,1,1,1,1,1,1,1,1,1,1,1,1])],[(4,.ptr 0 0 0),(5,.ptr 1 0 0),(8,.ptr 2 0 0),(12,.ptr 3 0 0),(15,.int .u64 s9)],[some ⟨30,false,[(d9.enc c)]⟩,some ⟨12,false,[(Plan.enc p_)]⟩,some ⟨12,false,[(Plan.enc b2)]⟩,some ⟨12,false,[(Plan.enc n)]⟩]⟩
noncomputable def at0 (c:d9) (p_:Plan) (up f4 s9:Int) (b2 n:Plan):Option (Plan×Bool):=(bif (decide (n.Target≥0)) then (bif (!decide (n.Target<0)) then (aD1 c p_ up f4 (Z8 .u64 s9 (D3 .u64 1 n.Target)) b2 n) else none) else (aD1 c p_ up f4 s9 b2 n))
theorem bk8 {c p_ up f4 s9 b2 n}:aq9 c p_ up f4 (dt3 c p_ up f4 s9 b2 n) (at0 c p_ up f4 s9 b2 n):=by
 intro r h;unfold at0 at h
 refine zs 9 h (fun h=> ?_) fun h=> ?_
 ·
  refine zn 6 h fun h=> ?_
  exact zg 3 (bO4 h)
 exact zg 1 (bO4 h)
noncomputable def do8 (c:d9) (p_:Plan) (up f4:Int) (t s9:Int) (df0:Bool) (b2 n:Plan):M:=⟨[.code (W0 [1,1,1,1,1,1,1,1,1,1,1,1,1,1,1,1,1,1,1,0,1,1,1]),.code (W0 [1,1,1,1,1,1,1,1,1,1,1,1,1,1,1,1,1,1,1,1])],[(4,.ptr 0 0 0),(5,.ptr 1 0 0),(8,.ptr 2 0 0),(11,.int .i64 t),(12,.ptr 3 0 0),(15,.int .u64 s9),(114,.bool df0)],[some ⟨30,false,[(d9.enc c)]⟩,some ⟨12,false,[(Plan.enc p_)]⟩,some ⟨12,false,[(Plan.enc b2)]⟩,some ⟨12,false,[(Plan.enc n)]⟩]⟩
noncomputable def aC4 (c:d9) (p_:Plan) (up f4:Int) (t s9:Int) (df0:Bool) (b2 n:Plan):Option (Plan×Bool):=(bif df0 then (at0 c p_ up f4 s9 b2 (⟨n.Epoch,n.Target,n.Prev,n.Spill,(B7 100 (IntKind.i64.wrap (p_.Percent+c.Step))),n.Stamp,n.Since,t,n.Up,n.Sup,n.Pen,n.Changes⟩:Plan)) else (at0 c p_ up f4 s9 b2 n))
theorem bN9 {c p_ up f4 t s9 df0 b2 n}:aq9 c p_ up f4 (do8 c p_ up f4 t s9 df0 b2 n) (aC4 c p_ up f4 t s9 df0 b2 n):=by
 intro r h;unfold aC4 at h
 refine zs 1 h (fun h=> ?_) fun h=> ?_
 ·
  exact zg 22 (bk8 h)
 exact zg 1 (bk8 h)
noncomputable def dq4 (c:d9) (p_:Plan) (up f4:Int) (t s9 V6:Int) (b2 n:Plan):M:=⟨[.code (W0 [1,1,1,1,1,1,1,1,1,1,1,1,1,1,1,1,1,1])],[(4,.ptr 0 0 0),(5,.ptr 1 0 0),(8,.ptr 2 0 0),(11,.int .i64 t),(12,.ptr 3 0 0),(15,.int .u64 s9),(16,.int .i64 V6)],[some ⟨30,false,[(d9.enc c)]⟩,some ⟨12,false,[(Plan.enc p_)]⟩,some ⟨12,false,[(Plan.enc b2)]⟩,some ⟨12,false,[(Plan.enc n)]⟩]⟩
noncomputable def aE4 (c:d9) (p_:Plan) (up f4:Int) (t s9 V6:Int) (b2 n:Plan):Option (Plan×Bool):=((bw6 c p_ V6 s9 t).bind fun y1=>(bif y1 then ((ap8 s9 p_.Target).bind fun y3=>((bk6 c n V6 (!y3) t).bind fun y4=>(at0 c p_ up f4 s9 b2 y4))) else (bif (decide (p_.Percent<100)) then (aC4 c p_ up f4 t s9 (decide (((IntKind.i64.wrap (t-p_.Ramped)):Int)≥c.StepTime)) b2 n) else (aC4 c p_ up f4 t s9 false b2 n))))
theorem bP9 {c p_ up f4 t s9 V6 b2 n}:aq9 c p_ up f4 (dq4 c p_ up f4 t s9 V6 b2 n) (aE4 c p_ up f4 t s9 V6 b2 n):=by
 intro r h;unfold aE4 at h
 refine zc 10 [] h (fun _=>dD6) fun y1 h=> ?_
 refine zs 8 h (fun h=> ?_) fun h=> ?_
 ·
  refine zd 4 [] h (fun _=>aC1) fun y3 h=> ?_
  refine zd 0 [] h (fun _=>dn5) fun y4 h=> ?_
  exact zg 2 (bk8 h)
 refine zs 8 h (fun h=> ?_) fun h=> ?_
 ·
  exact zg 17 (bN9 h)
 exact zg 15 (bN9 h)
noncomputable def dq9 (c:d9) (p_:Plan) (up f4:Int) (t s9 V6:Int) (b2 n:Plan):M:=⟨[.code (W0 [1,1,1,1,1,1,1,1,1,1,1,1,1,1,1,1,1])],[(4,.ptr 0 0 0),(5,.ptr 1 0 0),(8,.ptr 2 0 0),(11,.int .i64 t),(12,.ptr 3 0 0),(15,.int .u64 s9),(16,.int .i64 V6)],[some ⟨30,false,[(d9.enc c)]⟩,some ⟨12,false,[(Plan.enc p_)]⟩,some ⟨12,false,[(Plan.enc b2)]⟩,some ⟨12,false,[(Plan.enc n)]⟩]⟩
noncomputable def aE7 (c:d9) (p_:Plan) (up f4:Int) (t s9 V6:Int) (b2 n:Plan):Option (Plan×Bool):=(bif (s9 !=0) then ((bj6 c s9).bind fun y2=>(aE4 c p_ up f4 t s9 y2 b2 n)) else (aE4 c p_ up f4 t s9 V6 b2 n))
theorem bO6 {c p_ up f4 t s9 V6 b2 n}:aq9 c p_ up f4 (dq9 c p_ up f4 t s9 V6 b2 n) (aE7 c p_ up f4 t s9 V6 b2 n):=by
 intro r h;unfold aE7 at h
 refine zs 7 h (fun h=> ?_) fun h=> ?_
 ·
  refine zc 5 [] h (fun _=>bA1) fun y2 h=> ?_
  exact zg 2 (bP9 h)
 exact zg 1 (bP9 h)
noncomputable def dr4 (c:d9) (p_:Plan) (up f4:Int) (t31:Bool) (b2:Plan):M:=⟨[.code (W0 [1,1,1,0,1]),.code (W0 [1,1,1,1])],[(2,.int .u64 up),(3,.int .i64 f4),(4,.ptr 0 0 0),(5,.ptr 1 0 0),(8,.ptr 2 0 0),(31,.bool t31)],[some ⟨30,false,[(d9.enc c)]⟩,some ⟨12,false,[(Plan.enc p_)]⟩,some ⟨12,false,[(Plan.enc b2)]⟩]⟩
noncomputable def aQ3 (c:d9) (p_:Plan) (up f4:Int) (t31:Bool) (b2:Plan):Option (Plan×Bool):=(bif t31 then (some ((⟨0,0,0,0,0,0,0,0,0,0,[],[]⟩:Plan),false)) else (bif (!decide (c.Targets<0)) then (bif (decide ((0+(List.map (d8 .i64) p_.Changes).length)*8≤l6)) then ((ch5 c p_ (m9 .u64 up (IntKind.u64.wrap ((D3 .u64 1 c.Targets)-1))) (A0 (B7 f4 1099511627776) p_.Stamp)).bind fun y4=>(bif (((m9 .u64 up (IntKind.u64.wrap ((D3 .u64 1 c.Targets)-1))):Int) !=0) then ((bj6 c (m9 .u64 up (IntKind.u64.wrap ((D3 .u64 1 c.Targets)-1)))).bind fun y6=>(aE7 c p_ up f4 (A0 (B7 f4 1099511627776) p_.Stamp) (Z8 .u64 (m9 .u64 up (IntKind.u64.wrap ((D3 .u64 1 c.Targets)-1))) y4.2) y6 b2 (⟨(IntKind.i64.wrap (p_.Epoch+1)),p_.Target,p_.Prev,p_.Spill,p_.Percent,(A0 (B7 f4 1099511627776) p_.Stamp),p_.Since,p_.Ramped,(m9 .u64 up (IntKind.u64.wrap ((D3 .u64 1 c.Targets)-1))),y4.2,y4.1,p_.Changes⟩:Plan))) else (aE7 c p_ up f4 (A0 (B7 f4 1099511627776) p_.Stamp) (Z8 .u64 (m9 .u64 up (IntKind.u64.wrap ((D3 .u64 1 c.Targets)-1))) y4.2) p_.Target b2 (⟨(IntKind.i64.wrap (p_.Epoch+1)),p_.Target,p_.Prev,p_.Spill,p_.Percent,(A0 (B7 f4 1099511627776) p_.Stamp),p_.Since,p_.Ramped,(m9 .u64 up (IntKind.u64.wrap ((D3 .u64 1 c.Targets)-1))),y4.2,y4.1,p_.Changes⟩:Plan)))) else none) else none))
theorem bO2 {c p_ up f4 t31 b2}:aq9 c p_ up f4 (dr4 c p_ up f4 t31 b2) (aQ3 c p_ up f4 t31 b2):=by
 intro r h;unfold aQ3 at h
 refine zs 1 h (fun h=> ?_) fun h=> ?_
 ·
  exact zu 10 h [.slot 0 [some 1,some 1]]
 refine zn 18 h fun h=> ?_
 refine zn 20 h fun h=> ?_
 refine zw 1 (a:=(List.map (d8 .i64) p_.Changes)) (b:=(List.map (d8 .i64) p_.Changes)) (rfl) ?_
 refine bR7 48 (n1:=(0+(List.map (d8 .i64) p_.Changes).length)) (n2:=((List.map (d8 .i64) p_.Changes).length)) (raw:=(List.take ((List.map (d8 .i64) p_.Changes).length) (List.drop 0 (List.map (d8 .i64) p_.Changes)))) (rs:=(List.map (d8 .i64) p_.Changes)) (by kernel_rfl) (A7 _) (by simp only[C0,E8,List.map_take,List.map_drop]) ?_
 refine zc 14 [] h (fun _=>dt8) fun y4 h=> ?_
 refine zs 72 h (fun h=> ?_) fun h=> ?_
 ·
  refine zc 5 [] h (fun _=>bA1) fun y6 h=> ?_
  exact zg 2 (bO6 h)
 exact zg 1 (bO6 h)
noncomputable def bh6 (c:d9) (p_:Plan) (up f4:Int):Option (Plan×Bool):=((bT7 c).bind fun y1=>(bif (!y1) then (some ((⟨0,0,0,0,0,0,0,0,0,0,[],[]⟩:Plan),false)) else ((bj2 c p_).bind fun y3=>(bif (!y3) then (aQ3 c p_ up f4 true (⟨0,0,0,0,0,0,0,0,0,0,[],[]⟩:Plan)) else (aQ3 c p_ up f4 (decide (p_.Epoch≥4611686018427387904)) (⟨0,0,0,0,0,0,0,0,0,0,[],[]⟩:Plan))))))
theorem dr8 {c:d9}{p_:Plan}{up f4:Int}{r:Plan×Bool} (h:bh6 c p_ up f4=some r):i7 E 19 [.agg (d9.enc c),.agg (Plan.enc p_),.int .u64 up,.int .i64 f4] [] (Rs cn5 r):=so (fn:=Tryz.f19) (k:=false) (m:=0) h<| by
 intro r h;unfold bh6 at h
 refine zc 12 [] h (fun _=>de7) fun y1 h=> ?_
 refine zs 9 h (fun h=> ?_) fun h=> ?_
 ·
  exact zu 10 h [.slot 0 [some 1,some 1]]
 refine zc 9 [] h (fun _=>dp9) fun y3 h=> ?_
 refine zs 3 h (fun h=> ?_) fun h=> ?_
 ·
  exact zg 7 (bO2 h) [.blk 2 [some 1,some 1]]
 exact zg 8 (bO2 h) [.blk 2 [some 1,some 1]]
theorem rin {n lo hi:Int} (h:lo≤n∧n≤hi):K2 n lo hi=some true:=by
 unfold K2
 rw[decide_eq_true (show n≥lo by omega),decide_eq_true h.2];rfl
theorem bb0 {n:Int} (h:1≤n∧n≤1048576):L7 n=some true:=by
 unfold L7
 rw[decide_eq_true (show n≥1 by omega),decide_eq_true h.2];rfl
theorem da2 {m:Nat}{i:Int} (hm:m<18446744073709551616) (hi:i<64):ap8 (m:Int) i=some (at9 m i):=by
 unfold ap8 at9
 by_cases h:0≤i
 ·obtain⟨k,rfl⟩:=Int.eq_ofNat_of_zero_le h
  rw[dy9 hm (by omega)]
  have a:decide ((k:Int)≥0)=true:=decide_eq_true (by omega)
  have b:(!decide ((k:Int)<0))=true:=by rw[decide_eq_false (by omega)];rfl
  have d:decide (0≤(k:Int))=true:=decide_eq_true (by omega)
  simp only[a,b,d,cond_true,Int.toNat_natCast,Bool.true_and]
  cases m.testBit k<;>rfl
 ·have a:decide (i≥0)=false:=decide_eq_false (by omega)
  have d:decide (0≤i)=false:=decide_eq_false (by omega)
  simp only[a,d,cond_false,Bool.false_and]
theorem eD6 {c:d9} (h:W7 c=true):bT7 c=some true:=by
 have cb:=ax7 h
 have cT:=cb.t
 have ti:=cb.ti
 simp only[W7,Bool.and_eq_true,be0,List.mem_cons,List.not_mem_nil,or_false,forall_eq_or_imp,forall_eq,decide_eq_true_eq] at h
 obtain⟨h1,⟨h2a,h2b⟩,h3,h4,h5,h6,⟨a1,a2,a3,a4,a5,a6,a7,a8,a9,a10,a11,a12⟩,h8,⟨b1,b2,b3,b4⟩,h10,h11,h12,h13,h14,h15,h16⟩:=h
 have ne:(((c.Tiers.length:Nat):Int) !=c.Targets)=false:=by rw[h5];exact bne_self_eq_false _
 have hl:c.Tiers.length≤16:=by omega
 have m1:decide (c.M_<0)=false:=decide_eq_false (by omega)
 have m2:decide (c.M_>1048576)=false:=decide_eq_false (by omega)
 have loop:∀(j k:Nat),k+j=c.Tiers.length→Ev (Y5 c) (.s2 (k:Int)) true:=by
  intro j
  induction j with
  | zero=>
   intro k hk
   refine .next (s' :=.s3 false) ?_ (.next (s' :=.s4 false) ?_ (.done ?_))
   ·simp only[Y5,aL0,List.length_map,geB (show c.Tiers.length≤k by omega),cond_false,bb0 a1,bb0 a2,bb0 a3,bb0 a4,bb0 a5,bb0 a6,bb0 a7,bb0 a8,bb0 a9,bb0 a10,bb0 a11,bb0 a12,Option.bind_some,Bool.not_true,m1,m2]
   ·simp only[Y5,aZ7,cond_false,rin b1,rin b2,rin h10,rin h11,rin h12,rin h13,Option.bind_some,Bool.not_true]
   ·simp only[Y5,ba0,cond_false,rin b3,rin b4,rin h14,rin h15,rin h16,Option.bind_some,cond_true]
  | succ j ih=>
   intro k hk
   have hlt:k<c.Tiers.length:=by omega
   have w:IntKind.i64.wrap ((k:Int)+1)=((k+1:Nat):Int):=by rw[v9 (by omega) (by omega)];norm_cast
   refine .next ?_ (ih (k+1) (by omega))
   simp only[Y5,aL0,List.length_map,G4 hlt,O9,Bool.and_self,cond_true,Int.toNat_natCast,List.getE hlt,Option.bind_some,rin (h6 _ (List.getElem_mem hlt)),Bool.not_true,cond_false,w]
 refine z7 (.next (s' :=.s1 false) ?_ (.next (s' :=.s2 ((0:Nat):Int)) rfl (loop c.Tiers.length 0 (by omega))))
 simp only[Y5,aZ8,rin h1,rin h2a,rin h2b,rin h3,rin h4,Option.bind_some,Bool.not_true,cond_false,List.length_map,ne]
/-! ### decay -/
theorem eD2 {pen dt half:Nat} (hp:pen≤1000000) (hd:dt≤1099511627776) (hh:1≤half∧half≤1048576):bS5 pen dt half=some (((aF5 pen dt half:Nat):Int),0):=by
 have a1:decide ((pen:Int)<0)=false:=by simp
 have a2:decide ((pen:Int)>1000000)=false:=by simp;omega
 have a3:decide ((dt:Int)<0)=false:=by simp
 have a4:decide ((dt:Int)>1099511627776)=false:=by simp;omega
 have a5:decide ((half:Int)<1)=false:=by simp;omega
 have a6:decide ((half:Int)>1099511627776)=false:=by simp;omega
 have a7:(!decide ((half:Int)=0))=true:=by simp;omega
 have q1:dt/half≤dt:=Nat.div_le_self _ _
 have e1:IntKind.i64.wrap (Int.tdiv (dt:Int) half)=((dt/half:Nat):Int):=by rw[cQ3,bI1 (by omega)]
 have hm:dt%half<half:=Nat.mod_lt _ (by omega)
 have hdm:dt/half*half+dt%half=dt:=by rw[Nat.mul_comm];exact Nat.div_add_mod dt half
 have e2:IntKind.i64.wrap (((dt/half:Nat):Int)*half)=((dt/half*half:Nat):Int):=by
  rw[show(((dt/half:Nat):Int)*half)=((dt/half*half:Nat):Int) by push_cast;rfl,bI1 (by omega)]
 have e3:IntKind.i64.wrap ((dt:Int)-((dt/half*half:Nat):Int))=((dt%half:Nat):Int):=by
  rw[show(dt:Int)-((dt/half*half:Nat):Int)=((dt%half:Nat):Int) by omega,bI1 (by omega)]
 have first:R4 pen dt half .s0=some (.inl (.s1 false)):=by
  simp only[R4,ba7,a1,a2,a3,a4,a5,a6,cond_false]
 by_cases hq:dt/half>20
 ·have b:decide (((dt/half:Nat):Int)>20)=true:=by simp only[decide_eq_true_eq];omega
  have hz:aF5 pen dt half=0:=by unfold aF5;rw[if_pos hq]
  rw[hz]
  refine z7 (.next first (.done ?_))
  simp only[R4,aJ3,cond_false,a7,cond_true,e1,b];rfl
 ·have b:decide (((dt/half:Nat):Int)>20)=false:=by simp only[decide_eq_false_iff_not];omega
  have h16:16*(dt%half)/half<16:=by
   rw[Nat.div_lt_iff_lt_mul (by omega)];omega
  obtain⟨g1,g2⟩:=cY7 h16
  have hN:aF5 pen dt half=pen/2^(dt/half)*aG6 (16*(dt%half)/half)/65536:=by
   unfold aF5;rw[if_neg hq,Nat.mul_comm (dt%half) 16]
  have tab:([65536,62757,60097,57549,55109,52773,50535,48393,46341,44376,42495,40693,38968,37316,35734,34219]:List Int)=gl_parts:=rfl
  have loop:∀(j k:Nat),k+j=dt/half→Ev (R4 pen dt half) (.s2 ((pen/2^k:Nat):Int) ((dt/half:Nat):Int) ((dt%half:Nat):Int) (k:Int) gl_parts) (((aF5 pen dt half:Nat):Int),0):=by
   intro j
   induction j with
   | zero=>
    intro k hk
    obtain rfl:k=dt/half:=by omega
    refine .done ?_
    have lt:decide (((dt/half:Nat):Int)<((dt/half:Nat):Int))=false:=decide_eq_false (by omega)
    have m16:IntKind.i64.wrap ((16:Int)*((dt%half:Nat):Int))=((16*(dt%half):Nat):Int):=by
     rw[show(16:Int)*((dt%half:Nat):Int)=((16*(dt%half):Nat):Int) by push_cast;rfl,bI1 (by omega)]
    have d16:IntKind.i64.wrap (Int.tdiv ((16*(dt%half):Nat):Int) half)=((16*(dt%half)/half:Nat):Int):=by rw[cQ3,bI1 (by omega)]
    have bnd:(decide ((0:Int)≤((16*(dt%half)/half:Nat):Int))&&decide (((16*(dt%half)/half:Nat):Int)<((gl_parts.length:Nat):Int)))=true:=by
     have:gl_parts.length=16:=rfl
     rw[this,decide_eq_true (Int.natCast_nonneg _),decide_eq_true (by omega)];rfl
    have hpk:pen/2^(dt/half)≤1000000:=Nat.le_trans (Nat.div_le_self _ _) hp
    have mul:IntKind.i64.wrap (((pen/2^(dt/half):Nat):Int)*(aG6 (16*(dt%half)/half):Int))=((pen/2^(dt/half)*aG6 (16*(dt%half)/half):Nat):Int):=by
     have:=Nat.mul_le_mul hpk g2
     rw[show((pen/2^(dt/half):Nat):Int)*(aG6 (16*(dt%half)/half):Int)=((pen/2^(dt/half)*aG6 (16*(dt%half)/half):Nat):Int) by push_cast;rfl,bI1 (by omega)]
    have last:IntKind.i64.wrap (Int.tdiv ((pen/2^(dt/half)*aG6 (16*(dt%half)/half):Nat):Int) 65536)=((aF5 pen dt half:Nat):Int):=by
     have:=Nat.mul_le_mul hpk g2
     have h2:=Nat.div_le_self (pen/2^(dt/half)*aG6 (16*(dt%half)/half)) 65536
     rw[show(65536:Int)=((65536:Nat):Int) from rfl,cQ3,←hN,bI1 (by rw[hN];omega)]
    simp only[R4,aK7,lt,cond_false,a7,cond_true,m16,d16,List.length_map,bnd,Int.toNat_natCast,Nat.zero_add,g1,Option.bind_some,mul,last]
   | succ j ih=>
    intro k hk
    have lt:decide ((k:Int)<((dt/half:Nat):Int))=true:=decide_eq_true (by omega)
    have w:IntKind.i64.wrap ((k:Int)+1)=((k+1:Nat):Int):=by rw[v9 (by omega) (by omega)];norm_cast
    have hpk:pen/2^k≤1000000:=Nat.le_trans (Nat.div_le_self _ _) hp
    have half2:IntKind.i64.wrap (Int.tdiv ((pen/2^k:Nat):Int) 2)=((pen/2^(k+1):Nat):Int):=by
     have h2:=Nat.div_le_self (pen/2^k) 2
     rw[show(2:Int)=((2:Nat):Int) from rfl,cQ3,bI1 (by omega),Nat.div_div_eq_div_mul,←Nat.pow_succ]
    refine .next ?_ (ih (k+1) (by omega))
    simp only[R4,aK7,lt,cond_true,half2,w]
  refine z7 (.next first (.next (s' :=.s2 ((pen/2^0:Nat):Int) ((dt/half:Nat):Int) ((dt%half:Nat):Int) ((0:Nat):Int) gl_parts) ?_ (loop (dt/half) 0 (by omega))))
  simp only[R4,aJ3,cond_false,a7,cond_true,e1,b,e2,e3,tab,Nat.pow_zero,Nat.div_one];rfl
theorem eJ6 {n:Nat}{h:Int} (hn:n≤1000000) (hh:0≤h∧h≤1000000):bx8 n h=some (cI0 n h):=by
 have e1:B7 (A0 (n:Int) 0) 1000000=n:=by unfold B7 A0;split<;>split<;>omega
 have e2:B7 (A0 h 0) 1000000=h:=by unfold B7 A0;split<;>split<;>omega
 have e3:B7 (A0 ((n:Int)+h) 0) 1000000=cI0 n h:=by
  have:A0 ((n:Int)+h) 0=n+h:=by unfold A0;split<;>omega
  rw[this];rfl
 simp only[bx8,aL9,Option.bind_some,e1,e2]
 rw[v9 (by omega) (by omega),e3]
theorem eJ8 (was:Bool) (pen s r:Int):be1 was pen s r=some (decide (pen≥s) || (was&&decide (pen>r))):=by
 unfold be1
 by_cases h1:pen≥s
 ·rw[decide_eq_true h1];rfl
 ·rw[decide_eq_false h1]
  by_cases h2:pen≤r
  ·rw[decide_eq_true h2,decide_eq_false (by omega:¬pen>r)];simp
  ·rw[decide_eq_false h2,decide_eq_true (by omega:pen>r)];simp
section
variable {c : d9} {p : Plan}
theorem eg3 (cb:CB c) (hf:aM9 c p):bj2 c p=some true:=by
 have cT:=cb.t
 obtain⟨T,hT⟩:=Int.eq_ofNat_of_zero_le (show 0≤c.Targets by omega)
 obtain⟨a,ha⟩:=Int.eq_ofNat_of_zero_le hf.up
 obtain⟨b,hb⟩:=Int.eq_ofNat_of_zero_le hf.sup
 have hTn:c.Targets.toNat=T:=by omega
 have m1:=hf.m1
 have m2:=hf.m2
 rw[hTn] at m1 m2
 have nt:(!decide (c.Targets<0))=true:=by rw[decide_eq_false (by omega)];rfl
 have s1:(r5 .u64 p.Up c.Targets==0)=true:=by
  rw[ha,hT,bN0 (by omega),Nat.div_eq_of_lt (by omega)];rfl
 have s2:(r5 .u64 p.Sup c.Targets==0)=true:=by
  rw[hb,hT,bN0 (by omega),Nat.div_eq_of_lt (by omega)];rfl
 have r:=eb6 hf.r.shrt
 rw[ag6.2 hf.r] at r
 obtain⟨t1,t2,t3⟩:=hf.tg
 simp only[bj2,r,Option.bind_some,cond_true,List.length_map,beq_iff_eq.2 hf.pen,decide_eq_true t1,decide_eq_true t2,decide_eq_true t3,nt,s1,s2,decide_eq_true hf.ch]
theorem ez9 {m T:Nat} (hm:m<2^T) (hT:T≤16):aN6 m=((List.range T).filter fun i=>m.testBit i).map fun(i:Nat)=>(i:Int):=by
 unfold aN6
 congr 1
 rw[show(16:Nat)=T+(16-T) by omega,List.range_add,List.filter_append]
 have:(List.map (fun x=>T+x) (List.range (16-T))).filter (fun i=>m.testBit i)= []:=List.filter_eq_nil_iff.2 fun i hi=>by
  obtain⟨x,_,rfl⟩:=List.mem_map.1 hi
  rw[Nat.testBit_lt_two_pow (Nat.lt_of_lt_of_le hm (Nat.pow_le_pow_right (by decide) (by omega)))];simp
 rw[this,List.append_nil]
def ag9 (c:d9) (m:Nat) (k:Nat):Int:=(((List.range k).filter fun i=>m.testBit i).map fun(i:Nat)=>(i:Int)).foldl (ao8 c) (-1)
theorem bj4 (c:d9) (m k:Nat):ag9 c m (k+1)=if m.testBit k then ao8 c (ag9 c m k) k else ag9 c m k:=by
 unfold ag9
 rw[List.range_succ,List.filter_append,List.map_append,List.foldl_append]
 by_cases h:m.testBit k<;>simp[h]
theorem dN3 (c:d9) (m:Nat):∀k:Nat,-1≤ag9 c m k∧ag9 c m k<k∨ag9 c m k= -1
 | 0=> .inr rfl
 | k+1=>by
  have ih:=dN3 c m k
  rw[bj4]
  split
  ·unfold ao8;split
   ·left;omega
   ·rcases ih with h | h
    ·left;omega
    ·exact .inr h
  ·rcases ih with h | h
   ·left;omega
   ·exact .inr h
theorem cJ0 (cb:CB c) {m:Nat} (hm:m<2^c.Targets.toNat):bj6 c (m:Int)=some (ah0 c m):=by
 have cT:=cb.t
 have ti:=cb.ti
 have hm2:m<65536:=bd9 hm (by omega)
 have e0:ah0 c m=ag9 c m c.Targets.toNat:=by unfold ah0 ag9;rw[ez9 hm (by omega)]
 rw[e0]
 have loop:∀(j k:Nat),k+j=c.Targets.toNat→Ev (V2 c (m:Int)) (.s1 (ag9 c m k) (k:Int)) (ag9 c m c.Targets.toNat):=by
  intro j
  induction j with
  | zero=>
   intro k hk
   obtain rfl:k=c.Targets.toNat:=by omega
   refine .done ?_
   have:decide (((c.Targets.toNat:Nat):Int)<c.Targets)=false:=decide_eq_false (by omega)
   simp only[V2,as1,this,cond_false]
  | succ j ih=>
   intro k hk
   have lt:decide ((k:Int)<c.Targets)=true:=decide_eq_true (by omega)
   have hlt:k<c.Tiers.length:=by omega
   have w:IntKind.i64.wrap ((k:Int)+1)=((k+1:Nat):Int):=by rw[v9 (by omega) (by omega)];norm_cast
   have hh:=da2 (m:=m) (i:=(k:Int)) (by omega) (by omega)
   have hin:at9 m (k:Int)=m.testBit k:=by
    unfold at9;rw[decide_eq_true (by omega),Int.toNat_natCast];rfl
   rw[hin] at hh
   have ih:=ih (k+1) (by omega)
   have fin:∀b:Bool,ag9 c m (k+1)=(if b then (k:Int) else ag9 c m k)→Ev (V2 c (m:Int)) (.s2 (ag9 c m k) (k:Int) b) (ag9 c m c.Targets.toNat):=fun b hb=>by
    refine .next ?_ ih
    rw[hb]
    cases b<;>simp only[V2,bh5,cond_true,cond_false,w,if_true,Bool.false_eq_true,if_false]
   rw[bj4] at ih
   cases hb:m.testBit k with
   | false=>
    rw[hb] at hh
    refine .next (s' :=.s2 (ag9 c m k) (k:Int) false) ?_ (fin false (by rw[bj4,hb];rfl))
    simp only[V2,as1,lt,cond_true,hh,Option.bind_some,cond_false]
   | true=>
    rw[hb] at hh
    by_cases ho:ag9 c m k<0
    ·refine .next (s' :=.s2 (ag9 c m k) (k:Int) true) ?_ (fin true (by rw[bj4,hb];simp only[if_true,ao8,if_pos (Or.inl ho:ag9 c m k<0∨_)]))
     simp only[V2,as1,lt,cond_true,hh,Option.bind_some,decide_eq_true ho]
    ·obtain⟨q,hq⟩:=Int.eq_ofNat_of_zero_le (show 0≤ag9 c m k by omega)
     have hqk:q<c.Tiers.length:=by
      rcases dN3 c m k with h | h<;>omega
     have t1:bs2 c (k:Int)=c.Tiers[k]:=by unfold bs2;rw[Int.toNat_natCast,List.getE hlt];rfl
     have t2:bs2 c (q:Int)=c.Tiers[q]:=by unfold bs2;rw[Int.toNat_natCast,List.getE hqk];rfl
     refine .next (s' :=.s2 (ag9 c m k) (k:Int) (decide (c.Tiers[k]<c.Tiers[q]))) ?_ (fin _ ?_)
     ·rw[hq]
      have nq:decide ((q:Int)<0)=false:=decide_eq_false (by omega)
      simp only[V2,as1,lt,cond_true,hh,Option.bind_some,nq,cond_false,List.length_map,G4 hlt,G4 hqk,O9,Bool.and_self,Int.toNat_natCast,List.getE hlt,List.getE hqk]
     ·rw[bj4,hb,hq]
      simp only[if_true,ao8]
      by_cases hc:c.Tiers[k]<c.Tiers[q]
      ·rw[if_pos (.inr (by rw[t1,t2];exact hc)),decide_eq_true hc];rfl
      ·rw[if_neg (by rw[t1,t2];omega),decide_eq_false hc];rfl
 exact z7 (.next (s' :=.s1 (-1) ((0:Nat):Int)) rfl (loop c.Targets.toNat 0 (by omega)))
end
section
variable {c : d9} {p : Plan}
theorem em5 (hc:CB c) (hf:aM9 c p) {u:Nat} (hu:u<65536) {t:Int} (ht:p.Stamp≤t∧t≤1099511627776):
  ch5 c p (u:Int) t=some (ag7 c p u t,((J2 (ah5 c p u t) p.Pen.length:Nat):Int)):=by
 have hT:=hc.t
 have hpl:=hf.pen
 have hst:=hf.r.times p.Stamp (by simp)
 obtain⟨pu,hpu⟩:=Int.eq_ofNat_of_zero_le hf.up
 obtain⟨ps,hps⟩:=Int.eq_ofNat_of_zero_le hf.sup
 have hpu2:pu<65536:=by have:=hf.r.up;omega
 have hps2:ps<65536:=by have:=hf.r.sup;omega
 obtain⟨hl,hhl⟩:=Int.eq_ofNat_of_zero_le (show 0≤c.Half by have:=hc.half;omega)
 have hhl2:1≤hl∧hl≤1048576:=by have:=hc.half;omega
 obtain⟨dt,hdt⟩:=Int.eq_ofNat_of_zero_le (show 0≤t-p.Stamp by omega)
 have hwdt:IntKind.i64.wrap (t-p.Stamp)=(dt:Int):=by rw[v9 (by omega) (by omega),hdt]
 have inB:∀(m:Nat) (k:Nat),at9 m (k:Int)=m.testBit k:=fun m k=>by
  unfold at9;rw[decide_eq_true (by omega),Int.toNat_natCast];rfl
 have loop:∀(j k:Nat),k+j=p.Pen.length→Ev (Q4 c p (u:Int) t) (.s1 ((J2 (ah5 c p u t) k:Nat):Int) (k:Int) ((List.range k).map fun j=>al2 c p u t j)) (ag7 c p u t,((J2 (ah5 c p u t) p.Pen.length:Nat):Int)):=by
  intro j
  induction j with
  | zero=>
   intro k hk
   obtain rfl:k=p.Pen.length:=by omega
   refine .done ?_
   have:decide (((p.Pen.length:Nat):Int)<c.Targets)=false:=decide_eq_false (by omega)
   simp only[Q4,aP3,this,cond_false];rfl
  | succ j ih=>
   intro k hk
   have hlt:k<p.Pen.length:=by omega
   have lt:decide ((k:Int)<c.Targets)=true:=decide_eq_true (by omega)
   have hpk:=hf.r.pen _ (List.getElem_mem hlt)
   obtain⟨pk,hpk2⟩:=Int.eq_ofNat_of_zero_le hpk.1
   have hdec:=eD2 (pen:=pk) (dt:=dt) (half:=hl) (by omega) (by omega) hhl2
   have hdl:=cX4 pk dt hl hhl2.1
   have h1:=da2 (m:=pu) (i:=(k:Int)) (by omega) (by omega)
   have h2:=da2 (m:=u) (i:=(k:Int)) (by omega) (by omega)
   have h3:=da2 (m:=ps) (i:=(k:Int)) (by omega) (by omega)
   rw[inB] at h1 h2 h3
   have hpen:al2 c p u t k=if pu.testBit k&& !u.testBit k then cI0 (aF5 pk dt hl) c.Hit else ((aF5 pk dt hl:Nat):Int):=by
    simp only[al2,List.getE hlt,hpk2,hpu,hhl,hdt,Int.toNat_natCast]
   have ih:=ih (k+1) (by omega)
   rw[List.range_succ,List.map_append] at ih
   have two:Ev (Q4 c p (u:Int) t) (.s2 ((J2 (ah5 c p u t) k:Nat):Int) (k:Int) (al2 c p u t k) ((List.range k).map fun j=>al2 c p u t j)) (ag7 c p u t,((J2 (ah5 c p u t) p.Pen.length:Nat):Int)):=by
    refine .next ?_ ih
    have hup:=aV1 (ah5 c p u t) k
    have hp2:(2:Nat)^k≤2^16:=Nat.pow_le_pow_right (by decide) (by omega)
    have hs:ah5 c p u t k=(decide (al2 c p u t k≥c.Suppress) || (ps.testBit k&&decide (al2 c p u t k>c.Reuse))):=by simp only[ah5,hps,Int.toNat_natCast]
    have hsup:be1 (ps.testBit k) (al2 c p u t k) c.Suppress c.Reuse=some (ah5 c p u t k):=by rw[hs,eJ8]
    have l1:decide ((((List.range k).map fun j=>al2 c p u t j).length+1)*8≤l6)=true:=E0 (by simp;omega)
    have w:IntKind.i64.wrap ((k:Int)+1)=((k+1:Nat):Int):=by rw[v9 (by omega) (by omega)];norm_cast
    simp only[Q4,bh1,List.length_map (f:=d8 .i64),l1,cond_true,hps,h3,Option.bind_some,hsup,nn0,w,J2]
    cases hsb:ah5 c p u t k with
    | false=>simp only[cond_false,Bool.false_eq_true,if_false];rfl
    | true=>
     simp only[cond_true,if_true]
     rw[aJ6 (by omega),bQ6 (by omega) (by omega)];rfl
   have three:∀b:Bool,(pu.testBit k&& !u.testBit k)=b→Ev (Q4 c p (u:Int) t) (.s3 ((J2 (ah5 c p u t) k:Nat):Int) (k:Int) ((aF5 pk dt hl:Nat):Int) b ((List.range k).map fun j=>al2 c p u t j)) (ag7 c p u t,((J2 (ah5 c p u t) p.Pen.length:Nat):Int)):=fun b hb=>by
    refine .next ?_ two
    rw[hb] at hpen
    cases b with
    | false=>
     simp only[Bool.false_eq_true,if_false] at hpen
     simp only[Q4,aQ6,cond_false,hpen]
    | true=>
     simp only[if_true] at hpen
     simp only[Q4,aQ6,cond_true,eJ6 (show aF5 pk dt hl≤1000000 by omega) hc.hit,Option.bind_some,hpen]
   refine .next ?_ (three _ rfl)
   simp only[Q4,aP3,lt,cond_true,List.length_map (f:=d8 .i64),G4 hlt,O9,Bool.and_self,Int.toNat_natCast,List.getE hlt,hpk2,Option.bind_some,hwdt,hhl,hdec,hpu,h1,h2]
   cases pu.testBit k<;>rfl
 exact z7 (.next (s' :=.s1 0 ((0:Nat):Int) []) rfl (loop p.Pen.length 0 (by omega)))
def en6 (c:d9) (p:Plan) (to:Int) (g:Nat) (t:Int):Bool:=decide (to≠p.Target)&&(!bF8 c p t&&(!at9 g p.Target || decide (t-p.Since≥c.Dwell)))
theorem ev2 (hc:CB c) (hf:aM9 c p) {t:Int} (ht:0≤t∧t≤1099511627776) {g:Nat} (hg:g<18446744073709551616) (to:Int):bw6 c p to (g:Int) t=some (en6 c p to g t):=by
 have hb:=hc.b
 have hch:=hf.ch
 have hr:=hf.r.ch
 have hsi:=hf.r.times p.Since (by simp)
 have htp:=hf.r.tps p.Target (by simp)
 have wsub:∀x∈p.Changes,IntKind.i64.wrap (t-x)=t-x:=fun x hx=>by
  have:=hr x hx
  exact v9 (by omega) (by omega)
 have e1:IntKind.i64.wrap (((p.Changes.length:Nat):Int)-1)=((p.Changes.length:Nat):Int)-1:=v9 (by omega) (by omega)
 have e2:IntKind.i64.wrap (((p.Changes.length:Nat):Int)-c.B_)=((p.Changes.length:Nat):Int)-c.B_:=v9 (by omega) (by omega)
 have w3:IntKind.i64.wrap (t-p.Since)=t-p.Since:=v9 (by omega) (by omega)
 have two:∀b,aM0 c p (g:Int) t b=some (!b&&(!at9 g p.Target || decide (t-p.Since≥c.Dwell))):=fun b=>by
  cases b with
  | true=>rfl
  | false=>
   simp only[aM0,cond_false,da2 hg (show p.Target<64 by omega),Option.bind_some,w3]
   cases at9 g p.Target<;>rfl
 have one:∀b,ay6 c p (g:Int) t ((p.Changes.length:Nat):Int) b=some (!b&&(!(decide ((p.Changes.length:Int)≥c.B_)&&decide (t-(p.Changes[p.Changes.length-c.B_.toNat]?).getD 0≤c.W_))&&(!at9 g p.Target || decide (t-p.Since≥c.Dwell)))):=fun b=>by
  cases b with
  | true=>rfl
  | false=>
   simp only[ay6,cond_false,e2,List.length_map]
   by_cases h:((p.Changes.length:Nat):Int)≥c.B_
   ·have hi:(((p.Changes.length:Nat):Int)-c.B_).toNat=p.Changes.length-c.B_.toNat:=by omega
    have hlt:p.Changes.length-c.B_.toNat<p.Changes.length:=by omega
    have h3:(decide ((0:Int)≤((p.Changes.length:Nat):Int)-c.B_)&&decide (((p.Changes.length:Nat):Int)-c.B_<((p.Changes.length:Nat):Int)))=true:=by simp;omega
    rw[decide_eq_true h,h3,hi,List.getE hlt]
    simp only[cond_true,Option.bind_some,wsub _ (List.getElem_mem hlt),Option.getD_some,Bool.true_and,two,Bool.not_false]
   ·rw[decide_eq_false h]
    simp only[cond_false,two,Bool.false_and,Bool.not_false,Bool.true_and]
 unfold bw6 en6
 by_cases h0:to=p.Target
 ·have hz:decide (to≠p.Target)=false:=decide_eq_false (by simp[h0])
  rw[beq_iff_eq.2 h0,hz]
  simp only[cond_true,List.length_map,one];rfl
 ·have hz:decide (to≠p.Target)=true:=decide_eq_true h0
  rw[beq_eq_false_iff_ne.2 h0,hz]
  simp only[cond_false,List.length_map,e1,Bool.true_and]
  unfold bF8
  by_cases hp:0<p.Changes.length
  ·have g0:decide (((p.Changes.length:Nat):Int)>0)=true:=by simp;omega
   have hi:(((p.Changes.length:Nat):Int)-1).toNat=p.Changes.length-1:=by omega
   have hlt:p.Changes.length-1<p.Changes.length:=by omega
   have h3:(decide ((0:Int)≤((p.Changes.length:Nat):Int)-1)&&decide (((p.Changes.length:Nat):Int)-1<((p.Changes.length:Nat):Int)))=true:=by simp;omega
   rw[g0,h3,hi,List.getE hlt,decide_eq_true hp]
   simp only[cond_true,Option.bind_some,wsub _ (List.getElem_mem hlt),Option.getD_some,Bool.true_and,one,Bool.not_or,Bool.and_assoc]
  ·have g0:decide (((p.Changes.length:Nat):Int)>0)=false:=decide_eq_false (by omega)
   rw[g0,decide_eq_false hp]
   simp only[cond_false,one,Bool.false_and,Bool.false_or,Bool.not_false,Bool.true_and]
theorem eh8 (hc:CB c) (n:Plan) (hn:(n.Changes.length:Int)≤c.B_) (to:Int) (aN2:Bool) (t:Int):
  bk6 c n to aN2 t=some ⟨n.Epoch,to,n.Target,n.Spill,if aN2 then 100 else c.First,n.Stamp,t,t,n.Up,n.Sup,n.Pen,bj9 c n t⟩:=by
 have hb:=hc.b
 have two:∀(pc:Int) (b2:Plan),aC2 c t ⟨n.Epoch,to,n.Target,n.Spill,pc,n.Stamp,n.Since,n.Ramped,n.Up,n.Sup,n.Pen,n.Changes⟩ b2=some ⟨n.Epoch,to,n.Target,n.Spill,pc,n.Stamp,t,t,n.Up,n.Sup,n.Pen,bj9 c n t⟩:=fun pc b2=>by
  have l0:decide ((0+n.Changes.length)*8≤l6)=true:=E0 (by omega)
  simp only[aC2,List.length_map,l0,cond_true]
  by_cases h:((n.Changes.length:Nat):Int)≥c.B_
  ·have e2:IntKind.i64.wrap (IntKind.i64.wrap (((n.Changes.length:Nat):Int)-c.B_)+1)=((n.Changes.length+1-c.B_.toNat:Nat):Int):=by
    rw[v9 (n:=((n.Changes.length:Nat):Int)-c.B_) (by omega) (by omega),v9 (by omega) (by omega)];omega
   have b1:(decide (((0:Nat):Int)≤((n.Changes.length+1-c.B_.toNat:Nat):Int))&&decide (((n.Changes.length+1-c.B_.toNat:Nat):Int)≤((n.Changes.length:Nat):Int)))=true:=by
    rw[decide_eq_true (by omega),decide_eq_true (by omega)];rfl
   rw[decide_eq_true h]
   simp only[cond_true,e2,b1,Int.toNat_natCast,aE6,Nat.zero_add,List.length_map]
   have l1:decide ((n.Changes.length-(n.Changes.length+1-c.B_.toNat)+1)*8≤l6)=true:=E0 (by omega)
   have l2:Nat.ble (n.Changes.length+1-c.B_.toNat+(n.Changes.length-(n.Changes.length+1-c.B_.toNat))) n.Changes.length=true:=Nat.ble_eq_true_of_le (by omega)
   have tk:List.take (n.Changes.length-(n.Changes.length+1-c.B_.toNat)) (List.drop (n.Changes.length+1-c.B_.toNat) n.Changes)=List.drop (n.Changes.length+1-c.B_.toNat) n.Changes:=List.take_of_length_le (by simp)
   simp only[l1,l2,cond_true,tk,bj9]
  ·rw[decide_eq_false h]
   have l1:decide ((n.Changes.length+1)*8≤l6)=true:=E0 (by omega)
   have l2:Nat.ble n.Changes.length n.Changes.length=true:=Nat.ble_eq_true_of_le (by omega)
   have d0:n.Changes.length+1-c.B_.toNat=0:=by omega
   simp only[cond_false,aE6,Nat.zero_add,List.length_map,l1,l2,cond_true,List.drop_zero,List.take_length,bj9,d0]
 unfold bk6
 cases aN2<;>simp only[cond_true,cond_false,two,if_true,Bool.false_eq_true,if_false]
theorem cN8 (hc:CB c) {up f4:Int}{g:Nat} (hg:g<2^c.Targets.toNat) {b2 n:Plan} (hT: -1≤n.Target∧n.Target<16):at0 c p up f4 (g:Int) b2 n=some (ch1 c p g n):=by
 have hg16:=bd9 hg (by have:=hc.t;omega)
 have n3:∀g' :Nat,g' =bd7 g n.Target→aD1 c p up f4 (g' :Int) b2 n=some (ch1 c p g n):=fun g' he=>by
  subst he
  have hle:=db3 g n.Target
  have two:∀b,ai4 c p up f4 b b2 ⟨n.Epoch,n.Target,n.Prev,ah0 c (bd7 g n.Target),n.Percent,n.Stamp,n.Since,n.Ramped,n.Up,n.Sup,n.Pen,n.Changes⟩=some (if b then (zPl,false) else (⟨n.Epoch,n.Target,n.Prev,ah0 c (bd7 g n.Target),n.Percent,n.Stamp,n.Since,n.Ramped,n.Up,n.Sup,n.Pen,n.Changes⟩,true)):=fun b=>by cases b<;>rfl
  simp only[aD1,cJ0 hc (show bd7 g n.Target<2^c.Targets.toNat by omega),Option.bind_some,two]
  unfold ch1 dC0
  by_cases h1:n.Target=p.Target
  ·rw[beq_iff_eq.2 h1,decide_eq_true h1]
   by_cases h2:n.Percent=p.Percent
   ·rw[beq_iff_eq.2 h2,decide_eq_true h2]
    by_cases h3:n.Up=p.Up
    ·rw[beq_iff_eq.2 h3,decide_eq_true h3]
     by_cases h4:n.Sup=p.Sup
     ·rw[beq_iff_eq.2 h4,decide_eq_true h4]
      by_cases h5:ah0 c (bd7 g n.Target)=p.Spill
      ·rw[beq_iff_eq.2 h5,decide_eq_true h5];rfl
      ·rw[beq_eq_false_iff_ne.2 h5,decide_eq_false h5];rfl
     ·rw[beq_eq_false_iff_ne.2 h4,decide_eq_false h4];rfl
    ·rw[beq_eq_false_iff_ne.2 h3,decide_eq_false h3];rfl
   ·rw[beq_eq_false_iff_ne.2 h2,decide_eq_false h2];rfl
  ·rw[beq_eq_false_iff_ne.2 h1,decide_eq_false h1];rfl
 unfold at0
 by_cases h:n.Target≥0
 ·obtain⟨k,hk⟩:=Int.eq_ofNat_of_zero_le h
  have nn:(!decide (n.Target<0))=true:=by rw[decide_eq_false (by omega)];rfl
  rw[decide_eq_true h,nn]
  simp only[cond_true]
  have hp:(2:Nat)^k≤2^15:=Nat.pow_le_pow_right (by decide) (by omega)
  have e:Z8 .u64 (g:Int) (D3 .u64 1 n.Target)=((g&&&(18446744073709551615-2^k):Nat):Int):=by
   rw[hk,aJ6 (by omega),bw7 (by omega) (by omega)]
  rw[e]
  exact n3 _ (by unfold bd7;rw[if_pos h,hk,Int.toNat_natCast])
 ·rw[decide_eq_false h]
  simp only[cond_false]
  exact n3 g (by unfold bd7;rw[if_neg h])
theorem eh3 (hc:W7 c=true) (hf:aM9 c p) {up:Nat} (hu:up<18446744073709551616) {f4:Int} (hn:0≤f4):bh6 c p (up:Int) f4=some (ak5 c p up f4):=by
 have cb:=ax7 hc
 have hT:=cb.t
 have hst:=hf.r.times p.Stamp (by simp)
 have hra:=hf.r.times p.Ramped (by simp)
 have he:=hf.e
 have he0:=hf.r.epoch
 have htp:=hf.r.tps p.Target (by simp)
 have hpc:=hf.r.pc
 have htx:p.Stamp≤E3 p f4∧E3 p f4≤1099511627776:=by unfold E3 A0 B7;split<;>split<;>omega
 obtain⟨T,hTe⟩:=Int.eq_ofNat_of_zero_le (show 0≤c.Targets by omega)
 have hTn:c.Targets.toNat=T:=by omega
 have hp2:(2:Nat)^T≤2^16:=Nat.pow_le_pow_right (by decide) (by omega)
 have hp0:0<(2:Nat)^T:=Nat.pow_pos (by decide)
 have nt:(!decide (c.Targets<0))=true:=by rw[decide_eq_false (by omega)];rfl
 have e1:m9 .u64 (up:Int) (IntKind.u64.wrap (D3 .u64 1 c.Targets-1))=(R1 c up:Nat):=by
  rw[hTe,aJ6 (by omega),show(((2^T:Nat):Int)-1)=((2^T-1:Nat):Int) by omega,aM4 (by omega),bv6 hu (by omega)]
  unfold R1;rw[hTn]
 have e2:IntKind.i64.wrap (p.Epoch+1)=p.Epoch+1:=v9 (by omega) (by omega)
 have hU16:=bd9 (bM0 c up) (by omega)
 have hfade:=em5 cb hf (u:=R1 c up) hU16 (t:=E3 p f4) htx
 have hS:nxS c p up f4<2^p.Pen.length:=aV1 _ _
 have hpen:=hf.pen
 have hSp:(2:Nat)^p.Pen.length≤2^16:=Nat.pow_le_pow_right (by decide) (by omega)
 have hSe:J2 (ah5 c p (R1 c up) (E3 p f4)) p.Pen.length=nxS c p up f4:=rfl
 have e3:Z8 .u64 ((R1 c up:Nat):Int) ((nxS c p up f4:Nat):Int)=((nxG c p up f4:Nat):Int):=by
  rw[bw7 (by omega) (by omega)];rfl
 have hgl:=cW1 c p up f4
 have hg16:=bd9 hgl (by omega)
 have lc:decide ((0+p.Changes.length)*8≤l6)=true:=E0 (by have:=hf.ch;have:=cb.b;omega)
 have w2:IntKind.i64.wrap (E3 p f4-p.Ramped)=E3 p f4-p.Ramped:=v9 (by omega) (by omega)
 have w3:IntKind.i64.wrap (p.Percent+c.Step)=p.Percent+c.Step:=v9 (by have:=cb.step;omega) (by have:=cb.step;omega)
 have hto:=dH4 cb hf up f4
 have six:∀b2,aE4 c p (up:Int) f4 (E3 p f4) ((nxG c p up f4:Nat):Int) (ai3 c p up f4) b2 ⟨p.Epoch+1,p.Target,p.Prev,p.Spill,p.Percent,E3 p f4,p.Since,p.Ramped,(R1 c up:Nat),(nxS c p up f4:Nat),ag7 c p (R1 c up) (E3 p f4),p.Changes⟩=some (ak5 c p up f4):=fun b2=>by
  have hmay:=ev2 cb hf (t:=E3 p f4) ⟨by omega,htx.2⟩ (g:=nxG c p up f4) (by omega) (ai3 c p up f4)
  have hch:en6 c p (ai3 c p up f4) (nxG c p up f4) (E3 p f4)=ce5 c p up f4:=rfl
  rw[hch] at hmay
  simp only[aE4,hmay,Option.bind_some]
  unfold ak5 nxN
  cases hcc:ce5 c p up f4 with
  | true=>
   simp only[cond_true,if_true,da2 (show nxG c p up f4<18446744073709551616 by omega) (show p.Target<64 by omega),Option.bind_some]
   rw[eh8 cb ⟨p.Epoch+1,p.Target,p.Prev,p.Spill,p.Percent,E3 p f4,p.Since,p.Ramped,(R1 c up:Nat),(nxS c p up f4:Nat),ag7 c p (R1 c up) (E3 p f4),p.Changes⟩ hf.ch]
   simp only[Option.bind_some]
   rw[cN8 cb hgl (by simp only;omega)]
   have hce:∀n:Plan,n.Changes=p.Changes→bj9 c n (E3 p f4)=bj9 c p (E3 p f4):=fun n h=>by unfold bj9;rw[h]
   rw[hce ⟨p.Epoch+1,p.Target,p.Prev,p.Spill,p.Percent,E3 p f4,p.Since,p.Ramped,(R1 c up:Nat),(nxS c p up f4:Nat),ag7 c p (R1 c up) (E3 p f4),p.Changes⟩ rfl]
   cases at9 (nxG c p up f4) p.Target<;>rfl
  | false=>
   simp only[cond_false,Bool.false_eq_true,if_false,w2]
   by_cases h1:p.Percent<100
   ·rw[decide_eq_true h1]
    simp only[cond_true,aC4,w3]
    by_cases h2:E3 p f4-p.Ramped≥c.StepTime
    ·rw[decide_eq_true h2,if_pos ⟨h1,h2⟩]
     exact cN8 cb hgl (by simp only;omega)
    ·rw[decide_eq_false h2,if_neg (fun h=>h2 h.2)]
     exact cN8 cb hgl (by simp only;omega)
   ·rw[decide_eq_false h1,if_neg (fun h=>h1 h.1)]
    simp only[cond_false,aC4]
    exact cN8 cb hgl (by simp only;omega)
 have seven:∀b2 to,(nxG c p up f4=0→to=ai3 c p up f4)→aE7 c p (up:Int) f4 (E3 p f4) ((nxG c p up f4:Nat):Int) to b2 ⟨p.Epoch+1,p.Target,p.Prev,p.Spill,p.Percent,E3 p f4,p.Since,p.Ramped,(R1 c up:Nat),(nxS c p up f4:Nat),ag7 c p (R1 c up) (E3 p f4),p.Changes⟩=some (ak5 c p up f4):=fun b2 to hto=>by
  unfold aE7
  by_cases h:nxG c p up f4=0
  ·have:(((nxG c p up f4:Nat):Int) !=0)=false:=by rw[h];rfl
   rw[this,hto h]
   exact six b2
  ·have:(((nxG c p up f4:Nat):Int) !=0)=true:=bne_iff_ne.2 (by omega)
   have e:ah0 c (nxG c p up f4)=ai3 c p up f4:=by unfold ai3;rw[if_pos h]
   rw[this]
   simp only[cond_true,cJ0 cb hgl,Option.bind_some,e]
   exact six b2
 have ge:decide (p.Epoch≥4611686018427387904)=false:=decide_eq_false (by omega)
 simp only[bh6,eD6 hc,eg3 cb hf,Option.bind_some,Bool.not_true,cond_false,ge,aQ3,nt,cond_true,List.length_map,lc,e1]
 have ht:A0 (B7 f4 1099511627776) p.Stamp=E3 p f4:=rfl
 simp only[ht,hfade,Option.bind_some,hSe,e2,e3]
 by_cases h:R1 c up=0
 ·have:(((R1 c up:Nat):Int) !=0)=false:=by rw[h];rfl
  rw[this]
  exact seven _ _ fun hg=>by unfold ai3;rw[if_neg (by omega),if_neg (by omega)]
 ·have:(((R1 c up:Nat):Int) !=0)=true:=bne_iff_ne.2 (by omega)
  rw[this]
  simp only[cond_true,cJ0 cb (bM0 c up),Option.bind_some]
  exact seven _ _ fun hg=>by unfold ai3;rw[if_neg (by omega),if_pos h]
end
noncomputable def cj4:=u5 (u6 Tryz.f45)
noncomputable def ck4 (y:Bool):D×i0:=(.bool y,[])
inductive aI7 where
 | s0
 | s1 (k:Int)
noncomputable def ci1 (l_:List i8) (i:Int):aI7→M
 | .s0=>C3 Tryz.f45 [.sl false 3 (List.map i8.enc l_),.int .i64 i] []
 | .s1 k=>⟨[.lpc (cj4 [1,0,1,0,0]) 35,.blk 0,.code (cj4 [1,1])],[(0,.sl false 3 (List.map i8.enc l_)),(1,.int .i64 i),(5,.int .i64 k)],[]⟩
abbrev cj6 (l_:List i8) (i:Int):=SOk E (Cx.of Tryz.f45 false 0) ck4 (ci1 l_ i)
noncomputable def ba9 (l_:List i8) (i:Int):Option (aI7⊕Bool):=(some (.inl (.s1 0)))
noncomputable def av3 (l_:List i8) (i k:Int):Option (aI7⊕Bool):=(bif (decide (k<i)) then (bif ((decide ((0:Int)≤k))&&(decide (k<(((List.map i8.enc l_).length:Nat):Int)))) then (((l_)[k.toNat]?).bind fun y3=>(bif ((decide ((0:Int)≤i))&&(decide (i<(((List.map i8.enc l_).length:Nat):Int)))) then (((l_)[i.toNat]?).bind fun y6=>(bif (y3.Observer==y6.Observer) then (some (.inr false)) else (some (.inl (.s1 (IntKind.i64.wrap (k+1))))))) else none)) else none) else (some (.inr true)))
noncomputable def ae8 (l_:List i8) (i:Int):aI7→Option (aI7⊕Bool)
 | .s0=>ba9 l_ i
 | .s1 k=>av3 l_ i k
theorem cF1 {l_ i}:cj6 l_ i .s0 (ba9 l_ i):=by
 intro r x h ha;unfold ba9 at h
 exact zj 12 h ha
theorem cG5 {l_ i k}:cj6 l_ i (.s1 k) (av3 l_ i k):=by
 intro r x h ha;unfold av3 at h
 refine zs 9 h (fun h=> ?_) fun h=> ?_
 ·
  refine zn 5 h fun h=> ?_
  refine zr 0 i8.enc h fun y3 h=> ?_
  refine zn 0 h fun h=> ?_
  refine zr 0 i8.enc h fun y6 h=> ?_
  refine zs 1 h (fun h=> ?_) fun h=> ?_
  ·
   exact zt 5 h ha
  exact zj 8 h ha
 exact zt 6 h ha
noncomputable def bT2 (l_:List i8) (i:Int):Option Bool:=T3 (ae8 l_ i) (.s0)
theorem df8 {l_:List i8}{i:Int}{r:Bool} (h:bT2 l_ i=some r):i7 E 45 [.sl false 3 (List.map i8.enc l_),.int .i64 i] [] (Rs ck4 r):=sc (fn:=Tryz.f45) (k:=false) (m:=0) (H9:=(ci1 l_ i)) h fun s=>by
 cases s with
 | s0=>exact cF1
 | s1=>exact cG5
noncomputable def dD2 (y:Bool):D×i0:=(.bool y,[])
noncomputable def aH0 (n:Int):Option Bool:=(bif (decide (n≥0)) then (some (decide (n≤1099511627776))) else (some false))
theorem bz4 {n:Int}{r:Bool} (h:aH0 n=some r):i7 E 76 [.int .i64 n] [] (Rs dD2 r):=so (fn:=Tryz.f76) (k:=false) (m:=0) h<| by
 intro r h;unfold aH0 at h
 refine zs 10 h (fun h=> ?_) fun h=> ?_
 ·
  exact zu 7 h
 exact zu 7 h
noncomputable def ck2:=u5 (u6 Tryz.f46)
noncomputable def ck9 (y:Bool):D×i0:=(.bool y,[])
abbrev dt7 (v:i8) (f4 ah8:Int):=AOk E (Cx.of Tryz.f46 false 0) ck9
noncomputable def dg5 (v:i8) (f4 ah8:Int) (t33:Bool):M:=⟨[.code (ck2 [1,0,1]),.code (ck2 [1,1])],[(2,.int .i64 f4),(3,.int .i64 ah8),(4,.ptr 0 0 0),(33,.bool t33)],[some ⟨3,false,[(i8.enc v)]⟩]⟩
noncomputable def ac2 (v:i8) (f4 ah8:Int) (t33:Bool):Option Bool:=(bif t33 then (some false) else (bif (decide (f4≥v.At)) then (some (decide (v.At≥(IntKind.i64.wrap (f4-ah8))))) else (some false)))
theorem at4 {v f4 ah8 t33}:dt7 v f4 ah8 (dg5 v f4 ah8 t33) (ac2 v f4 ah8 t33):=by
 intro r h;unfold ac2 at h
 refine zs 1 h (fun h=> ?_) fun h=> ?_
 ·
  exact zu 5 h
 refine zs 10 h (fun h=> ?_) fun h=> ?_
 ·
  exact zu 16 h
 exact zu 15 h
noncomputable def aX4 (v:i8) (l4 f4 ah8:Int):Option Bool:=((aH0 v.At).bind fun y1=>(bif (!y1) then (ac2 v f4 ah8 true) else ((aH0 f4).bind fun y3=>(bif (!y3) then (ac2 v f4 ah8 true) else ((aH0 ah8).bind fun y5=>(bif (!y5) then (ac2 v f4 ah8 true) else (bif (decide (v.Observer<0)) then (ac2 v f4 ah8 true) else (ac2 v f4 ah8 (decide (v.Observer≥l4))))))))))
theorem dh1 {v:i8}{l4 f4 ah8:Int}{r:Bool} (h:aX4 v l4 f4 ah8=some r):i7 E 46 [.agg (i8.enc v),.int .i64 l4,.int .i64 f4,.int .i64 ah8] [] (Rs ck9 r):=so (fn:=Tryz.f46) (k:=false) (m:=0) h<| by
 intro r h;unfold aX4 at h
 refine zc 12 [] h (fun _=>bz4) fun y1 h=> ?_
 refine zs 3 h (fun h=> ?_) fun h=> ?_
 ·
  exact zg 36 (at4 h)
 refine zc 2 [] h (fun _=>bz4) fun y3 h=> ?_
 refine zs 6 h (fun h=> ?_) fun h=> ?_
 ·
  exact zg 27 (at4 h)
 refine zc 2 [] h (fun _=>bz4) fun y5 h=> ?_
 refine zs 6 h (fun h=> ?_) fun h=> ?_
 ·
  exact zg 18 (at4 h)
 refine zs 9 h (fun h=> ?_) fun h=> ?_
 ·
  exact zg 9 (at4 h)
 exact zg 10 (at4 h)
noncomputable def C7:=u5 (u6 Tryz.f20)
noncomputable def cl1 (y:Int):D×i0:=(.int .u64 y,[])
inductive ad2 where
 | s0
 | s1 (i6 K1:Int)
 | s4 (i6 K1:Int) (P5:Bool)
 | s2 (i6 K1:Int) (n i:Int)
 | s3 (i6 K1:Int) (n i:Int) (t52:Bool)
noncomputable def cj9 (l_:List i8) (l4 f4 ah8:Int):ad2→M
 | .s0=>C3 Tryz.f20 [.sl false 3 (List.map i8.enc l_),.int .i64 l4,.int .i64 f4,.int .i64 ah8] []
 | .s1 i6 K1=>⟨[.lpc (C7 [1,1,0,1,0,0]) 1551,.blk 0,.code (C7 [1,1,1])],[(0,.sl false 3 (List.map i8.enc l_)),(1,.int .i64 l4),(2,.int .i64 f4),(3,.int .i64 ah8),(9,.int .u64 i6),(10,.int .i64 K1)],[]⟩
 | .s4 i6 K1 P5=>⟨[.code (C7 [1,1,0,1,0,0,0,1]),.code (C7 [1,1,0,1,0,0,1]),.lp (C7 [1,1,0,1,0,0]) 1551,.blk 0,.code (C7 [1,1,1])],[(0,.sl false 3 (List.map i8.enc l_)),(1,.int .i64 l4),(2,.int .i64 f4),(3,.int .i64 ah8),(9,.int .u64 i6),(10,.int .i64 K1),(19,.bool P5)],[]⟩
 | .s2 i6 K1 n i=>⟨[.lpc (C7 [1,1,0,1,0,0,1,0,0,1,0,1,0,0]) 7695,.blk 2,.code (C7 [1,1,0,1,0,0,1,0,0,1,1]),.blk 1,.code (C7 [1,1,0,1,0,0,1,1]),.lp (C7 [1,1,0,1,0,0]) 1551,.blk 0,.code (C7 [1,1,1])],[(0,.sl false 3 (List.map i8.enc l_)),(1,.int .i64 l4),(2,.int .i64 f4),(3,.int .i64 ah8),(9,.int .u64 i6),(10,.int .i64 K1),(11,.int .i64 n),(12,.int .i64 i)],[]⟩
 | .s3 i6 K1 n i t52=>⟨[.code (C7 [1,1,0,1,0,0,1,0,0,1,0,1,0,0,1,0,0,1,1]),.blk 3,.code (C7 [1,1,0,1,0,0,1,0,0,1,0,1,0,0,1,1]),.lp (C7 [1,1,0,1,0,0,1,0,0,1,0,1,0,0]) 7695,.blk 2,.code (C7 [1,1,0,1,0,0,1,0,0,1,1]),.blk 1,.code (C7 [1,1,0,1,0,0,1,1]),.lp (C7 [1,1,0,1,0,0]) 1551,.blk 0,.code (C7 [1,1,1])],[(0,.sl false 3 (List.map i8.enc l_)),(1,.int .i64 l4),(2,.int .i64 f4),(3,.int .i64 ah8),(9,.int .u64 i6),(10,.int .i64 K1),(11,.int .i64 n),(12,.int .i64 i),(52,.bool t52)],[]⟩
abbrev aJ4 (l_:List i8) (l4 f4 ah8:Int):=SOk E (Cx.of Tryz.f20 false 0) cl1 (cj9 l_ l4 f4 ah8)
noncomputable def by8 (l_:List i8) (l4 f4 ah8:Int):Option (ad2⊕Int):=(some (.inl (.s1 0 0)))
noncomputable def au4 (l_:List i8) (l4 f4:Int) (ah8 i6 K1:Int):Option (ad2⊕Int):=(bif (decide (K1<64)) then (some (.inl (.s4 i6 K1 (decide (l4>0))))) else (some (.inl (.s4 i6 K1 false))))
noncomputable def bz1 (l_:List i8) (l4 f4:Int) (ah8 i6 K1:Int) (P5:Bool):Option (ad2⊕Int):=(bif P5 then (some (.inl (.s2 i6 K1 0 0))) else (some (.inr i6)))
noncomputable def Y3 (l_:List i8) (l4 f4:Int) (ah8 i6:Int) (K1 n i:Int):Option (ad2⊕Int):=(bif (decide (i<(((List.map i8.enc l_).length:Nat):Int))) then ((bT2 l_ i).bind fun y2=>(bif y2 then (bif ((decide ((0:Int)≤i))&&(decide (i<(((List.map i8.enc l_).length:Nat):Int)))) then (((l_)[i.toNat]?).bind fun y5=>((aX4 y5 l4 f4 ah8).bind fun y7=>(bif y7 then (bif ((decide ((0:Int)≤i))&&(decide (i<(((List.map i8.enc l_).length:Nat):Int)))) then (((l_)[i.toNat]?).bind fun y10=>(bif (!decide (K1<0)) then (some (.inl (.s3 i6 K1 n i (((m9 .u64 (r5 .u64 y10.Up K1) 1):Int)==1)))) else none)) else none) else (some (.inl (.s3 i6 K1 n i false)))))) else none) else (some (.inl (.s3 i6 K1 n i false))))) else (bif (decide (n>(IntKind.i64.wrap (l4-n)))) then (bif (!decide (K1<0)) then (some (.inl (.s1 (orI .u64 i6 (D3 .u64 1 K1)) (IntKind.i64.wrap (K1+1))))) else none) else (some (.inl (.s1 i6 (IntKind.i64.wrap (K1+1)))))))
noncomputable def av1 (l_:List i8) (l4 f4:Int) (ah8 i6:Int) (K1 n i:Int) (t52:Bool):Option (ad2⊕Int):=(bif t52 then (some (.inl (.s2 i6 K1 (IntKind.i64.wrap (n+1)) (IntKind.i64.wrap (i+1))))) else (some (.inl (.s2 i6 K1 n (IntKind.i64.wrap (i+1))))))
noncomputable def z8 (l_:List i8) (l4 f4 ah8:Int):ad2→Option (ad2⊕Int)
 | .s0=>by8 l_ l4 f4 ah8
 | .s1 i6 K1=>au4 l_ l4 f4 ah8 i6 K1
 | .s4 i6 K1 P5=>bz1 l_ l4 f4 ah8 i6 K1 P5
 | .s2 i6 K1 n i=>Y3 l_ l4 f4 ah8 i6 K1 n i
 | .s3 i6 K1 n i t52=>av1 l_ l4 f4 ah8 i6 K1 n i t52
theorem cK3 {l_ l4 f4 ah8}:aJ4 l_ l4 f4 ah8 .s0 (by8 l_ l4 f4 ah8):=by
 intro r x h ha;unfold by8 at h
 exact zj 16 h ha
theorem cE5 {l_ l4 f4 ah8 i6 K1}:aJ4 l_ l4 f4 ah8 (.s1 i6 K1) (au4 l_ l4 f4 ah8 i6 K1):=by
 intro r x h ha;unfold au4 at h
 refine zs 8 h (fun h=> ?_) fun h=> ?_
 ·
  exact zk 5 h ha
 exact zk 5 h ha
theorem cF9 {l_ l4 f4 ah8 i6 K1 P5}:aJ4 l_ l4 f4 ah8 (.s4 i6 K1 P5) (bz1 l_ l4 f4 ah8 i6 K1 P5):=by
 intro r x h ha;unfold bz1 at h
 refine zs 1 h (fun h=> ?_) fun h=> ?_
 ·
  exact zj 15 h ha
 exact zt 7 h ha
theorem cL4 {l_ l4 f4 ah8 i6 K1 n i}:aJ4 l_ l4 f4 ah8 (.s2 i6 K1 n i) (Y3 l_ l4 f4 ah8 i6 K1 n i):=by
 intro r x h ha;unfold Y3 at h
 refine zs 10 h (fun h=> ?_) fun h=> ?_
 ·
  refine zc 8 [] h (fun _=>df8) fun y2 h=> ?_
  refine zs 7 h (fun h=> ?_) fun h=> ?_
  ·
   refine zn 4 h fun h=> ?_
   refine zr 2 i8.enc h fun y5 h=> ?_
   refine zc 8 [] h (fun _=>dh1) fun y7 h=> ?_
   refine zs 4 h (fun h=> ?_) fun h=> ?_
   ·
    refine zn 4 h fun h=> ?_
    refine zr 4 i8.enc h fun y10 h=> ?_
    refine zn 4 h fun h=> ?_
    exact zk 7 h ha
   exact zk 19 h ha
  exact zk 38 h ha
 refine zs 10 h (fun h=> ?_) fun h=> ?_
 ·
  refine zn 4 h fun h=> ?_
  exact zj 10 h ha
 exact zj 8 h ha
theorem cJ5 {l_ l4 f4 ah8 i6 K1 n i t52}:aJ4 l_ l4 f4 ah8 (.s3 i6 K1 n i t52) (av1 l_ l4 f4 ah8 i6 K1 n i t52):=by
 intro r x h ha;unfold av1 at h
 refine zs 1 h (fun h=> ?_) fun h=> ?_
 ·
  exact zj 12 h ha
 exact zj 8 h ha
noncomputable def bs3 (l_:List i8) (l4 f4 ah8:Int):Option Int:=T3 (z8 l_ l4 f4 ah8) (.s0)
theorem cY8 {l_:List i8}{l4 f4:Int}{ah8 r:Int} (h:bs3 l_ l4 f4 ah8=some r):i7 E 20 [.sl false 3 (List.map i8.enc l_),.int .i64 l4,.int .i64 f4,.int .i64 ah8] [] (Rs cl1 r):=sc (fn:=Tryz.f20) (k:=false) (m:=0) (H9:=(cj9 l_ l4 f4 ah8)) h fun s=>by
 cases s with
 | s0=>exact cK3
 | s1=>exact cE5
 | s4=>exact cF9
 | s2=>exact cL4
 | s3=>exact cJ5
end Go.RX.L
