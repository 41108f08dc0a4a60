/-
  Words and walks for LeaseOne. No condition.
-/
import Derived.Test.YtgkilbojgafldaaDoorLeaseOneY6
set_option linter.unusedSectionVars false
set_option linter.unnecessarySimpa false
set_option linter.unusedSimpArgs false
set_option linter.unusedVariables false
set_option maxRecDepth 100000
namespace Go.RX.L
open Go Go.RX
theorem aS4:ao3 n3=true:=by decide+kernel
theorem cf1:n3.Tiers.length<9223372036854775807:=by decide
/-- An acceptor on its disk. -/
structure AD where
  a : AS
  f : Int
  s : List Int
  t : List Int
structure AR (x:AD) (g:Bool→Option Int) (d9:Int) (n:Nat):Prop where
 rep:Rep n3 x.a x.f x.s x.t n
 li:LI n3 x.a g d9
def six (d9 i:Int) (h0 h1:l6) (x y z:AD):q8:=
 .s6 true d9 i [h0,h1] x.a.k n3 0 y.a.k n3 1 z.a.k n3 2 x.f x.a.down y.f y.a.down z.f z.a.down x.s x.t y.s y.t z.s z.t
def aq8 (d9 i:Int) (h0 h1:l6) (x y z:AD):q8:=
 .s7 true d9 i [h0,h1] x.a.k n3 0 y.a.k n3 1 z.a.k n3 2 x.f x.a.down y.f y.a.down z.f z.a.down x.s x.t y.s y.t z.s z.t
/-- All of it. -/
structure Al (G : Gh) (h0 h1 : l6) (x y z : AD) (d9 : Int) (n : Nat) : Prop where
  x : AR x (G 0) d9 n
  y : AR y (G 1) d9 n
  z : AR z (G 2) d9 n
  h0 : HI G false h0 d9
  h1 : HI G true h1 d9
theorem AR.more {x:AD}{g:Bool→Option Int}{d9 n' :Int}{n m:Nat} (h:AR x g d9 n) (hn:d9≤n') (hm:n≤m):AR x g n' m:=⟨⟨h.rep.ok,h.rep.fu,h.rep.dk,h.rep.tl,by have:=h.rep.len;omega⟩,h.li.later hn⟩
theorem Al.more {G:Gh}{h0 h1:l6}{x y z:AD}{d9 n' :Int}{n m:Nat} (h:Al G h0 h1 x y z d9 n) (hn:d9≤n') (hm:n≤m):Al G h0 h1 x y z n' m:=⟨h.x.more hn hm,h.y.more hn hm,h.z.more hn hm,h.h0.mono (GLe.refl G) hn,h.h1.mono (GLe.refl G) hn⟩
section
variable {l_ : List q6} {G : Gh} {h0 h1 : l6} {x y z : AD} {d9 i : Int} {n : Nat} {r : Bool}
theorem J6 (h:Al G h0 h1 x y z d9 n) (hn:0≤d9) (k:Nat) (hk:k≤300) (nx:Ev (i8 l_) (six d9 ((k+1:Nat):Int) h0 h1 x y z) r):Ev (i8 l_) (aq8 d9 (k:Int) h0 h1 x y z) r:=by
 have w:IntKind.i64.wrap ((k:Int)+1)=((k+1:Nat):Int):=by rw[F4 (by omega) (by omega)];norm_cast
 have gp:∀j,j<3→∀t0 t1,G j false=some t0→G j true=some t1→t0+25≤t1∨t1+25≤t0:=fun j hj=>by
  have:j=0∨j=1∨j=2:=by omega
  rcases this with rfl | rfl | rfl
  ·exact h.x.li.gp
  ·exact h.y.li.gp
  ·exact h.z.li.gp
 have gn:∀j,j<3→∀k t,G j k=some t→t≤d9:=fun j hj k t e=>by
  have:j=0∨j=1∨j=2:=by omega
  rcases this with rfl | rfl | rfl
  ·exact(h.x.li.gr k t e).2.1
  ·exact(h.y.li.gr k t e).2.1
  ·exact(h.z.li.gr k t e).2.1
 have hs:=db7 gp gn hn h.h0 h.h1
 refine .next ?_ nx
 simp only[aq8,six,i8,ai6,List.getElem?_cons_zero,List.getElem?_cons_succ,Option.bind_some,cn3,w]
 cases l0:bg1 h0 0 d9 with
 | false=>rfl
 | true=>
  cases l1:bg1 h1 0 d9 with
  | false=>rfl
  | true=>exact absurd ⟨l0,l1⟩ hs
theorem cO0 (b:Bool) {to nn:Int} (hn:n9 .i64 nn):N6 (H7 b to nn):=by
 have zf:aW2 n8:=⟨K2.2 (by decide),by decide,by decide,⟨by decide,by decide⟩⟩
 refine⟨⟨⟨by simp[H7,n8],by simp[H7,n8]⟩,H9.2 (by simp[H7,n8]),H9.2 (by simp[H7,n8])⟩,zf,?_,by simp[H7],fun x hx=>by simp[H7] at hx,fun x hx=>by simp[H7] at hx,fun x hx=>by simp[H7] at hx⟩
 intro x hx
 simp only[H7,List.mem_cons,List.not_mem_nil,or_false] at hx
 rcases hx with rfl | rfl | rfl | rfl | rfl<;>first | assumption | exact K2.2 (by decide)
theorem bB4 {g:Bool→Option Int} (h:AR x g d9 n) (hn:n≤8000000):∃x' :AD,z9 0 x.f x.a.down x.s x.t=some (x'.f,x'.a.down,x'.s,x'.t)∧x'.a.k=x.a.k∧AR x' g d9 n:=by
 obtain⟨a',s',e1,e2,e3,e4,e5⟩:=cw4 (keep:=0) h.rep (by omega)
 exact⟨⟨a',-1,s',[]⟩,by rw[e1,e2],e3,e4,h.li.crash e5⟩
theorem bh9 {g:Bool→Option Int}{d8:Int} (h:AR x g d9 n) (hn:n≤8000000) (h0:0≤d9):∃(e:Int) (x' :AD),x5 d9 x.a.k n3 d8 x.f x.a.down x.s x.t=some (e,x'.a.k,x'.f,x'.a.down,x'.s,x'.t)∧AR x' g d9 n:=by
 obtain⟨e,a',f',s',e1,e2,e3,-,-⟩:=cl5 (d8:=d8) (d9:=d9) h.rep aS4 cf1 hn
 exact⟨e,⟨a',f',s',[]⟩,e1,e2,h.li.restart h0 e3⟩
theorem ax6 {g:Bool→Option Int}{d8:Int}{b:Bool}{to nn:Int} (h:AR x g d9 n) (hn:n≤8000000) (h0:0≤d9∧d9≤1099511627776) (hi:n9 .i64 nn):∃(m9:List i5) (x' :AD),p5 (H7 b to nn) d9 x.a.k n3 d8 x.f x.a.down x.s x.t=some (m9,x'.a.k,x'.f,x'.a.down,x'.s,x'.t)∧
  ((m9= []∧AR x' g d9 (n+4408))∨(m9= [H1 d8 (H7 b to nn)]∧AR x' (az1 g b d9) d9 (n+4408))):=by
 obtain⟨m9,a',f',s',t',e1,e2,e3⟩:=ct0 (d8:=d8) (m:=H7 b to nn) (d9:=d9) h.rep (cO0 b hi) (by omega)
 refine⟨m9,⟨a',f',s',t'⟩,e1,?_⟩
 rcases h.li.grant ⟨rfl,rfl⟩ h0 e3 with⟨q1,q2⟩ | ⟨q1,q2⟩
 ·exact .inl ⟨q1,e2,q2⟩
 ·exact .inr ⟨q1,e2,q2⟩
end
theorem cm1 (x:Int) {m:Nat} (hm:m<9223372036854775808):0≤k9 .i64 x (m:Int)∧k9 .i64 x (m:Int)≤m:=by
 have e:k9 .i64 x (m:Int)=IntKind.i64.wrap (((BitVec.ofInt 64 x&&&BitVec.ofInt 64 (m:Int)).toNat:Nat):Int):=rfl
 have l:(BitVec.ofInt 64 x&&&BitVec.ofInt 64 (m:Int)).toNat≤m:=by
  rw[BitVec.toNat_and]
  refine Nat.le_trans Nat.and_le_right ?_
  rw[BitVec.ofInt_natCast,BitVec.toNat_ofNat]
  exact Nat.mod_le _ _
 rw[e,F4 (by omega) (by omega)]
 omega
def bA0 (d9 i k:Int) (r:List i5) (q:Int) (h0 h1:l6) (x y z:AD):q8:=
 .s9 true d9 i k r q [h0,h1] x.a.k n3 0 y.a.k n3 1 z.a.k n3 2 x.f x.a.down y.f y.a.down z.f z.a.down x.s x.t y.s y.t z.s z.t
def ten (d9 i k:Int) (r:List i5) (h0 h1:l6) (x y z:AD):q8:=
 .s10 true d9 i k r [h0,h1] x.a.k n3 0 y.a.k n3 1 z.a.k n3 2 x.f x.a.down y.f y.a.down z.f z.a.down x.s x.t y.s y.t z.s z.t
def aM1 (d9 i q:Int) (h0 h1:l6) (x y z:AD):q8:=
 .s8 true d9 i q [h0,h1] x.a.k n3 0 y.a.k n3 1 z.a.k n3 2 x.f x.a.down y.f y.a.down z.f z.a.down x.s x.t y.s y.t z.s z.t
def upG (G:Gh) (j:Nat) (b:Bool) (t:Int):Gh:=fun i=>if i=j then az1 (G j) b t else G i
theorem bb2 {G:Gh}{j:Nat}{b:Bool}{t:Int} (h:∀k u,G j k=some u→u≤t):GLe G (upG G j b t):=fun i k u e=>by
 unfold upG az1
 by_cases hi:i=j
 ·subst hi
  rw[if_pos rfl]
  by_cases hk:k=b
  ·subst hk;exact⟨t,by simp,h k u e⟩
  ·exact⟨u,by simp[hk,e],Int.le_refl _⟩
 ·rw[if_neg hi];exact⟨u,e,Int.le_refl _⟩
theorem aO9 {G:Gh}{j:Nat}{b:Bool}{t:Int}:upG G j b t j b=some t:=by simp[upG,az1]
section
variable {l_ : List q6} {G : Gh} {h0 h1 : l6} {x y z : AD} {d9 : Int} {n : Nat} {r : Bool}
theorem aD7 {k:Nat}{kk:Int} (nx:Ev (i8 l_) (aq8 d9 (k:Int) h0 h1 x y z) r):Ev (i8 l_) (ten d9 (k:Int) kk [] h0 h1 x y z) r:=
 .next (s' :=bA0 d9 (k:Int) kk [] 0 h0 h1 x y z) rfl (.next (s' :=aq8 d9 (k:Int) h0 h1 x y z) rfl nx)
theorem ch4 {k:Nat}{m:i5} (hg:n9 .u64 h0.Grants) (nx:Ev (i8 l_) (aq8 d9 (k:Int) (G9 h0 n3 m) h1 x y z) r):Ev (i8 l_) (ten d9 (k:Int) 0 [m] h0 h1 x y z) r:=by
 refine .next (s' :=bA0 d9 (k:Int) 0 [m] 0 h0 h1 x y z) rfl (.next (s' :=bA0 d9 (k:Int) 0 [m] 1 (G9 h0 n3 m) h1 x y z) ?_ (.next (s' :=aq8 d9 (k:Int) (G9 h0 n3 m) h1 x y z) rfl nx))
 show(Q7 h0 n3 m).bind (fun y8=>some (Sum.inl (bA0 d9 (k:Int) 0 [m] 1 y8 h1 x y z)))=_
 rw[bf1 h0 n3 m hg];rfl
theorem bZ9 {k:Nat}{m:i5} (hg:n9 .u64 h1.Grants) (nx:Ev (i8 l_) (aq8 d9 (k:Int) h0 (G9 h1 n3 m) x y z) r):Ev (i8 l_) (ten d9 (k:Int) 1 [m] h0 h1 x y z) r:=by
 refine .next (s' :=bA0 d9 (k:Int) 1 [m] 0 h0 h1 x y z) rfl (.next (s' :=bA0 d9 (k:Int) 1 [m] 1 h0 (G9 h1 n3 m) x y z) ?_ (.next (s' :=aq8 d9 (k:Int) h0 (G9 h1 n3 m) x y z) rfl nx))
 show(Q7 h1 n3 m).bind (fun y8=>some (Sum.inl (bA0 d9 (k:Int) 1 [m] 1 h0 y8 x y z)))=_
 rw[bf1 h1 n3 m hg];rfl
end
theorem cr0:aA0=some true:=by
 have a1:n9 .u64 (aw2 ⟨0,0,0,0⟩ 1 5).Grants:=H9.2 (by decide)
 have g1:=bf1 (aw2 ⟨0,0,0,0⟩ 1 5) n3 ⟨11,0,0,1,0,0,5,0,0,0,false,⟨0,0,0,0,0,0,0,0,0,0,[],[]⟩,[],[],[]⟩ a1
 have a2:=cD6 (aw2 ⟨0,0,0,0⟩ 1 5) n3 ⟨11,0,0,1,0,0,5,0,0,0,false,⟨0,0,0,0,0,0,0,0,0,0,[],[]⟩,[],[],[]⟩ a1
 have g2:=bf1 _ n3 ⟨11,2,0,1,0,0,5,0,0,0,false,⟨0,0,0,0,0,0,0,0,0,0,[],[]⟩,[],[],[]⟩ a2
 unfold n3 at g1 g2
 simp only[aA0,cg7,Option.bind_some,g1,g2,cn3]
 decide+kernel
theorem cP6 {k:Int} (h:0≤k∧k≤1):k=0∨k=1:=by omega
section
variable {l_ : List q6} {G : Gh} {h0 h1 : l6} {x y z : AD} {d9 : Int} {n : Nat} {r : Bool}
theorem cD9 (h:Al G h0 h1 x y z d9 n) (hn:0≤d9):Al G (aw2 h0 0 d9) h1 x y z d9 n∧Al G h0 (aw2 h1 0 d9) x y z d9 n:=
 ⟨⟨h.x,h.y,h.z,h.h0.ask hn,h.h1⟩,⟨h.x,h.y,h.z,h.h0,h.h1.ask hn⟩⟩
theorem cV3 {k:Nat}{q:Int} (hq:q=0) (h:Al G h0 h1 x y z d9 n) (hn:0≤d9) (hm:n≤8000000) (hk:k≤300) (nx:∀x' :AD,Al G h0 h1 x' y z d9 n→Ev (i8 l_) (six d9 ((k+1:Nat):Int) h0 h1 x' y z) r):∃x' :AD,z9 0 x.f x.a.down x.s x.t=some (x'.f,x'.a.down,x'.s,x'.t)∧x'.a.k=x.a.k∧Ev (i8 l_) (aM1 d9 (k:Int) q h0 h1 x' y z) r:=by
 obtain⟨x',c1,c2,c3⟩:=bB4 h.x hm
 obtain⟨e,w,d1,d2⟩:=bh9 (d8:=0) c3 hm hn
 refine⟨x',c1,c2,?_⟩
 have al:Al G h0 h1 w y z d9 n:=⟨d2,h.y,h.z,h.h0,h.h1⟩
 refine .next (s' :=aq8 d9 (k:Int) h0 h1 w y z) ?_ (J6 al hn k hk (nx w al))
 subst hq
 show(x5 d9 x'.a.k n3 0 x'.f x'.a.down x'.s x'.t).bind _=_
 rw[d1];rfl
theorem cU7 {k:Nat}{q:Int} (h:Al G h0 h1 x y z d9 n) (hn:0≤d9∧d9≤1099511627776) (hm:n≤8000000) (hk:k≤300) (nx:∀(G' :Gh) (g0 g1:l6) (x' :AD),Al G' g0 g1 x' y z d9 (n+4408)→Ev (i8 l_) (six d9 ((k+1:Nat):Int) g0 g1 x' y z) r):∃(m9:List i5) (x' :AD),p5 (H7 false q h0.Nonce) d9 x.a.k n3 0 x.f x.a.down x.s x.t=some (m9,x'.a.k,x'.f,x'.a.down,x'.s,x'.t)∧Ev (i8 l_) (ten d9 (k:Int) 0 m9 h0 h1 x' y z) r:=by
 have hN:=h.h0.nn
 have hG:=h.h0.gr
 obtain⟨m9,x',c1,c2⟩:=ax6 (d8:=0) (b:=false) (to:=q) (nn:=h0.Nonce) h.x hm hn (K2.2 (by omega))
 refine⟨m9,x',c1,?_⟩
 have mo:=h.more (m:=n+4408) (Int.le_refl d9) (by omega)
 rcases c2 with⟨rfl,c2⟩ | ⟨rfl,c2⟩
 ·have al:Al G h0 h1 x' y z d9 (n+4408):=⟨c2,mo.y,mo.z,h.h0,h.h1⟩
  exact aD7 (J6 al hn.1 k hk (nx G h0 h1 x' al))
 ·have le:GLe G (upG G 0 false d9):=bb2 fun kk u e=>(h.x.li.gr kk u e).2.1
  have same:∀i,i≠0→upG G 0 false d9 i=G i:=fun i hi=>if_neg hi
  have here:upG G 0 false d9 0=az1 (G 0) false d9:=if_pos rfl
  have gg:=(h.h0.mono le (Int.le_refl d9)).grant (j:=0) (to:=q) (by decide) ⟨d9,aO9,hN.2⟩
  have al:Al (upG G 0 false d9) (G9 h0 n3 (H1 0 (H7 false q h0.Nonce))) h1 x' y z d9 (n+4408):=⟨by rw[here];exact c2,by rw[same 1 (by decide)];exact mo.y,by rw[same 2 (by decide)];exact mo.z,gg,h.h1.mono le (Int.le_refl d9)⟩
  exact ch4 (H9.2 (by omega)) (J6 al hn.1 k hk (nx _ _ _ x' al))
theorem cT0 {k:Nat}{q:Int} (h:Al G h0 h1 x y z d9 n) (hn:0≤d9∧d9≤1099511627776) (hm:n≤8000000) (hk:k≤300) (nx:∀(G' :Gh) (g0 g1:l6) (x' :AD),Al G' g0 g1 x' y z d9 (n+4408)→Ev (i8 l_) (six d9 ((k+1:Nat):Int) g0 g1 x' y z) r):∃(m9:List i5) (x' :AD),p5 (H7 true q h1.Nonce) d9 x.a.k n3 0 x.f x.a.down x.s x.t=some (m9,x'.a.k,x'.f,x'.a.down,x'.s,x'.t)∧Ev (i8 l_) (ten d9 (k:Int) 1 m9 h0 h1 x' y z) r:=by
 have hN:=h.h1.nn
 have hG:=h.h1.gr
 obtain⟨m9,x',c1,c2⟩:=ax6 (d8:=0) (b:=true) (to:=q) (nn:=h1.Nonce) h.x hm hn (K2.2 (by omega))
 refine⟨m9,x',c1,?_⟩
 have mo:=h.more (m:=n+4408) (Int.le_refl d9) (by omega)
 rcases c2 with⟨rfl,c2⟩ | ⟨rfl,c2⟩
 ·have al:Al G h0 h1 x' y z d9 (n+4408):=⟨c2,mo.y,mo.z,h.h0,h.h1⟩
  exact aD7 (J6 al hn.1 k hk (nx G h0 h1 x' al))
 ·have le:GLe G (upG G 0 true d9):=bb2 fun kk u e=>(h.x.li.gr kk u e).2.1
  have same:∀i,i≠0→upG G 0 true d9 i=G i:=fun i hi=>if_neg hi
  have here:upG G 0 true d9 0=az1 (G 0) true d9:=if_pos rfl
  have gg:=(h.h1.mono le (Int.le_refl d9)).grant (j:=0) (to:=q) (by decide) ⟨d9,aO9,hN.2⟩
  have al:Al (upG G 0 true d9) h0 (G9 h1 n3 (H1 0 (H7 true q h1.Nonce))) x' y z d9 (n+4408):=⟨by rw[here];exact c2,by rw[same 1 (by decide)];exact mo.y,by rw[same 2 (by decide)];exact mo.z,h.h0.mono le (Int.le_refl d9),gg⟩
  exact bZ9 (H9.2 (by omega)) (J6 al hn.1 k hk (nx _ _ _ x' al))
theorem cV2 {k:Nat}{q:Int} (hq:q=1) (h:Al G h0 h1 x y z d9 n) (hn:0≤d9) (hm:n≤8000000) (hk:k≤300) (nx:∀y' :AD,Al G h0 h1 x y' z d9 n→Ev (i8 l_) (six d9 ((k+1:Nat):Int) h0 h1 x y' z) r):∃y' :AD,z9 0 y.f y.a.down y.s y.t=some (y'.f,y'.a.down,y'.s,y'.t)∧y'.a.k=y.a.k∧Ev (i8 l_) (aM1 d9 (k:Int) q h0 h1 x y' z) r:=by
 obtain⟨y',c1,c2,c3⟩:=bB4 h.y hm
 obtain⟨e,w,d1,d2⟩:=bh9 (d8:=1) c3 hm hn
 refine⟨y',c1,c2,?_⟩
 have al:Al G h0 h1 x w z d9 n:=⟨h.x,d2,h.z,h.h0,h.h1⟩
 refine .next (s' :=aq8 d9 (k:Int) h0 h1 x w z) ?_ (J6 al hn k hk (nx w al))
 subst hq
 show(x5 d9 y'.a.k n3 1 y'.f y'.a.down y'.s y'.t).bind _=_
 rw[d1];rfl
theorem cV4 {k:Nat}{q:Int} (h:Al G h0 h1 x y z d9 n) (hn:0≤d9∧d9≤1099511627776) (hm:n≤8000000) (hk:k≤300) (nx:∀(G' :Gh) (g0 g1:l6) (y' :AD),Al G' g0 g1 x y' z d9 (n+4408)→Ev (i8 l_) (six d9 ((k+1:Nat):Int) g0 g1 x y' z) r):∃(m9:List i5) (y' :AD),p5 (H7 false q h0.Nonce) d9 y.a.k n3 1 y.f y.a.down y.s y.t=some (m9,y'.a.k,y'.f,y'.a.down,y'.s,y'.t)∧Ev (i8 l_) (ten d9 (k:Int) 0 m9 h0 h1 x y' z) r:=by
 have hN:=h.h0.nn
 have hG:=h.h0.gr
 obtain⟨m9,y',c1,c2⟩:=ax6 (d8:=1) (b:=false) (to:=q) (nn:=h0.Nonce) h.y hm hn (K2.2 (by omega))
 refine⟨m9,y',c1,?_⟩
 have mo:=h.more (m:=n+4408) (Int.le_refl d9) (by omega)
 rcases c2 with⟨rfl,c2⟩ | ⟨rfl,c2⟩
 ·have al:Al G h0 h1 x y' z d9 (n+4408):=⟨mo.x,c2,mo.z,h.h0,h.h1⟩
  exact aD7 (J6 al hn.1 k hk (nx G h0 h1 y' al))
 ·have le:GLe G (upG G 1 false d9):=bb2 fun kk u e=>(h.y.li.gr kk u e).2.1
  have same:∀i,i≠1→upG G 1 false d9 i=G i:=fun i hi=>if_neg hi
  have here:upG G 1 false d9 1=az1 (G 1) false d9:=if_pos rfl
  have gg:=(h.h0.mono le (Int.le_refl d9)).grant (j:=1) (to:=q) (by decide) ⟨d9,aO9,hN.2⟩
  have al:Al (upG G 1 false d9) (G9 h0 n3 (H1 1 (H7 false q h0.Nonce))) h1 x y' z d9 (n+4408):=⟨by rw[same 0 (by decide)];exact mo.x,by rw[here];exact c2,by rw[same 2 (by decide)];exact mo.z,gg,h.h1.mono le (Int.le_refl d9)⟩
  exact ch4 (H9.2 (by omega)) (J6 al hn.1 k hk (nx _ _ _ y' al))
theorem cY4 {k:Nat}{q:Int} (h:Al G h0 h1 x y z d9 n) (hn:0≤d9∧d9≤1099511627776) (hm:n≤8000000) (hk:k≤300) (nx:∀(G' :Gh) (g0 g1:l6) (y' :AD),Al G' g0 g1 x y' z d9 (n+4408)→Ev (i8 l_) (six d9 ((k+1:Nat):Int) g0 g1 x y' z) r):∃(m9:List i5) (y' :AD),p5 (H7 true q h1.Nonce) d9 y.a.k n3 1 y.f y.a.down y.s y.t=some (m9,y'.a.k,y'.f,y'.a.down,y'.s,y'.t)∧Ev (i8 l_) (ten d9 (k:Int) 1 m9 h0 h1 x y' z) r:=by
 have hN:=h.h1.nn
 have hG:=h.h1.gr
 obtain⟨m9,y',c1,c2⟩:=ax6 (d8:=1) (b:=true) (to:=q) (nn:=h1.Nonce) h.y hm hn (K2.2 (by omega))
 refine⟨m9,y',c1,?_⟩
 have mo:=h.more (m:=n+4408) (Int.le_refl d9) (by omega)
 rcases c2 with⟨rfl,c2⟩ | ⟨rfl,c2⟩
 ·have al:Al G h0 h1 x y' z d9 (n+4408):=⟨mo.x,c2,mo.z,h.h0,h.h1⟩
  exact aD7 (J6 al hn.1 k hk (nx G h0 h1 y' al))
 ·have le:GLe G (upG G 1 true d9):=bb2 fun kk u e=>(h.y.li.gr kk u e).2.1
  have same:∀i,i≠1→upG G 1 true d9 i=G i:=fun i hi=>if_neg hi
  have here:upG G 1 true d9 1=az1 (G 1) true d9:=if_pos rfl
  have gg:=(h.h1.mono le (Int.le_refl d9)).grant (j:=1) (to:=q) (by decide) ⟨d9,aO9,hN.2⟩
  have al:Al (upG G 1 true d9) h0 (G9 h1 n3 (H1 1 (H7 true q h1.Nonce))) x y' z d9 (n+4408):=⟨by rw[same 0 (by decide)];exact mo.x,by rw[here];exact c2,by rw[same 2 (by decide)];exact mo.z,h.h0.mono le (Int.le_refl d9),gg⟩
  exact bZ9 (H9.2 (by omega)) (J6 al hn.1 k hk (nx _ _ _ y' al))
theorem cX2 {k:Nat}{q:Int} (hq:q=2) (h:Al G h0 h1 x y z d9 n) (hn:0≤d9) (hm:n≤8000000) (hk:k≤300) (nx:∀z' :AD,Al G h0 h1 x y z' d9 n→Ev (i8 l_) (six d9 ((k+1:Nat):Int) h0 h1 x y z') r):∃z' :AD,z9 0 z.f z.a.down z.s z.t=some (z'.f,z'.a.down,z'.s,z'.t)∧z'.a.k=z.a.k∧Ev (i8 l_) (aM1 d9 (k:Int) q h0 h1 x y z') r:=by
 obtain⟨z',c1,c2,c3⟩:=bB4 h.z hm
 obtain⟨e,w,d1,d2⟩:=bh9 (d8:=2) c3 hm hn
 refine⟨z',c1,c2,?_⟩
 have al:Al G h0 h1 x y w d9 n:=⟨h.x,h.y,d2,h.h0,h.h1⟩
 refine .next (s' :=aq8 d9 (k:Int) h0 h1 x y w) ?_ (J6 al hn k hk (nx w al))
 subst hq
 show(x5 d9 z'.a.k n3 2 z'.f z'.a.down z'.s z'.t).bind _=_
 rw[d1];rfl
theorem cX4 {k:Nat}{q:Int} (h:Al G h0 h1 x y z d9 n) (hn:0≤d9∧d9≤1099511627776) (hm:n≤8000000) (hk:k≤300) (nx:∀(G' :Gh) (g0 g1:l6) (z' :AD),Al G' g0 g1 x y z' d9 (n+4408)→Ev (i8 l_) (six d9 ((k+1:Nat):Int) g0 g1 x y z') r):∃(m9:List i5) (z' :AD),p5 (H7 false q h0.Nonce) d9 z.a.k n3 2 z.f z.a.down z.s z.t=some (m9,z'.a.k,z'.f,z'.a.down,z'.s,z'.t)∧Ev (i8 l_) (ten d9 (k:Int) 0 m9 h0 h1 x y z') r:=by
 have hN:=h.h0.nn
 have hG:=h.h0.gr
 obtain⟨m9,z',c1,c2⟩:=ax6 (d8:=2) (b:=false) (to:=q) (nn:=h0.Nonce) h.z hm hn (K2.2 (by omega))
 refine⟨m9,z',c1,?_⟩
 have mo:=h.more (m:=n+4408) (Int.le_refl d9) (by omega)
 rcases c2 with⟨rfl,c2⟩ | ⟨rfl,c2⟩
 ·have al:Al G h0 h1 x y z' d9 (n+4408):=⟨mo.x,mo.y,c2,h.h0,h.h1⟩
  exact aD7 (J6 al hn.1 k hk (nx G h0 h1 z' al))
 ·have le:GLe G (upG G 2 false d9):=bb2 fun kk u e=>(h.z.li.gr kk u e).2.1
  have same:∀i,i≠2→upG G 2 false d9 i=G i:=fun i hi=>if_neg hi
  have here:upG G 2 false d9 2=az1 (G 2) false d9:=if_pos rfl
  have gg:=(h.h0.mono le (Int.le_refl d9)).grant (j:=2) (to:=q) (by decide) ⟨d9,aO9,hN.2⟩
  have al:Al (upG G 2 false d9) (G9 h0 n3 (H1 2 (H7 false q h0.Nonce))) h1 x y z' d9 (n+4408):=⟨by rw[same 0 (by decide)];exact mo.x,by rw[same 1 (by decide)];exact mo.y,by rw[here];exact c2,gg,h.h1.mono le (Int.le_refl d9)⟩
  exact ch4 (H9.2 (by omega)) (J6 al hn.1 k hk (nx _ _ _ z' al))
theorem cV9 {k:Nat}{q:Int} (h:Al G h0 h1 x y z d9 n) (hn:0≤d9∧d9≤1099511627776) (hm:n≤8000000) (hk:k≤300) (nx:∀(G' :Gh) (g0 g1:l6) (z' :AD),Al G' g0 g1 x y z' d9 (n+4408)→Ev (i8 l_) (six d9 ((k+1:Nat):Int) g0 g1 x y z') r):∃(m9:List i5) (z' :AD),p5 (H7 true q h1.Nonce) d9 z.a.k n3 2 z.f z.a.down z.s z.t=some (m9,z'.a.k,z'.f,z'.a.down,z'.s,z'.t)∧Ev (i8 l_) (ten d9 (k:Int) 1 m9 h0 h1 x y z') r:=by
 have hN:=h.h1.nn
 have hG:=h.h1.gr
 obtain⟨m9,z',c1,c2⟩:=ax6 (d8:=2) (b:=true) (to:=q) (nn:=h1.Nonce) h.z hm hn (K2.2 (by omega))
 refine⟨m9,z',c1,?_⟩
 have mo:=h.more (m:=n+4408) (Int.le_refl d9) (by omega)
 rcases c2 with⟨rfl,c2⟩ | ⟨rfl,c2⟩
 ·have al:Al G h0 h1 x y z' d9 (n+4408):=⟨mo.x,mo.y,c2,h.h0,h.h1⟩
  exact aD7 (J6 al hn.1 k hk (nx G h0 h1 z' al))
 ·have le:GLe G (upG G 2 true d9):=bb2 fun kk u e=>(h.z.li.gr kk u e).2.1
  have same:∀i,i≠2→upG G 2 true d9 i=G i:=fun i hi=>if_neg hi
  have here:upG G 2 true d9 2=az1 (G 2) true d9:=if_pos rfl
  have gg:=(h.h1.mono le (Int.le_refl d9)).grant (j:=2) (to:=q) (by decide) ⟨d9,aO9,hN.2⟩
  have al:Al (upG G 2 true d9) h0 (G9 h1 n3 (H1 2 (H7 true q h1.Nonce))) x y z' d9 (n+4408):=⟨by rw[same 0 (by decide)];exact mo.x,by rw[same 1 (by decide)];exact mo.y,by rw[here];exact c2,h.h0.mono le (Int.le_refl d9),gg⟩
  exact bZ9 (H9.2 (by omega)) (J6 al hn.1 k hk (nx _ _ _ z' al))
end
theorem leaseOne (l_:List q6) (hl:l_.length*32≤reachBytes∧∀y∈l_,y.Ok):aD8 l_=some true:=by
 have nw:∀j:Int,0≤j∧j≤2→H3 n3 j=some (.r1 (v8 n3) (-1) false [] []):=fun j hj=>by
  rw[cS9 cf1,if_pos ⟨aS4,by omega,by omega⟩]
 have n0:=nw 0 (by decide)
 have n1:=nw 1 (by decide)
 have n2:=nw 2 (by decide)
 have s0:i8 l_ .s0=some (.inl (.s1 true (decide ((l_.length:Int)>300)))):=by
  unfold n3 at n0
  simp only[i8,ai3,cr0,Option.bind_some,List.length_map,n0]
  cases decide ((l_.length:Int)>300)<;>rfl
 by_cases hg:l_.length≤300
 rotate_left
 ·refine D7 (.next s0 (.done ?_))
  rw[decide_eq_true (by omega)];rfl
 rw[decide_eq_false (by omega)] at s0
 let x0:AD:=⟨a0 n3,-1,[],[]⟩
 have key:∀(j i:Nat) (G:Gh) (h0 h1:l6) (x y z:AD) (d9:Int),i+j=l_.length→0≤d9→d9≤255*i→Al G h0 h1 x y z d9 (4408*i)→Ev (i8 l_) (six d9 (i:Int) h0 h1 x y z) true:=by
  intro j
  induction j with
  | zero=>
   intro i G h0 h1 x y z d9 hi _ _ _
   refine .done ?_
   simp only[six,i8,u4,List.length_map,geB (show l_.length≤i by omega),cond_false]
  | succ j ih=>
   intro i G h0 h1 x y z d9 hi hn0 hn1 al
   have hlt:i<l_.length:=by omega
   have ho:=hl.2 _ (List.getElem_mem hlt)
   have hA:=cS7.1 ho.1
   have w1:IntKind.i64.wrap (l_[i]).A_=(l_[i]).A_:=F4 (by omega) (by omega)
   have w2:IntKind.i64.wrap (d9+(l_[i]).A_)=d9+(l_[i]).A_:=F4 (by omega) (by omega)
   have al' :=al.more (n' :=d9+(l_[i]).A_) (m:=4408*i) (by omega) (Nat.le_refl _)
   have hm:4408*i≤8000000:=by omega
   have hnow:0≤d9+(l_[i]).A_∧d9+(l_[i]).A_≤1099511627776:=by omega
   have nx:∀(G' :Gh) (g0 g1:l6) (x y z:AD) (m:Nat),m≤4408*(i+1)→Al G' g0 g1 x y z (d9+(l_[i]).A_) m→Ev (i8 l_) (six (d9+(l_[i]).A_) ((i+1:Nat):Int) g0 g1 x y z) true:=fun G' g0 g1 x y z m hm' al2=>
    ih (i+1) G' g0 g1 x y z _ (by omega) hnow.1 (by omega) (al2.more (Int.le_refl _) hm')
   have hk:=cm1 (l_[i]).Who (m:=1) (by decide)
   have hq:=cm1 (l_[i]).To (m:=255) (by decide)
   have hk2:k9 .i64 (l_[i]).Who 1=0∨k9 .i64 (l_[i]).Who 1=1:=cP6 hk
   have hq2:Int.tmod (k9 .i64 (l_[i]).To 255) 3=0∨Int.tmod (k9 .i64 (l_[i]).To 255) 3=1∨Int.tmod (k9 .i64 (l_[i]).To 255) 3=2:=by
    have hq:0≤k9 .i64 (l_[i]).To 255:=hq.1
    rw[Int.tmod_eq_emod_of_nonneg hq]
    omega
   by_cases c0:k9 .i64 (l_[i]).What 3=0
   ·obtain⟨u0,u1⟩:=cD9 al' hnow.1
    rcases hk2 with e | e
    ·refine .next (s' :=aq8 (d9+(l_[i]).A_) (i:Int) (aw2 h0 0 (d9+(l_[i]).A_)) h1 x y z) ?_ (J6 u0 hnow.1 i (by omega) (nx _ _ _ _ _ _ _ (by omega) u0))
     simp only[six,i8,u4,List.length_map,M6 hlt,V3,Bool.and_self,cond_true,Int.toNat_natCast,List.getE hlt,Option.bind_some,beq_iff_eq.2 c0,w1,w2,e]
     show(ah4 h0 0 (d9+(l_[i]).A_)).bind _=_
     rw[cg7];rfl
    ·refine .next (s' :=aq8 (d9+(l_[i]).A_) (i:Int) h0 (aw2 h1 0 (d9+(l_[i]).A_)) x y z) ?_ (J6 u1 hnow.1 i (by omega) (nx _ _ _ _ _ _ _ (by omega) u1))
     simp only[six,i8,u4,List.length_map,M6 hlt,V3,Bool.and_self,cond_true,Int.toNat_natCast,List.getE hlt,Option.bind_some,beq_iff_eq.2 c0,w1,w2,e]
     show(ah4 h1 0 (d9+(l_[i]).A_)).bind _=_
     rw[cg7];rfl
   ·by_cases c2:k9 .i64 (l_[i]).What 3=2
    ·rcases hq2 with e | e | e
     ·obtain⟨x',d1,d2,d3⟩:=cV3 (l_:=l_) (q:=0) (k:=i) (r:=true) rfl al' hnow.1 hm (by omega) (fun w aw=>nx _ _ _ w y z _ (by omega) aw)
      refine .next (s' :=aM1 (d9+(l_[i]).A_) (i:Int) 0 h0 h1 x' y z) ?_ d3
      simp only[six,i8,u4,List.length_map,M6 hlt,V3,Bool.and_self,cond_true,cond_false,Int.toNat_natCast,List.getE hlt,Option.bind_some,beq_eq_false_iff_ne.2 c0,beq_iff_eq.2 c2,w1,w2,e]
      show(z9 0 x.f x.a.down x.s x.t).bind _=_
      rw[d1]
      show some (Sum.inl _)=some (Sum.inl _)
      rw[aM1,d2]
     ·obtain⟨y',d1,d2,d3⟩:=cV2 (l_:=l_) (q:=1) (k:=i) (r:=true) rfl al' hnow.1 hm (by omega) (fun w aw=>nx _ _ _ x w z _ (by omega) aw)
      refine .next (s' :=aM1 (d9+(l_[i]).A_) (i:Int) 1 h0 h1 x y' z) ?_ d3
      simp only[six,i8,u4,List.length_map,M6 hlt,V3,Bool.and_self,cond_true,cond_false,Int.toNat_natCast,List.getE hlt,Option.bind_some,beq_eq_false_iff_ne.2 c0,beq_iff_eq.2 c2,w1,w2,e]
      show(z9 0 y.f y.a.down y.s y.t).bind _=_
      rw[d1]
      show some (Sum.inl _)=some (Sum.inl _)
      rw[aM1,d2]
     ·obtain⟨z',d1,d2,d3⟩:=cX2 (l_:=l_) (q:=2) (k:=i) (r:=true) rfl al' hnow.1 hm (by omega) (fun w aw=>nx _ _ _ x y w _ (by omega) aw)
      refine .next (s' :=aM1 (d9+(l_[i]).A_) (i:Int) 2 h0 h1 x y z') ?_ d3
      simp only[six,i8,u4,List.length_map,M6 hlt,V3,Bool.and_self,cond_true,cond_false,Int.toNat_natCast,List.getE hlt,Option.bind_some,beq_eq_false_iff_ne.2 c0,beq_iff_eq.2 c2,w1,w2,e]
      show(z9 0 z.f z.a.down z.s z.t).bind _=_
      rw[d1]
      show some (Sum.inl _)=some (Sum.inl _)
      rw[aM1,d2]
    ·rcases hq2 with e | e | e<;>rcases hk2 with e2 | e2
     ·obtain⟨m9,x',d1,d2⟩:=cU7 (l_:=l_) (q:=0) (k:=i) (r:=true) al' hnow hm (by omega) (fun G' g0 g1 w aw=>nx G' g0 g1 w y z _ (by omega) aw)
      refine .next (s' :=ten (d9+(l_[i]).A_) (i:Int) 0 m9 h0 h1 x' y z) ?_ d2
      simp only[six,i8,u4,List.length_map,M6 hlt,V3,Bool.and_self,cond_true,cond_false,Int.toNat_natCast,List.getE hlt,Option.bind_some,beq_eq_false_iff_ne.2 c0,beq_eq_false_iff_ne.2 c2,w1,w2,e,e2]
      show(p5 (H7 false 0 h0.Nonce) (d9+(l_[i]).A_) x.a.k n3 0 x.f x.a.down x.s x.t).bind _=_
      rw[d1];rfl
     ·obtain⟨m9,x',d1,d2⟩:=cT0 (l_:=l_) (q:=0) (k:=i) (r:=true) al' hnow hm (by omega) (fun G' g0 g1 w aw=>nx G' g0 g1 w y z _ (by omega) aw)
      refine .next (s' :=ten (d9+(l_[i]).A_) (i:Int) 1 m9 h0 h1 x' y z) ?_ d2
      simp only[six,i8,u4,List.length_map,M6 hlt,V3,Bool.and_self,cond_true,cond_false,Int.toNat_natCast,List.getE hlt,Option.bind_some,beq_eq_false_iff_ne.2 c0,beq_eq_false_iff_ne.2 c2,w1,w2,e,e2]
      show(p5 (H7 true 0 h1.Nonce) (d9+(l_[i]).A_) x.a.k n3 0 x.f x.a.down x.s x.t).bind _=_
      rw[d1];rfl
     ·obtain⟨m9,y',d1,d2⟩:=cV4 (l_:=l_) (q:=1) (k:=i) (r:=true) al' hnow hm (by omega) (fun G' g0 g1 w aw=>nx G' g0 g1 x w z _ (by omega) aw)
      refine .next (s' :=ten (d9+(l_[i]).A_) (i:Int) 0 m9 h0 h1 x y' z) ?_ d2
      simp only[six,i8,u4,List.length_map,M6 hlt,V3,Bool.and_self,cond_true,cond_false,Int.toNat_natCast,List.getE hlt,Option.bind_some,beq_eq_false_iff_ne.2 c0,beq_eq_false_iff_ne.2 c2,w1,w2,e,e2]
      show(p5 (H7 false 1 h0.Nonce) (d9+(l_[i]).A_) y.a.k n3 1 y.f y.a.down y.s y.t).bind _=_
      rw[d1];rfl
     ·obtain⟨m9,y',d1,d2⟩:=cY4 (l_:=l_) (q:=1) (k:=i) (r:=true) al' hnow hm (by omega) (fun G' g0 g1 w aw=>nx G' g0 g1 x w z _ (by omega) aw)
      refine .next (s' :=ten (d9+(l_[i]).A_) (i:Int) 1 m9 h0 h1 x y' z) ?_ d2
      simp only[six,i8,u4,List.length_map,M6 hlt,V3,Bool.and_self,cond_true,cond_false,Int.toNat_natCast,List.getE hlt,Option.bind_some,beq_eq_false_iff_ne.2 c0,beq_eq_false_iff_ne.2 c2,w1,w2,e,e2]
      show(p5 (H7 true 1 h1.Nonce) (d9+(l_[i]).A_) y.a.k n3 1 y.f y.a.down y.s y.t).bind _=_
      rw[d1];rfl
     ·obtain⟨m9,z',d1,d2⟩:=cX4 (l_:=l_) (q:=2) (k:=i) (r:=true) al' hnow hm (by omega) (fun G' g0 g1 w aw=>nx G' g0 g1 x y w _ (by omega) aw)
      refine .next (s' :=ten (d9+(l_[i]).A_) (i:Int) 0 m9 h0 h1 x y z') ?_ d2
      simp only[six,i8,u4,List.length_map,M6 hlt,V3,Bool.and_self,cond_true,cond_false,Int.toNat_natCast,List.getE hlt,Option.bind_some,beq_eq_false_iff_ne.2 c0,beq_eq_false_iff_ne.2 c2,w1,w2,e,e2]
      show(p5 (H7 false 2 h0.Nonce) (d9+(l_[i]).A_) z.a.k n3 2 z.f z.a.down z.s z.t).bind _=_
      rw[d1];rfl
     ·obtain⟨m9,z',d1,d2⟩:=cV9 (l_:=l_) (q:=2) (k:=i) (r:=true) al' hnow hm (by omega) (fun G' g0 g1 w aw=>nx G' g0 g1 x y w _ (by omega) aw)
      refine .next (s' :=ten (d9+(l_[i]).A_) (i:Int) 1 m9 h0 h1 x y z') ?_ d2
      simp only[six,i8,u4,List.length_map,M6 hlt,V3,Bool.and_self,cond_true,cond_false,Int.toNat_natCast,List.getE hlt,Option.bind_some,beq_eq_false_iff_ne.2 c0,beq_eq_false_iff_ne.2 c2,w1,w2,e,e2]
      show(p5 (H7 true 2 h1.Nonce) (d9+(l_[i]).A_) z.a.k n3 2 z.f z.a.down z.s z.t).bind _=_
      rw[d1];rfl
 have al0:Al (fun _ _=>none) ⟨0,0,0,0⟩ ⟨0,0,0,0⟩ x0 x0 x0 0 (4408*0):=⟨⟨bM5 aS4,LI.new⟩,⟨bM5 aS4,LI.new⟩,⟨bM5 aS4,LI.new⟩,HI.zero,HI.zero⟩
 have fin:=key l_.length 0 _ _ _ x0 x0 x0 0 (by omega) (Int.le_refl _) (by omega) al0
 refine D7 (.next s0 (.next (s' :=.s2 true) rfl (.next (s' :=.s3 true (v8 n3) n3 0 (-1) false [] []) ?_ (.next (s' :=.s4 true (v8 n3) n3 0 (v8 n3) n3 1 (-1) false (-1) false [] [] [] []) ?_ (.next (s' :=.s5 true (v8 n3) n3 0 (v8 n3) n3 1 (v8 n3) n3 2 (-1) false (-1) false (-1) false [] [] [] [] [] []) ?_ (.next (s' :=six 0 ((0:Nat):Int) ⟨0,0,0,0⟩ ⟨0,0,0,0⟩ x0 x0 x0) rfl fin))))))
 ·show(H3 n3 0).bind _=_
  rw[n0];rfl
 ·show(H3 n3 1).bind _=_
  rw[n1];rfl
 ·show(H3 n3 2).bind _=_
  rw[n2];rfl
end Go.RX.L
