/-
  Words and walks for DeciderProposes. No condition.
-/
import Derived.Test.YtajehicfjidaiaaGreatDoorDeciderProposesX2
set_option linter.unusedSectionVars false
set_option linter.unnecessarySimpa false
set_option linter.unusedVariables false
namespace Go.RX
open Go
class Mix (E:L6):Prop where
 hm:E.P.follows .mixedOrders=true
def Rs {R:Type} (e:R→D×i0) (r:R) (d:D) (s:i0):Prop:=d=(e r).1∧s=(e r).2
def dG7 (fr:Fr):Nat:=fr.foldl (fun m x=>m ||| K1 x.1) 0
def C3 (fn:Func) (args:List D) (σ:i0):M:=⟨[.code (u6 fn)],(List.range args.length).zip args,σ⟩
def AOk (E:L6) (C:Cx) {R:Type} (e:R→D×i0) (m:M) (o:Option R):Prop:=∀⦃r:R⦄,o=some r→i4 E C (QW (Rs e r)) (.go m)
def SOk (E:L6) (C:Cx) {S R:Type} (e:R→D×i0) (H9:S→M) (s:S) (o:Option (S⊕R)):Prop:=∀(r:R) (x:S⊕R),o=some x→aZ6 E C (Rs e) H9 r x→i4 E C (QW (Rs e r)) (.go (H9 s))
section
variable {E : L6} [Mix E] {C : Cx} {Q : D → i0 → Prop} {q : Qy} {α : Type} {r : α}
theorem zs {c:Bool}{A B:Option α} (n:Nat) (h:(bif c then A else B)=some r) (ht:A=some r→i4 E C Q ((S5 E C n q).splitK true)) (hf:B=some r→i4 E C Q ((S5 E C n q).splitK false)) (hq:(S5 E C n q).splitB=some c:=by kernel_rfl):i4 E C Q q:=
 n8 Mix.hm n q (et5 h hq (fun _=>ht) fun _=>hf)
theorem zn {c:Bool}{A:Option α} (n:Nat) (h:(bif c then A else none)=some r) (hk:A=some r→i4 E C Q (S5 E C n q).needK) (hq:(S5 E C n q).needB=some c:=by kernel_rfl):i4 E C Q q:=
 n8 Mix.hm n q (eB5 h hq fun _=>hk)
theorem zr {β:Type}{l:List β}{i:Nat}{F:β→Option α} (n:Nat) (en:β→List D) (h:(l[i]?).bind F=some r) (hk:∀y,F y=some r→i4 E C Q ((S5 E C n q).rowK (en y))) (hq:(S5 E C n q).rowR=some ((l.map en)[i]?):=by kernel_rfl):i4 E C Q q:=
 n8 Mix.hm n q (dT8 _ en h hq List.getElem?_map fun y _=>hk y)
theorem zc {β:Type}{o:Option β}{F:β→Option α}{f:FuncId}{args:List D}{sub:i0}{e:β→D×i0} (n:Nat) (ns:List (Option Nat)) (h:o.bind F=some r) (hs:∀y,o=some y→i7 E f args sub (Rs e y)) (hk:∀y,F y=some r→i4 E C Q ((S5 E C n q).callK (e y).1 (e y).2)) (hq:(S5 E C n q).callF ns=some (f,args,sub):=by kernel_rfl):i4 E C Q q:=
 n8 Mix.hm n q (eD1 ns (fun y=>(e y).1) (fun y=>(e y).2) h hq hs fun y _=>hk y)
theorem zd {β:Type}{o:Option β}{F:β→Option α}{f:FuncId}{args:List D}{e:β→D×i0} (n:Nat) (ns:List (Option Nat)) (h:o.bind F=some r) (hs:∀y,o=some y→i7 E f args [] (Rs e y)) (hk:∀y,F y=some r→i4 E C Q ((S5 E C n q).callDK (e y).1)) (he:∀y,(e y).2= []:=by exact fun _=>rfl) (hq:(S5 E C n q).callDF ns=some (f,args):=by kernel_rfl):i4 E C Q q:=
 n8 Mix.hm n q (eu0 ns (fun y=>(e y).1) h hq (fun y hy=>(hs y hy).mono fun d s hh=>⟨hh.1,hh.2.trans (he y)⟩) fun y _=>hk y)
theorem zcE {β:Type}{o:Option β}{F:β→Option α}{f:FuncId}{args1 args:List D}{sub1 sub:i0}{e:β→D×i0} (n:Nat) (ns:List (Option Nat)) (h:o.bind F=some r) (hs:∀y,o=some y→i7 E f args sub (Rs e y)) (he:args1=args∧sub1=sub) (hk:∀y,F y=some r→i4 E C Q ((S5 E C n q).callK (e y).1 (e y).2)) (hq:(S5 E C n q).callF ns=some (f,args1,sub1):=by kernel_rfl):i4 E C Q q:=by
 obtain⟨rfl,rfl⟩:=he
 exact zc n ns h hs hk hq
theorem zdE {β:Type}{o:Option β}{F:β→Option α}{f:FuncId}{args1 args:List D}{e:β→D×i0} (n:Nat) (ns:List (Option Nat)) (h:o.bind F=some r) (hs:∀y,o=some y→i7 E f args [] (Rs e y)) (ha:args1=args) (hk:∀y,F y=some r→i4 E C Q ((S5 E C n q).callDK (e y).1)) (he:∀y,(e y).2= []:=by exact fun _=>rfl) (hq:(S5 E C n q).callDF ns=some (f,args1):=by kernel_rfl):i4 E C Q q:=by
 subst ha
 exact zd n ns h hs hk he hq
theorem i7.sub {f:FuncId}{args:List D}{sub sub' :i0}{fr' :Fr}{l:List Fx}{Qc:D→i0→Prop} (h:fxs l ([],sub)=some (fr',sub')) (hs:i7 E f args sub' Qc):i7 E f args sub Qc:=fun w Im φ vs hg hi ha=>by
 obtain⟨φ1,a1,a2,a3,a4,-⟩:=cp9 h sub.length w Im φ (fun _=>undef) (Nat.le_of_eq hi.len.symm) hi (fun t=> .undef _)
 refine(hs w Im φ1 vs hg a4 ⟨ha.1,fun i d v e1 e2=>(ha.2 i d v e1 e2).mono (fun _ h=>h) (fun _ _=>rfl) a1⟩).mono ?_
 rintro e w' ⟨v,d,s2,φ2,I2,rfl,b1,b2,b3,b4⟩
 exact⟨v,d,s2,φ2,I2,rfl,a3.trans (b1.le (by rw[←hi.len,←a4.len];exact a2)),b2,b3,b4⟩
def Qy.callFx (l:List Fx) (ns:List (Option Nat)):Qy→Option (FuncId×List D×i0)
 | .call f args sub _=>(match cr7 ns args,fxs l ([],sub) with | some a,some x=>some (f,a,x.2) | _,_=>none)
 | _=>none
theorem zcx {β:Type}{o:Option β}{F:β→Option α}{f:FuncId}{args1 args:List D}{sub1 sub:i0}{e:β→D×i0} (n:Nat) (ns:List (Option Nat)) (l:List Fx) (h:o.bind F=some r) (hs:∀y,o=some y→i7 E f args sub (Rs e y)) (hk:∀y,F y=some r→i4 E C Q ((S5 E C n q).callK (e y).1 (e y).2)) (he:args1=args∧sub1=sub:=by exact⟨rfl,rfl⟩) (hq:(S5 E C n q).callFx l ns=some (f,args1,sub1):=by kernel_rfl):i4 E C Q q:=by
 obtain⟨rfl,rfl⟩:=he
 refine n8 Mix.hm n q ?_
 generalize S5 E C n q=q' at hk hq
 cases q' with
 | call f' args' sub' k=>
  simp only[Qy.callFx] at hq
  split at hq
  ·rename_i a x h1 h2
   simp only[Option.some.injEq,Prod.mk.injEq] at hq
   obtain⟨rfl,rfl,rfl⟩:=hq
   cases o with
   | none=>cases h
   | some y=>exact⟨Rs e y,i7.sub (fr' :=x.1) h2 ((hs y rfl).args h1),fun d' s' ⟨e1,e2⟩=>by rw[e1,e2];exact hk y h⟩
  ·cases hq
 | _=>cases hq
def Qy.callRF (ns:List (Option Nat)):Qy→Option (FuncId×List D×i0)
 | .callR f args sub _ _ _=>(match cr7 ns args with | some a=>some (f,a,sub) | none=>none)
 | _=>none
theorem zdR {β:Type}{o:Option β}{F:β→Option α}{f:FuncId}{args:List D}{sub:i0}{e:β→D×i0} (n:Nat) (ns:List (Option Nat)) (h:o.bind F=some r) (hs:∀y,o=some y→i7 E f args sub (Rs e y)) (hk:∀y,F y=some r→i4 E C Q ((S5 E C n q).callRK (e y).1 (e y).2)) (hq:(S5 E C n q).callRF ns=some (f,args,sub):=by kernel_rfl) (ht:∀y,(S5 E C n q).callRT (e y).1 (e y).2=some (S5 E C n q).callRS:=by intro y;kernel_rfl):i4 E C Q q:=by
 refine n8 Mix.hm n q ?_
 generalize S5 E C n q=q' at hk hq ht
 cases q' with
 | callR f' args' sub' σ bk k=>
  simp only[Qy.callRF] at hq
  split at hq
  ·rename_i a ha
   simp only[Option.some.injEq,Prod.mk.injEq] at hq
   obtain⟨rfl,rfl,rfl⟩:=hq
   cases o with
   | none=>cases h
   | some y=>
    have h1:=ht y
    have h2:=hk y h
    simp only[Qy.callRT,Qy.callRS,Option.map_eq_some_iff] at h1
    obtain⟨x,hx,h1⟩:=h1
    simp only[Qy.callRK,hx] at h2
    exact⟨_,_,x,(hs y rfl).args ha,hx,h1,h2⟩
  ·cases hq
 | _=>cases hq
theorem zg (n:Nat) {m:M} (h:i4 E C Q (.go m)) (l:List Fx:= []) (hq:(S5 E C n q).cut C (dG7 m.fr) l=some m:=by kernel_rfl):i4 E C Q q:=
 n8 Mix.hm n q (ay5 _ l hq h)
theorem zu {fn:Func}{k:Bool}{m:Nat}{q:Qy}{R:Type}{r r' :R}{e:R→D×i0} (n:Nat) (h:some r' =some r) (l:List Fx:= []) (hq:(S5 E (.of fn k m) n q).retF l=some (e r'):=by kernel_rfl):i4 E (.of fn k m) (QW (Rs e r)) q:=by
 obtain rfl:=Option.some.inj h
 exact n8 Mix.hm n q (aY9 l (d:=(e r').1) (s:=(e r').2) hq Cx.fin_of ⟨rfl,rfl⟩)
theorem zj {S R:Type}{e:R→D×i0}{H9:S→M}{s:S}{x:S⊕R}{r:R} (n:Nat) (h:some (.inl s)=some x) (ha:aZ6 E C (Rs e) H9 r x) (hq:S5 E C n q=.go (H9 s):=by kernel_rfl):i4 E C (QW (Rs e r)) q:=by
 obtain rfl:=Option.some.inj h
 exact n8 Mix.hm n q (by rw[hq];exact ha)
theorem zk {S R:Type}{e:R→D×i0}{H9:S→M}{s:S}{x:S⊕R}{r:R} (n:Nat) (h:some (.inl s)=some x) (ha:aZ6 E C (Rs e) H9 r x) (l:List Fx:= []) (hq:(S5 E C n q).cut C (dG7 (H9 s).fr) l=some (H9 s):=by kernel_rfl):i4 E C (QW (Rs e r)) q:=by
 obtain rfl:=Option.some.inj h
 exact zg n ha l hq
theorem zt {fn:Func}{k:Bool}{m:Nat}{q:Qy}{S R:Type}{e:R→D×i0}{H9:S→M}{r r' :R}{x:S⊕R} (n:Nat) (h:some (.inr r')=some x) (ha:aZ6 E (.of fn k m) (Rs e) H9 r x) (l:List Fx:= []) (hq:(S5 E (.of fn k m) n q).retF l=some (e r'):=by kernel_rfl):i4 E (.of fn k m) (QW (Rs e r)) q:=by
 obtain rfl:=Option.some.inj h
 obtain rfl:r' =r:=ha
 exact n8 Mix.hm n q (aY9 l (d:=(e r').1) (s:=(e r').2) hq Cx.fin_of ⟨rfl,rfl⟩)
theorem zm (n:Nat) {b:Bool} (hb:b=true) (hk:i4 E C Q (S5 E C n q).needK) (hq:(S5 E C n q).needB=some b:=by kernel_rfl):i4 E C Q q:=
 n8 Mix.hm n q (es8 hq hb hk)
theorem zw (n:Nat) {a b:List (List D)} (hr:a=b) (hk:i4 E C Q ((S5 E C n q).rowsK b)) (hq:(S5 E C n q).rowsR=some a:=by kernel_rfl):i4 E C Q q:=
 n8 Mix.hm n q (dV5 a b hq hr hk)
theorem za {β:Type} (n:Nat) (en:β→List D) (l xs:List β) (hk:i4 E C Q ((S5 E C n q).needK.rowsK ((l++xs).map en))) (hn:(S5 E C n q).needB=some (Nat.ble (0+(l.map en).length) (l.map en).length):=by kernel_rfl) (hq:(S5 E C n q).needK.rowsR=some (List.take (l.map en).length (List.drop 0 (l.map en))++xs.map en):=by kernel_rfl):i4 E C Q q:=
 zm n (A7 _) (dV5 _ _ hq (ei0 _ _ _) hk) hn
def Qy.fxK (l:List Fx):Qy→Qy
 | .go m=>(match fxs l (m.fr,m.st) with | some x=> .go ⟨m.td,x.1,x.2⟩ | none=> .bad)
 | _=> .bad
theorem eF0 {l:List Fx} (h:i4 E C Q (q.fxK l)):i4 E C Q q:=by
 cases q with
 | go m=>
  simp only[Qy.fxK] at h
  split at h
  ·rename_i x hx
   intro FF nf hFF lo0 a w Im φ hs R hR
   obtain⟨φ1,a1,a2,a3,a4,a5⟩:=cp9 hx C.m w Im φ (fun t=>a.tmps.getD t undef) hs.m hs.inv hs.fr
   exact h FF nf hFF lo0 a w Im φ1 ⟨a5,a4,hs.sd.tr (Nat.le_refl _) hs.inv a3 a4,hs.sz,Nat.le_trans hs.m a2⟩ R (fun e a' w' hd=>hR e a' w' (aa1.of_tr a3 hd))
  ·exact h.elim
 | _=>exact h.elim
theorem zf (n:Nat) (l:List Fx) (h:i4 E C Q ((S5 E C n q).fxK l)):i4 E C Q q:=n8 Mix.hm n q (eF0 h)
theorem zkP {S R:Type}{Pd:S→R→Prop}{s:S}{x:S⊕R}{r:R}{m:M} (n:Nat) (h:some (.inl s)=some x) (ha:D2 Pd r x) (hp:Pd s r→i4 E C Q (.go m)) (l:List Fx:= []) (hq:(S5 E C n q).cut C (dG7 m.fr) l=some m:=by kernel_rfl):i4 E C Q q:=by
 obtain rfl:=Option.some.inj h
 exact zg n (hp ha) l hq
theorem ztP {fn:Func}{k:Bool}{m:Nat}{q:Qy}{S R:Type}{e:R→D×i0}{Pd:S→R→Prop}{r r' :R}{x:S⊕R} (n:Nat) (h:some (.inr r')=some x) (ha:D2 Pd r x) (l:List Fx:= []) (hq:(S5 E (.of fn k m) n q).retF l=some (e r'):=by kernel_rfl):i4 E (.of fn k m) (QW (Rs e r)) q:=by
 obtain rfl:=Option.some.inj h
 obtain rfl:r' =r:=ha
 exact n8 Mix.hm n q (aY9 l (d:=(e r').1) (s:=(e r').2) hq Cx.fin_of ⟨rfl,rfl⟩)
theorem so {f:FuncId}{fn:Func}{k:Bool}{m:Nat}{args:List D}{σ:i0}{R:Type}{e:R→D×i0}{r:R}{o:Option R} (h:o=some r) (hs:AOk E (.of fn k m) e (C3 fn args σ) o) (hC:(E.pol f).keep=k∧σ.length=m:=by exact⟨by kernel_rfl,by kernel_rfl⟩) (hf:E.P.funcs[f]? =some fn:=by kernel_rfl) (hst:cc4 fn args σ=some (C3 fn args σ):=by kernel_rfl):i7 E f args σ (Rs e r):=by
 obtain⟨rfl,rfl⟩:=hC
 exact ay0 hf hst (hs h)
theorem sc {f:FuncId}{fn:Func}{k:Bool}{m:Nat}{args:List D}{σ:i0}{S R:Type}{e:R→D×i0}{H9:S→M}{step:S→Option (S⊕R)}{s0:S}{r:R} (h:T3 step s0=some r) (hs:∀s,SOk E (.of fn k m) e H9 s (step s)) (hC:(E.pol f).keep=k∧σ.length=m:=by exact⟨by kernel_rfl,by kernel_rfl⟩) (hf:E.P.funcs[f]? =some fn:=by kernel_rfl) (hst:cc4 fn args σ=some (H9 s0):=by kernel_rfl):i7 E f args σ (Rs e r):=by
 obtain⟨rfl,rfl⟩:=hC
 exact ay0 hf hst (eA7 (fun s x r hs' ha=>hs s r x hs' ha) (bu5 h))
end
section
variable {E : L6} {C : Cx} {Q : D → i0 → Prop} {q : Qy}
def Qy.arrA (t:Nat):Qy→Option (List D)
 | .go m=>(match v8 m.fr t with | .agg cs=>some cs | _=>none)
 | _=>none
def Qy.arrK (t:Nat) (cs:List D):Qy→Qy
 | .go m=> .go ⟨m.td,az9 m.fr t (.arr cs),m.st⟩
 | _=> .bad
theorem eE8 {α:Type}{en:α→List D} (hen:∀x,∀d∈en x,B5 d=true∧B3 d=false) (l:List α):∀d∈(l.map en).flatten,B5 d=true∧B3 d=false:=by
 intro d hd
 simp only[List.mem_flatten,List.mem_map] at hd
 obtain⟨_,⟨x,_,rfl⟩,h⟩:=hd
 exact hen x d h
theorem ev5 {k:IntKind} (x:Int):∀d∈d8 k x,B5 d=true∧B3 d=false:=by
 intro d hd
 rw[List.mem_singleton.1 hd]
 exact⟨rfl,rfl⟩
theorem eH3 (t:Nat) {cs:List D} (h:q.arrA t=some cs) (hc:∀d∈cs,B5 d=true∧B3 d=false) (hk:i4 E C Q (q.arrK t cs)):i4 E C Q q:=by
 cases q with
 | go m=>
  simp only[Qy.arrA] at h
  split at h
  ·rename_i cs' h1
   obtain rfl:=Option.some.inj h
   simp only[Qy.arrK] at hk
   intro FF nf hFF lo0 a w Im φ hs R hR
   refine hk FF nf hFF lo0 a w Im φ ⟨fun s=> ?_,hs.inv,hs.sd,hs.sz,hs.m⟩ R hR
   simp only[az9,v8,Bool.cond_eq_ite]
   split
   ·rename_i he
    have he' :=Nat.eq_of_beq_eq_true he
    subst he'
    have hr:=hs.fr t
    rw[h1] at hr
    obtain⟨vs,hv,h2,h3⟩:=hr.agg_inv
    rw[hv]
    exact .arr _ _ h2 fun i d v a b=>by
     obtain⟨c1,c2⟩:=hc d (List.mem_of_getElem? a)
     exact(h3 i d v a b).closed c1 c2
   ·exact hs.fr s
  ·cases h
 | _=>cases h
def s8 (c:UInt8):List D:= [.int .u8 (c.toNat:Int)]
end
end Go.RX
