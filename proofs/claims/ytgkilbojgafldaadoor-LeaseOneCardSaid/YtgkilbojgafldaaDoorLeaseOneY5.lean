/-
  Words and walks for LeaseOne. No condition.
-/
import Derived.Test.YtgkilbojgafldaaDoorLeaseOneX4
set_option linter.unusedSectionVars false
set_option linter.unnecessarySimpa false
set_option linter.unusedSimpArgs false
set_option linter.unusedVariables false
namespace Go.RX
open Go
/-! ### zigzag -/
def zz (n:Int):Nat:=if 0≤n then 2*n.toNat else 2*(-n).toNat-1
def aW5 (u:Nat):Int:=if u%2=0 then ((u/2:Nat):Int) else-((u/2:Nat):Int)-1
theorem cO7 (n:Int):aW5 (zz n)=n:=by
 unfold aW5 zz
 split<;>split<;>omega
theorem cO1 (u:Nat):zz (aW5 u)=u:=by
 unfold aW5 zz
 split<;>split<;>omega
theorem cs4 {n:Int} (h:n9 .i64 n):zz n<18446744073709551616:=by
 have:=K2.1 h
 unfold zz
 split<;>omega
theorem cM5 {u:Nat} (h:u<18446744073709551616):n9 .i64 (aW5 u):=by
 refine K2.2 ?_
 unfold aW5
 split<;>omega
/-! ### a number's bytes -/
def al7 (u:Nat):List Int:=if h:u<128 then [(u:Int)] else ((u%128+128:Nat):Int)::al7 (u/128)
termination_by u
decreasing_by omega
theorem bb1 {u:Nat} (h:u<128):al7 u= [(u:Int)]:=by rw[al7,dif_pos h]
theorem aZ1 {u:Nat} (h:128≤u):al7 u=((u%128+128:Nat):Int)::al7 (u/128):=by rw[al7,dif_neg (by omega)]
theorem ce5:∀(k u:Nat),u<2^(7*k)→0<k→(al7 u).length≤k
 | 0,_,_,h=>absurd h (by simp)
 | k+1,u,h,_=>by
  by_cases hu:u<128
  ·rw[bb1 hu];simp
  ·rw[aZ1 (by omega)]
   have h' :u/128<2^(7*k):=by
    rw[Nat.div_lt_iff_lt_mul (by decide)]
    have:2^(7*(k+1))=2^(7*k)*128:=by rw[Nat.mul_succ,Nat.pow_add]
    omega
   have hk:0<k:=by
    rcases Nat.eq_zero_or_pos k with rfl | hk
    ·simp at h;omega
    ·exact hk
   have:=ce5 k _ h' hk
   simp;omega
theorem cJ5 {u:Nat} (h:u<18446744073709551616):(al7 u).length≤10:=ce5 10 u (by
 have:(2:Nat)^(7*10)=1180591620717411303424:=by decide
 omega) (by decide)
theorem cz3:∀(u:Nat),∀c∈al7 u,0≤c∧c≤255:=by
 intro u
 induction u using Nat.strongRecOn with
 | ind u ih=>
  intro c hc
  by_cases h:u<128
  ·rw[bb1 h] at hc;simp at hc;omega
  ·rw[aZ1 (by omega)] at hc
   rcases List.mem_cons.1 hc with rfl | hc
   ·omega
   ·exact ih _ (by omega) c hc
def vd:Nat→List Int→Int⊕(Nat×Nat)
 | _,[]=> .inl 11
 | i,c::l=>if (i=9∧1<c)∨(c=0∧0<i) then .inl 12 else if c<128 then .inr (c.toNat,1) else
  match vd (i+1) l with
  | .inl e=> .inl e
  | .inr (u,k)=> .inr (c.toNat-128+128*u,k+1)
def vS (c:Nat) (r:Int⊕(Nat×Nat)):Int⊕(Nat×Nat):=match r with
 | .inl e=> .inl e
 | .inr (u,k)=> .inr (c-128+128*u,k+1)
theorem cR5 (i:Nat) (c:Int) (l:List Int):vd i (c::l)=if (i=9∧1<c)∨(c=0∧0<i) then .inl 12 else if c<128 then .inr (c.toNat,1) else vS c.toNat (vd (i+1) l):=by
 simp only[vd]
 split
 ·rfl
 ·split
  ·rfl
  ·unfold vS;cases vd (i+1) l<;>rfl
theorem cf7 {i:Nat} (h:i≤8):2^(64-7*i)=2^(64-7*(i+1))*128:=by
 rw[show 64-7*i=(64-7*(i+1))+7 by omega,Nat.pow_add]
theorem cU2:∀(u i:Nat) (rest:List Int),i≤9→u<2^(64-7*i)→(0<u∨i=0)→vd i (al7 u++rest)=.inr (u,(al7 u).length):=by
 intro u
 induction u using Nat.strongRecOn with
 | ind u ih=>
  intro i rest hi hu h0
  by_cases h:u<128
  ·rw[bb1 h]
   simp only[List.cons_append,List.nil_append,vd]
   rw[if_neg,if_pos (by omega)]
   ·simp
   ·rintro (⟨rfl,h1⟩ | ⟨h1,h2⟩)
    ·simp at hu;omega
    ·omega
  ·have hi8:i≤8:=by
    rcases Nat.lt_or_ge i 9 with h | h
    ·omega
    ·have:i=9:=by omega
     subst this
     simp at hu;omega
   rw[aZ1 (by omega)]
   simp only[List.cons_append,vd]
   have hu' :u/128<2^(64-7*(i+1)):=by
    rw[Nat.div_lt_iff_lt_mul (by decide),←cf7 hi8];exact hu
   rw[if_neg,if_neg (by omega),ih (u/128) (by omega) (i+1) rest (by omega) hu' (.inl (by omega))]
   ·simp;omega
   ·rintro (⟨rfl,h1⟩ | ⟨h1,h2⟩)<;>omega
theorem cD8:∀(l:List Int) (i u k:Nat),i≤9→(∀c∈l,0≤c∧c≤255)→vd i l=.inr (u,k)→l.take k=al7 u∧k≤l.length∧k=(al7 u).length∧u<2^(64-7*i)∧(0<i→0<u)
 | [],_,_,_,_,_,h=>by simp[vd] at h
 | c::l,i,u,k,hi,hb,h=>by
  simp only[vd] at h
  have hc:=hb c (by simp)
  split at h
  ·cases h
  ·rename_i hno
   simp only[not_or,not_and] at hno
   split at h
   ·rename_i hlt
    simp only[Sum.inr.injEq,Prod.mk.injEq] at h
    obtain⟨rfl,rfl⟩:=h
    have hv:al7 c.toNat= [c]:=by rw[bb1 (by omega),Int.toNat_of_nonneg hc.1]
    refine⟨by rw[hv];simp,by simp,by rw[hv];rfl,?_,fun h=> ?_⟩
    ·rcases Nat.lt_or_ge i 9 with h9 | h9
     ·have:2^8≤2^(64-7*i):=Nat.pow_le_pow_right (by decide) (by omega)
      omega
     ·have:i=9:=by omega
      subst this
      have:=hno.1 rfl
      simp;omega
    ·have:=hno.2;omega
   ·rename_i hge
    split at h
    ·cases h
    ·rename_i u' k' hv
     simp only[Sum.inr.injEq,Prod.mk.injEq] at h
     obtain⟨rfl,rfl⟩:=h
     have hi8:i≤8:=by
      rcases Nat.lt_or_ge i 9 with h9 | h9
      ·omega
      ·have:i=9:=by omega
       have:=hno.1 this
       omega
     obtain⟨h1,h2,h3,h4,h5⟩:=cD8 l (i+1) u' k' (by omega) (fun c hc=>hb c (by simp[hc])) hv
     have h5:=h5 (by omega)
     have e1:(c.toNat-128+128*u')/128=u' :=by omega
     have e2:(c.toNat-128+128*u')%128+128=c.toNat:=by omega
     have hven:al7 (c.toNat-128+128*u')=c::al7 u' :=by
      rw[aZ1 (by omega),e1,e2,Int.toNat_of_nonneg hc.1]
     refine⟨by rw[hven,List.take_succ_cons,h1],by simp;omega,by rw[hven];simp;omega,?_,fun _=>by omega⟩
     rw[cf7 hi8]
     omega
theorem cz4:∀(l:List Int) (i:Nat) (e:Int),vd i l=.inl e→e=11∨e=12
 | [],_,e,h=>by simp[vd] at h;exact .inl h.symm
 | c::l,i,e,h=>by
  simp only[vd] at h
  split at h
  ·simp at h;exact .inr h.symm
  ·split at h
   ·cases h
   ·split at h
    ·rename_i e' hv
     obtain rfl:=Sum.inl.inj h
     exact cz4 l _ _ hv
    ·cases h
/-! ### numbers -/
def V7 (n:Int):List Int:=al7 (zz n)
def pI (l:List Int):Int⊕(Int×Nat):=match vd 0 l with | .inl e=> .inl e | .inr (u,k)=> .inr (aW5 u,k)
abbrev q0 (l:List Int):Prop:=∀c∈l,0≤c∧c≤255
theorem aw5 {n:Int} (h:n9 .i64 n):(V7 n).length≤10:=cJ5 (cs4 h)
theorem bh1 (n:Int):q0 (V7 n):=cz3 _
theorem cc9 {n:Int} (h:n9 .i64 n) (rest:List Int):pI (V7 n++rest)=.inr (n,(V7 n).length):=by
 unfold pI V7
 rw[cU2 (zz n) 0 rest (by omega) (by have:=cs4 h;simpa using this) (.inr rfl)]
 simp[cO7]
theorem bq2 {l:List Int}{n:Int}{k:Nat} (hb:q0 l) (h:pI l=.inr (n,k)):l.take k=V7 n∧k≤l.length∧k=(V7 n).length∧n9 .i64 n:=by
 unfold pI at h
 split at h
 ·cases h
 ·rename_i u k' hv
  simp only[Sum.inr.injEq,Prod.mk.injEq] at h
  obtain⟨rfl,rfl⟩:=h
  obtain⟨h1,h2,h3,h4,_⟩:=cD8 l 0 u k' (by omega) hb hv
  unfold V7
  rw[cO1]
  exact⟨h1,h2,h3,cM5 (by simpa using h4)⟩
theorem cD1 {l:List Int}{e:Int} (h:pI l=.inl e):e=11∨e=12:=by
 unfold pI at h
 split at h
 ·rename_i e' hv
  obtain rfl:=Sum.inl.inj h
  exact cz4 _ _ _ hv
 ·cases h
/-! ### H4 -/
def pN:Nat→List Int→Int⊕(List Int×Nat)
 | 0,_=> .inr ([],0)
 | n+1,l=>match pI l with
  | .inl e=> .inl e
  | .inr (x,k)=>(match pN n (l.drop k) with
   | .inl e=> .inl e
   | .inr (xs,m)=> .inr (x::xs,k+m))
def pL (l:List Int):Int⊕(List Int×Nat):=match pI l with
 | .inl e=> .inl e
 | .inr (n,k)=>if n<0∨n>64 then .inl 2 else (match pN n.toNat (l.drop k) with
  | .inl e=> .inl e
  | .inr (xs,m)=> .inr (xs,k+m))
def pS (x:Int) (k:Nat) (r:Int⊕(List Int×Nat)):Int⊕(List Int×Nat):=match r with
 | .inl e=> .inl e
 | .inr (xs,m)=> .inr (x::xs,k+m)
def pK (k:Nat) (r:Int⊕(List Int×Nat)):Int⊕(List Int×Nat):=match r with
 | .inl e=> .inl e
 | .inr (xs,m)=> .inr (xs,k+m)
theorem cX5 {n:Nat}{l:List Int}{e:Int} (h:pI l=.inl e):pN (n+1) l=.inl e:=by simp only[pN,h]
theorem cY3 {n:Nat}{l:List Int}{x:Int}{k:Nat} (h:pI l=.inr (x,k)):pN (n+1) l=pS x k (pN n (l.drop k)):=by
 simp only[pN,h];unfold pS;cases pN n (l.drop k)<;>rfl
theorem cW0 {l:List Int}{e:Int} (h:pI l=.inl e):pL l=.inl e:=by simp only[pL,h]
theorem cX9 {l:List Int}{n:Int}{k:Nat} (h:pI l=.inr (n,k)) (hn:n<0∨n>64):pL l=.inl 2:=by simp only[pL,h,if_pos hn]
theorem cY0 {l:List Int}{n:Int}{k:Nat} (h:pI l=.inr (n,k)) (hn:¬(n<0∨n>64)):pL l=pK k (pN n.toNat (l.drop k)):=by
 simp only[pL,h,if_neg hn];unfold pK;cases pN n.toNat (l.drop k)<;>rfl
def U0 (xs:List Int):List Int:=xs.flatMap V7
def encL (xs:List Int):List Int:=V7 (xs.length:Int)++U0 xs
abbrev ag7 (l:List Int):Prop:=∀x∈l,n9 .i64 x
theorem bs3 {n:Nat} (h:n≤1000000):n9 .i64 (n:Int):=K2.2 (by omega)
theorem cs3 (xs:List Int):q0 (U0 xs):=fun c hc=>by
 obtain⟨x,_,h⟩:=List.mem_flatMap.1 hc
 exact bh1 x c h
theorem aN5 (xs:List Int):q0 (encL xs):=fun c hc=>(List.mem_append.1 hc).elim (bh1 _ c) (cs3 xs c)
theorem bC5:∀{xs:List Int},ag7 xs→(U0 xs).length≤10*xs.length
 | [],_=>by simp[U0]
 | x::xs,h=>by
  have h1:=aw5 (h x (by simp))
  have h2:=bC5 (xs:=xs) fun y hy=>h y (by simp[hy])
  simp only[U0,List.flatMap_cons,List.length_append,List.length_cons] at h2 ⊢
  omega
theorem ac9 {xs:List Int} (h:ag7 xs) (hl:xs.length≤64):(encL xs).length≤650:=by
 have h1:=aw5 (bs3 (n:=xs.length) (by omega))
 have h2:=bC5 h
 simp only[encL,List.length_append]
 omega
theorem cC1:∀(xs rest:List Int),ag7 xs→pN xs.length (U0 xs++rest)=.inr (xs,(U0 xs).length)
 | [],rest,_=>rfl
 | x::xs,rest,h=>by
  have ih:=cC1 xs rest fun y hy=>h y (by simp[hy])
  simp only[U0,List.flatMap_cons,List.length_cons,pN,List.append_assoc] at ih ⊢
  rw[cc9 (h x (by simp))]
  simp only[List.drop_left,ih,List.length_append]
theorem cv3:∀(n:Nat) (l xs:List Int) (k:Nat),q0 l→pN n l=.inr (xs,k)→l.take k=U0 xs∧k≤l.length∧k=(U0 xs).length∧xs.length=n∧ag7 xs
 | 0,l,xs,k,_,h=>by
  simp only[pN,Sum.inr.injEq,Prod.mk.injEq] at h
  obtain⟨rfl,rfl⟩:=h
  exact⟨by simp[U0],by simp,by simp[U0],rfl,fun x hx=>by simp at hx⟩
 | n+1,l,xs,k,hb,h=>by
  simp only[pN] at h
  split at h
  ·cases h
  ·rename_i x k1 hx
   split at h
   ·cases h
   ·rename_i ys m hys
    simp only[Sum.inr.injEq,Prod.mk.injEq] at h
    obtain⟨rfl,rfl⟩:=h
    obtain⟨a1,a2,a3,a4⟩:=bq2 hb hx
    obtain⟨b1,b2,b3,b4,b5⟩:=cv3 n _ _ _ (fun c hc=>hb c (List.mem_of_mem_drop hc)) hys
    simp only[List.length_drop] at b2
    refine⟨?_,by omega,?_,by simp[b4],fun y hy=> ?_⟩
    ·simp only[U0,List.flatMap_cons] at b1 ⊢
     rw[←a1,←b1,List.take_add]
    ·simp only[U0,List.flatMap_cons,List.length_append] at b3 ⊢;omega
    ·rcases List.mem_cons.1 hy with rfl | hy
     ·exact a4
     ·exact b5 y hy
theorem bk3 {xs:List Int} (h:ag7 xs) (hl:xs.length≤64) (rest:List Int):pL (encL xs++rest)=.inr (xs,(encL xs).length):=by
 unfold pL encL
 rw[List.append_assoc,cc9 (bs3 (n:=xs.length) (by omega))]
 simp only[]
 rw[if_neg (by omega)]
 simp only[List.drop_left,Int.toNat_natCast,cC1 xs rest h,List.length_append]
theorem aQ3 {l xs:List Int}{k:Nat} (hb:q0 l) (h:pL l=.inr (xs,k)):l.take k=encL xs∧k≤l.length∧k=(encL xs).length∧xs.length≤64∧ag7 xs:=by
 unfold pL at h
 split at h
 ·cases h
 ·rename_i n k1 hn
  split at h
  ·cases h
  ·rename_i hno
   split at h
   ·cases h
   ·rename_i ys m hys
    simp only[Sum.inr.injEq,Prod.mk.injEq] at h
    obtain⟨rfl,rfl⟩:=h
    obtain⟨a1,a2,a3,a4⟩:=bq2 hb hn
    obtain⟨b1,b2,b3,b4,b5⟩:=cv3 _ _ _ _ (fun c hc=>hb c (List.mem_of_mem_drop hc)) hys
    simp only[List.length_drop] at b2
    have e:n=(ys.length:Int):=by omega
    unfold encL
    rw[←e]
    exact⟨by rw[←a1,←b1,List.take_add],by omega,by rw[List.length_append];omega,by omega,b5⟩
theorem bJ3 {n:Nat} (h:n<256):(BitVec.ofInt IntKind.u8.bits (n:Int)).toNat=n:=by
 rw[BitVec.ofInt_natCast,show IntKind.u8.bits=8 from rfl,BitVec.toNat_ofNat,Nat.mod_eq_of_lt (by omega)]
theorem ca6 {n:Nat} (h:n<256):IntKind.u8.wrap (n:Int)=n:=wU8 (by omega) (by omega)
theorem cU9 {c:Nat} (h:c<256):k9 .u8 c 127=((c%128:Nat):Int):=by
 unfold k9
 rw[show(127:Int)=((127:Nat):Int) from rfl,BitVec.toNat_and,bJ3 h,bJ3 (by omega),show(127:Nat)=2^7-1 from rfl,Nat.and_two_pow_sub_one_eq_mod,ca6 (by omega)]
theorem cY6 {u:Nat} (h:u<18446744073709551616):k9 .u64 u 1=((u%2:Nat):Int):=by
 rw[show(1:Int)=((1:Nat):Int) from rfl,cv9 h (by omega),show(1:Nat)=2^1-1 from rfl,Nat.and_two_pow_sub_one_eq_mod]
theorem cY9 {a:Nat} (h:a<256):orI .u8 a 128=((a%128+128:Nat):Int):=by
 have key:∀a,a<256→a ||| 128=a%128+128:=by decide+kernel
 unfold orI
 rw[show(128:Int)=((128:Nat):Int) from rfl,BitVec.toNat_or,bJ3 h,bJ3 (by omega),key a h,ca6 (by omega)]
theorem ai9 (u:Nat):IntKind.u8.wrap (u:Int)=((u%256:Nat):Int):=by
 simp only[IntKind.wrap,IntKind.signed,IntKind.bits]
 simp
theorem dc0 (u:Nat):n6 .u64 u 7=((u/128:Nat):Int):=cu4 (a:=u) (k:=7) (by decide)
theorem dc1 (u:Nat):n6 .u64 u 1=((u/2:Nat):Int):=cu4 (a:=u) (k:=1) (by decide)
theorem cW1 {u p s:Nat} (hu:u<2^s) (hp:u+p*2^s<18446744073709551616) (hs:s≤64):orI .u64 u (Y7 .u64 p s)=((u+p*2^s:Nat):Int):=by
 have h1:Y7 .u64 p s=((p*2^s:Nat):Int):=by
  unfold Y7
  have e:min (s:Int).toNat IntKind.u64.bits=s:=by simp[IntKind.bits];omega
  rw[e,show((p:Int)*(2:Int)^s)=((p*2^s:Nat):Int) by norm_cast,aF1 (by omega)]
 have hu' :u<18446744073709551616:=by omega
 rw[h1,cK0 hu' (by omega)]
 congr 1
 rw[Nat.or_comm,Nat.mul_comm,←Nat.two_pow_add_eq_or_of_lt hu,Nat.mul_comm,Nat.add_comm]
theorem aG4 (n:Nat) (h:n<18446744073709551616):IntKind.i64.wrap (n:Int)=if n<9223372036854775808 then (n:Int) else (n:Int)-18446744073709551616:=by
 simp only[IntKind.wrap,IntKind.signed,IntKind.bits]
 simp
 split<;>split<;>omega
theorem cw1 {n:Nat} (h:n<9223372036854775808):(BitVec.ofInt IntKind.i64.bits (n:Int)).toNat=n:=by
 rw[BitVec.ofInt_natCast,show IntKind.i64.bits=64 from rfl,BitVec.toNat_ofNat,Nat.mod_eq_of_lt (by omega)]
theorem cL8 {n:Nat} (h:n<9223372036854775808):L0 .i64 n (-1)= -(n:Int)-1:=by
 unfold L0
 have e:BitVec.ofInt IntKind.i64.bits (-1)=BitVec.allOnes IntKind.i64.bits:=by decide
 rw[e,BitVec.xor_allOnes,BitVec.toNat_not,cw1 h,show IntKind.i64.bits=64 from rfl,aG4 _ (by omega),if_neg (by omega)]
 omega
theorem xor_zero {n:Nat} (h:n<9223372036854775808):L0 .i64 n 0=n:=by
 unfold L0
 have e:BitVec.ofInt IntKind.i64.bits 0=0#_:=by decide
 rw[e,BitVec.xor_zero,cw1 h,aG4 _ (by omega),if_pos h]
theorem cE5 {u:Nat} (h:u<18446744073709551616):L0 .i64 (IntKind.i64.wrap (n6 .u64 u 1)) (IntKind.i64.wrap ((0:Int)-(IntKind.i64.wrap (k9 .u64 u 1))))=aW5 u:=by
 rw[dc1,cY6 h,F4 (n:=((u/2:Nat):Int)) (by omega) (by omega),F4 (n:=((u%2:Nat):Int)) (by omega) (by omega)]
 unfold aW5
 rcases Nat.mod_two_eq_zero_or_one u with h1 | h1
 ·rw[h1,if_pos rfl]
  simp only[Int.natCast_zero,Int.sub_zero]
  rw[F4 (by omega) (by omega),xor_zero (by omega)]
 ·rw[h1,if_neg (by omega)]
  rw[F4 (by omega) (by omega),show(0:Int)-((1:Nat):Int)= -1 by omega,cL8 (by omega)]
theorem cV8 (n:Int):IntKind.u64.wrap (IntKind.i64.wrap n)=n%18446744073709551616:=by
 simp only[IntKind.wrap,IntKind.signed,IntKind.bits]
 simp
 split<;>omega
theorem cA3 {n:Nat} (h:n<18446744073709551616):L0 .u64 n 0=n:=by
 unfold L0
 have e:BitVec.ofInt IntKind.u64.bits 0=0#_:=by decide
 rw[e,BitVec.xor_zero,aO7 h,aF1 h]
theorem cv8 {n:Nat} (h:n<18446744073709551616):L0 .u64 n 18446744073709551615=((18446744073709551615-n:Nat):Int):=by
 unfold L0
 have e:BitVec.ofInt IntKind.u64.bits 18446744073709551615=BitVec.allOnes IntKind.u64.bits:=by decide
 rw[e,BitVec.xor_allOnes,BitVec.toNat_not,aO7 h,show IntKind.u64.bits=64 from rfl,show 2^64-1-n=18446744073709551615-n by omega,aF1 (by omega)]
theorem cW6 {t:Int} (h:n9 .i64 t):L0 .u64 (IntKind.u64.wrap (Y7 .i64 t 1)) (IntKind.u64.wrap (n6 .i64 t 63))=(zz t:Int):=by
 have ht:=K2.1 h
 have e1:IntKind.u64.wrap (Y7 .i64 t 1)=(t*2)%18446744073709551616:=by
  unfold Y7
  rw[show min (1:Int).toNat IntKind.i64.bits=1 from rfl,cV8,show(2:Int)^1=2 from rfl]
 have e2:n6 .i64 t 63=if 0≤t then 0 else-1:=by
  unfold n6
  rw[show min (63:Int).toNat IntKind.i64.bits=63 from rfl]
  have e63:(2:Int)^63=9223372036854775808:=rfl
  rw[e63,Int.fdiv_eq_ediv_of_nonneg _ (by omega)]
  split<;>omega
 rw[e1,e2]
 unfold zz
 split
 ·rename_i h0
  obtain⟨n,rfl⟩:=Int.eq_ofNat_of_zero_le h0
  rw[show IntKind.u64.wrap 0=0 from rfl,show((n:Int)*2)%18446744073709551616=((2*n:Nat):Int) by omega,cA3 (by omega)]
  simp
 ·rename_i h0
  obtain⟨n,hn⟩:=Int.eq_ofNat_of_zero_le (show 0≤ -t by omega)
  have:t= -(n:Int):=by omega
  subst this
  rw[show IntKind.u64.wrap (-1)=18446744073709551615 from rfl,show(-(n:Int)*2)%18446744073709551616=((18446744073709551616-2*n:Nat):Int) by omega,cv8 (by omega)]
  congr 1
  simp
  omega
/-! ### one bit of a check sum -/
def aO6 (r:Nat):Nat:=if r%2=1 then r/2^^^3988292384 else r/2
def M5:Nat→Nat→Nat
 | 0,r=>r
 | n+1,r=>M5 n (aO6 r)
theorem cH0 {r:Nat} (h:r<4294967296):aO6 r<4294967296:=by
 unfold aO6
 split
 ·exact Nat.xor_lt_two_pow (n:=32) (by omega) (by decide)
 ·omega
theorem bd9:∀(n:Nat) {r:Nat},r<4294967296→M5 n r<4294967296
 | 0,_,h=>h
 | n+1,_,h=>bd9 n (cH0 h)
theorem cC8 (a b:Nat):aO6 (a^^^b)=aO6 a^^^aO6 b:=by
 have h1:(a^^^b)/2=a/2^^^b/2:=Nat.xor_div_two
 have h2:(a^^^b)%2=(a+b)%2:=by
  have h:=Nat.xor_mod_two_pow (a:=a) (b:=b) (n:=1)
  rw[show 2^1=2 from rfl] at h
  rw[h]
  rcases Nat.mod_two_eq_zero_or_one a with ha | ha<;>rcases Nat.mod_two_eq_zero_or_one b with hb | hb<;>rw[ha,hb]
  ·show 0=_;omega
  ·show 1=_;omega
  ·show 1=_;omega
  ·show 0=_;omega
 unfold aO6
 rw[h1,h2]
 rcases Nat.mod_two_eq_zero_or_one a with ha | ha<;>rcases Nat.mod_two_eq_zero_or_one b with hb | hb
 ·rw[if_neg (by omega),if_neg (by omega),if_neg (by omega)]
 ·rw[if_pos (by omega),if_neg (by omega),if_pos hb,Nat.xor_assoc]
 ·rw[if_pos (by omega),if_pos ha,if_neg (by omega),Nat.xor_assoc,Nat.xor_assoc,Nat.xor_comm (b/2)]
 ·rw[if_neg (by omega),if_pos ha,if_pos hb,Nat.xor_assoc,Nat.xor_comm (b/2) 3988292384,←Nat.xor_assoc 3988292384,Nat.xor_self,Nat.zero_xor]
theorem bS4:∀(n a b:Nat),M5 n (a^^^b)=M5 n a^^^M5 n b
 | 0,_,_=>rfl
 | n+1,a,b=>by simp only[M5,cC8,bS4 n]
theorem bw8:∀(n a:Nat),M5 n (2^n*a)=a
 | 0,a=>by simp[M5]
 | n+1,a=>by
  have:aO6 (2^(n+1)*a)=2^n*a:=by
   rw[Nat.pow_succ,Nat.mul_comm (2^n) 2,Nat.mul_assoc]
   unfold aO6
   rw[if_neg (by omega)]
   omega
  simp only[M5,this,bw8 n a]
theorem cy2 (r:Nat):r=16*(r/16)^^^r%16:=by
 have h:=Nat.two_pow_add_eq_or_of_lt (i:=4) (b:=r%16) (by omega) (r/16)
 have e:2^4*(r/16)^^^r%16=2^4*(r/16) ||| r%16:=by
  refine Nat.eq_of_testBit_eq fun j=> ?_
  rw[Nat.testBit_xor,Nat.testBit_or]
  by_cases hj:j<4
  ·have:(2^4*(r/16)).testBit j=false:=by rw[Nat.testBit_two_pow_mul];simp;omega
   rw[this];simp
  ·have:(r%16).testBit j=false:=Nat.testBit_lt_two_pow (Nat.lt_of_lt_of_le (show r%16<2^4 by omega) (Nat.pow_le_pow_right (by decide) (by omega)))
   rw[this];simp
 rw[show(16:Nat)=2^4 from rfl] at*
 omega
theorem ct6 (r:Nat):M5 4 r=r/16^^^M5 4 (r%16):=by
 conv=>lhs;rw[cy2 r]
 rw[bS4,show(16:Nat)=2^4 from rfl,bw8]
theorem bQ2:∀(m n r:Nat),M5 (m+n) r=M5 n (M5 m r)
 | 0,n,r=>by simp[M5]
 | m+1,n,r=>by rw[show m+1+n=(m+n)+1 by omega];simp only[M5,bQ2 m n]
/-! ### a byte, bytes -/
def cH3 (r:Nat) (c:Int):Nat:=M5 8 (r^^^c.toNat)
def bg5:Nat→List Int→Nat
 | r,[]=>r
 | r,c::l=>bg5 (cH3 r c) l
def ce2 (s:Nat) (l:List Int):Nat:=4294967295-bg5 (4294967295-s) l
def crc (l:List Int):Nat:=ce2 0 l
theorem ci8 (l:List Int):crc l<4294967296:=by unfold crc ce2;omega
/-! ### four bytes of a number -/
def be4 (s:Nat):List Int:= [((s/16777216%256:Nat):Int),((s/65536%256:Nat):Int),((s/256%256:Nat):Int),((s%256:Nat):Int)]
def L9:Nat→List Int→Nat
 | n,[]=>n
 | n,c::l=>L9 (n*256+c.toNat) l
theorem cv7 (s:Nat):q0 (be4 s):=fun c hc=>by
 simp only[be4,List.mem_cons,List.not_mem_nil,or_false] at hc
 rcases hc with rfl | rfl | rfl | rfl<;>omega
theorem cH9 {s:Nat} (h:s<4294967296):L9 0 (be4 s)=s:=by
 simp only[be4,L9,Int.toNat_natCast]
 omega
theorem cM9 {a b c d:Int} (ha:0≤a∧a≤255) (hb:0≤b∧b≤255) (hc:0≤c∧c≤255) (hd:0≤d∧d≤255):be4 (L9 0 [a,b,c,d])= [a,b,c,d]:=by
 simp only[L9,be4,List.cons.injEq,and_true]
 omega
/-! ### frames -/
def O0 (k:Int) (body:List Int):List Int:=k::((body.length/256:Nat):Int)::((body.length%256:Nat):Int)::body
def E9 (k:Int) (body:List Int):List Int:=247::(O0 k body++be4 (crc (O0 k body)))
def pF (l:List Int):Int⊕(Int×List Int×Nat):=match l with
 | []=> .inl 31
 | m::_=>if m≠247 then .inl 32 else if l.length<8 then .inl 31 else
  if 8192<L9 0 [l.getD 2 0,l.getD 3 0] then .inl 2 else
  if l.length<L9 0 [l.getD 2 0,l.getD 3 0]+8 then .inl 31 else
  if crc ((l.drop 1).take (L9 0 [l.getD 2 0,l.getD 3 0]+3))≠L9 0 ((l.drop (L9 0 [l.getD 2 0,l.getD 3 0]+4)).take 4) then .inl 33 else
  .inr (l.getD 1 0,(l.drop 4).take (L9 0 [l.getD 2 0,l.getD 3 0]),L9 0 [l.getD 2 0,l.getD 3 0]+8)
theorem ax5 (k:Int) (body:List Int):(O0 k body).length=body.length+3:=by simp[O0]
theorem aj0 (k:Int) (body:List Int):(E9 k body).length=body.length+8:=by simp[E9,ax5,be4]
theorem bw2 {k:Int}{body:List Int} (hk:0≤k∧k≤255) (hb:q0 body) (hl:body.length≤65535):q0 (O0 k body):=fun c hc=>by
 simp only[O0,List.mem_cons] at hc
 rcases hc with rfl | rfl | rfl | hc
 ·exact hk
 ·omega
 ·omega
 ·exact hb c hc
theorem bd1 {k:Int}{body:List Int} (hk:0≤k∧k≤255) (hb:q0 body) (hl:body.length≤65535):q0 (E9 k body):=fun c hc=>by
 simp only[E9,List.mem_cons,List.mem_append] at hc
 rcases hc with rfl | hc | hc
 ·omega
 ·exact bw2 hk hb hl c hc
 ·exact cv7 _ c hc
theorem cc1 {k:Int}{body:List Int} (hk:0≤k∧k≤255) (hb:q0 body) (hl:body.length≤8192) (rest:List Int):pF (E9 k body++rest)=.inr (k,body,body.length+8):=by
 have hn:L9 0 [((body.length/256:Nat):Int),((body.length%256:Nat):Int)]=body.length:=by
  simp only[L9,Int.toNat_natCast];omega
 have e2:(E9 k body++rest).getD 2 0=((body.length/256:Nat):Int):=rfl
 have e3:(E9 k body++rest).getD 3 0=((body.length%256:Nat):Int):=rfl
 have e1:(E9 k body++rest).getD 1 0=k:=rfl
 have hlen:(E9 k body++rest).length=body.length+8+rest.length:=by rw[List.length_append,aj0]
 have d1:((E9 k body++rest).drop 1).take (body.length+3)=O0 k body:=by
  show((O0 k body++be4 _)++rest).take (body.length+3)=O0 k body
  rw[List.append_assoc,←ax5 k body,List.take_left]
 have d2:((E9 k body++rest).drop (body.length+4)).take 4=be4 (crc (O0 k body)):=by
  show(((O0 k body++be4 _)++rest).drop (body.length+3)).take 4=_
  rw[List.append_assoc,←ax5 k body,List.drop_left]
  rfl
 have d3:((E9 k body++rest).drop 4).take body.length=body:=by
  show(((body++be4 _)++rest)).take body.length=body
  rw[List.append_assoc,List.take_left]
 have hx:∃x,E9 k body++rest=247::x:=⟨_,rfl⟩
 obtain⟨x,hx⟩:=hx
 have key:pF (247::x)=.inr (k,body,body.length+8):=by
  rw[hx] at e1 e2 e3 hlen d1 d2 d3
  simp only[pF,e1,e2,e3,hn,hlen,d1,d2,d3]
  rw[if_neg (by simp),if_neg (by omega),if_neg (by omega),if_neg (by omega),if_neg (by rw[cH9 (ci8 _)];simp)]
 rw[hx];exact key
theorem cZ6:∀{l:List Int},3≤l.length→∃a b c r,l=a::b::c::r
 | a::b::c::r,_=>⟨a,b,c,r,rfl⟩
 | [],h=>by simp at h
 | [_],h=>by simp at h
 | [_,_],h=>by simp at h
theorem cZ0:∀{l:List Int},l.length=4→∃a b c d,l= [a,b,c,d]
 | [a,b,c,d],_=>⟨a,b,c,d,rfl⟩
theorem cW7 {l:List Int}{k:Int}{body:List Int}{m:Nat} (hb:q0 l) (h:pF l=.inr (k,body,m)):l.take m=E9 k body∧m≤l.length∧m=body.length+8∧body.length≤8192∧(0≤k∧k≤255)∧q0 body:=by
 unfold pF at h
 split at h
 ·cases h
 ·rename_i m0 l0
  split at h
  ·cases h
  ·rename_i h1
   split at h
   ·cases h
   ·rename_i h2
    split at h
    ·cases h
    ·rename_i h3
     split at h
     ·cases h
     ·rename_i h4
      split at h
      ·cases h
      ·rename_i h5
       simp only[Sum.inr.injEq,Prod.mk.injEq] at h
       obtain⟨rfl,rfl,rfl⟩:=h
       simp only[ne_eq,Decidable.not_not] at h1 h5
       subst h1
       obtain⟨k,a,b,r,rfl⟩:=cZ6 (l:=l0) (by simp only[List.length_cons] at h2;omega)
       have ha:=hb a (by simp)
       have hbb:=hb b (by simp)
       have hk:=hb k (by simp)
       simp only[List.getD_cons_succ,List.getD_cons_zero,List.length_cons,List.drop_succ_cons,List.drop_zero] at h2 h3 h4 h5 ⊢
       generalize hn:L9 0 [a,b]=n at*
       have hn' :n=a.toNat*256+b.toNat:=by rw[←hn];simp[L9]
       have hlen:(r.take n).length=n:=by rw[List.length_take];omega
       have e1:((n/256:Nat):Int)=a:=by omega
       have e2:((n%256:Nat):Int)=b:=by omega
       have hin:O0 k (r.take n)=(k::a::b::r).take (n+3):=by
        simp only[O0,hlen,e1,e2,List.take_succ_cons]
       have h4b:∃x y z u,(r.drop n).take 4= [x,y,z,u]:=by
        exact cZ0 (by rw[List.length_take,List.length_drop];omega)
       obtain⟨x,y,z,u,hxyz⟩:=h4b
       have hmem:∀c∈ [x,y,z,u],0≤c∧c≤255:=fun c hc=>hb c (by
        rw[←hxyz] at hc
        simp only[List.mem_cons]
        exact .inr (.inr (.inr (.inr (List.mem_of_mem_drop (List.mem_of_mem_take hc))))))
       refine⟨?_,by omega,by omega,by omega,hk,fun c hc=>hb c (by simp only[List.mem_cons];exact .inr (.inr (.inr (.inr (List.mem_of_mem_take hc)))))⟩
       unfold E9
       rw[hin,h5,hxyz,cM9 (hmem x (by simp)) (hmem y (by simp)) (hmem z (by simp)) (hmem u (by simp)),←hxyz]
       rw[show n+8=(n+7)+1 from rfl,List.take_succ_cons,show n+7=(n+3)+4 from rfl,List.take_add]
       rfl
theorem cS8 {l:List Int}{e:Int} (h:pF l=.inl e):e=31∨e=32∨e=2∨e=33:=by
 unfold pF at h
 split at h
 ·simp at h;omega
 ·split at h
  ·simp at h;omega
  ·split at h
   ·simp at h;omega
   ·split at h
    ·simp at h;omega
    ·split at h
     ·simp at h;omega
     ·split at h
      ·simp at h;omega
      ·cases h
theorem cV7 {k:Int}{body:List Int} (hk:0≤k∧k≤255) (hb:q0 body) (hl:body.length≤8192) {j:Nat} (hj:j<body.length+8):∃e,pF ((E9 k body).take j)=.inl e:=by
 cases h:pF ((E9 k body).take j) with
 | inl e=>exact⟨e,rfl⟩
 | inr x=>
  exfalso
  obtain⟨k',body',m⟩:=x
  have hbb:q0 ((E9 k body).take j):=fun c hc=>bd1 hk hb (by omega) c (List.mem_of_mem_take hc)
  obtain⟨a1,a2,a3,a4,a5,a6⟩:=cW7 hbb h
  have h1:=cc1 hk hb hl []
  rw[List.append_nil] at h1
  have hs:E9 k body=E9 k' body' ++(E9 k body).drop m:=by
   rw[←a1,List.take_take,Nat.min_eq_left (by rw[List.length_take] at a2;omega),List.take_append_drop]
  rw[hs,cc1 a5 a6 a4] at h1
  simp only[Sum.inr.injEq,Prod.mk.injEq] at h1
  rw[List.length_take,aj0] at a2
  omega
end Go.RX

set_option maxRecDepth 100000
namespace Go.RX.L
open Go Go.RX
theorem aX6 {n:Nat} (h:n<4294967296):(BitVec.ofInt IntKind.u32.bits (n:Int)).toNat=n:=by
 rw[BitVec.ofInt_natCast,show IntKind.u32.bits=32 from rfl,BitVec.toNat_ofNat,Nat.mod_eq_of_lt (by omega)]
theorem br7 {n:Nat} (h:n<4294967296):IntKind.u32.wrap (n:Int)=n:=db4 (by omega) (by omega)
theorem cz9 {a b:Nat} (ha:a<4294967296) (hb:b<4294967296):L0 .u32 a b=((a^^^b:Nat):Int):=by
 unfold L0
 rw[BitVec.toNat_xor,aX6 ha,aX6 hb,br7 (Nat.xor_lt_two_pow (n:=32) ha hb)]
theorem bR9 {a:Nat} (ha:a<4294967296):k9 .u32 a 15=((a%16:Nat):Int):=by
 unfold k9
 rw[show(15:Int)=((15:Nat):Int) from rfl,BitVec.toNat_and,aX6 ha,aX6 (by omega),show(15:Nat)=2^4-1 from rfl,Nat.and_two_pow_sub_one_eq_mod,br7 (by omega)]
theorem bp2 {a k:Nat} (hk:k≤32):n6 .u32 a k=((a/2^k:Nat):Int):=by
 unfold n6
 have e:min (k:Int).toNat IntKind.u32.bits=k:=by simp[IntKind.bits];omega
 rw[e,Int.fdiv_eq_ediv_of_nonneg _ (by exact Int.le_of_lt (Int.pow_pos (by decide)))]
 norm_cast
theorem cn0 {n:Nat} (h:n<4294967296):L0 .u32 4294967295 n=((4294967295-n:Nat):Int):=by
 unfold L0
 have e:BitVec.ofInt IntKind.u32.bits 4294967295=BitVec.allOnes IntKind.u32.bits:=by decide
 rw[BitVec.xor_comm,e,BitVec.xor_allOnes,BitVec.toNat_not,aX6 h,show IntKind.u32.bits=32 from rfl,show 2^32-1-n=4294967295-n by omega,br7 (by omega)]
/-! ### the program's: four bits at once -/
theorem ch9:∀i,i<16→gl_four[i]? =some ((M5 4 i:Nat):Int):=by decide+kernel
theorem nib {r:Nat} (h:r<4294967296):L0 .u32 (n6 .u32 r 4) ((M5 4 (r%16):Nat):Int)=((M5 4 r:Nat):Int):=by
 have e:n6 .u32 r 4=((r/16:Nat):Int):=bp2 (a:=r) (k:=4) (by decide)
 rw[e,cz9 (by omega) (bd9 4 (by omega)),ct6 r]
theorem cY5 (r:Nat):decide (((r%16:Nat):Int)<((16:Nat):Int))=true:=M6 (by omega)
theorem cF0 {b:List Int} (hb:q0 b) (hm:b.length<9223372036854775807):∀(j k r:Nat),k+j=b.length→r<4294967296→Ev an9 (.s1 r b b.length k) ((4294967295-bg5 r (b.drop k):Nat):Int):=by
 intro j
 induction j with
 | zero=>
  intro k r hk hr
  have e:bg5 r (b.drop k)=r:=by rw[List.drop_of_length_le (by omega)];rfl
  rw[e]
  refine .done ?_
  simp only[an9,aI1,geB (show b.length≤k by omega),cond_false,cn0 hr]
 | succ j ih=>
  intro k r hk hr
  have hlt:k<b.length:=by omega
  obtain⟨c,hc⟩:∃c:Nat,b[k]=(c:Int):=⟨_,(Int.toNat_of_nonneg (hb _ (List.getElem_mem hlt)).1).symm⟩
  have hc' :=hb _ (List.getElem_mem hlt)
  rw[hc] at hc'
  have h1:r^^^c<4294967296:=Nat.xor_lt_two_pow (n:=32) hr (by omega)
  have h2:=bd9 4 h1
  have e1:L0 .u32 r (IntKind.u32.wrap (c:Int))=((r^^^c:Nat):Int):=by rw[br7 (by omega),cz9 hr (by omega)]
  have hd:b.drop k=(c:Int)::b.drop (k+1):=by rw[←hc,List.drop_eq_getElem_cons hlt]
  have hs:bg5 r (b.drop k)=bg5 (M5 4 (M5 4 (r^^^c))) (b.drop (k+1)):=by
   rw[hd]
   show bg5 (cH3 r c) _=_
   rw[cH3,Int.toNat_natCast,show 8=4+4 from rfl,bQ2]
  rw[hs]
  refine .next (s' :=.s1 ((M5 4 (M5 4 (r^^^c)):Nat):Int) b b.length ((k+1:Nat):Int)) ?_ (ih (k+1) _ (by omega) (bd9 4 h2))
  simp only[an9,aI1,M6 hlt,cond_true,List.length_map,ixB hlt,V3,Bool.and_self,Int.toNat_natCast,List.getE hlt,Option.bind_some,hc,e1,bR9 h1,cY5]
  simp only[Nat.zero_add,ch9 _ (Nat.mod_lt (r^^^c) (by decide:0<16)),Option.bind_some,nib h1,bR9 h2,cY5,V3,Bool.and_self,cond_true,Int.toNat_natCast]
  simp only[ch9 _ (Nat.mod_lt (M5 4 (r^^^c)) (by decide:0<16)),Option.bind_some,nib h2,wS (show k<9223372036854775807 by omega)]
theorem cu8 {b:List Int} (hb:q0 b) (hm:b.length<9223372036854775807):aP2 b=some (crc b:Int):=by
 have h:bL0 0 b=some (crc b:Int):=by
  refine D7 (.next (s' :=.s1 ((4294967295:Nat):Int) b b.length ((0:Nat):Int)) ?_ ?_)
  ·have:=cn0 (n:=0) (by decide)
   simp only[an9,aT3,List.length_map]
   rw[show(0:Int)=((0:Nat):Int) from rfl,this]
  ·have:=cF0 hb hm b.length 0 4294967295 (by omega) (by decide)
   simpa[crc,ce2] using this
 simp only[aP2,h,Option.bind_some]
/-! ### the document's: one bit after the other -/
abbrev E1:Nat:=140737488351232
/-! ### the program's writer -/
theorem cD0:∀(u:Nat),u<18446744073709551616→EvL R2 (.s1 u) (al7 u):=by
 intro u
 induction u using Nat.strongRecOn with
 | ind u ih=>
  intro hu
  by_cases h:u<128
  ·rw[bb1 h]
   refine .done ?_
   have h1:decide ((u:Int)>127)=false:=by simp;omega
   simp[R2,aa9,h1,ca6 (show u<256 by omega)]
  ·rw[aZ1 (by omega)]
   have h1:decide ((u:Int)>127)=true:=by simp;omega
   refine EvL.next (l:= [((u%128+128:Nat):Int)]) (s' :=.s1 ((u/128:Nat):Int)) ?_ (ih (u/128) (by omega) (by omega))
   simp only[R2,aa9,h1,cond_true,dc0,ai9,cY9 (show u%256<256 by omega)]
   simp
theorem bU5 {n:Int} (h:n9 .i64 n):aa4 n=some (V7 n):=by
 refine cw3 ?_
 have:=cD0 (zz n) (cs4 h)
 rw[←cW6 h] at this
 exact EvL.next (l:= []) rfl this
theorem ci9 {t:Int}:∀(Y b:List Int),b.length+Y.length≤E1→Ev U1 (.s2 t b Y) (b++Y)
 | [],b,_=> .done (by simp[U1,aL9,aF3])
 | y::Y,b,h=>by
  simp only[List.length_cons,E1] at h
  have hl:decide (((List.map (d7 .u8) b).length+1)*1≤n4)=true:=P2 (by simp;omega)
  have ih:=ci9 (t:=t) Y (b++ [y]) (by simp only[List.length_append,List.length_cons,List.length_nil,E1];omega)
  rw[List.append_assoc] at ih
  exact .next (s' :=.s2 t (b++ [y]) Y) (by simp only[U1,aL9,aG7,hl,cond_true]) ih
theorem cP5 {n:Int} (h:n9 .i64 n):by7 n=some (V7 n):=by
 have hl:=aw5 h
 refine D7 (.next (s' :=.s1 n []) (by simp[U1,aN9,ak7]) (.next (s' :=.s2 n [] (V7 n)) (by simp[U1,aO2,bU5 h]) ?_))
 exact ci9 (V7 n) [] (by simp[E1];omega)
theorem bR7 {n:Int} (h:n9 .i64 n):ak6 n=some (V7 n):=by simp[ak6,cP5 h]
theorem bU2 {t:Int}:∀(Y b:List Int),b.length+Y.length≤E1→Ev M7 (.s2 t b Y) (b++Y)
 | [],b,_=> .done (by simp[M7,au8,as1])
 | y::Y,b,h=>by
  simp only[List.length_cons,E1] at h
  have hl:decide (((List.map (d7 .u8) b).length+1)*1≤n4)=true:=P2 (by simp;omega)
  have ih:=bU2 (t:=t) Y (b++ [y]) (by simp only[List.length_append,List.length_cons,List.length_nil,E1];omega)
  rw[List.append_assoc] at ih
  exact .next (s' :=.s2 t (b++ [y]) Y) (by simp only[M7,au8,as0,hl,cond_true]) ih
theorem bN1 {n:Int} (h:n9 .i64 n) {b:List Int} (hb:b.length≤1000000):aG8 n b=some (b++V7 n):=by
 have hl:=aw5 h
 refine D7 (.next (s' :=.s1 n b) (by simp[M7,au7,ak7]) (.next (s' :=.s2 n b (V7 n)) (by simp[M7,au4,bU5 h]) ?_))
 exact bU2 (V7 n) b (by simp[E1];omega)
theorem cC6 (xs:List Int) (x:Int):U0 (xs++ [x])=U0 xs++V7 x:=by simp[U0]
theorem bn7 {l:List Int}{k:Nat} (h:k<l.length):l.take (k+1)=l.take k++ [l[k]]:=by rw[List.take_add_one,List.getE h];rfl
theorem ca9 {l:List Int} (hl:ag7 l) (h64:l.length≤64) (p:List Int) (hp:p.length≤10):∀(j k:Nat),k+j=l.length→Ev V1 (.s1 l l.length k (p++U0 (l.take k))) (0,p++U0 l):=by
 intro j
 induction j with
 | zero=>
  intro k hk
  refine .done ?_
  rw[List.take_of_length_le (by omega)]
  simp[V1,ag3,show ¬((k:Int)<l.length) by omega]
 | succ j ih=>
  intro k hk
  have hlt:k<l.length:=by omega
  have hx:=hl l[k] (List.getElem_mem hlt)
  have hs:=bC5 (xs:=l.take k) fun y hy=>hl y (List.mem_of_mem_take hy)
  rw[List.length_take] at hs
  refine .next (s' :=.s1 l l.length ((k+1:Nat):Int) (p++U0 (l.take (k+1)))) ?_ (ih (k+1) (by omega))
  have e:bN1 hx (b:=p++U0 (l.take k)) (by simp;omega)=bN1 hx (b:=p++U0 (l.take k)) (by simp;omega):=rfl
  have e2:aG8 l[k] (p++U0 (l.take k))=some (p++U0 (l.take (k+1))):=by
   rw[bN1 hx (by simp only[List.length_append];omega),bn7 hlt,cC6,List.append_assoc]
  simp only[V1,ag3,List.length_map,M6 hlt,ixB hlt,V3,Bool.and_self,cond_true,Int.toNat_natCast,List.getE hlt,Option.bind_some,e2,wS (show k<9223372036854775807 by omega)]
theorem aA8 {l:List Int} (hl:ag7 l) (h64:l.length≤64):ap2 l=some (0,encL l):=by
 have hn:=bs3 (n:=l.length) (by omega)
 refine D7 (.next (s' :=.s1 l l.length 0 (V7 l.length)) ?_ ?_)
 ·have h1:decide ((l.length:Int)>64)=false:=by simp;omega
  simp only[V1,ar5,List.length_map,h1,cond_false,bR7 hn,Option.bind_some]
 ·have:=ca9 hl h64 (V7 l.length) (aw5 hn) l.length 0 (by omega)
  simpa[U0,encL] using this
/-! ### the document's writer -/
/-! ### the program's reader -/
def rI (at_:Nat) (x:Int⊕(Int×Nat)):Int×Int×Int:=match x with
 | .inl e=>(0,0,e)
 | .inr (n,k)=>(n,((at_+k:Nat):Int),0)
def rV (at_ i:Nat) (u:Nat) (x:Int⊕(Nat×Nat)):Int×Int×Int:=match x with
 | .inl e=>(0,0,e)
 | .inr (v,k)=>(aW5 (u+v*2^(7*i)),((at_+i+k:Nat):Int),0)
theorem cU0 (i:Nat):2^(7*(i+1))=2^(7*i)*128:=by rw[Nat.mul_succ,Nat.pow_add]
theorem cI1 {i:Nat} (h:i≤8):2^(7*i)≤72057594037927936:=by
 have:2^(7*i)≤2^(7*8):=Nat.pow_le_pow_right (by decide) (by omega)
 simpa using this
theorem cM2 (at_ i u c:Nat) (r:Int⊕(Nat×Nat)) (h1:128≤c) (h2:c<256):rV at_ (i+1) (u+c%128*2^(7*i)) r=rV at_ i u (vS c r):=by
 cases r with
 | inl e=>rfl
 | inr p=>
  obtain⟨v,k⟩:=p
  have e:c-128=c%128:=by omega
  simp only[rV,vS,e]
  have key:∀X:Nat,u+c%128*X+v*(X*128)=u+(c%128+128*v)*X:=fun X=>by
   have h3:v*(X*128)=128*v*X:=by rw[Nat.mul_comm X 128,←Nat.mul_assoc,Nat.mul_comm v 128]
   rw[Nat.add_mul];omega
  rw[cU0,key]
  refine Prod.ext rfl (Prod.ext ?_ rfl)
  show((at_+(i+1)+k:Nat):Int)=((at_+i+(k+1):Nat):Int)
  omega
theorem cW9 {u i c:Nat} (hu:u<2^(7*i)) (hi:i≤9) (hc:c<256) (h9:i=9→c≤1):orI .u64 u (Y7 .u64 (IntKind.u64.wrap (k9 .u8 c 127)) ((7*i:Nat):Int))=((u+c%128*2^(7*i):Nat):Int)∧u+c%128*2^(7*i)<18446744073709551616∧(i≤8→u+c%128*2^(7*i)<2^(7*(i+1))):=by
 have hb:u+c%128*2^(7*i)<18446744073709551616:=by
  rcases Nat.lt_or_ge i 9 with h | h
  ·have:=cI1 (show i≤8 by omega)
   have:c%128*2^(7*i)≤127*2^(7*i):=Nat.mul_le_mul_right _ (by omega)
   omega
  ·have e:i=9:=by omega
   subst e
   have:=h9 rfl
   have h2:c%128≤1:=by omega
   have h3:c%128*2^(7*9)≤1*2^(7*9):=Nat.mul_le_mul_right _ h2
   simp at hu h3 ⊢
   omega
 refine⟨?_,hb,fun _=> ?_⟩
 ·rw[cU9 hc,aF1 (by omega)]
  exact cW1 hu hb (by omega)
 ·rw[cU0]
  have:c%128*2^(7*i)≤127*2^(7*i):=Nat.mul_le_mul_right _ (by omega)
  omega
theorem cE7 {L:List Int} (hb:q0 L) (at_:Nat) (hm:at_+L.length≤E1):∀(j i u:Nat),i+j=L.length→i≤9→u<2^(7*i)→Ev B5 (.s2 at_ u ((7*i:Nat):Int) L L.length i) (rV at_ i u (vd i (L.drop i))):=by
 intro j
 induction j with
 | zero=>
  intro i u hi h9 hu
  rw[List.drop_eq_nil_of_le (by omega)]
  refine .done ?_
  simp[B5,ay7,vd,rV,show ¬((i:Int)<L.length) by omega]
 | succ j ih=>
  intro i u hi h9 hu
  have hlt:i<L.length:=by omega
  have hcb:=hb L[i] (List.getElem_mem hlt)
  obtain⟨c,hc⟩:=Int.eq_ofNat_of_zero_le hcb.1
  rw[List.drop_eq_getElem_cons hlt,cR5]
  simp only[E1] at hm
  have e1:decide ((0:Int)≤i)=true:=by simp
  --the first step
  have s1:∀U,U=orI .u64 u (Y7 .u64 (IntKind.u64.wrap (k9 .u8 L[i] 127)) ((7*i:Nat):Int))→B5 (.s2 at_ u ((7*i:Nat):Int) L L.length i)=some (.inl (.s4 at_ U ((7*i:Nat):Int) i L[i] L L.length i (decide (i=9∧1<L[i])))):=fun U hU=>by
   simp only[B5,ay7,List.length_map,M6 hlt,ixB hlt,V3,Bool.and_self,cond_true,Int.toNat_natCast,List.getE hlt,Option.bind_some,nn0,←hU]
   by_cases h:i=9
   ·subst h
    simp
   ·have:(((7*i:Nat):Int)==63)=false:=by simp;omega
    rw[this]
    simp[h]
  by_cases hlong:(i=9∧1<L[i])∨(L[i]=0∧0<i)
  ·rw[if_pos hlong]
   obtain⟨U,hU⟩:∃U,U=orI .u64 u (Y7 .u64 (IntKind.u64.wrap (k9 .u8 L[i] 127)) ((7*i:Nat):Int)):=⟨_,rfl⟩
   refine .next (s1 U hU) (.next (s' :=.s3 at_ U ((7*i:Nat):Int) i L[i] L L.length i true) ?_ (.done (by simp[B5,aq5,rV])))
   by_cases h9:i=9∧1<L[i]
   ·simp only[B5,aj5,decide_eq_true h9,cond_true]
   ·have h0:=hlong.resolve_left h9
    simp only[B5,aj5,decide_eq_false h9,cond_false,h0.1]
    simp
    omega
  ·rw[if_neg hlong]
   have hn9:¬(i=9∧1<L[i]):=fun h=>hlong (.inl h)
   have hn0:¬(L[i]=0∧0<i):=fun h=>hlong (.inr h)
   have hc256:c<256:=by omega
   obtain⟨a1,a2,a3⟩:=cW9 hu h9 hc256 (fun h=>by omega)
   rw[←hc] at a1
   refine .next (s1 _ a1.symm) (.next (s' :=.s3 at_ ((u+c%128*2^(7*i):Nat):Int) ((7*i:Nat):Int) i L[i] L L.length i false) ?_ ?_)
   ·have:decide (i=9∧1<L[i])=false:=by simpa using fun h=>by omega
    rw[this]
    by_cases h0:L[i]=0
    ·have:¬0<i:=fun h=>hn0 ⟨h0,h⟩
     simp[B5,aj5,h0]
     omega
    ·simp[B5,aj5,h0,beq_eq_false_iff_ne.2 h0]
   ·by_cases hlt128:L[i]<128
    ·rw[if_pos hlt128]
     refine .done ?_
     have hmod:c%128=c:=by omega
     simp only[B5,aq5,cond_false,decide_eq_true hlt128,cond_true,cE5 a2,rV]
     rw[F4 (n:=(at_:Int)+i) (by omega) (by omega),F4 (by omega) (by omega),hmod,hc]
     simp
    ·rw[if_neg hlt128]
     have hi8:i≤8:=by
      rcases Nat.lt_or_ge i 9 with h | h
      ·omega
      ·exact absurd ⟨show i=9 by omega,by omega⟩ hn9
     have:=ih (i+1) (u+c%128*2^(7*i)) (by omega) (by omega) (a3 hi8)
     have hres:=cM2 at_ i u c (vd (i+1) (L.drop (i+1))) (by omega) (by omega)
     rw[show L[i].toNat=c by omega]
     rw[←hres]
     refine .next (s' :=.s2 at_ ((u+c%128*2^(7*i):Nat):Int) ((7*(i+1):Nat):Int) L L.length ((i+1:Nat):Int)) ?_ this
     have e7:IntKind.i64.wrap (((7*i:Nat):Int)+7)=((7*(i+1):Nat):Int):=by rw[F4 (by omega) (by omega)];omega
     simp only[B5,aq5,cond_false,decide_eq_false hlt128,e7,wS (show i<9223372036854775807 by omega)]
theorem cZ8 (at_:Nat) (L:List Int):rV at_ 0 0 (vd 0 L)=rI at_ (pI L):=by
 unfold pI rI rV
 cases vd 0 L with
 | inl e=>rfl
 | inr p=>obtain⟨v,k⟩:=p;simp
theorem aY3 {b:List Int} (hb:q0 b) (hm:b.length≤E1) {at_:Nat} (h:at_≤b.length):bg2 b at_=some (rI at_ (pI (b.drop at_))):=by
 refine D7 (.next (s' :=.s1 b at_ false) ?_ (.next (s' :=.s2 at_ 0 0 (b.drop at_) (b.drop at_).length 0) ?_ ?_))
 ·have h1:decide ((at_:Int)<0)=false:=by simp
  have h2:decide ((at_:Int)>b.length)=false:=by simp;omega
  simp[B5,aN1,h1,h2]
  exact h
 ·have h1:(decide (((0:Nat):Int)≤at_)&&decide ((at_:Int)≤((b.length:Nat):Int)))=true:=by simp;omega
  simp only[B5,aL5,cond_false,List.length_map,h1,cond_true,Int.toNat_natCast,List.take_length]
 ·have:=cE7 (L:=b.drop at_) (fun c hc=>hb c (List.mem_of_mem_drop hc)) at_ (by simp only[List.length_drop];omega) (b.drop at_).length 0 0 (by omega) (by omega) (by simp)
  rw[List.drop_zero,cZ8] at this
  exact this
/-! ### the document's reader -/
/-! ### H4, read -/
def rL (at_:Nat) (x:Int⊕(List Int×Nat)):List Int×Int×Int:=match x with
 | .inl e=>([],0,e)
 | .inr (xs,k)=>(xs,((at_+k:Nat):Int),0)
def rN (m9:List Int) (at_:Nat) (x:Int⊕(List Int×Nat)):List Int×Int×Int:=match x with
 | .inl e=>([],0,e)
 | .inr (xs,k)=>(m9++xs,((at_+k:Nat):Int),0)
theorem cJ7 {l:List Int}{n:Int}{k:Nat} (hb:q0 l) (h:pI l=.inr (n,k)):k≤l.length:=(bq2 hb h).2.1
theorem aS0 {l:List Int}{e:Int} (h:pI l=.inl e):(e !=0)=true:=by rcases cD1 h with rfl | rfl<;>rfl
theorem cL9 (m9:List Int) (x:Int) (b:List Int) (j at_ k:Nat):rN (m9++ [x]) (at_+k) (pN j (b.drop (at_+k)))=rN m9 at_ (pS x k (pN j ((b.drop at_).drop k))):=by
 rw[List.drop_drop]
 cases pN j (b.drop (at_+k)) with
 | inl e=>rfl
 | inr p=>obtain⟨xs,m⟩:=p;simp[rN,pS,Nat.add_assoc]
theorem cQ4 (b:List Int) (t at_ k:Nat):rN [] (at_+k) (pN t (b.drop (at_+k)))=rL at_ (pK k (pN t ((b.drop at_).drop k))):=by
 rw[List.drop_drop]
 cases pN t (b.drop (at_+k)) with
 | inl e=>rfl
 | inr p=>obtain⟨xs,m⟩:=p;simp[rN,rL,pK,Nat.add_assoc]
theorem cy4 {b:List Int} (hb:q0 b) (hm:b.length≤E1) (t:Nat) (ht:t≤64):∀(j i at_:Nat) (m9:List Int),i+j=t→at_≤b.length→m9.length=i→Ev F5 (.s1 b at_ 0 t i m9) (rN m9 at_ (pN j (b.drop at_))):=by
 intro j
 induction j with
 | zero=>
  intro i at_ m9 hi hat ho
  refine .next (s' :=.s2 at_ 0 m9) ?_ (.done (by simp[F5,ak5,pN,rN]))
  simp[F5,ad5,show ¬((i:Int)<t) by omega]
 | succ j ih=>
  intro i at_ m9 hi hat ho
  have hlt:i<t:=by omega
  cases hp:pI (b.drop at_) with
  | inl e=>
   rw[cX5 hp]
   refine .next (s' :=.s2 0 e m9) ?_ (.done ?_)
   ·simp only[F5,ad5,M6 hlt,cond_true,aY3 hb hm hat,hp,rI,Option.bind_some,aS0 hp]
   ·simp only[F5,ak5,aS0 hp,cond_true,rN]
  | inr p=>
   obtain⟨x,k⟩:=p
   have hk:=cJ7 (fun c hc=>hb c (List.mem_of_mem_drop hc)) hp
   rw[List.length_drop] at hk
   have:=ih (i+1) (at_+k) (m9++ [x]) (by omega) (by omega) (by simp[ho])
   rw[cY3 hp,←cL9]
   refine .next (s' :=.s1 b ((at_+k:Nat):Int) 0 t ((i+1:Nat):Int) (m9++ [x])) ?_ this
   have hl:decide (((List.map (d7 .i64) m9).length+1)*8≤n4)=true:=P2 (by simp;omega)
   simp only[F5,ad5,M6 hlt,cond_true,aY3 hb hm hat,hp,rI,Option.bind_some,hl,wS (show i<9223372036854775807 by omega)]
   simp
theorem br8 {b:List Int} (hb:q0 b) (hm:b.length≤E1) {at_:Nat} (h:at_≤b.length):aw9 b at_=some (rL at_ (pL (b.drop at_))):=by
 have hsz:∀x:Int×Int×Int,G5 b at_ 64=some x→F5 (.s0 b at_)=some (.inl (.s1 b x.2.1 x.2.2 x.1 0 [])):=fun x hx=>by
  simp only[F5,aF6,hx,Option.bind_some]
 have bad:∀e:Int,(e !=0)=true→G5 b at_ 64=some (0,0,e)→aw9 b at_=some ([],0,e):=fun e he hx=>
  D7 (.next (hsz _ hx) (.next (s' :=.s2 0 e []) (by simp[F5,ad5]) (.done (by simp only[F5,ak5,he,cond_true]))))
 cases hp:pI (b.drop at_) with
 | inl e=>rw[cW0 hp];exact bad e (aS0 hp) (by simp only[G5,aY3 hb hm h,hp,rI,Option.bind_some,aS0 hp,cond_true])
 | inr p=>
  obtain⟨n,k⟩:=p
  have hk:=cJ7 (fun c hc=>hb c (List.mem_of_mem_drop hc)) hp
  rw[List.length_drop] at hk
  by_cases hbig:n<0∨n>64
  ·rw[cX9 hp hbig]
   refine bad 2 rfl ?_
   simp only[G5,aY3 hb hm h,hp,rI,Option.bind_some]
   by_cases h0:n<0
   ·simp[h0,J4]
   ·have:n>64:=by omega
    simp[h0,this,J4]
  ·have hs:G5 b at_ 64=some (n,((at_+k:Nat):Int),0):=by
    simp only[G5,aY3 hb hm h,hp,rI,Option.bind_some]
    simp[show ¬n<0 by omega,show ¬64<n by omega,J4]
   rw[cY0 hp hbig,←cQ4]
   obtain⟨t,rfl⟩:=Int.eq_ofNat_of_zero_le (show 0≤n by omega)
   exact D7 (.next (hsz _ hs) (cy4 hb hm t (by omega) t 0 (at_+k) [] (by omega) (by omega) rfl))
theorem cZ1 {a:Nat} (h:a<36028797018963968):Y7 .i64 a 8=((a*256:Nat):Int):=by
 unfold Y7
 rw[show min (8:Int).toNat IntKind.i64.bits=8 from rfl,show((a:Int)*(2:Int)^8)=((a*256:Nat):Int) by norm_cast,F4 (by omega) (by omega)]
/-! ### writing -/
def cG1 (k:Int) (body:List Int):List Int×Int:=if body.length≤8192 then (E9 k body,0) else ([],2)
theorem db6 {n:Nat}:n6 .i64 n 8=((n/256:Nat):Int):=by
 unfold n6
 rw[show min (8:Int).toNat IntKind.i64.bits=8 from rfl,Int.fdiv_eq_ediv_of_nonneg _ (by decide)]
 norm_cast
theorem cZ2 (k:Int) {body:List Int} (h:body.length≤8192): [247,k,(IntKind.u8.wrap ((n6 .i64 ((body.length:Nat):Int) 8))),(IntKind.u8.wrap (((body.length:Nat):Int)))]++body=247::O0 k body:=by
 rw[db6,ai9,ai9,Nat.mod_eq_of_lt (a:=body.length/256) (by omega)]
 rfl
theorem db9 {k:Int}{body:List Int} (h:body.length≤8192):List.take ((247::O0 k body).length-1) (List.drop 1 (247::O0 k body))=O0 k body:=by
 simp
theorem cq5 {s:Nat} (hs:s<4294967296) {b:List Int} (hb:b.length≤8300):Ev M9 (.s1 s 24 b) (b++be4 s,0):=by
 have e24:n6 .u32 s 24=((s/16777216:Nat):Int):=bp2 (a:=s) (k:=24) (by decide)
 have e16:n6 .u32 s 16=((s/65536:Nat):Int):=bp2 (a:=s) (k:=16) (by decide)
 have e8:n6 .u32 s 8=((s/256:Nat):Int):=bp2 (a:=s) (k:=8) (by decide)
 have e0:n6 .u32 s 0=(s:Int):=by have:=bp2 (a:=s) (k:=0) (by decide);simpa using this
 have lim:∀n,n≤8310→decide ((n+1)*1≤n4)=true:=fun n hn=>P2 (by omega)
 refine .next (s' :=.s1 s 16 (b++ [((s/16777216%256:Nat):Int)])) ?_ (.next (s' :=.s1 s 8 (b++ [((s/16777216%256:Nat):Int),((s/65536%256:Nat):Int)])) ?_ (.next (s' :=.s1 s 0 (b++ [((s/16777216%256:Nat):Int),((s/65536%256:Nat):Int),((s/256%256:Nat):Int)])) ?_ (.next (s' :=.s1 s (-8) (b++be4 s)) ?_ (.done ?_))))
 ·simp only[M9,ad6,e24,ai9,List.length_map,lim b.length (by omega)]
  rfl
 ·simp only[M9,ad6,e16,ai9,List.length_map,List.length_append,List.length_cons,List.length_nil,lim (b.length+(0+1)) (by omega),List.append_assoc,List.cons_append,List.nil_append]
  rfl
 ·simp only[M9,ad6,e8,ai9,List.length_map,List.length_append,List.length_cons,List.length_nil,lim (b.length+(0+1+1)) (by omega),List.append_assoc,List.cons_append,List.nil_append]
  rfl
 ·simp only[M9,ad6,e0,ai9,List.length_map,List.length_append,List.length_cons,List.length_nil,lim (b.length+(0+1+1+1)) (by omega),List.append_assoc,List.cons_append,List.nil_append]
  rfl
 ·rfl
theorem cj3 {k:Int}{body:List Int} (hk:0≤k∧k≤255) (hb:q0 body) (hm:body.length≤E1):aV6 k body=some (cG1 k body):=by
 unfold cG1
 by_cases h:body.length≤8192
 ·rw[if_pos h]
  have hs:=cu8 (bw2 hk hb (by omega)) (by rw[ax5];omega)
  refine D7 (.next (s' :=.s1 (crc (O0 k body):Int) 24 (247::O0 k body)) ?_ ?_)
  ·have c1:decide (((body.length:Nat):Int)>8192)=false:=by simp;omega
   have c2:decide ((4+body.length)*1≤n4)=true:=P2 (by omega)
   have c3:decide ((1:Int)≤(((247::O0 k body).length:Nat):Int))=true:=by simp[ax5];omega
   have c4:Nat.ble (1+((247::O0 k body).length-1)) (247::O0 k body).length=true:=by simp;omega
   simp only[M9,at4,List.length_map,c1,c2,cZ2 k h,c3,c4,cond_false,cond_true,db9 h,hs,Option.bind_some]
  ·exact cq5 (ci8 _) (by simp[ax5];omega)
 ·rw[if_neg h]
  refine D7 (.done ?_)
  have c1:decide (((body.length:Nat):Int)>8192)=true:=by simp;omega
  simp only[M9,at4,List.length_map,c1,cond_true]
def rF (at_:Nat) (x:Int⊕(Int×List Int×Nat)):Int×List Int×Int×Int:=match x with
 | .inl e=>(0,[],0,e)
 | .inr (k,body,m)=>(k,body,((at_+m:Nat):Int),0)
theorem cG8 {m:Int}{l:List Int} (h:m≠247):pF (m::l)=.inl 32:=by simp only[pF,if_pos h]
theorem cF9 {l:List Int} (h:l.length<7):pF (247::l)=.inl 31:=by
 simp only[pF,if_neg (show ¬((247:Int)≠247) by simp),if_pos (show(247::l).length<8 by simp;omega)]
theorem cO2 {k:Int}{a c:Nat}{r:List Int} (h:4≤r.length) (hn:8192<a*256+c):pF (247::k::(a:Int)::(c:Int)::r)=.inl 2:=by
 have hl:¬(247::k::(a:Int)::(c:Int)::r).length<8:=by simp;omega
 have hn' :L9 0 [(a:Int),(c:Int)]=a*256+c:=by simp[L9]
 simp only[pF,if_neg (show ¬((247:Int)≠247) by simp),if_neg hl,List.getD_cons_succ,List.getD_cons_zero,hn',if_pos hn]
theorem cO9 {k:Int}{a c:Nat}{r:List Int} (h:4≤r.length) (hn:a*256+c≤8192) (hc:r.length<a*256+c+4):pF (247::k::(a:Int)::(c:Int)::r)=.inl 31:=by
 have hl:¬(247::k::(a:Int)::(c:Int)::r).length<8:=by simp;omega
 have hn' :L9 0 [(a:Int),(c:Int)]=a*256+c:=by simp[L9]
 have h2:(247::k::(a:Int)::(c:Int)::r).length<a*256+c+8:=by simp;omega
 simp only[pF,if_neg (show ¬((247:Int)≠247) by simp),if_neg hl,List.getD_cons_succ,List.getD_cons_zero,hn',if_neg (show ¬8192<a*256+c by omega),if_pos h2]
theorem cF4 {k:Int}{a c:Nat}{r:List Int} (h:4≤r.length) (hn:a*256+c≤8192) (hc:a*256+c+4≤r.length):pF (247::k::(a:Int)::(c:Int)::r)=
  if crc ((k::(a:Int)::(c:Int)::r).take (a*256+c+3))≠L9 0 ((r.drop (a*256+c)).take 4) then .inl 33 else .inr (k,r.take (a*256+c),a*256+c+8):=by
 have hl:¬(247::k::(a:Int)::(c:Int)::r).length<8:=by simp;omega
 have hn' :L9 0 [(a:Int),(c:Int)]=a*256+c:=by simp[L9]
 have h2:¬(247::k::(a:Int)::(c:Int)::r).length<a*256+c+8:=by simp;omega
 simp only[pF,if_neg (show ¬((247:Int)≠247) by simp),if_neg hl,List.getD_cons_succ,List.getD_cons_zero,hn',if_neg (show ¬8192<a*256+c by omega),if_neg h2,List.drop_succ_cons,List.drop_zero]
theorem cj4 {b:List Int} (hb:q0 b) (h4:b.length≤4):∀(j k n:Nat),k+j=b.length→n<256^k→Ev P0 (.s1 n b b.length k) ((L9 n (b.drop k):Nat):Int):=by
 intro j
 induction j with
 | zero=>
  intro k n hk hn
  refine .done ?_
  rw[List.drop_of_length_le (by omega)]
  simp only[P0,af6,geB (show b.length≤k by omega),cond_false,L9]
 | succ j ih=>
  intro k n hk hn
  have hlt:k<b.length:=by omega
  have hc:=hb _ (List.getElem_mem hlt)
  obtain⟨c,hc'⟩:∃c:Nat,b[k]=(c:Int):=⟨_,(Int.toNat_of_nonneg hc.1).symm⟩
  rw[hc'] at hc
  have hk4:256^k≤256^3:=Nat.pow_le_pow_right (by decide) (by omega)
  have hd:b.drop k=(c:Int)::b.drop (k+1):=by rw[←hc',List.drop_eq_getElem_cons hlt]
  have e1:IntKind.i64.wrap (Y7 .i64 (n:Int) 8+IntKind.i64.wrap (c:Int))=((n*256+c:Nat):Int):=by
   rw[cZ1 (by omega),F4 (n:=(c:Int)) (by omega) (by omega),F4 (by omega) (by omega)];norm_cast
  rw[hd]
  refine .next (s' :=.s1 ((n*256+c:Nat):Int) b b.length ((k+1:Nat):Int)) ?_ (by
   show Ev P0 _ ((L9 (n*256+(c:Int).toNat) (b.drop (k+1)):Nat):Int)
   rw[Int.toNat_natCast]
   exact ih (k+1) _ (by omega) (by rw[Nat.pow_succ];omega))
  simp only[P0,af6,M6 hlt,cond_true,List.length_map,ixB hlt,V3,Bool.and_self,Int.toNat_natCast,List.getE hlt,Option.bind_some,hc',e1,wS (show k<9223372036854775807 by omega)]
theorem bT8 {b:List Int} (hb:q0 b) (h4:b.length≤4):ap1 b=some ((L9 0 b:Nat):Int):=by
 refine D7 (.next (s' :=.s1 ((0:Nat):Int) b b.length ((0:Nat):Int)) ?_ ?_)
 ·simp only[P0,ar6,List.length_map];rfl
 ·have:=cj4 hb h4 b.length 0 0 (by omega) (by decide)
  simpa using this
theorem bN3 {l:List Int} (hb:q0 l) (n:Nat):q0 (l.take n):=fun c hc=>hb c (List.mem_of_mem_take hc)
theorem aC9 {l:List Int} (hb:q0 l) (n:Nat):q0 (l.drop n):=fun c hc=>hb c (List.mem_of_mem_drop hc)
/-! ### the document's reader -/
end Go.RX.L

set_option maxHeartbeats 4000000
namespace Go.RX.L
open Go Go.RX Go.Proofs
attribute [local irreducible] i6
noncomputable def x6:=r4 (r9 Tryd.f29)
noncomputable def N8 (b0:List Int) (y:(List Int)×(List (List Int))×Int):D×i4:=(.tup [.sl false 1 (List.map (d7 .u8) y.1),.sl false 1 (List.map (D1 1 (d7 .u8)) y.2.1),.int .i64 y.2.2],[some ⟨1,false,(List.map (d7 .u8) b0)⟩])
inductive A7 where
 | s0
 | s1 (v9:Int) (b5:List Int) (b6:List (List Int))
 | s2 (v9:Int) (b5:List Int) (b6:List (List Int)) (Y:List (Int×W5))
noncomputable def au0 (b0:List Int):A7→M
 | .s0=>J0 Tryd.f29 [(i9 0 (List.map (d7 .u8) b0))] [some ⟨1,false,(List.map (d7 .u8) b0)⟩]
 | .s1 v9 b5 b6=>⟨[.code (x6 [1,1,1,1,0,1,0]),.blk 0,.code (x6 [1,1,1,1,1])],[(5,.ptr 1 0 0),(6,.ptr 2 0 0),(7,.ptr 3 0 0),(11,.fn 65 [] [.ptr 4 0 0])],[some ⟨1,false,(List.map (d7 .u8) b0)⟩,some ⟨1,true,[[(i9 5 (List.map (d7 .u8) b5))]]⟩,some ⟨1,true,[[(i9 6 (List.map (D1 1 (d7 .u8)) b6))]]⟩,some ⟨1,false,[[.int .i64 v9]]⟩,some ⟨1,true,[[(i9 0 (List.map (d7 .u8) b0))]]⟩,some ⟨1,false,(List.map (d7 .u8) b5)⟩,some ⟨1,false,(List.map (D1 1 (d7 .u8)) b6)⟩]⟩
 | .s2 v9 b5 b6 Y=>⟨[.blk 0,.code (x6 [1,1,1,1,1])],[(5,.ptr 1 0 0),(6,.ptr 2 0 0),(7,.ptr 3 0 0),(11,.fn 65 [] [.ptr 4 0 0])],[some ⟨1,false,(List.map (d7 .u8) b0)⟩,some ⟨1,true,[[(i9 5 (List.map (d7 .u8) b5))]]⟩,some ⟨1,true,[[(i9 6 (List.map (D1 1 (d7 .u8)) b6))]]⟩,some ⟨1,false,[[.int .i64 v9]]⟩,some ⟨1,true,[[(i9 0 (List.map (d7 .u8) b0))]]⟩,some ⟨1,false,(List.map (d7 .u8) b5)⟩,some ⟨1,false,(List.map (D1 1 (d7 .u8)) b6)⟩]⟩
noncomputable def ae2 (b0:List Int):A7→((List Int)×(List (List Int))×Int)→Prop
 | .s0,r_=>i6 E (Cx.of Tryd.f29 false 1) (QW (Rs (N8 b0) r_)) (.go ((au0 b0) (.s0)))
 | .s1 v9 b5 b6,r_=>i6 E (Cx.of Tryd.f29 false 1) (QW (Rs (N8 b0) r_)) (.go ((au0 b0) (.s1 v9 b5 b6)))
 | .s2 v9 b5 b6 Y,r_=>af0 E (Cx.of Tryd.f29 false 1) (QW (Rs (N8 b0) r_)) 5 (x6 [1,1,1,1,0,1,0]) [.blk 0,.code (x6 [1,1,1,1,1])] [(5,.ptr 1 0 0),(6,.ptr 2 0 0),(7,.ptr 3 0 0),(11,.fn 65 [] [.ptr 4 0 0])] [4,0] [some ⟨1,true,[[(i9 0 (List.map (d7 .u8) b0))]]⟩,some ⟨1,false,(List.map (d7 .u8) b0)⟩] (List.map L6 Y) [some ⟨1,false,(List.map (d7 .u8) b0)⟩,some ⟨1,true,[[(i9 5 (List.map (d7 .u8) b5))]]⟩,some ⟨1,true,[[(i9 6 (List.map (D1 1 (d7 .u8)) b6))]]⟩,some ⟨1,false,[[.int .i64 v9]]⟩,some ⟨1,true,[[(i9 0 (List.map (d7 .u8) b0))]]⟩,some ⟨1,false,(List.map (d7 .u8) b5)⟩,some ⟨1,false,(List.map (D1 1 (d7 .u8)) b6)⟩]
noncomputable def aF4 (b0:List Int):Option (A7⊕((List Int)×(List (List Int))×Int)):=((aO3 b0).bind fun y1=>(some (.inl (.s1 0 ([]) ([])))))
noncomputable def aF9 (b0:List Int) (v9:Int) (b5:List Int) (b6:List (List Int)):Option (A7⊕((List Int)×(List (List Int))×Int)):=((az3 b0).bind fun y1=>(some (.inl (.s2 v9 b5 b6 y1))))
noncomputable def aB7 (b0:List Int) (v9:Int) (b5:List Int) (b6:List (List Int)):Option (A7⊕((List Int)×(List (List Int))×Int)):=(some (.inr (b5,b6,v9)))
noncomputable def ay5 (b0:List Int) (v9:Int) (b5:List Int) (b6:List (List Int)) (y:Int×W5) (Y:List (Int×W5)):Option (A7⊕((List Int)×(List (List Int))×Int)):=(bif (decide (((List.map (d7 .u8) b5).length+1)*1≤n4)) then (bif (decide (((List.map (D1 1 (d7 .u8)) b6).length+1)*24≤n4)) then (some (.inl (.s2 y.1 (b5++ [y.2.kind]) (b6++ [y.2.body]) Y))) else none) else none)
noncomputable def aG3 (b0:List Int) (v9:Int) (b5:List Int) (b6:List (List Int)):List (Int×W5)→Option (A7⊕((List Int)×(List (List Int))×Int))
 | []=>aB7 b0 v9 b5 b6
 | y::Y=>ay5 b0 v9 b5 b6 y Y
noncomputable def P9 (b0:List Int):A7→Option (A7⊕((List Int)×(List (List Int))×Int))
 | .s0=>aF4 b0
 | .s1 v9 b5 b6=>aF9 b0 v9 b5 b6
 | .s2 v9 b5 b6 Y=>aG3 b0 v9 b5 b6 Y
theorem bP1 {b0:List Int}{r:(List Int)×(List (List Int))×Int}{x:A7⊕((List Int)×(List (List Int))×Int)} (h:aF4 b0=some x) (ha:O6 (ae2 b0) r x):i6 E (Cx.of Tryd.f29 false 1) (QW (Rs (N8 b0) r)) (.go ((au0 b0) (.s0))):=by
 unfold aF4 at h
 refine zc 26 [] h (fun _=>bX1) fun y1 h=> ?_
 refine o7 hm 2 _ ?_
 obtain rfl:=Option.some.inj h
 refine aL8 14560 [.matc 1 0 0 1,.matc 2 0 0 1] (m' :=⟨[.code (x6 [1,1,1,1,0,1,0]),.blk 0,.code (x6 [1,1,1,1,1])],[(5,.ptr 1 0 0),(6,.ptr 2 0 0),(7,.ptr 3 0 0),(11,.fn 65 [] [.ptr 4 0 0])],[some ⟨1,false,(List.map (d7 .u8) b0)⟩,some ⟨1,true,[[.msl 5 0 0 0 false]]⟩,some ⟨1,true,[[.msl 6 0 0 0 false]]⟩,some ⟨1,false,[[.int .i64 0]]⟩,some ⟨1,true,[[(i9 0 (List.map (d7 .u8) b0))]]⟩,some ⟨1,false,[]⟩,some ⟨1,false,[]⟩]⟩) (by kernel_rfl) ?_
 refine aB1 (n1:=0) (n2:=(List.map (d7 .u8) ([])).length) (fun n_len=> .go ⟨[.code (x6 [1,1,1,1,0,1,0]),.blk 0,.code (x6 [1,1,1,1,1])],[(5,.ptr 1 0 0),(6,.ptr 2 0 0),(7,.ptr 3 0 0),(11,.fn 65 [] [.ptr 4 0 0])],[some ⟨1,false,(List.map (d7 .u8) b0)⟩,some ⟨1,true,[[.msl 5 0 n_len n_len false]]⟩,some ⟨1,true,[[.msl 6 0 0 0 false]]⟩,some ⟨1,false,[[.int .i64 0]]⟩,some ⟨1,true,[[(i9 0 (List.map (d7 .u8) b0))]]⟩,some ⟨1,false,[]⟩,some ⟨1,false,[]⟩]⟩) (by simp) ?_
 refine aB1 (n1:=0) (n2:=(List.map (D1 1 (d7 .u8)) ([])).length) (fun n_len=> .go ⟨[.code (x6 [1,1,1,1,0,1,0]),.blk 0,.code (x6 [1,1,1,1,1])],[(5,.ptr 1 0 0),(6,.ptr 2 0 0),(7,.ptr 3 0 0),(11,.fn 65 [] [.ptr 4 0 0])],[some ⟨1,false,(List.map (d7 .u8) b0)⟩,some ⟨1,true,[[.msl 5 0 ((List.map (d7 .u8) ([])).length) ((List.map (d7 .u8) ([])).length) false]]⟩,some ⟨1,true,[[.msl 6 0 n_len n_len false]]⟩,some ⟨1,false,[[.int .i64 0]]⟩,some ⟨1,true,[[(i9 0 (List.map (d7 .u8) b0))]]⟩,some ⟨1,false,[]⟩,some ⟨1,false,[]⟩]⟩) (by simp) ?_
 exact ha
theorem bM4 {b0:List Int}{v9:Int}{b5:List Int}{b6:List (List Int)}{r:(List Int)×(List (List Int))×Int}{x:A7⊕((List Int)×(List (List Int))×Int)} (h:aF9 b0 v9 b5 b6=some x) (ha:O6 (ae2 b0) r x):i6 E (Cx.of Tryd.f29 false 1) (QW (Rs (N8 b0) r)) (.go ((au0 b0) (.s1 v9 b5 b6))):=by
 unfold aF9 at h
 refine o7 hm 1 _ ?_
 have ok1:=fun(y:List (Int×W5)) (hy:az3 b0=some y)=>bF7 hy
 refine cT2 (m:=5) (c:=x6 [1,1,1,1,0,1,0]) (t:= [.blk 0,.code (x6 [1,1,1,1,1])]) (fr:= [(5,.ptr 1 0 0),(6,.ptr 2 0 0),(7,.ptr 3 0 0),(11,.fn 65 [] [.ptr 4 0 0])]) (σ:= [some ⟨1,false,(List.map (d7 .u8) b0)⟩,some ⟨1,true,[[(i9 5 (List.map (d7 .u8) b5))]]⟩,some ⟨1,true,[[(i9 6 (List.map (D1 1 (d7 .u8)) b6))]]⟩,some ⟨1,false,[[.int .i64 v9]]⟩,some ⟨1,true,[[(i9 0 (List.map (d7 .u8) b0))]]⟩,some ⟨1,false,(List.map (d7 .u8) b5)⟩,some ⟨1,false,(List.map (D1 1 (d7 .u8)) b6)⟩]) (ids:= [4,0]) (bs:= [some ⟨1,true,[[(i9 0 (List.map (d7 .u8) b0))]]⟩,some ⟨1,false,(List.map (d7 .u8) b0)⟩]) (caps1:= [.ptr 0 0 0]) (caps:= [.ptr 0 0 0]) (sub1:= [some ⟨1,true,[[(i9 1 (List.map (d7 .u8) b0))]]⟩,some ⟨1,false,(List.map (d7 .u8) b0)⟩]) (sub:= [some ⟨1,true,[[(i9 1 (List.map (d7 .u8) b0))]]⟩,some ⟨1,false,(List.map (d7 .u8) b0)⟩]) L6 h (by kernel_rfl) ⟨rfl,rfl⟩ (by kernel_rfl) (by kernel_rfl) (by kernel_rfl) (by kernel_rfl) (by kernel_rfl) ok1 (fun y1 h1 h=> ?_)
 obtain rfl:=Option.some.inj h
 exact ha
theorem bI8 {b0:List Int}{v9:Int}{b5:List Int}{b6:List (List Int)}{r:(List Int)×(List (List Int))×Int}{x:A7⊕((List Int)×(List (List Int))×Int)} (h:aB7 b0 v9 b5 b6=some x) (ha:O6 (ae2 b0) r x):af0 E (Cx.of Tryd.f29 false 1) (QW (Rs (N8 b0) r)) 5 (x6 [1,1,1,1,0,1,0]) [.blk 0,.code (x6 [1,1,1,1,1])] [(5,.ptr 1 0 0),(6,.ptr 2 0 0),(7,.ptr 3 0 0),(11,.fn 65 [] [.ptr 4 0 0])] [4,0] [some ⟨1,true,[[(i9 0 (List.map (d7 .u8) b0))]]⟩,some ⟨1,false,(List.map (d7 .u8) b0)⟩] ([]) [some ⟨1,false,(List.map (d7 .u8) b0)⟩,some ⟨1,true,[[(i9 5 (List.map (d7 .u8) b5))]]⟩,some ⟨1,true,[[(i9 6 (List.map (D1 1 (d7 .u8)) b6))]]⟩,some ⟨1,false,[[.int .i64 v9]]⟩,some ⟨1,true,[[(i9 0 (List.map (d7 .u8) b0))]]⟩,some ⟨1,false,(List.map (d7 .u8) b5)⟩,some ⟨1,false,(List.map (D1 1 (d7 .u8)) b6)⟩]:=by
 unfold aB7 at h
 refine bP3 ?_
 refine zm 7 (b:=(Nat.ble (0+(List.map (d7 .u8) b5).length) ((List.map (d7 .u8) b5).length))) (C8 _) ?_
 refine zm 0 (b:=(Nat.ble (0+(List.map (D1 1 (d7 .u8)) b6).length) ((List.map (D1 1 (d7 .u8)) b6).length))) (C8 _) ?_
 obtain rfl:=Option.some.inj h
 have hv:=ha
 simp only[O6] at hv
 subst hv
 exact aB5 [] (d1:=.tup [.sl false 1 (List.take ((List.map (d7 .u8) b5).length) (List.drop 0 (List.map (d7 .u8) b5))),.sl false 1 (List.take ((List.map (D1 1 (d7 .u8)) b6).length) (List.drop 0 (List.map (D1 1 (d7 .u8)) b6))),.int .i64 v9]) (d:=.tup [.sl false 1 (List.map (d7 .u8) b5),.sl false 1 (List.map (D1 1 (d7 .u8)) b6),.int .i64 v9]) (s1:= [some ⟨1,false,(List.map (d7 .u8) b0)⟩]) (s:= [some ⟨1,false,(List.map (d7 .u8) b0)⟩]) (by kernel_rfl) ⟨by simp[f0.enc,f0.l,l6.enc,l6.l,q9.enc,q9.l,i5.enc,i5.l,Plan.enc,Plan.l,q6.enc,q6.l,i0.enc,i0.l,q7.enc,q7.l,n5.enc,n5.l,o6.enc,o6.l,List.take_of_length_le,List.map_take,List.map_drop],rfl⟩ ⟨rfl,rfl⟩ Cx.fin_of
theorem bF0 {b0:List Int}{v9:Int}{b5:List Int}{b6:List (List Int)}{y:Int×W5}{Y:List (Int×W5)}{r:(List Int)×(List (List Int))×Int}{x:A7⊕((List Int)×(List (List Int))×Int)} (h:ay5 b0 v9 b5 b6 y Y=some x) (ha:O6 (ae2 b0) r x):af0 E (Cx.of Tryd.f29 false 1) (QW (Rs (N8 b0) r)) 5 (x6 [1,1,1,1,0,1,0]) [.blk 0,.code (x6 [1,1,1,1,1])] [(5,.ptr 1 0 0),(6,.ptr 2 0 0),(7,.ptr 3 0 0),(11,.fn 65 [] [.ptr 4 0 0])] [4,0] [some ⟨1,true,[[(i9 0 (List.map (d7 .u8) b0))]]⟩,some ⟨1,false,(List.map (d7 .u8) b0)⟩] (L6 y::List.map L6 Y) [some ⟨1,false,(List.map (d7 .u8) b0)⟩,some ⟨1,true,[[(i9 5 (List.map (d7 .u8) b5))]]⟩,some ⟨1,true,[[(i9 6 (List.map (D1 1 (d7 .u8)) b6))]]⟩,some ⟨1,false,[[.int .i64 v9]]⟩,some ⟨1,true,[[(i9 0 (List.map (d7 .u8) b0))]]⟩,some ⟨1,false,(List.map (d7 .u8) b5)⟩,some ⟨1,false,(List.map (D1 1 (d7 .u8)) b6)⟩]:=by
 unfold ay5 at h
 refine bA4 ?_
 refine zn 4 h fun h=> ?_
 refine za 0 (d7 .u8) b5 ([y.2.kind]) ?_
 refine zn 2 h fun h=> ?_
 refine za 0 (D1 1 (d7 .u8)) b6 ([y.2.body]) ?_
 refine o7 hm 8 _ ?_
 obtain rfl:=Option.some.inj h
 exact bM1 [] (s1:= [some ⟨1,false,(List.map (d7 .u8) b0)⟩,some ⟨1,true,[[.msl 5 0 ((List.map (d7 .u8) (b5++ [y.2.kind])).length) ((List.map (d7 .u8) (b5++ [y.2.kind])).length) false]]⟩,some ⟨1,true,[[.msl 6 0 ((List.map (D1 1 (d7 .u8)) (b6++ [y.2.body])).length) ((List.map (D1 1 (d7 .u8)) (b6++ [y.2.body])).length) false]]⟩,some ⟨1,false,[[.int .i64 y.1]]⟩,some ⟨1,true,[[(i9 0 (List.map (d7 .u8) b0))]]⟩,some ⟨1,false,(List.map (d7 .u8) (b5++ [y.2.kind]))⟩,some ⟨1,false,(List.map (D1 1 (d7 .u8)) (b6++ [y.2.body]))⟩]) (s:= [some ⟨1,false,(List.map (d7 .u8) b0)⟩,some ⟨1,true,[[.msl 5 0 ((List.map (d7 .u8) (b5++ [y.2.kind])).length) ((List.map (d7 .u8) (b5++ [y.2.kind])).length) false]]⟩,some ⟨1,true,[[.msl 6 0 ((List.map (D1 1 (d7 .u8)) (b6++ [y.2.body])).length) ((List.map (D1 1 (d7 .u8)) (b6++ [y.2.body])).length) false]]⟩,some ⟨1,false,[[.int .i64 y.1]]⟩,some ⟨1,true,[[(i9 0 (List.map (d7 .u8) b0))]]⟩,some ⟨1,false,(List.map (d7 .u8) (b5++ [y.2.kind]))⟩,some ⟨1,false,(List.map (D1 1 (d7 .u8)) (b6++ [y.2.body]))⟩]) (by kernel_rfl) (rfl) (by kernel_rfl) ha
theorem bP7 {b0:List Int}{v9:Int}{b5:List Int}{b6:List (List Int)}{Y:List (Int×W5)}{r:(List Int)×(List (List Int))×Int}{x:A7⊕((List Int)×(List (List Int))×Int)} (h:aG3 b0 v9 b5 b6 Y=some x) (ha:O6 (ae2 b0) r x):af0 E (Cx.of Tryd.f29 false 1) (QW (Rs (N8 b0) r)) 5 (x6 [1,1,1,1,0,1,0]) [.blk 0,.code (x6 [1,1,1,1,1])] [(5,.ptr 1 0 0),(6,.ptr 2 0 0),(7,.ptr 3 0 0),(11,.fn 65 [] [.ptr 4 0 0])] [4,0] [some ⟨1,true,[[(i9 0 (List.map (d7 .u8) b0))]]⟩,some ⟨1,false,(List.map (d7 .u8) b0)⟩] (List.map L6 Y) [some ⟨1,false,(List.map (d7 .u8) b0)⟩,some ⟨1,true,[[(i9 5 (List.map (d7 .u8) b5))]]⟩,some ⟨1,true,[[(i9 6 (List.map (D1 1 (d7 .u8)) b6))]]⟩,some ⟨1,false,[[.int .i64 v9]]⟩,some ⟨1,true,[[(i9 0 (List.map (d7 .u8) b0))]]⟩,some ⟨1,false,(List.map (d7 .u8) b5)⟩,some ⟨1,false,(List.map (D1 1 (d7 .u8)) b6)⟩]:=by
 cases Y with
 | nil=>exact bI8 h ha
 | cons y Y=>exact bF0 h ha
noncomputable def bm4 (b0:List Int):Option ((List Int)×(List (List Int))×Int):=evf (P9 b0) (.s0)
theorem ci4 {b0:List Int}{r:(List Int)×(List (List Int))×Int} (h:Ev (P9 b0) (.s0) r):l4 E 29 [(i9 0 (List.map (d7 .u8) b0))] [some ⟨1,false,(List.map (d7 .u8) b0)⟩] (Rs (N8 b0) r):=
 aI7 (m:=(au0 b0) (.s0)) (fn:=Tryd.f29) (by kernel_rfl) (by kernel_rfl) (bM2 (Pd:=(ae2 b0)) (fun s x r hs ha=>by
  cases s with
  | s0=>exact bP1 hs ha
  | s1=>exact bM4 hs ha
  | s2=>exact bP7 hs ha) h)
theorem cb0 {b0:List Int}{r:(List Int)×(List (List Int))×Int} (h:bm4 b0=some r):l4 E 29 [(i9 0 (List.map (d7 .u8) b0))] [some ⟨1,false,(List.map (d7 .u8) b0)⟩] (Rs (N8 b0) r):=ci4 (bG0 h)
noncomputable def bz1 (b1 ac6:Int) (ad9:Bool) (b3 b4 y:List Int):D×i4:=(.tup [],[some ⟨1,true,[[.ptr 2 0 0]]⟩,some ⟨1,false,[[.int .i64 b1]]⟩,some ⟨4,true,[[(i9 5 (List.map (d7 .u8) y)),.msl 4 0 0 0 false,.int .i64 ac6,.bool ad9]]⟩,some ⟨1,false,(List.map (d7 .u8) b3)⟩,some ⟨1,false,(List.map (d7 .u8) b4)⟩,some ⟨1,false,(List.map (d7 .u8) y)⟩])
noncomputable def X2 (b1 ac6:Int) (ad9:Bool) (b3 b4:List Int):Option (List Int):=(bif ((decide (((0:Nat):Int)≤b1))&&(decide (b1≤(((List.map (d7 .u8) b3).length:Nat):Int)))) then ((ab2 b1.toNat ((List.map (d7 .u8) b3).length) b3).bind fun y2=>(some y2)) else none)
theorem aL3 {b1 ac6:Int}{ad9:Bool}{b3 b4 r:List Int} (h:X2 b1 ac6 ad9 b3 b4=some r):l4 E 31 [.ptr 0 0 0,.ptr 1 0 0] [some ⟨1,true,[[.ptr 2 0 0]]⟩,some ⟨1,false,[[.int .i64 b1]]⟩,some ⟨4,true,[[(i9 3 (List.map (d7 .u8) b3)),.msl 4 0 0 0 false,.int .i64 ac6,.bool ad9]]⟩,some ⟨1,false,(List.map (d7 .u8) b3)⟩,some ⟨1,false,(List.map (d7 .u8) b4)⟩] (Rs (bz1 b1 ac6 ad9 b3 b4) r):=so (fn:=Tryd.f31) (k:=true) (m:=5) h<| by
 intro r h;unfold X2 at h
 refine zn 5 h fun h=> ?_
 refine zdR 0 [] h (fun _=>bk7) fun y2 h=> ?_
 exact zu 3 h
noncomputable def Y0:=r4 (r9 Tryd.f30)
noncomputable def ap9 (b2:Int) (b4:List Int) (y:Int×Int×Bool×(List Int)):D×i4:=(.int .i64 y.1,[some ⟨4,true,[[(i9 5 (List.map (d7 .u8) y.2.2.2)),.msl 6 0 0 0 false,.int .i64 y.2.1,.bool y.2.2.1]]⟩,some ⟨1,true,[[.ptr 0 0 0]]⟩,some ⟨1,false,[[.int .i64 b2]]⟩,none,none,some ⟨1,false,(List.map (d7 .u8) y.2.2.2)⟩,some ⟨1,false,(List.map (d7 .u8) b4)⟩])
abbrev ao9 (ac6:Int) (ad9:Bool) (b2:Int) (b3 b4:List Int):=AOk E (Cx.of Tryd.f30 true 5) (ap9 b2 b4)
noncomputable def aN2 (ac6:Int) (ad9:Bool) (b2:Int) (b3 b4:List Int) (k8:Int) (k7:Bool):M:=⟨[.code (Y0 [1,1])],[(0,.ptr 0 0 0),(1,.fn 31 [] [.ptr 1 0 0,.ptr 2 0 0])],[some ⟨4,true,[[(i9 3 (List.map (d7 .u8) b3)),.msl 4 0 0 0 false,.int .i64 k8,.bool k7]]⟩,some ⟨1,true,[[.ptr 0 0 0]]⟩,some ⟨1,false,[[.int .i64 b2]]⟩,some ⟨1,false,(List.map (d7 .u8) b3)⟩,some ⟨1,false,(List.map (d7 .u8) b4)⟩]⟩
noncomputable def F0 (ac6:Int) (ad9:Bool) (b2:Int) (b3 b4:List Int) (k8:Int) (k7:Bool):Option (Int×Int×Bool×(List Int)):=(bif k7 then (some (61,k8,k7,b3)) else (bif (decide (k8>0)) then ((X2 b2 (IntKind.i64.wrap (k8-1)) k7 b3 b4).bind fun y3=>(some (0,(IntKind.i64.wrap (k8-1)),k7,y3))) else ((X2 b2 k8 k7 b3 b4).bind fun y4=>(some (0,k8,k7,y4)))))
theorem ah2 {ac6 ad9 b2 b3 b4 k8 k7}:ao9 ac6 ad9 b2 b3 b4 (aN2 ac6 ad9 b2 b3 b4 k8 k7) (F0 ac6 ad9 b2 b3 b4 k8 k7):=by
 intro r h;unfold F0 at h
 refine zs 10 h (fun h=> ?_) fun h=> ?_
 ·
  refine zf 4 [.mv 3,.mv 4] ?_
  exact zu 1 h
 refine zs 12 h (fun h=> ?_) fun h=> ?_
 ·
  refine zc 17 [] h (fun _=>aL3) fun y3 h=> ?_
  refine zf 5 [.mv 3,.mv 4] ?_
  exact zu 1 h
 refine zc 5 [] h (fun _=>aL3) fun y4 h=> ?_
 refine zf 5 [.mv 3,.mv 4] ?_
 exact zu 1 h
noncomputable def aN4 (ac6:Int) (ad9:Bool) (b2:Int) (b3 b4:List Int) (t16:Bool):M:=⟨[.code (Y0 [1,0,1]),.code (Y0 [1,1])],[(0,.ptr 0 0 0),(1,.fn 31 [] [.ptr 1 0 0,.ptr 2 0 0]),(16,.bool t16)],[some ⟨4,true,[[(i9 3 (List.map (d7 .u8) b3)),.msl 4 0 0 0 false,.int .i64 ac6,.bool ad9]]⟩,some ⟨1,true,[[.ptr 0 0 0]]⟩,some ⟨1,false,[[.int .i64 b2]]⟩,some ⟨1,false,(List.map (d7 .u8) b3)⟩,some ⟨1,false,(List.map (d7 .u8) b4)⟩]⟩
noncomputable def F3 (ac6:Int) (ad9:Bool) (b2:Int) (b3 b4:List Int) (t16:Bool):Option (Int×Int×Bool×(List Int)):=(bif t16 then (F0 ac6 ad9 b2 b3 b4 (-1) true) else (F0 ac6 ad9 b2 b3 b4 ac6 ad9))
theorem ah7 {ac6 ad9 b2 b3 b4 t16}:ao9 ac6 ad9 b2 b3 b4 (aN4 ac6 ad9 b2 b3 b4 t16) (F3 ac6 ad9 b2 b3 b4 t16):=by
 intro r h;unfold F3 at h
 refine zs 1 h (fun h=> ?_) fun h=> ?_
 ·
  exact zg 14 (ah2 h)
 exact zg 1 (ah2 h)
noncomputable def Q5 (ac6:Int) (ad9:Bool) (b2:Int) (b3 b4:List Int):Option (Int×Int×Bool×(List Int)):=(bif (!ad9) then (F3 ac6 ad9 b2 b3 b4 (ac6==0)) else (F3 ac6 ad9 b2 b3 b4 false))
theorem aM2 {ac6:Int}{ad9:Bool}{b2:Int}{b3 b4:List Int}{r:Int×Int×Bool×(List Int)} (h:Q5 ac6 ad9 b2 b3 b4=some r):l4 E 30 [.ptr 0 0 0,.fn 31 [] [.ptr 1 0 0,.ptr 2 0 0]] [some ⟨4,true,[[(i9 3 (List.map (d7 .u8) b3)),.msl 4 0 0 0 false,.int .i64 ac6,.bool ad9]]⟩,some ⟨1,true,[[.ptr 0 0 0]]⟩,some ⟨1,false,[[.int .i64 b2]]⟩,some ⟨1,false,(List.map (d7 .u8) b3)⟩,some ⟨1,false,(List.map (d7 .u8) b4)⟩] (Rs (ap9 b2 b4) r):=so (fn:=Tryd.f30) (k:=true) (m:=5) h<| by
 intro r h;unfold Q5 at h
 refine zs 15 h (fun h=> ?_) fun h=> ?_
 ·
  exact zg 12 (ah7 h)
 exact zg 11 (ah7 h)
noncomputable def bO0 (y:(List Int)×(List (List Int))×Int×Int×Bool×(List Int)×(List Int)):D×i4:=(.tup [.sl false 1 (List.map (d7 .u8) y.1),.sl false 1 (List.map (D1 1 (d7 .u8)) y.2.1),.int .i64 y.2.2.1],[some ⟨4,true,[[(i9 3 (List.map (d7 .u8) y.2.2.2.2.2.1)),(i9 4 (List.map (d7 .u8) y.2.2.2.2.2.2)),.int .i64 y.2.2.2.1,.bool y.2.2.2.2.1]]⟩,none,none,some ⟨1,false,(List.map (d7 .u8) y.2.2.2.2.2.1)⟩,some ⟨1,false,(List.map (d7 .u8) y.2.2.2.2.2.2)⟩])
noncomputable def ag2 (ac6:Int) (ad9:Bool) (b1 b2:List Int):Option ((List Int)×(List (List Int))×Int×Int×Bool×(List Int)×(List Int)):=((bm4 b1).bind fun y1=>(bif (decide ((y1.2.2:Int)<(((List.map (d7 .u8) b1).length:Nat):Int))) then ((Q5 ac6 false y1.2.2 b1 ([])).bind fun y3=>(bif ((y3.1:Int) !=0) then (some ([],[],y3.1,y3.2.1,y3.2.2.1,y3.2.2.2,([]))) else (some (y1.1,y1.2.1,0,y3.2.1,y3.2.2.1,y3.2.2.2,([]))))) else (some (y1.1,y1.2.1,0,ac6,false,b1,[]))))
theorem bJ2 {ac6:Int}{ad9:Bool}{b1 b2:List Int}{r:(List Int)×(List (List Int))×Int×Int×Bool×(List Int)×(List Int)} (h:ag2 ac6 ad9 b1 b2=some r):l4 E 17 [.ptr 0 0 0] [some ⟨4,true,[[(i9 1 (List.map (d7 .u8) b1)),(i9 2 (List.map (d7 .u8) b2)),.int .i64 ac6,.bool ad9]]⟩,some ⟨1,false,(List.map (d7 .u8) b1)⟩,some ⟨1,false,(List.map (d7 .u8) b2)⟩] (Rs bO0 r):=so (fn:=Tryd.f17) (k:=true) (m:=3) h<| by
 intro r h;unfold ag2 at h
 refine zc 24 [] h (fun _=>cb0) fun y1 h=> ?_
 refine zs 18 h (fun h=> ?_) fun h=> ?_
 ·
  refine zcx 6 [] [.matc 0 0 1 1] h (fun _=>aM2) (fun y3 h=> ?_)
  refine zs 8 h (fun h=> ?_) fun h=> ?_
  ·
   refine zf 7 [.mv 2] ?_
   exact zu 1 h [.slot 0 [some 1,some 1]]
  refine zf 9 [.mv 2] ?_
  exact zu 1 h
 refine zf 9 [.matc 0 0 1 1,.mv 1,.mv 2] ?_
 exact zu 1 h
theorem bZ2 (P r:List Int) (k:Nat):List.drop (P.length+k) (P++r)=r.drop k:=by
 rw[List.drop_append,List.drop_of_length_le (by omega),List.nil_append];congr 1;omega
theorem dc4 (P r:List Int) (k:Nat):(P++r)[P.length+k]? =r[k]? :=by
 rw[List.getElem?_append_right (by omega)];congr 1;omega
theorem cW4 {b:List Int}{at_ ln cp:Nat} (h:at_+ln≤b.length) (hm:b.length≤E1):aq3 at_ ln cp b=some ((b.drop at_).take ln):=by
 have e:(List.take ln (List.drop at_ (List.map (d7 .u8) b))).length=ln:=by simp;omega
 have c:decide ((0+ln)*1≤n4)=true:=P2 (by simp only[E1] at hm;omega)
 simp only[aq3,e,show Nat.beq ln ln=true from Nat.beq_refl ln,cond_true,c,List.nil_append]
theorem cO4 {b:List Int}{ln cp:Nat} (h:ln≤b.length) (hm:b.length≤E1):ab2 ln cp b=some (b.take ln):=by
 have e:(List.take ln (List.drop 0 (List.map (d7 .u8) b))).length=ln:=by simp;omega
 have c:decide ((0+ln)*1≤n4)=true:=P2 (by simp only[E1] at hm;omega)
 unfold ab2
 rw[e]
 simp only[show Nat.beq ln ln=true from Nat.beq_refl ln,cond_true,c,List.nil_append,List.drop_zero]
theorem aH8 (at_:Int) (b:List Int) (e n:Int) (x y z:Nat) (h:e≠0):M0 at_ b e n x y z=some (0,[],0,e):=by
 have:(e !=0)=true:=by simp[h]
 simp only[M0,this,cond_true]
theorem cK2 {P rest:List Int} (hb:q0 rest) (hm:P.length+rest.length≤E1) (h0:rest= []∨rest.head? =some 247):W7 P.length (P++rest) P.length rest.length rest.length false=some (rF P.length (pF rest)):=by
 have hm0:=hm
 simp only[E1] at hm
 have w1:IntKind.i64.wrap (IntKind.i64.wrap (((rest.length:Nat):Int)-4)-4)=(rest.length:Int)-8:=by
  rw[F4 (n:=((rest.length:Nat):Int)-4) (by omega) (by omega),F4 (by omega) (by omega)];omega
 by_cases h8:rest.length<8
 ·have c1:decide (((rest.length:Nat):Int)<8)=true:=by simp;omega
  have e:pF rest=.inl 31:=by
   rcases h0 with rfl | h0
   ·rfl
   ·cases rest with
    | nil=>rfl
    | cons m l=>
     obtain rfl:=Option.some.inj h0
     exact cF9 (by simp at h8;omega)
  simp only[W7,cond_false,c1,cond_true,aH8 _ _ _ _ _ _ _ (by decide:(31:Int)≠0),e,rF]
 ·have c1:decide (((rest.length:Nat):Int)<8)=false:=by simp;omega
  have c2:decide ((4:Int)≤((rest.length:Nat):Int))=true:=by simp;omega
  have hx:∃k a c r,rest=247::k::a::c::r:=by
   match rest,h8,h0 with
   | m::k::a::c::r,_,h0=>
    rcases h0 with h0 | h0
    ·cases h0
    ·obtain rfl:=Option.some.inj h0;exact⟨k,a,c,r,rfl⟩
   | [],h,_=>simp at h
   | [_],h,_=>simp at h
   | [_,_],h,_=>simp at h
   | [_,_,_],h,_=>simp at h
  obtain⟨k,a',c',r,hrest⟩:=hx
  have ha:=hb a' (by simp[hrest])
  have hc:=hb c' (by simp[hrest])
  obtain⟨a,rfl⟩:=Int.eq_ofNat_of_zero_le ha.1
  obtain⟨c,rfl⟩:=Int.eq_ofNat_of_zero_le hc.1
  have hbr:q0 r:=fun x hx=>hb x (by simp[hrest,hx])
  have hk:=hb k (by simp[hrest])
  have hlr:rest.length=r.length+4:=by rw[hrest];simp
  have hr4:4≤r.length:=by omega
  have n1:ap1 [(a:Int),(c:Int)]=some ((a*256+c:Nat):Int):=by
   have:=bT8 (b:= [(a:Int),(c:Int)]) (fun x hx=>by simp only[List.mem_cons,List.not_mem_nil,or_false] at hx;rcases hx with rfl | rfl<;>assumption) (by simp)
   rw[this];simp[L9]
  have d1:List.take 2 (List.drop (P.length+2) (P++rest))= [(a:Int),(c:Int)]:=by rw[bZ2,hrest];simp
  have b1:Nat.ble (P.length+2+2) (List.map (d7 .u8) (P++rest)).length=true:=by simp;omega
  generalize hn:a*256+c=n at*
  simp only[W7,cond_false,c1,c2,cond_true,b1,d1,n1,Option.bind_some,w1]
  by_cases hbig:8192<n
  ·have c3:decide ((n:Int)>8192)=true:=by simp;omega
   rw[hrest,cO2 hr4 (by omega)]
   simp only[c3,cond_true,aH8 _ _ _ _ _ _ _ (by decide:(2:Int)≠0),rF]
  ·have c3:decide ((n:Int)>8192)=false:=by simp;omega
   by_cases hs:r.length<n+4
   ·have c4:decide ((n:Int)>(rest.length:Int)-8)=true:=by simp;omega
    have e:pF rest=.inl 31:=by rw[hrest];exact cO9 hr4 (by omega) (by omega)
    rw[e]
    simp only[c3,c4,cond_true,cond_false,aH8 _ _ _ _ _ _ _ (by decide:(31:Int)≠0),rF]
   ·have c4:decide ((n:Int)>(rest.length:Int)-8)=false:=by simp;omega
    have w2:IntKind.i64.wrap ((4:Int)+(n:Int))=((n+4:Nat):Int):=by rw[F4 (by omega) (by omega)];omega
    have w3:IntKind.i64.wrap (((n+4:Nat):Int)+4)=((n+8:Nat):Int):=by rw[F4 (by omega) (by omega)];omega
    have c5:(decide (((0:Nat):Int)≤((n+4:Nat):Int))&&decide (((n+4:Nat):Int)≤(rest.length:Int)))=true:=by simp;omega
    have c6:decide ((1:Int)≤(((n+4:Nat):Nat):Int))=true:=by simp;omega
    have c6' :decide ((4:Int)≤(((n+4:Nat):Nat):Int))=true:=by simp;omega
    have c7:(decide (((0:Nat):Int)≤((n+8:Nat):Int))&&decide (((n+8:Nat):Int)≤(rest.length:Int)))=true:=by simp;omega
    have c8:(decide (((0:Nat):Int)≤((n+4:Nat):Int))&&decide (((n+4:Nat):Int)≤((n+8:Nat):Int)))=true:=by simp;omega
    have b2:Nat.ble (P.length+1+(n+4-1)) (List.map (d7 .u8) (P++rest)).length=true:=by simp;omega
    have b3:Nat.ble (P.length+(n+4)+(n+8-(n+4))) (List.map (d7 .u8) (P++rest)).length=true:=by simp;omega
    have d2:List.take (n+4-1) (List.drop (P.length+1) (P++rest))=(k::(a:Int)::(c:Int)::r).take (n+3):=by rw[bZ2,hrest];simp
    have d3:List.take (n+8-(n+4)) (List.drop (P.length+(n+4)) (P++rest))=(r.drop n).take 4:=by
     rw[bZ2,hrest,show n+8-(n+4)=4 by omega];rfl
    have d4:List.take (n+4-4) (List.drop (P.length+4) (P++rest))=r.take n:=by rw[bZ2,hrest];simp
    have hs1:=cu8 (b:=(k::(a:Int)::(c:Int)::r).take (n+3)) (bN3 (fun x hx=>hb x (by rw[hrest];exact List.mem_cons_of_mem _ hx)) _) (by rw[List.length_take];omega)
    have hs2:=bT8 (b:=(r.drop n).take 4) (bN3 (aC9 hbr _) _) (by rw[List.length_take];omega)
    have hcl:=ci8 ((k::(a:Int)::(c:Int)::r).take (n+3))
    have ew:pF rest=if crc ((k::(a:Int)::(c:Int)::r).take (n+3))≠L9 0 ((r.drop n).take 4) then .inl 33 else .inr (k,r.take n,n+8):=by
     rw[hrest,cF4 hr4 (by omega) (by omega),hn]
    rw[ew]
    simp only[c3,c4,cond_true,cond_false,w2,w3,c5,c6,c7,c8,b2,b3,Int.toNat_natCast,d2,d3,hs1,hs2,Option.bind_some,F4 (n:=((crc ((k::(a:Int)::(c:Int)::r).take (n+3)):Nat):Int)) (by omega) (by omega)]
    by_cases hq:crc ((k::(a:Int)::(c:Int)::r).take (n+3))=L9 0 ((r.drop n).take 4)
    ·have q1:((((crc ((k::(a:Int)::(c:Int)::r).take (n+3)):Nat):Int)) !=((L9 0 ((r.drop n).take 4):Nat):Int))=false:=by rw[hq];simp
     rw[q1,if_neg (by simpa using hq)]
     have c9:decide ((1:Int)<(rest.length:Int))=true:=by simp;omega
     have w4:IntKind.i64.wrap (IntKind.i64.wrap (IntKind.i64.wrap ((P.length:Int)+4)+(n:Int))+4)=((P.length+(n+8):Nat):Int):=by
      rw[F4 (n:=(P.length:Int)+4) (by omega) (by omega),F4 (n:=(P.length:Int)+4+(n:Int)) (by omega) (by omega),F4 (by omega) (by omega)];omega
     have cl:=cW4 (b:=P++rest) (at_:=P.length+4) (ln:=n+4-4) (cp:=rest.length-4) (by simp;omega) (by simp;omega)
     have g1:(P++rest)[P.length+1]? =some k:=by rw[dc4,hrest];rfl
     simp only[cond_false,M0,bne_self_eq_false,c9,cond_true,g1,Option.bind_some,w2,c5,c6',Int.toNat_natCast,cl,d4,w4,rF]
    ·have q1:((((crc ((k::(a:Int)::(c:Int)::r).take (n+3)):Nat):Int)) !=((L9 0 ((r.drop n).take 4):Nat):Int))=true:=bne_iff_ne.2 fun h=>hq (Int.ofNat.inj h)
     rw[q1,if_pos (by simpa using hq)]
     simp only[cond_true,aH8 _ _ _ _ _ _ _ (by decide:(33:Int)≠0),rF]
theorem cV0 {P rest:List Int} (hb:q0 rest) (hm:P.length+rest.length≤E1):aI4 P.length (P++rest)=some (rF P.length (pF rest)):=by
 have hm' :=hm
 simp only[E1] at hm'
 have c1:decide ((P.length:Int)<0)=false:=by simp
 have c2:decide ((P.length:Int)>(((P++rest).length:Nat):Int))=false:=by simp;omega
 have c3:(decide (((0:Nat):Int)≤(P.length:Int))&&decide ((P.length:Int)≤(((P++rest).length:Nat):Int)))=true:=by simp;omega
 have e1:(P++rest).length-P.length=rest.length:=by simp
 simp only[aI4,c1,cond_false,List.length_map,c2,at1,c3,cond_true,Int.toNat_natCast,e1,Nat.zero_add]
 cases rest with
 | nil=>
  have:=cK2 (P:=P) (rest:= []) hb hm (.inl rfl)
  exact this
 | cons m l=>
  have c4:decide ((((m::l).length:Nat):Int)>0)=true:=by simp
  have c5:decide ((0:Int)<(((m::l).length:Nat):Int))=true:=by simp
  have g0:(P++m::l)[P.length]? =some m:=by simp
  simp only[c4,c5,cond_true,g0,Option.bind_some]
  by_cases hq:m=247
  ·subst hq
   exact cK2 hb hm (.inr rfl)
  ·have:(m !=247)=true:=by simp[hq]
   rw[this,cG8 hq]
   simp only[W7,cond_true,aH8 _ _ _ _ _ _ _ (by decide:(32:Int)≠0),rF]
/-! ### frames, one v9 the other -/
/-- A frame: its kind, its body. -/
abbrev Fr1 := Int × List Int
def bn4 (x:Fr1):Prop:=(0≤x.1∧x.1≤255)∧q0 x.2∧x.2.length≤8192
def D0:List Fr1→List Int
 | []=> []
 | x::l=>E9 x.1 x.2++D0 l
theorem cS3 (a b:List Fr1):D0 (a++b)=D0 a++D0 b:=by
 induction a with
 | nil=>rfl
 | cons x a ih=>simp[D0,ih]
theorem bS9 {l:List Fr1} (h:∀x∈l,bn4 x):q0 (D0 l):=by
 induction l with
 | nil=>intro c hc;simp[D0] at hc
 | cons x l ih=>
  intro c hc
  simp only[D0,List.mem_append] at hc
  obtain⟨h1,h2,h3⟩:=h x (by simp)
  rcases hc with hc | hc
  ·exact bd1 h1 h2 (by omega) c hc
  ·exact ih (fun y hy=>h y (by simp[hy])) c hc
def aM8:List Int→List Fr1→List (Int×W5)
 | _,[]=> []
 | P,x::l=>(((P++E9 x.1 x.2).length:Int),⟨x.1,x.2⟩)::aM8 (P++E9 x.1 x.2) l
theorem cK3 {J:List Int}{e:Int} (hJ:pF J=.inl e) (hJb:q0 J):∀(l:List Fr1) (P:List Int),(∀x∈l,bn4 x)→P.length+(D0 l++J).length≤E1→EvL O8 (.s1 P.length (P++(D0 l++J))) (aM8 P l)
 | [],P,hl,hm=>by
  refine .done ?_
  have:=cV0 (P:=P) (rest:=J) hJb (by simpa[D0] using hm)
  have he:(e !=0)=true:=by
   have:=cS8 hJ
   rcases this with rfl | rfl | rfl | rfl<;>rfl
  simp only[O8,ag4,D0,List.nil_append,this,hJ,rF,Option.bind_some,he,cond_true,aM8]
 | x::l,P,hl,hm=>by
  obtain⟨h1,h2,h3⟩:=hl x (by simp)
  have hl' :∀y∈l,bn4 y:=fun y hy=>hl y (by simp[hy])
  have hb:q0 (D0 (x::l)++J):=fun c hc=>by
   rcases List.mem_append.1 hc with hc | hc
   ·exact bS9 hl c hc
   ·exact hJb c hc
  have hg:=cV0 (P:=P) hb hm
  have hpf:pF (D0 (x::l)++J)=.inr (x.1,x.2,x.2.length+8):=by
   simp only[D0,List.append_assoc]
   exact cc1 h1 h2 h3 _
  rw[hpf] at hg
  have hlen:((P++E9 x.1 x.2).length:Int)=((P.length+(x.2.length+8):Nat):Int):=by simp[aj0]
  have ih:=cK3 hJ hJb l (P++E9 x.1 x.2) hl' (by simp[D0] at hm ⊢;omega)
  refine EvL.next (l:= [(((P++E9 x.1 x.2).length:Int),(⟨x.1,x.2⟩:W5))]) (s' :=H5.s1 (P++E9 x.1 x.2).length (P++(D0 (x::l)++J))) ?_ ?_
  ·simp only[O8,ag4,hg,rF,Option.bind_some,bne_self_eq_false,cond_false,Option.map_some,List.nil_append,hlen]
  ·rw[show P++(D0 (x::l)++J)=P++E9 x.1 x.2++(D0 l++J) by simp[D0]]
   exact ih
theorem bS6 {b:List Int}:∀(l:List Fr1) (P:List Int) (ks:List Int) (bs:List (List Int)),(∀x∈l,bn4 x)→ks.length=bs.length→bs.length+l.length≤1000000000→
  Ev (P9 b) (.s2 (P.length:Int) ks bs (aM8 P l)) (ks++l.map (·.1),bs++l.map (·.2),((P++D0 l).length:Int))
 | [],P,ks,bs,hl,h1,h2=> .done (by simp[P9,aG3,aB7,aM8,D0])
 | x::l,P,ks,bs,hl,h1,h2=>by
  have ih:=bS6 (b:=b) l (P++E9 x.1 x.2) (ks++ [x.1]) (bs++ [x.2]) (fun y hy=>hl y (by simp[hy])) (by simp[h1]) (by simp at h2 ⊢;omega)
  simp only[List.length_cons] at h2
  have l1:decide ((ks.length+1)*1≤n4)=true:=P2 (by omega)
  have l2:decide ((bs.length+1)*24≤n4)=true:=P2 (by omega)
  refine .next (s' :=A7.s2 ((P++E9 x.1 x.2).length:Int) (ks++ [x.1]) (bs++ [x.2]) (aM8 (P++E9 x.1 x.2) l)) ?_ ?_
  ·simp only[P9,aG3,aM8,ay5,List.length_map,l1,l2,cond_true]
  ·simpa[D0] using ih
theorem dc2 {l:List Fr1}{J:List Int}{e:Int} (hl:∀x∈l,bn4 x) (hJ:pF J=.inl e) (hJb:q0 J) (hm:(D0 l++J).length≤10000000):bm4 (D0 l++J)=some (l.map (·.1),l.map (·.2),((D0 l).length:Int)):=by
 have hn:l.length≤(D0 l).length:=by
  clear hm hl
  induction l with
  | nil=>simp[D0]
  | cons x l ih=>simp[D0,aj0];omega
 have h1:=cK3 hJ hJb l [] hl (by simp only[E1];simp at hm ⊢;omega)
 have h2:=bS6 (b:=D0 l++J) l [] [] [] hl rfl (by simp at hm ⊢;omega)
 have e1:az3 (D0 l++J)=some (aM8 [] l):=cw3 (EvL.next (l:= []) (s' :=H5.s1 0 (D0 l++J)) (by simp[O8,aq7]) (by simpa using h1))
 refine D7 (.next (s' :=A7.s1 0 [] []) ?_ (.next (s' :=A7.s2 0 [] [] (aM8 [] l)) ?_ ?_))
 ·simp only[P9,aF4,aO3,Option.bind_some]
 ·simp only[P9,aF9,e1,Option.bind_some]
 ·simpa using h2
def G3 (s:List Int):List Int:=V7 (s.length:Int)++s
def cJ4 (s:List Int):Int×List Int:=if s.length≤4096 then (0,G3 s) else (2,[])
def pT (l:List Int):Int⊕(List Int×Nat):=match pI l with
 | .inl e=> .inl e
 | .inr (n,k)=>if n<0∨n>4096 then .inl 2 else if n>(l.length:Int)-k then .inl 11 else .inr ((l.drop k).take n.toNat,k+n.toNat)
theorem cc4 {l:List Int}{e:Int} (h:pI l=.inl e):pT l=.inl e:=by simp only[pT,h]
theorem cd4 {l:List Int}{n:Int}{k:Nat} (h:pI l=.inr (n,k)) (hn:n<0∨n>4096):pT l=.inl 2:=by simp only[pT,h,if_pos hn]
theorem ci6 {l:List Int}{n:Int}{k:Nat} (h:pI l=.inr (n,k)) (hn:¬(n<0∨n>4096)) (h2:n>(l.length:Int)-k):pT l=.inl 11:=by simp only[pT,h,if_neg hn,if_pos h2]
theorem bJ8 {l:List Int}{n:Int}{k:Nat} (h:pI l=.inr (n,k)) (hn:¬(n<0∨n>4096)) (h2:¬n>(l.length:Int)-k):pT l=.inr ((l.drop k).take n.toNat,k+n.toNat):=by simp only[pT,h,if_neg hn,if_neg h2]
theorem bg9 {s:List Int} (h:q0 s):q0 (G3 s):=fun c hc=>(List.mem_append.1 hc).elim (bh1 _ c) (h c)
theorem aF0 {s:List Int} (h:s.length≤4096):(G3 s).length≤s.length+10:=by
 have:=aw5 (bs3 (n:=s.length) (by omega))
 simp only[G3,List.length_append];omega
theorem ca4 {s:List Int} (h:s.length≤4096) (rest:List Int):pT (G3 s++rest)=.inr (s,(G3 s).length):=by
 have h1:=cc9 (bs3 (n:=s.length) (by omega)) (s++rest)
 have e:G3 s++rest=V7 (s.length:Int)++(s++rest):=by simp[G3]
 rw[e,bJ8 h1 (by omega) (by simp only[List.length_append];omega),List.drop_left,Int.toNat_natCast,List.take_left]
 simp only[G3,List.length_append]
theorem bJ0 {l s:List Int}{k:Nat} (hb:q0 l) (h:pT l=.inr (s,k)):l.take k=G3 s∧k≤l.length∧k=(G3 s).length∧s.length≤4096∧q0 s:=by
 cases hp:pI l with
 | inl e=>rw[cc4 hp] at h;cases h
 | inr x=>
  obtain⟨n,j⟩:=x
  by_cases hn:n<0∨n>4096
  ·rw[cd4 hp hn] at h;cases h
  by_cases h2:n>(l.length:Int)-j
  ·rw[ci6 hp hn h2] at h;cases h
  rw[bJ8 hp hn h2] at h
  simp only[Sum.inr.injEq,Prod.mk.injEq] at h
  obtain⟨rfl,rfl⟩:=h
  obtain⟨a1,a2,a3,a4⟩:=bq2 hb hp
  obtain⟨m,rfl⟩:=Int.eq_ofNat_of_zero_le (show 0≤n by omega)
  simp only[Int.toNat_natCast]
  have hl:((l.drop j).take m).length=m:=by rw[List.length_take,List.length_drop];omega
  refine⟨?_,by omega,?_,by rw[hl];omega,bN3 (aC9 hb _) _⟩
  ·rw[List.take_add,a1,G3,hl]
  ·rw[G3,List.length_append,hl,←a3]
theorem cW2 {l:List Int}{e:Int} (h:pT l=.inl e):e≠0:=by
 cases hp:pI l with
 | inl e' =>rw[cc4 hp] at h;obtain rfl:=Sum.inl.inj h;rcases cD1 hp with rfl | rfl<;>decide
 | inr x=>
  obtain⟨n,j⟩:=x
  by_cases hn:n<0∨n>4096
  ·rw[cd4 hp hn] at h;obtain rfl:=Sum.inl.inj h;decide
  by_cases h2:n>(l.length:Int)-j
  ·rw[ci6 hp hn h2] at h;obtain rfl:=Sum.inl.inj h;decide
  ·rw[bJ8 hp hn h2] at h;cases h
theorem bc9 {s:List Int} (hm:s.length≤E1):R4 s=some (cJ4 s):=by
 unfold cJ4
 by_cases h:s.length≤4096
 ·rw[if_pos h]
  have hn:=bs3 (n:=s.length) (by omega)
  have hl:=aw5 hn
  have c1:decide (((s.length:Nat):Int)>4096)=false:=by simp;omega
  have c2:decide (((V7 (s.length:Int)).length+s.length)*1≤n4)=true:=P2 (by omega)
  simp only[R4,List.length_map,c1,cond_false,bR7 hn,Option.bind_some,c2,cond_true,G3]
 ·rw[if_neg h]
  have c1:decide (((s.length:Nat):Int)>4096)=true:=by simp;omega
  simp only[R4,List.length_map,c1,cond_true]
theorem cR8 {b:List Int} (hb:q0 b) (hm:b.length≤E1) {at_:Nat} (h:at_≤b.length):ab6 b at_=some (rL at_ (pT (b.drop at_))):=by
 have hi:=aY3 hb hm h
 simp only[E1] at hm
 cases hp:pI (b.drop at_) with
 | inl e=>
  rw[hp] at hi
  have he:=aS0 hp
  rw[cc4 hp]
  simp only[ab6,G5,hi,rI,Option.bind_some,he,cond_true,rL]
 | inr x=>
  obtain⟨n,k⟩:=x
  rw[hp] at hi
  obtain⟨a1,a2,a3,a4⟩:=bq2 (aC9 hb at_) hp
  rw[List.length_drop] at a2
  have a4' :=K2.1 a4
  have z:((0:Int) !=0)=false:=rfl
  have tw:((2:Int) !=0)=true:=rfl
  by_cases hn:n<0∨n>4096
  ·rw[cd4 hp hn]
   rcases hn with hn | hn
   ·have c1:decide (n<0)=true:=decide_eq_true hn
    simp only[ab6,G5,J4,hi,rI,Option.bind_some,z,cond_false,c1,cond_true,tw,rL]
   ·have c1:decide (n<0)=false:=decide_eq_false (by omega)
    have c2:decide (n>4096)=true:=decide_eq_true hn
    simp only[ab6,G5,J4,hi,rI,Option.bind_some,z,cond_false,c1,c2,cond_true,tw,rL]
  ·have c1:decide (n<0)=false:=decide_eq_false (by omega)
   have c2:decide (n>4096)=false:=decide_eq_false (by omega)
   have w1:IntKind.i64.wrap (((b.length:Nat):Int)-((at_+k:Nat):Int))=(b.length:Int)-((at_+k:Nat):Int):=F4 (by omega) (by omega)
   by_cases h2:n>((b.drop at_).length:Int)-k
   ·rw[ci6 hp hn h2]
    rw[List.length_drop] at h2
    have c3:decide (n>(b.length:Int)-((at_+k:Nat):Int))=true:=decide_eq_true (by omega)
    simp only[ab6,G5,J4,hi,rI,Option.bind_some,z,cond_false,c1,c2,List.length_map,w1,c3,cond_true,rL]
   ·rw[bJ8 hp hn h2]
    rw[List.length_drop] at h2
    obtain⟨m,rfl⟩:=Int.eq_ofNat_of_zero_le (show 0≤n by omega)
    have c3:decide ((m:Int)>(b.length:Int)-((at_+k:Nat):Int))=false:=decide_eq_false (by omega)
    have w2:IntKind.i64.wrap (((at_+k:Nat):Int)+(m:Int))=((at_+k+m:Nat):Int):=by rw[F4 (by omega) (by omega)];omega
    have c4:(decide (((0:Nat):Int)≤((at_+k+m:Nat):Int))&&decide (((at_+k+m:Nat):Int)≤((b.length:Nat):Int)))=true:=by simp;omega
    have c5:(decide (((0:Nat):Int)≤((at_+k:Nat):Int))&&decide (((at_+k:Nat):Int)≤((at_+k+m:Nat):Int)))=true:=by simp;omega
    have d:List.drop (at_+k) (List.take (at_+k+m) b)=((b.drop at_).drop k).take m:=by
     rw[List.drop_take,List.drop_drop,show at_+k+m-(at_+k)=m by omega]
    have c6:decide ((((b.drop at_).drop k).take m).length*1≤n4)=true:=P2 (by rw[List.length_take];omega)
    simp only[ab6,G5,J4,hi,rI,Option.bind_some,z,cond_false,c1,c2,List.length_map,w1,c3,cond_true,w2,c4,c5,Int.toNat_natCast,d,c6,rL]
    rw[Nat.add_assoc]
def I9 (lo hi:Int) (l:List Int):Bool:=l.all fun n=>decide (lo≤n∧n≤hi)
theorem be2 (lo hi x:Int) (l:List Int):I9 lo hi (x::l)=(decide (lo≤x∧x≤hi)&&I9 lo hi l):=rfl
theorem aZ7 {lo hi:Int}{l:List Int}:I9 lo hi l=true↔∀x∈l,lo≤x∧x≤hi:=by simp[I9]
theorem cP7 (l:List Int) (lo hi:Int) (hl:l.length<9223372036854775807):∀(j k:Nat),k+j=l.length→∃r:Int,Ev B3 (.s1 l lo hi l.length k) r∧decide (r≥0)= !(I9 lo hi (l.drop k)):=by
 intro j
 induction j with
 | zero=>
  intro k hk
  refine⟨-1,.done ?_,?_⟩
  ·simp[B3,E2,show ¬(k:Int)<l.length by omega]
  ·rw[List.drop_eq_nil_of_le (by omega)];rfl
 | succ j ih=>
  intro k hk
  have hlt:k<l.length:=by omega
  rw[List.drop_eq_getElem_cons hlt,be2]
  by_cases h:lo≤l[k]∧l[k]≤hi
  ·obtain⟨r,h1,h2⟩:=ih (k+1) (by omega)
   refine⟨r,.next (s' :=.s1 l lo hi l.length ((k+1:Nat):Int)) ?_ h1,?_⟩
   ·have e1:decide (l[k]<lo)=false:=by simp;omega
    have e2:decide (l[k]>hi)=false:=by simp;omega
    simp only[B3,E2,List.length_map,M6 hlt,V3,Bool.and_self,cond_true,Int.toNat_natCast,List.getE hlt,Option.bind_some,as2,e1,e2,cond_false,wS (show k<9223372036854775807 by omega)]
   ·rw[h2,decide_eq_true h,Bool.true_and]
  ·refine⟨k,.done ?_,?_⟩
   ·have e:as2 l[k] lo hi=some true:=by
     unfold as2
     by_cases h1:l[k]<lo
     ·rw[decide_eq_true h1];rfl
     ·have h2:l[k]>hi:=by omega
      rw[decide_eq_false h1,decide_eq_true h2];rfl
    simp only[B3,E2,List.length_map,M6 hlt,V3,Bool.and_self,cond_true,Int.toNat_natCast,List.getE hlt,Option.bind_some,e]
   ·rw[decide_eq_false h,Bool.false_and];simp
theorem bp3 (lo hi:Int) {l:List Int} (hl:l.length<9223372036854775807):aj4 lo hi l=some (I9 lo hi l):=by
 obtain⟨r,h1,h2⟩:=cP7 l lo hi hl l.length 0 (by omega)
 have h3:aa1 l lo hi=some r:=D7 (.next (s' :=.s1 l lo hi l.length 0) (by simp[B3,N4]) h1)
 simp only[aj4,M2,h3,Option.bind_some,h2]
 simp
theorem cs0 (l:List Int) (lo hi:Int) (hl:l.length<9223372036854775807):∀(j k:Nat),k+j=l.length→∃r:Int,Ev x8 (.s1 l lo hi l.length k) r∧decide (r≥0)= !(I9 lo hi (l.drop k)):=by
 intro j
 induction j with
 | zero=>
  intro k hk
  refine⟨-1,.done ?_,?_⟩
  ·simp[x8,A9,show ¬(k:Int)<l.length by omega]
  ·rw[List.drop_eq_nil_of_le (by omega)];rfl
 | succ j ih=>
  intro k hk
  have hlt:k<l.length:=by omega
  rw[List.drop_eq_getElem_cons hlt,be2]
  by_cases h:lo≤l[k]∧l[k]≤hi
  ·obtain⟨r,h1,h2⟩:=ih (k+1) (by omega)
   refine⟨r,.next (s' :=.s1 l lo hi l.length ((k+1:Nat):Int)) ?_ h1,?_⟩
   ·have e1:decide (l[k]<lo)=false:=by simp;omega
    have e2:decide (l[k]>hi)=false:=by simp;omega
    simp only[x8,A9,List.length_map,M6 hlt,V3,Bool.and_self,cond_true,Int.toNat_natCast,List.getE hlt,Option.bind_some,aa3,e1,e2,cond_false,wS (show k<9223372036854775807 by omega)]
   ·rw[h2,decide_eq_true h,Bool.true_and]
  ·refine⟨k,.done ?_,?_⟩
   ·have e:aa3 l[k] lo hi=some true:=by
     unfold aa3
     by_cases h1:l[k]<lo
     ·rw[decide_eq_true h1];rfl
     ·have h2:l[k]>hi:=by omega
      rw[decide_eq_false h1,decide_eq_true h2];rfl
    simp only[x8,A9,List.length_map,M6 hlt,V3,Bool.and_self,cond_true,Int.toNat_natCast,List.getE hlt,Option.bind_some,e]
   ·rw[decide_eq_false h,Bool.false_and];simp
theorem bm0 (lo hi:Int) {l:List Int} (hl:l.length<9223372036854775807):ad2 lo hi l=some (I9 lo hi l):=by
 obtain⟨r,h1,h2⟩:=cs0 l lo hi hl l.length 0 (by omega)
 have h3:T6 l lo hi=some r:=D7 (.next (s' :=.s1 l lo hi l.length 0) (by simp[x8,K3]) h1)
 simp only[ad2,I8,h3,Option.bind_some,h2]
 simp
theorem cS6 (a b:List Int) (hl:a.length<9223372036854775807) (hab:a.length=b.length):∀(j k:Nat),k+j=a.length→Ev L1 (.s1 a b a.length k) (decide (a.drop k=b.drop k)):=by
 intro j
 induction j with
 | zero=>
  intro k hk
  refine .done ?_
  rw[List.drop_eq_nil_of_le (by omega),List.drop_eq_nil_of_le (by omega)]
  simp[L1,X1,show ¬(k:Int)<a.length by omega]
 | succ j ih=>
  intro k hk
  have h1:k<a.length:=by omega
  have h2:k<b.length:=by omega
  rw[List.drop_eq_getElem_cons h1,List.drop_eq_getElem_cons h2]
  by_cases h:a[k]=b[k]
  ·refine .next (s' :=.s1 a b a.length ((k+1:Nat):Int)) ?_ ?_
   ·have e:(a[k] !=b[k])=false:=by simp[h]
    simp only[L1,X1,List.length_map,M6 h1,M6 h2,V3,Bool.and_self,cond_true,Int.toNat_natCast,List.getE h1,List.getE h2,Option.bind_some,e,cond_false,wS (show k<9223372036854775807 by omega)]
   ·rw[show(decide (a[k]::a.drop (k+1)=b[k]::b.drop (k+1)))=decide (a.drop (k+1)=b.drop (k+1)) by simp only[h,List.cons.injEq,true_and]]
    exact ih (k+1) (by omega)
  ·refine .done ?_
   have e:(a[k] !=b[k])=true:=by simp[h]
   simp only[L1,X1,List.length_map,M6 h1,M6 h2,V3,Bool.and_self,cond_true,Int.toNat_natCast,List.getE h1,List.getE h2,Option.bind_some,e]
   rw[show(decide (a[k]::a.drop (k+1)=b[k]::b.drop (k+1)))=false by simp only[h,List.cons.injEq,false_and,decide_false]]
theorem cE4 {a b:List Int} (hl:a.length<9223372036854775807):aS1 a b=some (decide (a=b)):=by
 by_cases hab:a.length=b.length
 ·refine D7 (.next (s' :=.s1 a b a.length 0) (by simp[L1,ae5,hab]) ?_)
  simpa using cS6 a b hl hab a.length 0 (by omega)
 ·refine D7 (.done ?_)
  have e:(((a.length:Nat):Int) !=((b.length:Nat):Int))=true:=by simp;omega
  have hne:a≠b:=fun h=>hab (by rw[h])
  simp[L1,ae5,e,hne]
theorem cq8 (a b:List Int) (hl:a.length<9223372036854775807) (hab:a.length=b.length):∀(j k:Nat),k+j=a.length→Ev G4 (.s1 a b a.length k) (decide (a.drop k=b.drop k)):=by
 intro j
 induction j with
 | zero=>
  intro k hk
  refine .done ?_
  rw[List.drop_eq_nil_of_le (by omega),List.drop_eq_nil_of_le (by omega)]
  simp[G4,O9,show ¬(k:Int)<a.length by omega]
 | succ j ih=>
  intro k hk
  have h1:k<a.length:=by omega
  have h2:k<b.length:=by omega
  rw[List.drop_eq_getElem_cons h1,List.drop_eq_getElem_cons h2]
  by_cases h:a[k]=b[k]
  ·refine .next (s' :=.s1 a b a.length ((k+1:Nat):Int)) ?_ ?_
   ·have e:(a[k] !=b[k])=false:=by simp[h]
    simp only[G4,O9,List.length_map,M6 h1,M6 h2,V3,Bool.and_self,cond_true,Int.toNat_natCast,List.getE h1,List.getE h2,Option.bind_some,e,cond_false,wS (show k<9223372036854775807 by omega)]
   ·rw[show(decide (a[k]::a.drop (k+1)=b[k]::b.drop (k+1)))=decide (a.drop (k+1)=b.drop (k+1)) by simp only[h,List.cons.injEq,true_and]]
    exact ih (k+1) (by omega)
  ·refine .done ?_
   have e:(a[k] !=b[k])=true:=by simp[h]
   simp only[G4,O9,List.length_map,M6 h1,M6 h2,V3,Bool.and_self,cond_true,Int.toNat_natCast,List.getE h1,List.getE h2,Option.bind_some,e]
   rw[show(decide (a[k]::a.drop (k+1)=b[k]::b.drop (k+1)))=false by simp only[h,List.cons.injEq,false_and,decide_false]]
theorem ck9 {a b:List Int} (hl:a.length<9223372036854775807):ay9 a b=some (decide (a=b)):=by
 by_cases hab:a.length=b.length
 ·refine D7 (.next (s' :=.s1 a b a.length 0) (by simp[G4,V2,hab]) ?_)
  simpa using cq8 a b hl hab a.length 0 (by omega)
 ·refine D7 (.done ?_)
  have e:(((a.length:Nat):Int) !=((b.length:Nat):Int))=true:=by simp;omega
  have hne:a≠b:=fun h=>hab (by rw[h])
  simp[G4,V2,e,hne]
def bA8 (l:List Int) (n:Nat):Bool:=(List.range n).all fun i=>decide (l.getD i 0≤l.getD (i+1) 0)
def srt (l:List Int):Bool:=bA8 l (l.length-1)
theorem cu9 (l:List Int) (n:Nat):bA8 l (n+1)=(bA8 l n&&decide (l.getD n 0≤l.getD (n+1) 0)):=by
 simp[bA8,List.range_succ,Bool.and_comm]
theorem bw4 (l:List Int) (hl:l.length<9223372036854775807):∀(i:Nat),i<l.length∨i=0→Ev D9 (.s1 l i) (bA8 l i)
 | 0,_=> .done (by simp[D9,L4,bA8])
 | i+1,h=>by
  have h1:i+1<l.length:=by omega
  have h0:i<l.length:=by omega
  have e0:decide (((i+1:Nat):Int)>0)=true:=decide_eq_true (by omega)
  have e1:IntKind.i64.wrap (((i+1:Nat):Int)-1)=(i:Int):=by rw[F4 (by omega) (by omega)];omega
  have less:∀x y:Int,aR3 x y=some (decide (x<y)):=fun x y=>by
   simp only[aR3,aH3,Option.bind_some]
   simp
  rw[cu9]
  have g1:l.getD i 0=l[i]:=by simp[h0]
  have g2:l.getD (i+1) 0=l[i+1]:=by simp[h1]
  rw[g1,g2]
  by_cases hle:l[i]≤l[i+1]
  ·rw[decide_eq_true hle,Bool.and_true]
   refine .next (s' :=.s1 l i) ?_ (bw4 l hl i (.inl h0))
   have e2:decide (l[i+1]<l[i])=false:=by simp;omega
   simp only[D9,L4,List.length_map,e0,e1,M6 h0,M6 h1,V3,Bool.and_self,cond_true,Int.toNat_natCast,List.getE h0,List.getE h1,Option.bind_some,less,e2,cond_false]
  ·rw[decide_eq_false hle,Bool.and_false]
   refine .done ?_
   have e2:decide (l[i+1]<l[i])=true:=by simp;omega
   simp only[D9,L4,List.length_map,e0,e1,M6 h0,M6 h1,V3,Bool.and_self,cond_true,Int.toNat_natCast,List.getE h0,List.getE h1,Option.bind_some,less,e2]
theorem cu6 {l:List Int} (hl:l.length<9223372036854775807):aB3 l=some (srt l):=by
 by_cases h0:l.length=0
 ·have:l= []:=List.eq_nil_of_length_eq_zero h0
  subst this
  refine D7 (.next (s' :=.s1 [] (-1)) (by simp[D9,V5];rfl) (.done (by simp[D9,L4,srt,bA8])))
 ·refine D7 (.next (s' :=.s1 l ((l.length-1:Nat):Int)) ?_ (bw4 l hl (l.length-1) (.inl (by omega))))
  have:IntKind.i64.wrap ((l.length:Int)-1)=((l.length-1:Nat):Int):=by rw[F4 (by omega) (by omega)];omega
  simp[D9,V5,this]
/-! ### right -/
def bD9 (p:Plan):Bool:=decide (0≤p.Epoch)&&(I9 (-1) 15 [p.Target,p.Prev,p.Spill]&&I9 0 100 [p.Percent])
def bm6 (p:Plan):Bool:=I9 0 1099511627776 [p.Stamp,p.Since,p.Ramped]&&(decide (p.Up≤65535)&&decide (p.Sup≤65535))
def aX2 (p:Plan):Bool:=decide (p.Pen.length≤16)&&decide (p.Changes.length≤8)
def aR7 (p:Plan):Bool:=I9 0 1000000 p.Pen&&(I9 0 1099511627776 p.Changes&&srt p.Changes)
def R5 (p:Plan):Bool:=bD9 p&&(bm6 p&&(aX2 p&&aR7 p))
structure Rt (p:Plan):Prop where
 epoch:0≤p.Epoch
 tps:∀x∈ [p.Target,p.Prev,p.Spill],-1≤x∧x≤15
 pc:0≤p.Percent∧p.Percent≤100
 times:∀x∈ [p.Stamp,p.Since,p.Ramped],0≤x∧x≤1099511627776
 up:p.Up≤65535
 sup:p.Sup≤65535
 penl:p.Pen.length≤16
 chl:p.Changes.length≤8
 pen:∀x∈p.Pen,0≤x∧x≤1000000
 ch:∀x∈p.Changes,0≤x∧x≤1099511627776
 srt:srt p.Changes=true
theorem ac5 {p:Plan}:R5 p=true↔Rt p:=by
 constructor
 ·intro h
  simp only[R5,bD9,bm6,aX2,aR7,Bool.and_eq_true,decide_eq_true_eq,aZ7] at h
  obtain⟨⟨a1,a2,a3⟩,⟨b1,b2,b3⟩,⟨c1,c2⟩,d1,d2,d3⟩:=h
  exact⟨a1,a2,a3 _ (by simp),b1,b2,b3,c1,c2,d1,d2,d3⟩
 ·rintro ⟨a1,a2,a3,b1,b2,b3,c1,c2,d1,d2,d3⟩
  simp only[R5,bD9,bm6,aX2,aR7,Bool.and_eq_true,decide_eq_true_eq,aZ7]
  exact⟨⟨a1,a2,fun x hx=>by simp at hx;subst hx;exact a3⟩,⟨b1,b2,b3⟩,⟨c1,c2⟩,d1,d2,d3⟩
/-- Short enough. -/
structure cr2 (a : Plan) : Prop where
  pen : a.Pen.length < 9223372036854775807
  ch : a.Changes.length < 9223372036854775807
theorem be7 {p:Plan} (hs:cr2 p) (hu:0≤p.Up) (hv:0≤p.Sup):ai2 p=some (R5 p):=by
 have k1:af7 false p=some (aR7 p):=by
  simp only[af7,cond_false,bm0 0 1000000 hs.pen,bp3 0 1099511627776 hs.ch,cu6 hs.ch,Option.bind_some,aR7]
  cases I9 0 1000000 p.Pen<;>cases I9 0 1099511627776 p.Changes<;>cases srt p.Changes<;>rfl
 have k2:ag8 false p=some (aX2 p&&aR7 p):=by
  simp only[ag8,cond_false,List.length_map,aX2]
  by_cases h1:p.Pen.length≤16
  ·have e1:decide (((p.Pen.length:Nat):Int)>16)=false:=by simp;omega
   rw[e1,decide_eq_true h1]
   by_cases h2:p.Changes.length≤8
   ·have e2:decide (((p.Changes.length:Nat):Int)>8)=false:=by simp;omega
    rw[e2,decide_eq_true h2,cond_false,k1];rfl
   ·have e2:decide (((p.Changes.length:Nat):Int)>8)=true:=by simp;omega
    rw[e2,decide_eq_false h2];rfl
  ·have e1:decide (((p.Pen.length:Nat):Int)>16)=true:=by simp;omega
   rw[e1,decide_eq_false h1];rfl
 have k3:Z7 false p=some (bm6 p&&(aX2 p&&aR7 p)):=by
  simp only[Z7,cond_false,bp3 0 1099511627776 (l:= [p.Stamp,p.Since,p.Ramped]) (by simp),Option.bind_some,bm6]
  cases hb:I9 0 1099511627776 [p.Stamp,p.Since,p.Ramped] with
  | false=>rfl
  | true=>
   have e:decide (C9 p.Up p.Sup≥65536)= !(decide (p.Up≤65535)&&decide (p.Sup≤65535)):=by
    unfold C9
    by_cases h1:p.Up≤65535<;>by_cases h2:p.Sup≤65535<;>simp[h1,h2]<;>split<;>omega
   simp only[Bool.not_true,cond_false,e]
   cases(decide (p.Up≤65535)&&decide (p.Sup≤65535)) with
   | false=>rfl
   | true=>simp only[Bool.not_true,k2];rfl
 simp only[ai2,R5,bD9]
 by_cases h0:p.Epoch<0
 ·rw[decide_eq_true h0,decide_eq_false (by omega:¬0≤p.Epoch)];rfl
 ·rw[decide_eq_false h0,decide_eq_true (by omega:0≤p.Epoch)]
  simp only[cond_false,bm0 (-1) 15 (l:= [p.Target,p.Prev,p.Spill]) (by simp),bm0 0 100 (l:= [p.Percent]) (by simp),Option.bind_some]
  cases I9 (-1) 15 [p.Target,p.Prev,p.Spill] with
  | false=>rfl
  | true=>
   cases I9 0 100 [p.Percent] with
   | false=>rfl
   | true=>simp only[Bool.not_true,cond_false,k3];rfl
/-- A plan of words. -/
structure aW2 (p : Plan) : Prop where
  e : n9 .i64 p.Epoch
  up : 0 ≤ p.Up
  sup : 0 ≤ p.Sup
  s : cr2 p
def az5 (p:Plan):List Int:= [p.Epoch,p.Target,p.Prev,p.Spill,p.Percent,p.Stamp,p.Since,p.Ramped,p.Up,p.Sup]
def an3 (p:Plan):List Int:=encL (az5 p)++(encL p.Pen++encL p.Changes)
theorem bP2 {p:Plan} (hf:aW2 p) (h:Rt p):ag7 (az5 p):=by
 have t1:=h.tps p.Target (by simp)
 have t2:=h.tps p.Prev (by simp)
 have t3:=h.tps p.Spill (by simp)
 have u1:=h.times p.Stamp (by simp)
 have u2:=h.times p.Since (by simp)
 have u3:=h.times p.Ramped (by simp)
 have v1:=h.up
 have v2:=h.sup
 have v3:=hf.up
 have v4:=hf.sup
 have pc:=h.pc
 intro x hx
 simp only[az5,List.mem_cons,List.not_mem_nil,or_false] at hx
 rcases hx with rfl | rfl | rfl | rfl | rfl | rfl | rfl | rfl | rfl | rfl
 ·exact hf.e
 all_goals exact K2.2 (by omega)
theorem ca0 {p:Plan} (h:Rt p):ag7 p.Pen:=fun x hx=>K2.2 (by have:=h.pen x hx;omega)
theorem cq7 {p:Plan} (h:Rt p):ag7 p.Changes:=fun x hx=>K2.2 (by have:=h.ch x hx;omega)
theorem cr9 (p:Plan):q0 (an3 p):=fun c hc=>by
 rcases List.mem_append.1 hc with h | h
 ·exact aN5 _ c h
 ·rcases List.mem_append.1 h with h | h<;>exact aN5 _ c h
theorem bC3 {p:Plan} (hf:aW2 p) (h:Rt p):(an3 p).length≤1950:=by
 have h1:=ac9 (bP2 hf h) (by simp[az5])
 have h2:=ac9 (ca0 h) (by have:=h.penl;omega)
 have h3:=ac9 (cq7 h) (by have:=h.chl;omega)
 simp only[an3,List.length_append];omega
/-! ### written -/
def cG9 (p:Plan):List Int×Int:=if R5 p=true then (an3 p,0) else ([],41)
theorem cU4 {l0 l1 l2:List Int} (h0:ag7 l0) (h1:ag7 l1) (h2:ag7 l2) (k0:l0.length≤64) (k1:l1.length≤64) (k2:l2.length≤64):Ev K0 (.s2 0 [] [l0,l1,l2]) (encL l0++(encL l1++encL l2),0):=by
 have n0:=ac9 h0 k0
 have n1:=ac9 h1 k1
 have n2:=ac9 h2 k2
 refine .next (s' :=.s2 1 (encL l0) [l0,l1,l2]) ?_ (.next (s' :=.s2 2 (encL l0++encL l1) [l0,l1,l2]) ?_ (.next (s' :=.s2 3 (encL l0++encL l1++encL l2) [l0,l1,l2]) ?_ (.done ?_)))
 ·have hl:decide (((List.map (d7 .u8) ([]:List Int)).length+(List.map (d7 .u8) (encL l0)).length)*1≤n4)=true:=P2 (by simp;omega)
  simp only[K0,aq6,F9]
  simp only[show(0+(0:Int).toNat)=0 from rfl,List.getElem?_cons_zero,Option.bind_some,aA8 h0 k0,hl]
  rfl
 ·have hl:decide (((List.map (d7 .u8) (encL l0)).length+(List.map (d7 .u8) (encL l1)).length)*1≤n4)=true:=P2 (by simp;omega)
  simp only[K0,aq6,F9]
  simp only[show(0+(1:Int).toNat)=1 from rfl,List.getElem?_cons_succ,List.getElem?_cons_zero,Option.bind_some,aA8 h1 k1,hl]
  rfl
 ·have hl:decide (((List.map (d7 .u8) (encL l0++encL l1)).length+(List.map (d7 .u8) (encL l2)).length)*1≤n4)=true:=P2 (by simp;omega)
  simp only[K0,aq6,F9]
  simp only[show(0+(2:Int).toNat)=2 from rfl,List.getElem?_cons_succ,List.getElem?_cons_zero,Option.bind_some,aA8 h2 k2,hl]
  rfl
 ·rw[List.append_assoc];rfl
theorem cY1 {p:Plan} (hf:aW2 p) (h:Rt p):∀(j k:Nat),k+j=p.Pen.length→Ev K0 (.s1 p.Pen p.Pen.length k p (p.Pen.take k)) (an3 p,0):=by
 intro j
 have hpl:=h.penl
 induction j with
 | zero=>
  intro k hk
  have hup:=h.up
  have hsup:=h.sup
  have e1:IntKind.i64.wrap p.Up=p.Up:=F4 (by have:=hf.up;omega) (by omega)
  have e2:IntKind.i64.wrap p.Sup=p.Sup:=F4 (by have:=hf.sup;omega) (by omega)
  rw[List.take_of_length_le (by omega)]
  refine .next (s' :=.s2 0 [] [az5 p,p.Pen,p.Changes]) ?_ (cU4 (bP2 hf h) (ca0 h) (cq7 h) (by simp[az5]) (by omega) (by have:=h.chl;omega))
  simp only[K0,ay6,geB (show p.Pen.length≤k by omega),cond_false,Y6,Option.bind_some,e1,e2,az5]
 | succ j ih=>
  intro k hk
  have hlt:k<p.Pen.length:=by omega
  refine .next (s' :=.s1 p.Pen p.Pen.length ((k+1:Nat):Int) p (p.Pen.take (k+1))) ?_ (ih (k+1) (by omega))
  have hl:decide (((List.map (d7 .i64) (p.Pen.take k)).length+1)*8≤n4)=true:=P2 (by simp;omega)
  simp only[K0,ay6,M6 hlt,cond_true,List.length_map] at hl ⊢
  simp only[M6 hlt,V3,Bool.and_self,cond_true,Int.toNat_natCast,List.getE hlt,Option.bind_some,hl,wS (show k<9223372036854775807 by omega),bn7 hlt]
theorem cY2 {p:Plan} (hf:aW2 p):bd3 p=some (cG9 p):=by
 unfold cG9
 by_cases hr:R5 p=true
 ·rw[if_pos hr]
  refine D7 (.next (s' :=.s1 p.Pen p.Pen.length 0 p []) ?_ (cY1 hf (ac5.1 hr) p.Pen.length 0 (by omega)))
  simp only[K0,aA6,be7 hf.s hf.up hf.sup,hr,Option.bind_some,List.length_map]
  rfl
 ·rw[if_neg hr]
  refine D7 (.done ?_)
  simp only[K0,aA6,be7 hf.s hf.up hf.sup,Option.bind_some]
  rw[Bool.eq_false_iff.2 hr];rfl
/-! ### read -/
def n8:Plan:=⟨0,0,0,0,0,0,0,0,0,0,[],[]⟩
def at6 (b:List Int):Option (List Int×List Int×List Int):=match pL b with
 | .inl _=>none
 | .inr (l,k1)=>(match pL (b.drop k1) with
  | .inl _=>none
  | .inr (pen,k2)=>(match pL (b.drop (k1+k2)) with
   | .inl _=>none
   | .inr (ch,k3)=>if k1+k2+k3=b.length then some (l,pen,ch) else none))
def aq1 (l pen ch:List Int):Plan:=⟨l.getD 0 0,l.getD 1 0,l.getD 2 0,l.getD 3 0,l.getD 4 0,l.getD 5 0,l.getD 6 0,l.getD 7 0,l.getD 8 0,l.getD 9 0,pen,ch⟩
def aD3 (l pen ch:List Int):Bool:=decide (l.length=10)&&(decide (0≤l.getD 8 0)&&(decide (0≤l.getD 9 0)&&R5 (aq1 l pen ch)))
def T8 (b:List Int):Plan×Int:=match at6 b with
 | none=>(n8,41)
 | some (l,pen,ch)=>if aD3 l pen ch=true then (aq1 l pen ch,0) else (n8,41)
theorem ct5 {p:Plan} (hf:aW2 p) (h:Rt p):at6 (an3 p)=some (az5 p,p.Pen,p.Changes):=by
 have h1:=bk3 (bP2 hf h) (by simp[az5]) (encL p.Pen++encL p.Changes)
 have h2:=bk3 (ca0 h) (by have:=h.penl;omega) (encL p.Changes)
 have h3:=bk3 (cq7 h) (by have:=h.chl;omega) []
 rw[List.append_nil] at h3
 unfold at6 an3
 rw[h1]
 simp only[List.drop_left]
 rw[h2]
 have e:(encL (az5 p)++(encL p.Pen++encL p.Changes)).drop ((encL (az5 p)).length+(encL p.Pen).length)=encL p.Changes:=by
  rw[←List.drop_drop,List.drop_left,List.drop_left]
 simp only[e]
 rw[h3]
 simp[Nat.add_assoc]
theorem bx2 (p:Plan):aq1 (az5 p) p.Pen p.Changes=p:=rfl
theorem cE3 {p:Plan} (hf:aW2 p) (h:R5 p=true):T8 (an3 p)=(p,0):=by
 unfold T8
 rw[ct5 hf (ac5.1 h)]
 have hk:aD3 (az5 p) p.Pen p.Changes=true:=by
  simp only[aD3,bx2,h,Bool.and_true,Bool.and_eq_true,decide_eq_true_eq]
  exact⟨rfl,hf.up,hf.sup⟩
 simp only[hk,if_true,bx2]
theorem cr3 {b l pen ch:List Int} (hb:q0 b) (h:at6 b=some (l,pen,ch)):encL l++(encL pen++encL ch)=b∧ag7 l∧ag7 pen∧ag7 ch∧l.length≤64∧pen.length≤64∧ch.length≤64:=by
 unfold at6 at h
 split at h
 ·cases h
 ·rename_i l' k1 h1
  split at h
  ·cases h
  ·rename_i pen' k2 h2
   split at h
   ·cases h
   ·rename_i ch' k3 h3
    split at h
    ·rename_i hk
     simp only[Option.some.injEq,Prod.mk.injEq] at h
     obtain⟨rfl,rfl,rfl⟩:=h
     obtain⟨a1,a2,a3,a4,a5⟩:=aQ3 hb h1
     obtain⟨b1,b2,b3,b4,b5⟩:=aQ3 (fun c hc=>hb c (List.mem_of_mem_drop hc)) h2
     obtain⟨c1,c2,c3,c4,c5⟩:=aQ3 (fun c hc=>hb c (List.mem_of_mem_drop hc)) h3
     refine⟨?_,a5,b5,c5,a4,b4,c4⟩
     rw[←a1,←b1,←c1]
     have e1:List.take k3 (List.drop (k1+k2) b)=List.drop (k1+k2) b:=List.take_of_length_le (by rw[List.length_drop];omega)
     rw[e1,←List.drop_drop,List.take_append_drop,List.take_append_drop]
    ·cases h
theorem cj9 {l:List Int} (h:l.length=10) (pen ch:List Int):az5 (aq1 l pen ch)=l:=by
 match l,h with
 | [_,_,_,_,_,_,_,_,_,_],_=>rfl
theorem cI5 {b:List Int} (hb:q0 b) {p:Plan} (h:T8 b=(p,0)):R5 p=true∧aW2 p∧an3 p=b:=by
 unfold T8 at h
 split at h
 ·cases h
 ·rename_i l pen ch hp
  split at h
  ·rename_i hk
   simp only[Prod.mk.injEq,and_true] at h
   subst h
   obtain⟨h1,h2,h3,h4,h5,h6,h7⟩:=cr3 hb hp
   simp only[aD3,Bool.and_eq_true,decide_eq_true_eq] at hk
   obtain⟨k1,k2,k3,k4⟩:=hk
   have hlen0:0<l.length:=by omega
   refine⟨k4,⟨?_,k2,k3,⟨by show pen.length<_;omega,by show ch.length<_;omega⟩⟩,?_⟩
   ·show n9 .i64 (l.getD 0 0)
    have:l.getD 0 0=l[0]:=by simp[hlen0]
    rw[this];exact h2 _ (List.getElem_mem hlen0)
   ·unfold an3
    rw[cj9 k1]
    exact h1
  ·cases h
theorem bY8 {b:List Int} (hb:q0 b) {at_:Nat}{xs:List Int}{k:Nat} (h:pL (b.drop at_)=.inr (xs,k)):k≤b.length-at_:=by
 have:=(aQ3 (fun c hc=>hb c (List.mem_of_mem_drop hc)) h).2.1
 rwa [List.length_drop] at this
theorem bl7 {l:List Int}{e:Int} (h:pL l=.inl e):(e !=0)=true:=by
 unfold pL at h
 split at h
 ·rename_i e' he
  obtain rfl:=Sum.inl.inj h
  exact aS0 he
 ·split at h
  ·obtain rfl:=Sum.inl.inj h;rfl
  ·split at h
   ·rename_i n k hn hno e' hN
    obtain rfl:=Sum.inl.inj h
    have key:∀(n:Nat) (l:List Int) (e:Int),pN n l=.inl e→(e !=0)=true:=by
     intro n
     induction n with
     | zero=>intro l e h;simp[pN] at h
     | succ n ih=>
      intro l e h
      simp only[pN] at h
      split at h
      ·rename_i e' he
       obtain rfl:=Sum.inl.inj h
       exact aS0 he
      ·split at h
       ·rename_i e' he
        obtain rfl:=Sum.inl.inj h
        exact ih _ _ he
       ·cases h
    exact key _ _ _ hN
   ·cases h
theorem cT8 {pen ch:List Int}{a0 a1 a2 a3 a4 a5 a6 a7 a8 a9:Int}{z:Plan} (h8:0≤a8) (h9:0≤a9) (hp:pen.length≤64) (hc:ch.length≤64):∀(j k:Nat),k+j=pen.length→
  Ev u7 (.s3 pen pen.length k z a0 a1 a2 a3 a4 a5 a6 a7 a8 a9 ch (pen.take k)) (if R5 ⟨a0,a1,a2,a3,a4,a5,a6,a7,a8,a9,pen,ch⟩=true then (⟨a0,a1,a2,a3,a4,a5,a6,a7,a8,a9,pen,ch⟩,0) else (n8,41)):=by
 intro j
 induction j with
 | zero=>
  intro k hk
  rw[List.take_of_length_le (by omega)]
  refine .done ?_
  have hr:=be7 (p:=⟨a0,a1,a2,a3,a4,a5,a6,a7,a8,a9,pen,ch⟩) ⟨by show pen.length<_;omega,by show ch.length<_;omega⟩ h8 h9
  simp only[u7,ay2,geB (show pen.length≤k by omega),cond_false,hr,Option.bind_some]
  cases R5 ⟨a0,a1,a2,a3,a4,a5,a6,a7,a8,a9,pen,ch⟩<;>rfl
 | succ j ih=>
  intro k hk
  have hlt:k<pen.length:=by omega
  refine .next (s' :=.s3 pen pen.length ((k+1:Nat):Int) z a0 a1 a2 a3 a4 a5 a6 a7 a8 a9 ch (pen.take (k+1))) ?_ (ih (k+1) (by omega))
  have hl:decide (((List.map (d7 .i64) (pen.take k)).length+1)*8≤n4)=true:=P2 (by simp;omega)
  simp only[u7,ay2,List.length_map] at hl ⊢
  simp only[M6 hlt,V3,Bool.and_self,cond_true,Int.toNat_natCast,List.getE hlt,Option.bind_some,hl,wS (show k<9223372036854775807 by omega),bn7 hlt]
theorem cT3 {b l pen ch:List Int}{at_:Nat}{z:Plan} (hl64:l.length≤64) (hp:pen.length≤64) (hc:ch.length≤64):
  Ev u7 (.s1 b at_ 3 z [l,pen,ch]) (if at_=b.length∧aD3 l pen ch=true then (aq1 l pen ch,0) else (n8,41)):=by
 have bad:Ev u7 (.s2 l true z [l,pen,ch]) (n8,41):=.done rfl
 by_cases hat:at_=b.length
 ·have e1:((at_:Int) !=((b.length:Nat):Int))=false:=by simp[hat]
  by_cases h10:l.length=10
  ·match l,h10 with
   | [a0,a1,a2,a3,a4,a5,a6,a7,a8,a9],_=>
    have c1:=bp3 (-1) 1048576 (l:= [a1,a2,a3,a4]) (by simp)
    have c2:=bp3 0 1048576 (l:= [a8,a9]) (by simp)
    have c3:=bp3 0 1000000 (l:=pen) (by omega)
    have key:u7 (.s1 b at_ 3 z [[a0,a1,a2,a3,a4,a5,a6,a7,a8,a9],pen,ch])=some (.inl (.s2 [a0,a1,a2,a3,a4,a5,a6,a7,a8,a9] (!(I9 (-1) 1048576 [a1,a2,a3,a4]&&(I9 0 1048576 [a8,a9]&&I9 0 1000000 pen))) z [[a0,a1,a2,a3,a4,a5,a6,a7,a8,a9],pen,ch])):=by
     simp only[u7,M4,List.length_map,e1]
     simp only[List.getElem?_cons_zero,List.getElem?_cons_succ,Option.bind_some,show decide ((3:Int)<3)=false from rfl,cond_false,List.length_cons,List.length_nil]
     simp only[show((((0+1+1+1+1+1+1+1+1+1+1:Nat):Int)) !=10)=false from rfl,cond_false]
     simp only[show decide ((1:Int)<((0+1+1+1+1+1+1+1+1+1+1:Nat):Int))=true from rfl,show decide ((2:Int)<((0+1+1+1+1+1+1+1+1+1+1:Nat):Int))=true from rfl,show decide ((3:Int)<((0+1+1+1+1+1+1+1+1+1+1:Nat):Int))=true from rfl,show decide ((4:Int)<((0+1+1+1+1+1+1+1+1+1+1:Nat):Int))=true from rfl,show decide ((8:Int)≤((0+1+1+1+1+1+1+1+1+1+1:Nat):Int))=true from rfl,cond_true,c1,Option.bind_some]
     rw[show List.drop 8 (List.take (0+1+1+1+1+1+1+1+1+1+1) [a0,a1,a2,a3,a4,a5,a6,a7,a8,a9])= [a8,a9] from rfl,c2,c3]
     cases I9 (-1) 1048576 [a1,a2,a3,a4] with
     | false=>rfl
     | true=>
      cases I9 0 1048576 [a8,a9] with
      | false=>rfl
      | true=>rfl
    refine .next key ?_
    by_cases hok:(I9 (-1) 1048576 [a1,a2,a3,a4]&&(I9 0 1048576 [a8,a9]&&I9 0 1000000 pen))=true
    ·rw[hok]
     simp only[Bool.and_eq_true,aZ7] at hok
     obtain⟨k1,k2,k3⟩:=hok
     have b8' :=k2 a8 (by simp)
     have b9' :=k2 a9 (by simp)
     have w8:IntKind.u64.wrap a8=a8:=cc0 (by omega) (by omega)
     have w9:IntKind.u64.wrap a9=a9:=cc0 (by omega) (by omega)
     have h3:=cT8 (pen:=pen) (ch:=ch) (a0:=a0) (a1:=a1) (a2:=a2) (a3:=a3) (a4:=a4) (a5:=a5) (a6:=a6) (a7:=a7) (z:=z) b8'.1 b9'.1 hp hc pen.length 0 (by omega)
     have hres:(if at_=b.length∧aD3 [a0,a1,a2,a3,a4,a5,a6,a7,a8,a9] pen ch=true then (aq1 [a0,a1,a2,a3,a4,a5,a6,a7,a8,a9] pen ch,(0:Int)) else (n8,41))=(if R5 ⟨a0,a1,a2,a3,a4,a5,a6,a7,a8,a9,pen,ch⟩=true then (⟨a0,a1,a2,a3,a4,a5,a6,a7,a8,a9,pen,ch⟩,0) else (n8,41)):=by
      have:aD3 [a0,a1,a2,a3,a4,a5,a6,a7,a8,a9] pen ch=R5 ⟨a0,a1,a2,a3,a4,a5,a6,a7,a8,a9,pen,ch⟩:=by
       simp[aD3,aq1,b8'.1,b9'.1]
      rw[this]
      simp only[hat,true_and]
      rfl
     rw[hres]
     refine .next (s' :=.s3 pen pen.length 0 z a0 a1 a2 a3 a4 a5 a6 a7 a8 a9 ch []) ?_ h3
     simp only[u7,aN3,Bool.not_true,cond_false,List.length_map]
     simp only[List.getElem?_cons_zero,List.getElem?_cons_succ,Option.bind_some,List.length_cons,List.length_nil,w8,w9]
     rfl
    ·have hf:aD3 [a0,a1,a2,a3,a4,a5,a6,a7,a8,a9] pen ch=false:=by
      rw[Bool.eq_false_iff]
      intro hk
      simp only[aD3,Bool.and_eq_true,decide_eq_true_eq] at hk
      obtain⟨-,q1,q2,q3⟩:=hk
      have r:=ac5.1 q3
      refine hok ?_
      simp only[Bool.and_eq_true,aZ7]
      have t1: -1≤a1∧a1≤15:=r.tps a1 (by simp[aq1])
      have t2: -1≤a2∧a2≤15:=r.tps a2 (by simp[aq1])
      have t3: -1≤a3∧a3≤15:=r.tps a3 (by simp[aq1])
      have t4:0≤a4∧a4≤100:=r.pc
      have t5:a8≤65535:=r.up
      have t6:a9≤65535:=r.sup
      have q1:0≤a8:=q1
      have q2:0≤a9:=q2
      refine⟨fun x hx=> ?_,fun x hx=> ?_,r.pen⟩
      ·simp only[List.mem_cons,List.not_mem_nil,or_false] at hx
       rcases hx with rfl | rfl | rfl | rfl<;>omega
      ·simp only[List.mem_cons,List.not_mem_nil,or_false] at hx
       rcases hx with rfl | rfl<;>omega
     rw[if_neg (by rw[hf];simp),Bool.eq_false_iff.2 hok]
     exact .done rfl
  ·have hf:aD3 l pen ch=false:=by simp[aD3,h10]
   rw[if_neg (by rw[hf];simp)]
   have e2:(((l.length:Nat):Int) !=10)=true:=by simp;omega
   refine .next (s' :=.s2 l true z [l,pen,ch]) ?_ bad
   simp only[u7,M4,List.length_map,e1,cond_false]
   simp only[List.getElem?_cons_zero,Option.bind_some,show decide ((3:Int)<3)=false from rfl,cond_false,e2,cond_true]
 ·rw[if_neg (by simp[hat])]
  have e1:((at_:Int) !=((b.length:Nat):Int))=true:=by simp;omega
  refine .next (s' :=.s2 l true z [l,pen,ch]) ?_ bad
  simp only[u7,M4,List.length_map,e1]
  simp only[List.getElem?_cons_zero,Option.bind_some,show decide ((3:Int)<3)=false from rfl,cond_false,cond_true]
theorem cu3 {b:List Int} (hb:q0 b) (hm:b.length≤E1):bd5 b=some (T8 b):=by
 refine D7 (.next (s' :=.s1 b 0 0 n8 [[],[],[]]) rfl ?_)
 have i1:aw9 b 0=some (rL 0 (pL b)):=by
  have:=br8 hb hm (at_:=0) (by omega)
  rwa [List.drop_zero] at this
 cases h1:pL b with
 | inl e=>
  rw[h1] at i1
  have:T8 b=(n8,41):=by simp[T8,at6,h1]
  rw[this]
  refine .done ?_
  have he:=bl7 h1
  simp only[u7,M4,i1,rL,Option.bind_some,he]
  rfl
 | inr x=>
  obtain⟨l,k1⟩:=x
  rw[h1] at i1
  have g1:=bY8 hb (at_:=0) (by rw[List.drop_zero];exact h1)
  obtain⟨-,-,-,l64,-⟩:=aQ3 hb h1
  refine .next (s' :=.s1 b k1 1 n8 [l,[],[]]) ?_ ?_
  ·simp only[u7,M4,i1,rL,Option.bind_some,Nat.zero_add]
   rfl
  have i2:=br8 hb hm (at_:=k1) (by omega)
  cases h2:pL (b.drop k1) with
  | inl e=>
   rw[h2] at i2
   have:T8 b=(n8,41):=by simp[T8,at6,h1,h2]
   rw[this]
   refine .done ?_
   have he:=bl7 h2
   simp only[u7,M4,i2,rL,Option.bind_some,he]
   rfl
  | inr x=>
   obtain⟨pen,k2⟩:=x
   rw[h2] at i2
   have g2:=bY8 hb h2
   obtain⟨-,-,-,p64,-⟩:=aQ3 (fun c hc=>hb c (List.mem_of_mem_drop hc)) h2
   refine .next (s' :=.s1 b ((k1+k2:Nat):Int) 2 n8 [l,pen,[]]) ?_ ?_
   ·simp only[u7,M4,i2,rL,Option.bind_some]
    rfl
   have i3:=br8 hb hm (at_:=k1+k2) (by omega)
   cases h3:pL (b.drop (k1+k2)) with
   | inl e=>
    rw[h3] at i3
    have:T8 b=(n8,41):=by simp[T8,at6,h1,h2,h3]
    rw[this]
    refine .done ?_
    have he:=bl7 h3
    simp only[u7,M4,i3,rL,Option.bind_some,he]
    rfl
   | inr x=>
    obtain⟨ch,k3⟩:=x
    rw[h3] at i3
    obtain⟨-,-,-,c64,-⟩:=aQ3 (fun c hc=>hb c (List.mem_of_mem_drop hc)) h3
    have hres:T8 b=(if k1+k2+k3=b.length∧aD3 l pen ch=true then (aq1 l pen ch,0) else (n8,41)):=by
     simp only[T8,at6,h1,h2,h3]
     by_cases hk:k1+k2+k3=b.length
     ·simp[hk]
     ·simp[hk]
    rw[hres]
    refine .next (s' :=.s1 b ((k1+k2+k3:Nat):Int) 3 n8 [l,pen,ch]) ?_ (cT3 l64 p64 c64)
    simp only[u7,M4,i3,rL,Option.bind_some]
    rfl
/-! ### alike -/
def bZ4 (a b:Plan):Bool:=decide (a.Epoch=b.Epoch)&&(decide (a.Target=b.Target)&&(decide (a.Prev=b.Prev)&&(decide (a.Spill=b.Spill)&&(decide (a.Percent=b.Percent)&&(decide (a.Stamp=b.Stamp)&&(decide (a.Since=b.Since)&&(decide (a.Ramped=b.Ramped)&&(decide (a.Up=b.Up)&&decide (a.Sup=b.Sup)))))))))
def bD6 (a b:Plan):Bool:=bZ4 a b&&(decide (a.Pen=b.Pen)&&decide (a.Changes=b.Changes))
theorem bR3 {a b:Plan}:bD6 a b=true↔a=b:=by
 cases a;cases b
 simp only[bD6,bZ4,Bool.and_eq_true,decide_eq_true_eq,Plan.mk.injEq,and_assoc]
theorem cB2 {x y:Int} (hx:n9 .u64 x) (hy:n9 .u64 y):(IntKind.i64.wrap x==IntKind.i64.wrap y)=decide (x=y):=by
 obtain⟨n,rfl⟩:=Int.eq_ofNat_of_zero_le (H9.1 hx).1
 obtain⟨m,rfl⟩:=Int.eq_ofNat_of_zero_le (H9.1 hy).1
 have h1:=(H9.1 hx).2
 have h2:=(H9.1 hy).2
 rw[aG4 n (by omega),aG4 m (by omega)]
 rw[Bool.eq_iff_iff]
 simp only[beq_iff_eq,decide_eq_true_eq]
 split<;>split<;>omega
theorem bI1 {x y:Int} (hx:n9 .u64 x) (hy:n9 .u64 y):decide (IntKind.i64.wrap x=IntKind.i64.wrap y)=decide (x=y):=by
 rw[←cB2 hx hy,Bool.eq_iff_iff];simp
theorem cR3 {a b:Plan} (hs:cr2 a) (h1:n9 .u64 a.Up) (h2:n9 .u64 b.Up) (h3:n9 .u64 a.Sup) (h4:n9 .u64 b.Sup):ax0 a b=some (bD6 a b):=by
 have hb:∀x y:Int,(x==y)=decide (x=y):=fun x y=>by by_cases h:x=y<;>simp[h]
 simp only[ax0,Y6,Option.bind_some,bI1 h1 h2,bI1 h3 h4,hb,Bool.and_true,cE4 hs.pen,ck9 hs.ch]
 rw[show(decide (a.Epoch=b.Epoch)&&(decide (a.Target=b.Target)&&(decide (a.Prev=b.Prev)&&(decide (a.Spill=b.Spill)&&(decide (a.Percent=b.Percent)&&(decide (a.Stamp=b.Stamp)&&(decide (a.Since=b.Since)&&(decide (a.Ramped=b.Ramped)&&(decide (a.Up=b.Up)&&decide (a.Sup=b.Sup))))))))))=bZ4 a b from rfl]
 unfold bD6
 cases bZ4 a b with
 | false=>rfl
 | true=>cases decide (a.Pen=b.Pen)<;>rfl
/-! ### the head -/
theorem bytesOf {b:List Int} (h:b.length*1≤reachBytes∧∀y∈b,n9 .u8 y):q0 b∧b.length≤E1:=by
 refine⟨fun c hc=>cS7.1 (h.2 c hc),?_⟩
 have:reachBytes≤E1:=by decide
 omega
/-! ### may it be? -/
def hdM (m:i5):Prop:=1≤m.Kind∧m.Kind≤19∧0≤m.From∧m.From≤255∧0≤m.To∧m.To≤255∧m.Up≤65535∧0≤m.Code∧m.Code≤1000
instance (m:i5):Decidable (hdM m):=by unfold hdM;infer_instance
def txM (m:i5):Prop:=(m.ID.length=0∨m.ID.length=3)∧m.Session.length≤64∧m.Payload.length≤1024
instance (m:i5):Decidable (txM m):=by unfold txM;infer_instance
def az4 (m:i5):Bool:=bif m.HasPlan then R5 m.Plan else bD6 m.Plan n8
def w5 (m:i5):Bool:=decide (hdM m)&&(decide (txM m)&&az4 m)
structure Shm (m:i5):Prop where
 s:cr2 m.Plan
 up:n9 .u64 m.Plan.Up
 sup:n9 .u64 m.Plan.Sup
theorem bo8 (a b c:Int):(z0 (z0 a b) c<0)↔a<0∨b<0∨c<0:=by unfold z0;split<;>split<;>omega
theorem bZ6 (a b n:Int):(C9 a b>n)↔a>n∨b>n:=by unfold C9;split<;>omega
theorem cL1 (a b n:Int):(C9 a b≥n)↔a≥n∨b≥n:=by unfold C9;split<;>omega
theorem cu5:n9 .u64 (0:Int):=H9.2 (by omega)
theorem cz6 {m:i5} (h:Shm m):W8 false m=some (az4 m):=by
 have hu:=H9.1 h.up
 have hv:=H9.1 h.sup
 unfold W8 az4
 cases m.HasPlan
 ·have:=cR3 (a:=m.Plan) (b:=n8) h.s h.up cu5 h.sup cu5
  simp only[cond_false]
  show(ax0 m.Plan n8).bind _=_
  rw[this];rfl
 ·simp only[cond_false,cond_true,be7 h.s hu.1 hv.1,Option.bind_some]
theorem cw8 {m:i5} (h:Shm m):L7 false m=some (decide (txM m)&&az4 m):=by
 have h1:=cz6 h
 have t1:W8 true m=some false:=rfl
 have t2:ac7 true m=some false:=rfl
 have h2:ac7 false m=some (decide (m.Session.length≤64∧m.Payload.length≤1024)&&az4 m):=by
  simp only[ac7,cond_false,List.length_map]
  by_cases a:m.Session.length≤64
  ·rw[show decide (((m.Session.length:Nat):Int)>64)=false from decide_eq_false (by omega)]
   by_cases b:m.Payload.length≤1024
   ·rw[show decide (((m.Payload.length:Nat):Int)>1024)=false from decide_eq_false (by omega),show decide (m.Session.length≤64∧m.Payload.length≤1024)=true from decide_eq_true ⟨a,b⟩,Bool.true_and];exact h1
   ·rw[show decide (((m.Payload.length:Nat):Int)>1024)=true from decide_eq_true (by omega),show decide (m.Session.length≤64∧m.Payload.length≤1024)=false from decide_eq_false (fun h=>b h.2)];rfl
  ·rw[show decide (((m.Session.length:Nat):Int)>64)=true from decide_eq_true (by omega),show decide (m.Session.length≤64∧m.Payload.length≤1024)=false from decide_eq_false (fun h=>a h.1)];rfl
 simp only[L7,cond_false,List.length_map]
 by_cases a:m.ID.length=0
 ·rw[show decide (((m.ID.length:Nat):Int)>0)=false from decide_eq_false (by omega)]
  rw[show decide (txM m)=decide (m.Session.length≤64∧m.Payload.length≤1024) from decide_eq_decide.2 (by unfold txM;omega)]
  exact h2
 ·rw[show decide (((m.ID.length:Nat):Int)>0)=true from decide_eq_true (by omega)]
  by_cases b:m.ID.length=3
  ·rw[show(((m.ID.length:Nat):Int) !=3)=false from by rw[b];rfl,show decide (txM m)=decide (m.Session.length≤64∧m.Payload.length≤1024) from decide_eq_decide.2 (by unfold txM;omega)]
   exact h2
  ·rw[show(((m.ID.length:Nat):Int) !=3)=true from bne_iff_ne.2 (by omega),show decide (txM m)=false from decide_eq_false (by unfold txM;omega)]
   rfl
theorem aJ1 {m:i5} (h:Shm m):ac0 m=some (w5 m):=by
 have t3:L7 true m=some false:=rfl
 by_cases hh:hdM m
 ·have h' :=hh
  unfold hdM at h'
  rw[w5,decide_eq_true hh,Bool.true_and,←cw8 h]
  simp only[ac0]
  rw[show decide (m.Kind<1)=false from decide_eq_false (by omega),show decide (m.Kind>19)=false from decide_eq_false (by omega),
   show decide (z0 (z0 m.From m.To) m.Code<0)=false from decide_eq_false (by rw[bo8];omega),show decide (C9 m.From m.To>255)=false from decide_eq_false (by rw[bZ6];omega),
   show decide (m.Code>1000)=false from decide_eq_false (by omega),show decide (m.Up≥65536)=false from decide_eq_false (by omega)]
  rfl
 ·rw[w5,decide_eq_false hh,Bool.false_and]
  unfold hdM at hh
  simp only[ac0]
  cases h1:decide (m.Kind<1)
  ·cases h2:decide (m.Kind>19)
   ·cases h3:decide (z0 (z0 m.From m.To) m.Code<0)
    ·cases h4:decide (C9 m.From m.To>255)
     ·cases h5:decide (m.Code>1000)
      ·rw[decide_eq_false_iff_not] at h1 h2 h3 h4 h5
       rw[bo8] at h3
       rw[bZ6] at h4
       rw[show decide (m.Up≥65536)=true from decide_eq_true (by omega)]
       rfl
      ·rfl
     ·rfl
    ·rfl
   ·rfl
  ·rfl
/-! ### bytes -/
/-- A message of words. -/
structure N6 (m : i5) : Prop where
  sh : Shm m
  pl : aW2 m.Plan
  w : ag7 [m.Epoch, m.Ballot, m.Accepted, m.Nonce, m.Time]
  up : 0 ≤ m.Up
  id : ag7 m.ID
  ses : q0 m.Session
  pay : q0 m.Payload
def S7 (m:i5):List Int:= [m.From,m.To,m.Epoch,m.Ballot,m.Accepted,m.Nonce,m.Time,m.Up,m.Code,bif m.HasPlan then 1 else 0]
def aX1 (m:i5):List Int:=bif m.HasPlan then G3 (an3 m.Plan) else []
def T7 (m:i5):List Int:=encL (S7 m)++(aX1 m++(encL m.ID++(G3 m.Session++G3 m.Payload)))
theorem ah9 {m:i5} (h:w5 m=true):hdM m∧txM m∧az4 m=true:=by
 simpa only[w5,Bool.and_eq_true,decide_eq_true_eq] using h
theorem bh5 {m:i5} (h:w5 m=true) (hp:m.HasPlan=true):Rt m.Plan:=by
 have:=(ah9 h).2.2
 rw[az4,hp] at this
 exact ac5.1 this
theorem cq3 {m:i5} (h:w5 m=true) (hp:m.HasPlan=false):m.Plan=n8:=by
 have:=(ah9 h).2.2
 rw[az4,hp] at this
 exact bR3.1 this
theorem bB7 {m:i5} (hf:N6 m) (h:w5 m=true):ag7 (S7 m):=by
 obtain⟨h1,h2,h3⟩:=ah9 h
 unfold hdM at h1
 have hu:=hf.up
 have e1:=K2.2 (show-9223372036854775808≤m.From∧m.From≤9223372036854775807 by omega)
 have e2:=K2.2 (show-9223372036854775808≤m.To∧m.To≤9223372036854775807 by omega)
 have e3:=K2.2 (show-9223372036854775808≤m.Up∧m.Up≤9223372036854775807 by omega)
 have e4:=K2.2 (show-9223372036854775808≤m.Code∧m.Code≤9223372036854775807 by omega)
 have e5:n9 .i64 (bif m.HasPlan then 1 else 0):=by cases m.HasPlan<;>exact K2.2 (by decide)
 have hw:=hf.w
 intro x hx
 simp only[S7,List.mem_cons,List.not_mem_nil,or_false] at hx
 rcases hx with rfl | rfl | rfl | rfl | rfl | rfl | rfl | rfl | rfl | rfl
 ·exact e1
 ·exact e2
 ·exact hw _ (by simp)
 ·exact hw _ (by simp)
 ·exact hw _ (by simp)
 ·exact hw _ (by simp)
 ·exact hw _ (by simp)
 ·exact e3
 ·exact e4
 ·exact e5
theorem cr5 (m:i5):q0 (aX1 m):=by
 unfold aX1
 cases m.HasPlan
 ·intro c hc;cases hc
 ·exact bg9 (cr9 _)
theorem cs5 {m:i5} (hf:N6 m):q0 (T7 m):=fun c hc=>by
 simp only[T7,List.mem_append] at hc
 rcases hc with hc | hc | hc | hc | hc
 ·exact aN5 _ c hc
 ·exact cr5 m c hc
 ·exact aN5 _ c hc
 ·exact bg9 hf.ses c hc
 ·exact bg9 hf.pay c hc
theorem cg3 {m:i5} (hf:N6 m) (h:w5 m=true):(aX1 m).length≤1960:=by
 unfold aX1
 cases hp:m.HasPlan
 ·simp
 ·have h1:=bC3 hf.pl (bh5 h hp)
  have:=aF0 (s:=an3 m.Plan) (by omega)
  simp only[cond_true];omega
theorem ch8 {m:i5} (h:w5 m=true):m.ID.length≤3∧m.Session.length≤64∧m.Payload.length≤1024:=by
 have:=(ah9 h).2.1
 unfold txM at this
 omega
theorem bh7 {m:i5} (hf:N6 m) (h:w5 m=true):(T7 m).length≤4400:=by
 have a:=ac9 (bB7 hf h) (by simp[S7])
 have b:=cg3 hf h
 have hi:=ch8 h
 have c:=ac9 hf.id (by omega)
 have d:=aF0 (s:=m.Session) (by omega)
 have e:=aF0 (s:=m.Payload) (by omega)
 simp only[T7,List.length_append]
 omega
def cp3 (m:i5):Int×List Int×Int:=if w5 m=true then (m.Kind,T7 m,0) else (0,[],51)
theorem cA7 {s:List Int} (h:s.length≤4096):cJ4 s=(0,G3 s):=if_pos h
theorem cM3 {m:i5} (hs:m.Session.length≤64) (hq:m.Payload.length≤1024) (hk:0≤m.Kind∧m.Kind≤255) {b:List Int} (hb:b.length≤8000):
  Ev J7 (.s1 0 m b [m.Session,m.Payload]) (m.Kind,b++(G3 m.Session++G3 m.Payload),0):=by
 have n1:=aF0 (s:=m.Session) (by omega)
 have n2:=aF0 (s:=m.Payload) (by omega)
 have k1:=bc9 (s:=m.Session) (by simp only[E1];omega)
 have k2:=bc9 (s:=m.Payload) (by simp only[E1];omega)
 rw[cA7 (by omega)] at k1 k2
 refine .next (s' :=.s1 1 m (b++G3 m.Session) [m.Session,m.Payload]) ?_ (.next (s' :=.s1 2 m (b++G3 m.Session++G3 m.Payload) [m.Session,m.Payload]) ?_ (.done ?_))
 ·have hl:decide (((List.map (d7 .u8) b).length+(List.map (d7 .u8) (G3 m.Session)).length)*1≤n4)=true:=P2 (by simp only[List.length_map];omega)
  simp only[J7,ar3,F9]
  simp only[show(0+(0:Int).toNat)=0 from rfl,List.getElem?_cons_zero,Option.bind_some,k1,hl]
  rfl
 ·have hl:decide (((List.map (d7 .u8) (b++G3 m.Session)).length+(List.map (d7 .u8) (G3 m.Payload)).length)*1≤n4)=true:=P2 (by simp only[List.length_map,List.length_append];omega)
  simp only[J7,ar3,F9]
  simp only[show(0+(1:Int).toNat)=1 from rfl,List.getElem?_cons_succ,List.getElem?_cons_zero,Option.bind_some,k2,hl]
  rfl
 ·rw[←List.append_assoc]
  simp only[J7,ar3,wU8 hk.1 hk.2]
  rfl
theorem cR1 {m:i5} (hf:N6 m) (h:w5 m=true) {b:List Int} (hb:b.length≤7000):
  Ev J7 (.s2 m b) (m.Kind,b++(encL m.ID++(G3 m.Session++G3 m.Payload)),0):=by
 have hi:=ch8 h
 have hh:=(ah9 h).1
 unfold hdM at hh
 have c:=ac9 hf.id (by omega)
 have hl:decide (((List.map (d7 .u8) b).length+(List.map (d7 .u8) (encL m.ID)).length)*1≤n4)=true:=P2 (by simp only[List.length_map];omega)
 refine .next (s' :=.s1 0 m (b++encL m.ID) [m.Session,m.Payload]) ?_ ?_
 ·simp only[J7,aM7,F9,aA8 hf.id (by omega),Option.bind_some,hl,cond_true]
 ·have:=cM3 (m:=m) (b:=b++encL m.ID) hi.2.1 hi.2.2 (by omega) (by simp only[List.length_append];omega)
  rw[List.append_assoc] at this
  exact this
theorem cP8 {m:i5} (hf:N6 m):bc4 m=some (cp3 m):=by
 unfold cp3
 by_cases h:w5 m=true
 ·rw[if_pos h]
  have hi:=bB7 hf h
  have hu:=hf.up
  have hh:=(ah9 h).1
  unfold hdM at hh
  have hw:IntKind.i64.wrap m.Up=m.Up:=F4 (by omega) (by omega)
  have nl:=ac9 hi (by simp[S7])
  refine D7 (.next (s' :=.s3 m (S7 m)) ?_ ?_)
  ·simp only[J7,az9,aJ1 hf.sh,h,Option.bind_some,Bool.not_true,cond_false,hw,S7]
   cases m.HasPlan<;>rfl
  ·refine .next (s' :=.s2 m (encL (S7 m)++aX1 m)) ?_ ?_
   ·simp only[J7,aM6,aA8 hi (by simp[S7]),Option.bind_some,F9]
    unfold aX1
    cases hp:m.HasPlan
    ·simp only[cond_false,List.append_nil]
    ·have rp:=bh5 h hp
     have pl:=bC3 hf.pl rp
     have tl:=aF0 (s:=an3 m.Plan) (by omega)
     have e1:bd3 m.Plan=some (an3 m.Plan,0):=by rw[cY2 hf.pl,cG9,if_pos (ac5.2 rp)]
     have e2:R4 (an3 m.Plan)=some (0,G3 (an3 m.Plan)):=by rw[bc9 (by simp only[E1];omega),cA7 (by omega)]
     have hl:decide (((List.map (d7 .u8) (encL (S7 m))).length+(List.map (d7 .u8) (G3 (an3 m.Plan))).length)*1≤n4)=true:=P2 (by simp only[List.length_map];omega)
     simp only[cond_true,e1,e2,Option.bind_some,hl]
   ·have q:=cg3 hf h
    have:=cR1 hf h (b:=encL (S7 m)++aX1 m) (by simp only[List.length_append];omega)
    rw[List.append_assoc] at this
    exact this
 ·rw[if_neg h]
  refine D7 (.done ?_)
  simp only[J7,az9,aJ1 hf.sh,Bool.eq_false_iff.2 h,Option.bind_some,Bool.not_false,cond_true]
def ay1:i5:=⟨0,0,0,0,0,0,0,0,0,0,false,n8,[],[],[]⟩
def withT (m:i5) (id s py:List Int):i5:=⟨m.Kind,m.From,m.To,m.Epoch,m.Ballot,m.Accepted,m.Nonce,m.Time,m.Up,m.Code,m.HasPlan,m.Plan,id,s,py⟩
def aF7 (l:List Int):Option (List Int×List Int×List Int):=match pL l with
 | .inl _=>none
 | .inr (id,k1)=>(match pT (l.drop k1) with
  | .inl _=>none
  | .inr (s,k2)=>(match pT (l.drop (k1+k2)) with
   | .inl _=>none
   | .inr (py,k3)=>if k1+k2+k3=l.length then some (id,s,py) else none))
def ba3 (m:i5) (l:List Int):i5×Int:=match aF7 l with
 | none=>(ay1,51)
 | some (id,s,py)=>if w5 (withT m id s py)=true then (withT m id s py,0) else (ay1,51)
theorem cO3 {l:List Int}{e:Int} (h:pL l=.inl e):aF7 l=none:=by simp only[aF7,h]
theorem cQ0 {l id:List Int}{k1:Nat}{e:Int} (h:pL l=.inr (id,k1)) (h2:pT (l.drop k1)=.inl e):aF7 l=none:=by simp only[aF7,h,h2]
theorem cR7 {l id s:List Int}{k1 k2:Nat}{e:Int} (h:pL l=.inr (id,k1)) (h2:pT (l.drop k1)=.inr (s,k2)) (h3:pT (l.drop (k1+k2))=.inl e):aF7 l=none:=by simp only[aF7,h,h2,h3]
theorem cn9 {l id s py:List Int}{k1 k2 k3:Nat} (h:pL l=.inr (id,k1)) (h2:pT (l.drop k1)=.inr (s,k2)) (h3:pT (l.drop (k1+k2))=.inr (py,k3)):aF7 l=if k1+k2+k3=l.length then some (id,s,py) else none:=by simp only[aF7,h,h2,h3]
theorem bS8 (x e:Int) (b:List Int) (h:(e !=0)=true):F8 ⟨⟨x,e⟩,b⟩=some ([],⟨⟨x,e⟩,b⟩):=by simp only[F8,h,cond_true]
theorem bs8 {b:List Int} (hb:q0 b) (hm:b.length≤E1) {at_:Nat} (h:at_≤b.length):S6 ⟨⟨at_,0⟩,b⟩=some ((rL at_ (pL (b.drop at_))).1,⟨⟨(rL at_ (pL (b.drop at_))).2.1,(rL at_ (pL (b.drop at_))).2.2⟩,b⟩):=by
 simp only[S6,bne_self_eq_false,cond_false,br8 hb hm h,Option.bind_some]
theorem bO4 {b:List Int} (hb:q0 b) (hm:b.length≤E1) {at_:Nat} (h:at_≤b.length):F8 ⟨⟨at_,0⟩,b⟩=some ((rL at_ (pT (b.drop at_))).1,⟨⟨(rL at_ (pT (b.drop at_))).2.1,(rL at_ (pT (b.drop at_))).2.2⟩,b⟩):=by
 simp only[F8,bne_self_eq_false,cond_false,cR8 hb hm h,Option.bind_some]
theorem Shm.withT {m:i5} (h:Shm m) (id s py:List Int):Shm (withT m id s py):=⟨h.s,h.up,h.sup⟩
theorem pTe {l:List Int}{e:Int} (h:pT l=.inl e):(e !=0)=true:=bne_iff_ne.2 (cW2 h)
theorem cB6 {b:List Int} (hb:q0 b) (hm:b.length≤E1) {at_:Nat} (h:at_≤b.length) (b0:i5) {m:i5} (hs:Shm m):an0 b b0 ⟨⟨at_,0⟩,b⟩ m=some (ba3 m (b.drop at_)):=by
 have bad:∀(z:i5),aw3 true b0 z=some (ay1,51):=fun z=>rfl
 simp only[an0,bs8 hb hm h,Option.bind_some]
 unfold ba3
 cases h1:pL (b.drop at_) with
 | inl e=>
  have he:=bl7 h1
  rw[cO3 h1]
  simp only[rL,bS8 _ _ _ he,Option.bind_some,he,cond_true,bad]
 | inr x=>
  obtain⟨id,k1⟩:=x
  have l1:=bY8 hb h1
  have a1:at_+k1≤b.length:=by omega
  simp only[rL,bO4 hb hm a1,Option.bind_some]
  cases h2:pT (b.drop (at_+k1)) with
  | inl e=>
   have he:=pTe h2
   rw[cQ0 h1 (by rw[List.drop_drop];exact h2)]
   simp only[rL,bS8 _ _ _ he,Option.bind_some,he,cond_true,bad]
  | inr x=>
   obtain⟨s,k2⟩:=x
   have l2:=(bJ0 (aC9 hb _) h2).2.1
   rw[List.length_drop] at l2
   have a2:at_+k1+k2≤b.length:=by omega
   simp only[rL,bO4 hb hm a2,Option.bind_some]
   cases h3:pT (b.drop (at_+k1+k2)) with
   | inl e=>
    have he:=pTe h3
    rw[cR7 h1 (by rw[List.drop_drop];exact h2) (by rw[List.drop_drop,←Nat.add_assoc];exact h3)]
    simp only[rL,he,cond_true,bad]
   | inr x=>
    obtain⟨py,k3⟩:=x
    have l3:=(bJ0 (aC9 hb _) h3).2.1
    rw[List.length_drop] at l3
    rw[cn9 h1 (by rw[List.drop_drop];exact h2) (by rw[List.drop_drop,←Nat.add_assoc];exact h3)]
    simp only[rL,bne_self_eq_false,cond_false,List.length_map,List.length_drop]
    by_cases hq:k1+k2+k3=b.length-at_
    ·have c1:(((at_+k1+k2+k3:Nat):Int) !=((b.length:Nat):Int))=false:=by rw[show at_+k1+k2+k3=b.length by omega];simp
     have hr:=aJ1 (hs.withT id s py)
     rw[c1,if_pos hq]
     show(Option.bind (ac0 (withT m id s py)) fun y6=>aw3 (!y6) b0 (withT m id s py))=_
     rw[hr]
     simp only[Option.bind_some]
     cases hh:w5 (withT m id s py)<;>rfl
    ·have c1:(((at_+k1+k2+k3:Nat):Int) !=((b.length:Nat):Int))=true:=bne_iff_ne.2 (by omega)
     rw[c1,if_neg hq]
     exact bad (withT m id s py)
def ar4 (k:Int) (l:List Int) (p:Plan):i5:=⟨k,l.getD 0 0,l.getD 1 0,l.getD 2 0,l.getD 3 0,l.getD 4 0,l.getD 5 0,l.getD 6 0,l.getD 7 0,l.getD 8 0,l.getD 9 0==1,p,[],[],[]⟩
def aT7 (l:List Int):Prop:=l.length=10∧0≤l.getD 0 0∧l.getD 0 0≤255∧0≤l.getD 1 0∧l.getD 1 0≤255∧0≤l.getD 7 0∧l.getD 7 0≤65535∧0≤l.getD 8 0∧l.getD 8 0≤65535∧0≤l.getD 9 0∧l.getD 9 0≤1
instance (l:List Int):Decidable (aT7 l):=by unfold aT7;infer_instance
def bl9 (k:Int) (l b:List Int):i5×Int:=if l.getD 9 0=1 then (match pT b with
  | .inl _=>(ay1,51)
  | .inr (t,j)=>if (T8 t).2=0 then ba3 (ar4 k l (T8 t).1) (b.drop j) else (ay1,51))
 else ba3 (ar4 k l n8) b
def ofM (k:Int) (b:List Int):i5×Int:=match pL b with
 | .inl _=>(ay1,51)
 | .inr (l,n)=>if aT7 l then bl9 k l (b.drop n) else (ay1,51)
theorem cH8 (k:Int) (l:List Int):Shm (ar4 k l n8):=⟨⟨by simp[ar4,n8],by simp[ar4,n8]⟩,H9.2 (by simp[ar4,n8]),H9.2 (by simp[ar4,n8])⟩
theorem cO8 {t:List Int} (ht:q0 t) (h:(T8 t).2=0) (k:Int) (l:List Int):Shm (ar4 k l (T8 t).1):=by
 obtain⟨h1,h2,h3⟩:=cI5 ht (p:=(T8 t).1) (by rw[←h])
 have hr:=ac5.1 h1
 have a1:=h2.up
 have a2:=h2.sup
 have a3:=hr.up
 have a4:=hr.sup
 exact⟨h2.s,(H9.2 (by omega):n9 .u64 (T8 t).1.Up),(H9.2 (by omega):n9 .u64 (T8 t).1.Sup)⟩
theorem cX7 {t l:List Int}{j:Nat} (hb:q0 l) (h:pT l=.inr (t,j)):t.length≤E1:=by
 have:=(bJ0 hb h).2.2.2.1
 simp only[E1];omega
theorem cW3 {k:Int} (hk:0≤k∧k≤255) {b:List Int} (hb:q0 b) (hm:b.length≤E1) {at_:Nat} (h:at_≤b.length) {l:List Int} (hl:aT7 l) (b0:i5):K8 k b l false b0 ⟨⟨at_,0⟩,b⟩=some (bl9 k l (b.drop at_)):=by
 obtain⟨hlen,hw⟩:=hl
 match l,hlen,hw with
 | [a0,a1,a2,a3,a4,a5,a6,a7,a8,a9],_,hw=>
  simp only[List.getD_cons_zero,List.getD_cons_succ] at hw
  have wk:IntKind.i64.wrap k=k:=F4 (by omega) (by omega)
  have wu:IntKind.u64.wrap a7=a7:=cc0 (by omega) (by omega)
  have e:K8 k b [a0,a1,a2,a3,a4,a5,a6,a7,a8,a9] false b0 ⟨⟨at_,0⟩,b⟩=(bif (a9==1) then ((F8 ⟨⟨at_,0⟩,b⟩).bind fun y33=>((bd5 y33.1).bind fun y34=>(bif ((y34.2:Int) !=0) then some (ay1,51) else
    an0 b b0 y33.2 ⟨IntKind.i64.wrap k,a0,a1,a2,a3,a4,a5,a6,IntKind.u64.wrap a7,a8,a9==1,y34.1,[],[],[]⟩))) else an0 b b0 ⟨⟨at_,0⟩,b⟩ ⟨IntKind.i64.wrap k,a0,a1,a2,a3,a4,a5,a6,IntKind.u64.wrap a7,a8,a9==1,n8,[],[],[]⟩):=rfl
  rw[e,wk,wu]
  unfold bl9
  simp only[List.getD_cons_zero,List.getD_cons_succ]
  by_cases h9:a9=1
  ·have c9:(a9==1)=true:=beq_iff_eq.2 h9
   rw[if_pos h9]
   have hd:∀p,(⟨k,a0,a1,a2,a3,a4,a5,a6,a7,a8,a9==1,p,[],[],[]⟩:i5)=ar4 k [a0,a1,a2,a3,a4,a5,a6,a7,a8,a9] p:=fun p=>rfl
   simp only[hd]
   rw[c9,cond_true,bO4 hb hm h]
   simp only[Option.bind_some]
   cases h2:pT (b.drop at_) with
   | inl e=>
    have he:=pTe h2
    have g:=cu3 (b:= []) (fun c hc=>by cases hc) (by simp)
    have g0:T8 []=(n8,41):=by
     have:at6 []=none:=by decide
     simp only[T8,this]
    simp only[rL,g,g0,Option.bind_some]
    rfl
   | inr x=>
    obtain⟨s,j⟩:=x
    obtain⟨d1,d2,d3,d4,d5⟩:=bJ0 (aC9 hb at_) h2
    rw[List.length_drop] at d2
    have g:=cu3 d5 (cX7 (aC9 hb at_) h2)
    simp only[rL,g,Option.bind_some]
    by_cases hq:(T8 s).2=0
    ·rw[if_pos hq,show((T8 s).2 !=0)=false by rw[hq];rfl,cond_false,cB6 hb hm (by omega) b0 (cO8 d5 hq k _),List.drop_drop]
    ·rw[if_neg hq,show((T8 s).2 !=0)=true from bne_iff_ne.2 hq,cond_true]
  ·have c9:(a9==1)=false:=beq_eq_false_iff_ne.2 h9
   rw[if_neg h9]
   have hd:∀p,(⟨k,a0,a1,a2,a3,a4,a5,a6,a7,a8,a9==1,p,[],[],[]⟩:i5)=ar4 k [a0,a1,a2,a3,a4,a5,a6,a7,a8,a9] p:=fun p=>rfl
   simp only[hd]
   rw[c9,cond_false,cB6 hb hm h b0 (cH8 k _)]
theorem cZ7 {k:Int} (hk:0≤k∧k≤255) {b:List Int} (hb:q0 b) (hm:b.length≤E1):aQ7 k b=some (ofM k b):=by
 have bad:∀l b0 r,K8 k b l true b0 r=some (ay1,51):=fun _ _ _=>rfl
 have hr:=bs8 hb hm (Nat.zero_le b.length)
 simp only[Int.natCast_zero,List.drop_zero] at hr
 unfold ofM
 cases h1:pL b with
 | inl e=>
  have he:=bl7 h1
  rw[h1] at hr
  simp only[aQ7]
  rw[show(⟨⟨0,0⟩,b⟩:n5)=⟨⟨((0:Nat):Int),0⟩,b⟩ from rfl]
  rw[bs8 hb hm (Nat.zero_le b.length),List.drop_zero,h1]
  simp only[rL,Option.bind_some,he,cond_true,bad]
 | inr x=>
  obtain⟨l,n⟩:=x
  have hl:=bY8 hb (at_:=0) (b:=b) h1
  simp only[aQ7]
  rw[show(⟨⟨0,0⟩,b⟩:n5)=⟨⟨((0:Nat):Int),0⟩,b⟩ from rfl]
  rw[bs8 hb hm (Nat.zero_le b.length),List.drop_zero,h1]
  simp only[rL,Option.bind_some,bne_self_eq_false,cond_false,List.length_map,Nat.zero_add]
  by_cases h10:l.length=10
  ·rw[show(((l.length:Nat):Int) !=10)=false by rw[h10];rfl]
   have o1:∀b0,aT7 l→K8 k b l false b0 ⟨⟨((n:Nat):Int),0⟩,b⟩=some (bl9 k l (b.drop n)):=fun b0 hw=>cW3 hk hb hm (by omega) hw b0
   match l,h10,o1 with
   | [a0,a1,a2,a3,a4,a5,a6,a7,a8,a9],_,o1=>
    have ew:aT7 [a0,a1,a2,a3,a4,a5,a6,a7,a8,a9]↔0≤a0∧a0≤255∧0≤a1∧a1≤255∧0≤a7∧a7≤65535∧0≤a8∧a8≤65535∧0≤a9∧a9≤1:=⟨fun h=>h.2,fun h=>⟨rfl,h⟩⟩
    show(bif decide (z0 (z0 (z0 (z0 a0 a1) a7) a8) a9<0) then K8 k b [a0,a1,a2,a3,a4,a5,a6,a7,a8,a9] true _ _ else bif decide (C9 a0 a1>255) then K8 k b [a0,a1,a2,a3,a4,a5,a6,a7,a8,a9] true _ _ else
     bif decide (C9 a7 a8≥65536) then K8 k b [a0,a1,a2,a3,a4,a5,a6,a7,a8,a9] true _ _ else K8 k b [a0,a1,a2,a3,a4,a5,a6,a7,a8,a9] (decide (a9>1)) _ _)=_
    have mn:z0 (z0 (z0 (z0 a0 a1) a7) a8) a9<0↔a0<0∨a1<0∨a7<0∨a8<0∨a9<0:=by
     rw[show z0 (z0 (z0 (z0 a0 a1) a7) a8) a9=z0 (z0 (z0 (z0 a0 a1) a7) a8) a9 from rfl,bo8]
     constructor
     ·rintro (h | h | h)
      ·rw[bo8] at h;omega
      ·omega
      ·omega
     ·intro h
      rw[bo8];omega
    by_cases q1:z0 (z0 (z0 (z0 a0 a1) a7) a8) a9<0
    ·rw[decide_eq_true q1,cond_true,bad,if_neg (by rw[ew];rw[mn] at q1;omega)]
    ·rw[decide_eq_false q1,cond_false]
     by_cases q2:C9 a0 a1>255
     ·rw[decide_eq_true q2,cond_true,bad,if_neg (by rw[ew];rw[bZ6] at q2;omega)]
     ·rw[decide_eq_false q2,cond_false]
      by_cases q3:C9 a7 a8≥65536
      ·rw[decide_eq_true q3,cond_true,bad,if_neg (by rw[ew];rw[cL1] at q3;omega)]
      ·rw[decide_eq_false q3,cond_false]
       by_cases q4:a9>1
       ·rw[decide_eq_true q4,bad,if_neg (by rw[ew];omega)]
       ·have hw:aT7 [a0,a1,a2,a3,a4,a5,a6,a7,a8,a9]:=by
         rw[ew];rw[mn] at q1;rw[bZ6] at q2;rw[cL1] at q3;omega
        rw[decide_eq_false q4,o1 _ hw,if_pos hw]
  ·rw[show(((l.length:Nat):Int) !=10)=true from bne_iff_ne.2 (by omega),cond_true,bad,if_neg (fun h=>h10 h.1)]
/-! ### the document's reader -/
/-! ### frames -/
/-! ### what is written is read -/
theorem cw9 {m:i5} (hf:N6 m) (h:w5 m=true) (rest:List Int):aF7 (encL m.ID++(G3 m.Session++(G3 m.Payload++rest)))=if rest= [] then some (m.ID,m.Session,m.Payload) else none:=by
 have hi:=ch8 h
 have h1:=bk3 hf.id (by omega) (G3 m.Session++(G3 m.Payload++rest))
 have h2:=ca4 (s:=m.Session) (by omega) (G3 m.Payload++rest)
 have h3:=ca4 (s:=m.Payload) (by omega) rest
 rw[cn9 h1 (by rw[List.drop_left];exact h2) (by rw[←List.drop_drop,List.drop_left,List.drop_left];exact h3)]
 simp only[List.length_append]
 cases rest with
 | nil=>rw[if_pos (by simp;omega),if_pos rfl]
 | cons x r=>rw[if_neg (by simp;omega),if_neg (by simp)]
theorem cD4 {m:i5} (hf:N6 m) (h:w5 m=true):aT7 (S7 m):=by
 have hh:=(ah9 h).1
 unfold hdM at hh
 have hu:=hf.up
 refine⟨rfl,?_⟩
 show 0≤m.From∧m.From≤255∧0≤m.To∧m.To≤255∧0≤m.Up∧m.Up≤65535∧0≤m.Code∧m.Code≤65535∧0≤(bif m.HasPlan then (1:Int) else 0)∧(bif m.HasPlan then (1:Int) else 0)≤1
 cases m.HasPlan<;>simp only[cond_true,cond_false]<;>omega
theorem cG3 {m:i5} (hf:N6 m) (h:w5 m=true) (k:Int) (rest:List Int):ofM k (T7 m++rest)=if rest= []∧w5 ⟨k,m.From,m.To,m.Epoch,m.Ballot,m.Accepted,m.Nonce,m.Time,m.Up,m.Code,m.HasPlan,m.Plan,m.ID,m.Session,m.Payload⟩=true then (⟨k,m.From,m.To,m.Epoch,m.Ballot,m.Accepted,m.Nonce,m.Time,m.Up,m.Code,m.HasPlan,m.Plan,m.ID,m.Session,m.Payload⟩,0) else (ay1,51):=by
 have e0:T7 m++rest=encL (S7 m)++(aX1 m++(encL m.ID++(G3 m.Session++(G3 m.Payload++rest)))):=by simp[T7]
 rw[e0]
 unfold ofM
 rw[bk3 (bB7 hf h) (by simp[S7])]
 simp only[if_pos (cD4 hf h),List.drop_left]
 unfold bl9
 have fin:∀p,p=m.Plan→(S7 m).getD 9 0=(bif m.HasPlan then (1:Int) else 0)→ba3 (ar4 k (S7 m) p) (encL m.ID++(G3 m.Session++(G3 m.Payload++rest)))=if rest= []∧w5 ⟨k,m.From,m.To,m.Epoch,m.Ballot,m.Accepted,m.Nonce,m.Time,m.Up,m.Code,m.HasPlan,m.Plan,m.ID,m.Session,m.Payload⟩=true then (⟨k,m.From,m.To,m.Epoch,m.Ballot,m.Accepted,m.Nonce,m.Time,m.Up,m.Code,m.HasPlan,m.Plan,m.ID,m.Session,m.Payload⟩,0) else (ay1,51):=by
  intro p hp h9
  have hb:withT (ar4 k (S7 m) p) m.ID m.Session m.Payload=⟨k,m.From,m.To,m.Epoch,m.Ballot,m.Accepted,m.Nonce,m.Time,m.Up,m.Code,m.HasPlan,m.Plan,m.ID,m.Session,m.Payload⟩:=by
   subst hp
   have:((S7 m).getD 9 0==1)=m.HasPlan:=by rw[h9];cases m.HasPlan<;>rfl
   simp only[withT,ar4,this]
   rfl
  unfold ba3
  rw[cw9 hf h]
  by_cases hr:rest= []
  ·rw[if_pos hr]
   simp only[hb,hr,true_and]
  ·rw[if_neg hr]
   simp only[hr,false_and,if_false]
 unfold aX1
 cases hp:m.HasPlan with
 | false=>
  have h9:(S7 m).getD 9 0=0:=by show(bif m.HasPlan then (1:Int) else 0)=0;rw[hp];rfl
  rw[if_neg (by rw[h9];decide)]
  have:=fin n8 (cq3 h hp).symm rfl
  rw[hp] at this
  exact this
 | true=>
  have h9:(S7 m).getD 9 0=1:=by show(bif m.HasPlan then (1:Int) else 0)=1;rw[hp];rfl
  have rp:=bh5 h hp
  have pl:=bC3 hf.pl rp
  rw[if_pos h9,cond_true,ca4 (by omega)]
  have g:=cE3 hf.pl (ac5.2 rp)
  simp only[g,if_true,List.drop_left]
  have:=fin m.Plan rfl rfl
  rw[hp] at this
  exact this
theorem cP1 {m:i5} (hf:N6 m) (h:w5 m=true):ofM m.Kind (T7 m)=(m,0):=by
 have:=cG3 hf h m.Kind []
 rw[List.append_nil] at this
 rw[this,if_pos ⟨rfl,h⟩]
/-! ### alike? -/
theorem bQ0 {m:i5} (h:w5 m=true):0≤m.Kind∧m.Kind≤255:=by
 have hh:=(ah9 h).1
 unfold hdM at hh
 omega
/-! ### the head -/
theorem cj8 {m:i5} (hf:N6 m) (h:w5 m=true):q0 (E9 m.Kind (T7 m)):=by
 have hl:=bh7 hf h
 exact bd1 (bQ0 h) (cs5 hf) (by omega)
noncomputable def bm1 (b1:List Int) (ac6:Int) (ad9:Bool) (b3 y:List Int):D×i4:=(.tup [],[some ⟨1,true,[[.ptr 2 0 0]]⟩,some ⟨1,false,[[.sl false 1 (List.map (d7 .u8) b1)]]⟩,some ⟨4,true,[[(i9 3 (List.map (d7 .u8) b3)),(i9 5 (List.map (d7 .u8) y)),.int .i64 ac6,.bool ad9]]⟩,some ⟨1,false,(List.map (d7 .u8) b3)⟩,none,some ⟨1,false,(List.map (d7 .u8) y)⟩])
noncomputable def P4 (b1:List Int) (ac6:Int) (ad9:Bool) (b3 b4:List Int):Option (List Int):=(bif (decide (((List.map (d7 .u8) b4).length+(List.map (d7 .u8) b1).length)*1≤n4)) then (some (b4++b1)) else none)
theorem aC1 {b1:List Int}{ac6:Int}{ad9:Bool}{b3 b4 r:List Int} (h:P4 b1 ac6 ad9 b3 b4=some r):l4 E 76 [.ptr 0 0 0,.ptr 1 0 0] [some ⟨1,true,[[.ptr 2 0 0]]⟩,some ⟨1,false,[[.sl false 1 (List.map (d7 .u8) b1)]]⟩,some ⟨4,true,[[(i9 3 (List.map (d7 .u8) b3)),(i9 4 (List.map (d7 .u8) b4)),.int .i64 ac6,.bool ad9]]⟩,some ⟨1,false,(List.map (d7 .u8) b3)⟩,some ⟨1,false,(List.map (d7 .u8) b4)⟩] (Rs (bm1 b1 ac6 ad9 b3) r):=so (fn:=Tryd.f76) (k:=true) (m:=5) h<| by
 intro r h;unfold P4 at h
 refine zn 5 h fun h=> ?_
 refine za 0 (d7 .u8) b4 b1 ?_
 exact zu 3 h
noncomputable def U5:=r4 (r9 Tryd.f30)
noncomputable def ak3 (b2 b3:List Int) (y:Int×Int×Bool×(List Int)):D×i4:=(.int .i64 y.1,[some ⟨4,true,[[(i9 5 (List.map (d7 .u8) b3)),(i9 6 (List.map (d7 .u8) y.2.2.2)),.int .i64 y.2.1,.bool y.2.2.1]]⟩,some ⟨1,true,[[.ptr 0 0 0]]⟩,some ⟨1,false,[[.sl false 1 (List.map (d7 .u8) b2)]]⟩,none,none,some ⟨1,false,(List.map (d7 .u8) b3)⟩,some ⟨1,false,(List.map (d7 .u8) y.2.2.2)⟩])
abbrev aj7 (ac6:Int) (ad9:Bool) (b2 b3 b4:List Int):=AOk E (Cx.of Tryd.f30 true 5) (ak3 b2 b3)
noncomputable def aH5 (ac6:Int) (ad9:Bool) (b2 b3 b4:List Int) (k8:Int) (k7:Bool):M:=⟨[.code (U5 [1,1])],[(0,.ptr 0 0 0),(1,.fn 76 [] [.ptr 1 0 0,.ptr 2 0 0])],[some ⟨4,true,[[(i9 3 (List.map (d7 .u8) b3)),(i9 4 (List.map (d7 .u8) b4)),.int .i64 k8,.bool k7]]⟩,some ⟨1,true,[[.ptr 0 0 0]]⟩,some ⟨1,false,[[.sl false 1 (List.map (d7 .u8) b2)]]⟩,some ⟨1,false,(List.map (d7 .u8) b3)⟩,some ⟨1,false,(List.map (d7 .u8) b4)⟩]⟩
noncomputable def z8 (ac6:Int) (ad9:Bool) (b2 b3 b4:List Int) (k8:Int) (k7:Bool):Option (Int×Int×Bool×(List Int)):=(bif k7 then (some (61,k8,k7,b4)) else (bif (decide (k8>0)) then ((P4 b2 (IntKind.i64.wrap (k8-1)) k7 b3 b4).bind fun y3=>(some (0,(IntKind.i64.wrap (k8-1)),k7,y3))) else ((P4 b2 k8 k7 b3 b4).bind fun y4=>(some (0,k8,k7,y4)))))
theorem ad7 {ac6 ad9 b2 b3 b4 k8 k7}:aj7 ac6 ad9 b2 b3 b4 (aH5 ac6 ad9 b2 b3 b4 k8 k7) (z8 ac6 ad9 b2 b3 b4 k8 k7):=by
 intro r h;unfold z8 at h
 refine zs 10 h (fun h=> ?_) fun h=> ?_
 ·
  refine zf 4 [.mv 3,.mv 4] ?_
  exact zu 1 h
 refine zs 12 h (fun h=> ?_) fun h=> ?_
 ·
  refine zc 17 [] h (fun _=>aC1) fun y3 h=> ?_
  refine zf 5 [.mv 3] ?_
  exact zu 1 h
 refine zc 5 [] h (fun _=>aC1) fun y4 h=> ?_
 refine zf 5 [.mv 3] ?_
 exact zu 1 h
noncomputable def aI5 (ac6:Int) (ad9:Bool) (b2 b3 b4:List Int) (t16:Bool):M:=⟨[.code (U5 [1,0,1]),.code (U5 [1,1])],[(0,.ptr 0 0 0),(1,.fn 76 [] [.ptr 1 0 0,.ptr 2 0 0]),(16,.bool t16)],[some ⟨4,true,[[(i9 3 (List.map (d7 .u8) b3)),(i9 4 (List.map (d7 .u8) b4)),.int .i64 ac6,.bool ad9]]⟩,some ⟨1,true,[[.ptr 0 0 0]]⟩,some ⟨1,false,[[.sl false 1 (List.map (d7 .u8) b2)]]⟩,some ⟨1,false,(List.map (d7 .u8) b3)⟩,some ⟨1,false,(List.map (d7 .u8) b4)⟩]⟩
noncomputable def z6 (ac6:Int) (ad9:Bool) (b2 b3 b4:List Int) (t16:Bool):Option (Int×Int×Bool×(List Int)):=(bif t16 then (z8 ac6 ad9 b2 b3 b4 (-1) true) else (z8 ac6 ad9 b2 b3 b4 ac6 ad9))
theorem ad8 {ac6 ad9 b2 b3 b4 t16}:aj7 ac6 ad9 b2 b3 b4 (aI5 ac6 ad9 b2 b3 b4 t16) (z6 ac6 ad9 b2 b3 b4 t16):=by
 intro r h;unfold z6 at h
 refine zs 1 h (fun h=> ?_) fun h=> ?_
 ·
  exact zg 14 (ad7 h)
 exact zg 1 (ad7 h)
noncomputable def O4 (ac6:Int) (ad9:Bool) (b2 b3 b4:List Int):Option (Int×Int×Bool×(List Int)):=(bif (!ad9) then (z6 ac6 ad9 b2 b3 b4 (ac6==0)) else (z6 ac6 ad9 b2 b3 b4 false))
theorem aH1 {ac6:Int}{ad9:Bool}{b2 b3 b4:List Int}{r:Int×Int×Bool×(List Int)} (h:O4 ac6 ad9 b2 b3 b4=some r):l4 E 30 [.ptr 0 0 0,.fn 76 [] [.ptr 1 0 0,.ptr 2 0 0]] [some ⟨4,true,[[(i9 3 (List.map (d7 .u8) b3)),(i9 4 (List.map (d7 .u8) b4)),.int .i64 ac6,.bool ad9]]⟩,some ⟨1,true,[[.ptr 0 0 0]]⟩,some ⟨1,false,[[.sl false 1 (List.map (d7 .u8) b2)]]⟩,some ⟨1,false,(List.map (d7 .u8) b3)⟩,some ⟨1,false,(List.map (d7 .u8) b4)⟩] (Rs (ak3 b2 b3) r):=so (fn:=Tryd.f30) (k:=true) (m:=5) h<| by
 intro r h;unfold O4 at h
 refine zs 15 h (fun h=> ?_) fun h=> ?_
 ·
  exact zg 12 (ad8 h)
 exact zg 11 (ad8 h)
noncomputable def bz3 (b1:List Int) (y:Int×Int×Bool×(List Int)):D×i4:=(.int .i64 y.1,[some ⟨4,true,[[(i9 3 (List.map (d7 .u8) b1)),(i9 4 (List.map (d7 .u8) y.2.2.2)),.int .i64 y.2.1,.bool y.2.2.1]]⟩,none,none,some ⟨1,false,(List.map (d7 .u8) b1)⟩,some ⟨1,false,(List.map (d7 .u8) y.2.2.2)⟩])
noncomputable def ag6 (ah8:Int) (ag9:List Int) (ac6:Int) (ad9:Bool) (b1 b2:List Int):Option (Int×Int×Bool×(List Int)):=((aV6 ah8 ag9).bind fun y1=>(bif ((y1.2:Int) !=0) then (some (y1.2,ac6,ad9,b2)) else ((O4 ac6 ad9 y1.1 b1 b2).bind fun y3=>(some (y3.1,y3.2.1,y3.2.2.1,y3.2.2.2)))))
theorem bs9 {ah8:Int}{ag9:List Int}{ac6:Int}{ad9:Bool}{b1 b2:List Int}{r:Int×Int×Bool×(List Int)} (h:ag6 ah8 ag9 ac6 ad9 b1 b2=some r):l4 E 61 [.ptr 0 0 0,.int .u8 ah8,.sl false 1 (List.map (d7 .u8) ag9)] [some ⟨4,true,[[(i9 1 (List.map (d7 .u8) b1)),(i9 2 (List.map (d7 .u8) b2)),.int .i64 ac6,.bool ad9]]⟩,some ⟨1,false,(List.map (d7 .u8) b1)⟩,some ⟨1,false,(List.map (d7 .u8) b2)⟩] (Rs (bz3 b1) r):=so (fn:=Tryd.f61) (k:=true) (m:=3) h<| by
 intro r h;unfold ag6 at h
 refine zc 10 [] h (fun _=>cg2) fun y1 h=> ?_
 refine zs 16 h (fun h=> ?_) fun h=> ?_
 ·
  refine zf 5 [.mv 1,.mv 2] ?_
  exact zu 1 h
 refine zc 7 [] h (fun _=>aH1) fun y3 h=> ?_
 exact zu 3 h
noncomputable def by8 (ac6:Int) (ad9:Bool) (b3:List Int) (y:(List Int)×(List Int)):D×i4:=(.tup [],[some ⟨1,true,[[.ptr 1 0 0]]⟩,some ⟨4,true,[[(i9 4 (List.map (d7 .u8) y.1)),(i9 5 (List.map (d7 .u8) y.2)),.int .i64 ac6,.bool ad9]]⟩,none,some ⟨1,false,(List.map (d7 .u8) b3)⟩,some ⟨1,false,(List.map (d7 .u8) y.1)⟩,some ⟨1,false,(List.map (d7 .u8) y.2)⟩])
noncomputable def X8 (ac6:Int) (ad9:Bool) (b2 b3:List Int):Option ((List Int)×(List Int)):=(bif (decide (((List.map (d7 .u8) b2).length+(List.take ((List.map (d7 .u8) b3).length) (List.drop 0 (List.map (d7 .u8) b3))).length)*1≤n4)) then (some ((b2++b3),[])) else none)
theorem aL2 {ac6:Int}{ad9:Bool}{b2 b3:List Int}{r:(List Int)×(List Int)} (h:X8 ac6 ad9 b2 b3=some r):l4 E 77 [.ptr 0 0 0] [some ⟨1,true,[[.ptr 1 0 0]]⟩,some ⟨4,true,[[(i9 2 (List.map (d7 .u8) b2)),(i9 3 (List.map (d7 .u8) b3)),.int .i64 ac6,.bool ad9]]⟩,some ⟨1,false,(List.map (d7 .u8) b2)⟩,some ⟨1,false,(List.map (d7 .u8) b3)⟩] (Rs (by8 ac6 ad9 b3) r):=so (fn:=Tryd.f77) (k:=true) (m:=4) h<| by
 intro r h;unfold X8 at h
 refine zm 7 (b:=(Nat.beq ((List.take ((List.map (d7 .u8) b3).length) (List.drop 0 (List.map (d7 .u8) b3))).length) ((List.map (d7 .u8) b3).length))) (by simp) ?_
 refine zn 0 h fun h=> ?_
 refine zm 0 (b:=(Nat.ble (0+(List.map (d7 .u8) b2).length) ((List.map (d7 .u8) b2).length))) (C8 _) ?_
 refine zw 0 (a:=(List.take ((List.map (d7 .u8) b2).length) (List.drop 0 (List.map (d7 .u8) b2))++(List.take ((List.map (d7 .u8) b3).length) (List.drop 0 (List.map (d7 .u8) b3))))) (b:=(List.map (d7 .u8) (b2++b3))) (by simp only[F9,Q6,List.map_append,List.map_take,List.map_drop]) ?_
 refine zf 4 [.matc 1 0 1 1] ?_
 exact zu 1 h
noncomputable def Y5:=r4 (r9 Tryd.f30)
noncomputable def ap3 (y:Int×Int×Bool×(List Int)×(List Int)):D×i4:=(.int .i64 y.1,[some ⟨4,true,[[(i9 4 (List.map (d7 .u8) y.2.2.2.1)),(i9 5 (List.map (d7 .u8) y.2.2.2.2)),.int .i64 y.2.1,.bool y.2.2.1]]⟩,some ⟨1,true,[[.ptr 0 0 0]]⟩,none,none,some ⟨1,false,(List.map (d7 .u8) y.2.2.2.1)⟩,some ⟨1,false,(List.map (d7 .u8) y.2.2.2.2)⟩])
abbrev ao5 (ac6:Int) (ad9:Bool) (b2 b3:List Int):=AOk E (Cx.of Tryd.f30 true 4) ap3
noncomputable def aL4 (ac6:Int) (ad9:Bool) (b2 b3:List Int) (k8:Int) (k7:Bool):M:=⟨[.code (Y5 [1,1])],[(0,.ptr 0 0 0),(1,.fn 77 [] [.ptr 1 0 0])],[some ⟨4,true,[[(i9 2 (List.map (d7 .u8) b2)),(i9 3 (List.map (d7 .u8) b3)),.int .i64 k8,.bool k7]]⟩,some ⟨1,true,[[.ptr 0 0 0]]⟩,some ⟨1,false,(List.map (d7 .u8) b2)⟩,some ⟨1,false,(List.map (d7 .u8) b3)⟩]⟩
noncomputable def B9 (ac6:Int) (ad9:Bool) (b2 b3:List Int) (k8:Int) (k7:Bool):Option (Int×Int×Bool×(List Int)×(List Int)):=(bif k7 then (some (61,k8,k7,b2,b3)) else (bif (decide (k8>0)) then ((X8 (IntKind.i64.wrap (k8-1)) k7 b2 b3).bind fun y3=>(some (0,(IntKind.i64.wrap (k8-1)),k7,y3.1,y3.2))) else ((X8 k8 k7 b2 b3).bind fun y4=>(some (0,k8,k7,y4.1,y4.2)))))
theorem ah1 {ac6 ad9 b2 b3 k8 k7}:ao5 ac6 ad9 b2 b3 (aL4 ac6 ad9 b2 b3 k8 k7) (B9 ac6 ad9 b2 b3 k8 k7):=by
 intro r h;unfold B9 at h
 refine zs 10 h (fun h=> ?_) fun h=> ?_
 ·
  refine zf 4 [.mv 2,.mv 3] ?_
  exact zu 1 h
 refine zs 12 h (fun h=> ?_) fun h=> ?_
 ·
  refine zc 17 [] h (fun _=>aL2) fun y3 h=> ?_
  refine zf 5 [.mv 3] ?_
  exact zu 1 h
 refine zc 5 [] h (fun _=>aL2) fun y4 h=> ?_
 refine zf 5 [.mv 3] ?_
 exact zu 1 h
noncomputable def aM5 (ac6:Int) (ad9:Bool) (b2 b3:List Int) (t16:Bool):M:=⟨[.code (Y5 [1,0,1]),.code (Y5 [1,1])],[(0,.ptr 0 0 0),(1,.fn 77 [] [.ptr 1 0 0]),(16,.bool t16)],[some ⟨4,true,[[(i9 2 (List.map (d7 .u8) b2)),(i9 3 (List.map (d7 .u8) b3)),.int .i64 ac6,.bool ad9]]⟩,some ⟨1,true,[[.ptr 0 0 0]]⟩,some ⟨1,false,(List.map (d7 .u8) b2)⟩,some ⟨1,false,(List.map (d7 .u8) b3)⟩]⟩
noncomputable def C3 (ac6:Int) (ad9:Bool) (b2 b3:List Int) (t16:Bool):Option (Int×Int×Bool×(List Int)×(List Int)):=(bif t16 then (B9 ac6 ad9 b2 b3 (-1) true) else (B9 ac6 ad9 b2 b3 ac6 ad9))
theorem ah0 {ac6 ad9 b2 b3 t16}:ao5 ac6 ad9 b2 b3 (aM5 ac6 ad9 b2 b3 t16) (C3 ac6 ad9 b2 b3 t16):=by
 intro r h;unfold C3 at h
 refine zs 1 h (fun h=> ?_) fun h=> ?_
 ·
  exact zg 14 (ah1 h)
 exact zg 1 (ah1 h)
noncomputable def Q9 (ac6:Int) (ad9:Bool) (b2 b3:List Int):Option (Int×Int×Bool×(List Int)×(List Int)):=(bif (!ad9) then (C3 ac6 ad9 b2 b3 (ac6==0)) else (C3 ac6 ad9 b2 b3 false))
theorem aM9 {ac6:Int}{ad9:Bool}{b2 b3:List Int}{r:Int×Int×Bool×(List Int)×(List Int)} (h:Q9 ac6 ad9 b2 b3=some r):l4 E 30 [.ptr 0 0 0,.fn 77 [] [.ptr 1 0 0]] [some ⟨4,true,[[(i9 2 (List.map (d7 .u8) b2)),(i9 3 (List.map (d7 .u8) b3)),.int .i64 ac6,.bool ad9]]⟩,some ⟨1,true,[[.ptr 0 0 0]]⟩,some ⟨1,false,(List.map (d7 .u8) b2)⟩,some ⟨1,false,(List.map (d7 .u8) b3)⟩] (Rs ap3 r):=so (fn:=Tryd.f30) (k:=true) (m:=4) h<| by
 intro r h;unfold Q9 at h
 refine zs 15 h (fun h=> ?_) fun h=> ?_
 ·
  exact zg 12 (ah0 h)
 exact zg 11 (ah0 h)
noncomputable def bN0 (y:Int×Int×Bool×(List Int)×(List Int)):D×i4:=(.int .i64 y.1,[some ⟨4,true,[[(i9 3 (List.map (d7 .u8) y.2.2.2.1)),(i9 4 (List.map (d7 .u8) y.2.2.2.2)),.int .i64 y.2.1,.bool y.2.2.1]]⟩,none,none,some ⟨1,false,(List.map (d7 .u8) y.2.2.2.1)⟩,some ⟨1,false,(List.map (d7 .u8) y.2.2.2.2)⟩])
noncomputable def an7 (ac6:Int) (ad9:Bool) (b1 b2:List Int):Option (Int×Int×Bool×(List Int)×(List Int)):=((Q9 ac6 ad9 b1 b2).bind fun y1=>(some (y1.1,y1.2.1,y1.2.2.1,y1.2.2.2.1,y1.2.2.2.2)))
theorem bJ9 {ac6:Int}{ad9:Bool}{b1 b2:List Int}{r:Int×Int×Bool×(List Int)×(List Int)} (h:an7 ac6 ad9 b1 b2=some r):l4 E 62 [.ptr 0 0 0] [some ⟨4,true,[[(i9 1 (List.map (d7 .u8) b1)),(i9 2 (List.map (d7 .u8) b2)),.int .i64 ac6,.bool ad9]]⟩,some ⟨1,false,(List.map (d7 .u8) b1)⟩,some ⟨1,false,(List.map (d7 .u8) b2)⟩] (Rs bN0 r):=so (fn:=Tryd.f62) (k:=true) (m:=3) h<| by
 intro r h;unfold an7 at h
 refine zc 11 [] h (fun _=>aM9) fun y1 h=> ?_
 exact zu 3 h
noncomputable def bE4 (b2:List Int) (y:Int×Bool×(List Int)×(List Int)):D×i4:=(.tup [],[some ⟨4,true,[[(i9 3 (List.map (d7 .u8) y.2.2.1)),(i9 4 (List.map (d7 .u8) y.2.2.2)),.int .i64 y.1,.bool y.2.1]]⟩,none,some ⟨1,false,(List.map (d7 .u8) b2)⟩,some ⟨1,false,(List.map (d7 .u8) y.2.2.1)⟩,some ⟨1,false,(List.map (d7 .u8) y.2.2.2)⟩])
noncomputable def z9 (aK4 ac6:Int) (ad9:Bool) (b1 b2:List Int):Option (Int×Bool×(List Int)×(List Int)):=(bif ((decide (((0:Nat):Int)≤(z0 (C9 aK4 0) (((List.map (d7 .u8) b2).length:Nat):Int))))&&(decide (((z0 (C9 aK4 0) (((List.map (d7 .u8) b2).length:Nat):Int)):Int)≤(((List.map (d7 .u8) b2).length:Nat):Int)))) then (bif (Nat.beq ((List.take ((z0 (C9 aK4 0) (((List.map (d7 .u8) b2).length:Nat):Int)).toNat) (List.drop 0 (List.map (d7 .u8) b2))).length) ((z0 (C9 aK4 0) (((List.map (d7 .u8) b2).length:Nat):Int)).toNat)) then (bif (decide (((List.map (d7 .u8) b1).length+(List.take ((z0 (C9 aK4 0) (((List.map (d7 .u8) b2).length:Nat):Int)).toNat) (List.drop 0 (List.map (d7 .u8) b2))).length)*1≤n4)) then (some ((-1),true,(b1++(List.take ((z0 (C9 aK4 0) (((List.map (d7 .u8) b2).length:Nat):Int)).toNat) (List.drop 0 b2))),[])) else none) else none) else none)
theorem aw6 {aK4 ac6:Int}{ad9:Bool}{b1 b2:List Int}{r:Int×Bool×(List Int)×(List Int)} (h:z9 aK4 ac6 ad9 b1 b2=some r):l4 E 9 [.ptr 0 0 0,.int .i64 aK4] [some ⟨4,true,[[(i9 1 (List.map (d7 .u8) b1)),(i9 2 (List.map (d7 .u8) b2)),.int .i64 ac6,.bool ad9]]⟩,some ⟨1,false,(List.map (d7 .u8) b1)⟩,some ⟨1,false,(List.map (d7 .u8) b2)⟩] (Rs (bE4 b2) r):=so (fn:=Tryd.f9) (k:=true) (m:=3) h<| by
 intro r h;unfold z9 at h
 refine zn 17 h fun h=> ?_
 refine zn 0 h fun h=> ?_
 refine zn 0 h fun h=> ?_
 refine zm 0 (b:=(Nat.ble (0+(List.map (d7 .u8) b1).length) ((List.map (d7 .u8) b1).length))) (C8 _) ?_
 refine zw 0 (a:=(List.take ((List.map (d7 .u8) b1).length) (List.drop 0 (List.map (d7 .u8) b1))++(List.take ((z0 (C9 aK4 0) (((List.map (d7 .u8) b2).length:Nat):Int)).toNat) (List.drop 0 (List.map (d7 .u8) b2))))) (b:=(List.map (d7 .u8) (b1++(List.take ((z0 (C9 aK4 0) (((List.map (d7 .u8) b2).length:Nat):Int)).toNat) (List.drop 0 b2))))) (by simp only[F9,Q6,List.map_append,List.map_take,List.map_drop]) ?_
 refine zf 22 [.matc 0 0 1 1] ?_
 exact zu 1 h
noncomputable def bM9 (y:Bool):D×i4:=(.bool y,[])
noncomputable def ap6 (j:q9):Option Bool:=(some j.down)
theorem bH3 {j:q9}{r:Bool} (h:ap6 j=some r):l4 E 21 [.iptr 4 [(q9.enc j)] 0 0] [] (Rs bM9 r):=so (fn:=Tryd.f21) (k:=false) (m:=0) h<| by
 intro r h;unfold ap6 at h
 exact zu 14 h
def Z4 (fuse:Int) (down:Bool):Option Int:=if down=true∨fuse=0 then none else some (if 0<fuse then fuse-1 else fuse)
def fd (fuse:Int) (down:Bool):Int:=bif down then fuse else-1
def J2 (f:Int):Prop:= -1≤f∧f≤9223372036854775807
theorem cW8 {f g:Int}{d:Bool} (h:Z4 f d=some g):d=false∧f≠0∧g=if 0<f then f-1 else f:=by
 unfold Z4 at h
 split at h
 ·cases h
 ·rename_i hn
  simp only[not_or,Bool.not_eq_true] at hn
  exact⟨hn.1,hn.2,(Option.some.inj h).symm⟩
theorem bc7 {f g:Int}{d:Bool} (hf:J2 f) (h:Z4 f d=some g):J2 g:=by
 obtain⟨-,h1,rfl⟩:=cW8 h
 unfold J2 at*
 split<;>omega
theorem bL3 {f:Int}{d:Bool} (hf:J2 f):J2 (fd f d):=by
 cases d<;>simp[fd,J2] at* <;>omega
theorem cJ0 {n:Nat} (h:n≤20000000):decide (n*1≤n4)=true:=P2 (by omega)
theorem cP3 {k:Int}{body:List Int} (hk:0≤k∧k≤255) (hb:q0 body) (hl:body.length≤8192) {fuse:Int} (hf:J2 fuse) {down:Bool}{s t:List Int} (ht:t.length≤10000000):
  ag6 k body fuse down s t=some (match Z4 fuse down with | some f=>(0,f,false,t++E9 k body) | none=>(61,fd fuse down,true,t)):=by
 have hp:aV6 k body=some (E9 k body,0):=by rw[cj3 hk hb (by simp only[E1];omega),cG1,if_pos hl]
 have hlen:=aj0 k body
 have app:∀f d,P4 (E9 k body) f d s t=some (t++E9 k body):=fun f d=>by
  simp only[P4,List.length_map,cJ0 (show t.length+(E9 k body).length≤20000000 by omega),cond_true]
 unfold J2 at hf
 simp only[ag6,hp,Option.bind_some,bne_self_eq_false,cond_false,O4]
 cases down with
 | true=>simp only[Bool.not_true,cond_false,z6,z8,cond_true,Option.bind_some,Z4,fd,true_or,if_true]
 | false=>
  simp only[Bool.not_false,cond_true]
  by_cases h0:fuse=0
  ·subst h0
   simp only[beq_self_eq_true,z6,cond_true,z8,Option.bind_some,Z4,fd,or_true,if_true,cond_false]
  ·have e0:((fuse:Int)==0)=false:=by simpa using h0
   simp only[e0,z6,cond_false,z8,app,Option.bind_some,Z4,fd,h0,Bool.false_eq_true,or_self,if_false]
   by_cases hp:0<fuse
   ·have:decide (fuse>0)=true:=decide_eq_true hp
    rw[F4 (n:=fuse-1) (by omega) (by omega)]
    simp only[this,cond_true,Option.bind_some,if_pos hp]
   ·have:decide (fuse>0)=false:=decide_eq_false (by omega)
    simp only[this,cond_false,Option.bind_some,if_neg hp]
theorem da0 {fuse:Int} (hf:J2 fuse) {down:Bool}{s t:List Int} (ht:s.length+t.length≤20000000):
  an7 fuse down s t=some (match Z4 fuse down with | some f=>(0,f,false,s++t,[]) | none=>(61,fd fuse down,true,s,t)):=by
 have app:∀f d,X8 f d s t=some (s++t,[]):=fun f d=>by
  have e:(List.take t.length (List.drop 0 (List.map (d7 .u8) t))).length=t.length:=by simp
  simp only[X8,List.length_map]
  rw[e,cJ0 ht];rfl
 unfold J2 at hf
 simp only[an7,Q9]
 cases down with
 | true=>simp only[Bool.not_true,cond_false,C3,B9,cond_true,Option.bind_some,Z4,fd,true_or,if_true]
 | false=>
  simp only[Bool.not_false,cond_true]
  by_cases h0:fuse=0
  ·subst h0
   simp only[beq_self_eq_true,C3,cond_true,B9,Option.bind_some,Z4,fd,or_true,if_true,cond_false]
  ·have e0:((fuse:Int)==0)=false:=by simpa using h0
   simp only[e0,C3,cond_false,B9,app,Option.bind_some,Z4,fd,h0,Bool.false_eq_true,or_self,if_false]
   by_cases hp:0<fuse
   ·have:decide (fuse>0)=true:=decide_eq_true hp
    rw[F4 (n:=fuse-1) (by omega) (by omega)]
    simp only[this,cond_true,Option.bind_some,if_pos hp]
   ·have:decide (fuse>0)=false:=decide_eq_false (by omega)
    simp only[this,cond_false,Option.bind_some,if_neg hp]
def aF2 (keep:Int) (t:List Int):List Int:=t.take (min (max keep 0) (t.length:Int)).toNat
theorem cT9 {keep fuse:Int}{down:Bool}{s t:List Int} (ht:s.length+t.length≤20000000):z9 keep fuse down s t=some (-1,true,s++aF2 keep t,[]):=by
 have e:z0 (C9 keep 0) ((t.length:Nat):Int)=((min (max keep 0) (t.length:Int)).toNat:Int):=by
  unfold z0 C9
  split<;>split<;>omega
 generalize hk:(min (max keep 0) (t.length:Int)).toNat=n at e
 have hn:n≤t.length:=by omega
 have c1:(decide (((0:Nat):Int)≤(n:Int))&&decide ((n:Int)≤((t.length:Nat):Int)))=true:=by simp;omega
 have c2:(List.take n (List.drop 0 (List.map (d7 .u8) t))).length=n:=by simp;omega
 simp only[z9,List.length_map,e,c1,cond_true,Int.toNat_natCast]
 rw[c2]
 simp only[show Nat.beq n n=true from Nat.beq_refl n,cJ0 (show s.length+n≤20000000 by omega),List.drop_zero,aF2,hk,cond_true]
theorem da4 {l:List Fr1}{J:List Int}{e:Int} (hl:∀x∈l,bn4 x) (hJ:pF J=.inl e) (hJb:q0 J) (hm:(D0 l++J).length≤10000000) {fuse:Int} (hf:J2 fuse) {down:Bool}{t:List Int}:
  ag2 fuse down (D0 l++J) t=some (if J= [] then (l.map (·.1),l.map (·.2),(0:Int),fuse,false,D0 l,([]:List Int)) else (match Z4 fuse false with | some f=>(l.map (·.1),l.map (·.2),0,f,false,D0 l,[]) | none=>([],[],61,fd fuse false,true,D0 l++J,[]))):=by
 have ha:=dc2 hl hJ hJb hm
 have cut:∀f d (u:List Int),X2 ((D0 l).length:Int) f d (D0 l++J) u=some (D0 l):=fun f d u=>by
  have c1:(decide (((0:Nat):Int)≤((D0 l).length:Int))&&decide (((D0 l).length:Int)≤(((D0 l++J).length:Nat):Int)))=true:=by simp;omega
  have:=cO4 (b:=D0 l++J) (ln:=(D0 l).length) (cp:=(D0 l++J).length) (by simp) (by simp only[E1];omega)
  simp only[X2,List.length_map,c1,cond_true,Int.toNat_natCast,this,Option.bind_some,List.take_left]
 simp only[ag2,ha,Option.bind_some,List.length_map]
 by_cases hJ0:J= []
 ·subst hJ0
  simp only[List.append_nil,Int.lt_irrefl,decide_false,cond_false,if_true]
 ·have hpos:0<J.length:=List.length_pos_iff.2 hJ0
  have:decide (((D0 l).length:Int)<(((D0 l++J).length:Nat):Int))=true:=by simp;omega
  unfold J2 at hf
  simp only[this,cond_true,if_neg hJ0,Q5,Bool.not_false]
  by_cases h0:fuse=0
  ·subst h0
   simp[F3,F0,Z4,fd]
  ·have e0:((fuse:Int)==0)=false:=by simpa using h0
   simp only[e0,F3,cond_false,F0,cut,Option.bind_some,Z4,fd,h0,Bool.false_eq_true,or_self,if_false]
   by_cases hp:0<fuse
   ·have:decide (fuse>0)=true:=decide_eq_true hp
    rw[F4 (n:=fuse-1) (by omega) (by omega)]
    simp only[this,cond_true,Option.bind_some,if_pos hp,bne_self_eq_false,cond_false]
   ·have:decide (fuse>0)=false:=decide_eq_false (by omega)
    simp only[this,cond_false,Option.bind_some,if_neg hp,bne_self_eq_false]
/-! ### records -/
def ar2 (m:i5):Prop:=N6 m∧w5 m=true
def ai7 (m:i5):Fr1:=(m.Kind,T7 m)
theorem ar2.fr {m:i5} (h:ar2 m):bn4 (ai7 m):=by
 refine⟨bQ0 h.2,fun c hc=> ?_,by have:=bh7 h.1 h.2;simp only[ai7];omega⟩
 have:=cj8 h.1 h.2
 have hc' :c∈T7 m:=hc
 exact this c (by simp only[E9,O0];simp[hc'])
def log (rs:List i5):List Int:=D0 (rs.map ai7)
theorem co9 (a b:List i5):log (a++b)=log a++log b:=by simp[log,cS3]
theorem aY2 (m:i5):log [m]=E9 m.Kind (T7 m):=by simp[log,D0,ai7]
theorem cK1 {rs:List i5} (h:∀m∈rs,ar2 m):∀x∈rs.map ai7,bn4 x:=fun x hx=>by
 obtain⟨m,hm,rfl⟩:=List.mem_map.1 hx
 exact(h m hm).fr
theorem cB7 {rs:List i5} (h:∀m∈rs,ar2 m):q0 (log rs):=bS9 (cK1 h)
/-- A disk: its records; what is cut; what is not synced. -/
structure aS5 (rs : List i5) (J : List Int) (s : List Int) : Prop where
  ok : ∀ m ∈ rs, ar2 m
  eq : s = log rs ++ J
  cut : ∃ e, pF J = .inl e
  jb : q0 J
theorem aS5.nil:aS5 [] [] []:=⟨fun m h=>by simp at h,rfl,⟨_,rfl⟩,fun c hc=>by simp at hc⟩
theorem aS5.crash {rs:List i5}{s:List Int} (h:aS5 rs [] s) {m:i5} (hm:ar2 m) (keep:Int):(aS5 (rs++ [m]) [] (s++aF2 keep (log [m])))∨(∃J,aS5 rs J (s++aF2 keep (log [m]))):=by
 have hl:(log [m]).length=(T7 m).length+8:=by rw[aY2,aj0]
 obtain⟨h1,h2,h3⟩:=hm.fr
 unfold aF2
 generalize hn:(min (max keep 0) ((log [m]).length:Int)).toNat=n
 by_cases hf:n=(log [m]).length
 ·left
  refine⟨fun x hx=> ?_,?_,⟨_,rfl⟩,fun c hc=>by simp at hc⟩
  ·rcases List.mem_append.1 hx with hx | hx
   ·exact h.ok x hx
   ·rw[List.mem_singleton.1 hx];exact hm
  ·rw[hf,List.take_length,h.eq,co9];simp
 ·right
  refine⟨(log [m]).take n,h.ok,by rw[h.eq];simp,?_,fun c hc=>cB7 (rs:= [m]) (fun x hx=>by rw[List.mem_singleton.1 hx];exact hm) c (List.mem_of_mem_take hc)⟩
  have:=cV7 h1 h2 h3 (j:=n) (by simp only[ai7];omega)
  rw[aY2]
  simpa only[ai7] using this
theorem aS5.crash0 {rs:List i5}{J s:List Int} (h:aS5 rs J s) (keep:Int):aS5 rs J (s++aF2 keep []):=by
 simpa[aF2] using h
noncomputable def bz9 (af2:i0) (c:f0) (d8 ac6:Int) (ad9:Bool) (b2 b3:List Int) (y:i5):D×i4:=(.agg (i5.enc y),[some ⟨67,true,[(i0.l af2 (f0.l c [.int .i64 d8,.ptr 1 0 0]))]⟩,some ⟨4,true,[[(i9 2 (List.map (d7 .u8) b2)),(i9 3 (List.map (d7 .u8) b3)),.int .i64 ac6,.bool ad9]]⟩,some ⟨1,false,(List.map (d7 .u8) b2)⟩,some ⟨1,false,(List.map (d7 .u8) b3)⟩])
noncomputable def r8 (m:i5) (ah8:Int) (af2:i0) (c:f0) (d8 ac6:Int) (ad9:Bool) (b2 b3:List Int):Option i5:=(some (⟨ah8,d8,m.From,m.Epoch,0,0,0,0,0,0,false,(⟨0,0,0,0,0,0,0,0,0,0,[],[]⟩:Plan),[],[],[]⟩:i5))
theorem K6 {m:i5}{ah8:Int}{af2:i0}{c:f0}{d8 ac6:Int}{ad9:Bool}{b2 b3:List Int}{r:i5} (h:r8 m ah8 af2 c d8 ac6 ad9 b2 b3=some r):l4 E 42 [.ptr 0 0 0,.agg (i5.enc m),.int .i64 ah8] [some ⟨67,true,[(i0.l af2 (f0.l c [.int .i64 d8,.ptr 1 0 0]))]⟩,some ⟨4,true,[[(i9 2 (List.map (d7 .u8) b2)),(i9 3 (List.map (d7 .u8) b3)),.int .i64 ac6,.bool ad9]]⟩,some ⟨1,false,(List.map (d7 .u8) b2)⟩,some ⟨1,false,(List.map (d7 .u8) b3)⟩] (Rs (bz9 af2 c d8 ac6 ad9 b2 b3) r):=so (fn:=Tryd.f42) (k:=false) (m:=4) h<| by
 intro r h;unfold r8 at h
 refine zf 12 [.blk 5 [some 1,some 1,some 1,some 1,some 1]] ?_
 exact zu 2 h
noncomputable def bk9 (af2:i0) (c:f0) (d8 ac6:Int) (ad9:Bool) (b2 b3:List Int) (y:List i5):D×i4:=(.sl false 26 (List.map i5.enc y),[some ⟨67,true,[(i0.l af2 (f0.l c [.int .i64 d8,.ptr 1 0 0]))]⟩,some ⟨4,true,[[(i9 2 (List.map (d7 .u8) b2)),(i9 3 (List.map (d7 .u8) b3)),.int .i64 ac6,.bool ad9]]⟩,some ⟨1,false,(List.map (d7 .u8) b2)⟩,some ⟨1,false,(List.map (d7 .u8) b3)⟩])
noncomputable def P5 (m:i5) (af2:i0) (c:f0) (d8 ac6:Int) (ad9:Bool) (b2 b3:List Int):Option (List i5):=((r8 m 9 af2 c d8 ac6 ad9 b2 b3).bind fun y1=>(some ([(⟨y1.Kind,y1.From,y1.To,af2.known.Epoch,y1.Ballot,y1.Accepted,y1.Nonce,y1.Time,y1.Up,y1.Code,true,af2.known,y1.ID,y1.Session,y1.Payload⟩:i5)])))
theorem aC5 {m:i5}{af2:i0}{c:f0}{d8 ac6:Int}{ad9:Bool}{b2 b3:List Int}{r:List i5} (h:P5 m af2 c d8 ac6 ad9 b2 b3=some r):l4 E 38 [.ptr 0 0 0,.agg (i5.enc m)] [some ⟨67,true,[(i0.l af2 (f0.l c [.int .i64 d8,.ptr 1 0 0]))]⟩,some ⟨4,true,[[(i9 2 (List.map (d7 .u8) b2)),(i9 3 (List.map (d7 .u8) b3)),.int .i64 ac6,.bool ad9]]⟩,some ⟨1,false,(List.map (d7 .u8) b2)⟩,some ⟨1,false,(List.map (d7 .u8) b3)⟩] (Rs (bk9 af2 c d8 ac6 ad9 b2 b3) r):=so (fn:=Tryd.f38) (k:=false) (m:=4) h<| by
 intro r h;unfold P5 at h
 refine zc 11 [] h (fun _=>K6) fun y1 h=> ?_
 exact zu 24 h
noncomputable def bK3 (af2:i0) (c:f0) (d8 ac6:Int) (ad9:Bool) (b2 b3:List Int) (y:List i5):D×i4:=(.sl false 26 (List.map i5.enc y),[some ⟨67,true,[(i0.l af2 (f0.l c [.int .i64 d8,.ptr 1 0 0]))]⟩,some ⟨4,true,[[(i9 2 (List.map (d7 .u8) b2)),(i9 3 (List.map (d7 .u8) b3)),.int .i64 ac6,.bool ad9]]⟩,some ⟨1,false,(List.map (d7 .u8) b2)⟩,some ⟨1,false,(List.map (d7 .u8) b3)⟩])
noncomputable def aa5 (m:i5) (af2:i0) (c:f0) (d8 ac6:Int) (ad9:Bool) (b2 b3:List Int):Option (List i5):=((r8 m 6 af2 c d8 ac6 ad9 b2 b3).bind fun y1=>(some ([(⟨y1.Kind,y1.From,y1.To,y1.Epoch,af2.promised,y1.Accepted,y1.Nonce,y1.Time,y1.Up,y1.Code,y1.HasPlan,y1.Plan,y1.ID,y1.Session,y1.Payload⟩:i5)])))
theorem aP7 {m:i5}{af2:i0}{c:f0}{d8 ac6:Int}{ad9:Bool}{b2 b3:List Int}{r:List i5} (h:aa5 m af2 c d8 ac6 ad9 b2 b3=some r):l4 E 40 [.ptr 0 0 0,.agg (i5.enc m)] [some ⟨67,true,[(i0.l af2 (f0.l c [.int .i64 d8,.ptr 1 0 0]))]⟩,some ⟨4,true,[[(i9 2 (List.map (d7 .u8) b2)),(i9 3 (List.map (d7 .u8) b3)),.int .i64 ac6,.bool ad9]]⟩,some ⟨1,false,(List.map (d7 .u8) b2)⟩,some ⟨1,false,(List.map (d7 .u8) b3)⟩] (Rs (bK3 af2 c d8 ac6 ad9 b2 b3) r):=so (fn:=Tryd.f40) (k:=false) (m:=4) h<| by
 intro r h;unfold aa5 at h
 refine zc 11 [] h (fun _=>K6) fun y1 h=> ?_
 exact zu 27 h
noncomputable def bf3 (y:o6):D×i4:=(.agg (o6.enc y),[])
noncomputable def R1 (s_:o6) (ah3:Int):Option o6:=(bif (decide (s_.high<ah3)) then (some (⟨0,0,s_.at_⟩:o6)) else (some (⟨(C9 s_.low ah3),s_.high,s_.at_⟩:o6)))
theorem ba1 {s_:o6}{ah3:Int}{r:o6} (h:R1 s_ ah3=some r):l4 E 34 [.agg (o6.enc s_),.int .i64 ah3] [] (Rs bf3 r):=so (fn:=Tryd.f34) (k:=false) (m:=0) h<| by
 intro r h;unfold R1 at h
 refine zs 15 h (fun h=> ?_) fun h=> ?_
 ·
  exact zu 12 h
 exact zu 21 h
noncomputable def bg0 (y:o6):D×i4:=(.agg (o6.enc y),[])
noncomputable def R3 (s_:o6) (ah3:Int):Option o6:=(bif (s_.low==0) then (some (⟨ah3,ah3,s_.at_⟩:o6)) else (some (⟨(z0 s_.low ah3),(C9 s_.high ah3),s_.at_⟩:o6)))
theorem bc1 {s_:o6}{ah3:Int}{r:o6} (h:R3 s_ ah3=some r):l4 E 35 [.agg (o6.enc s_),.int .i64 ah3] [] (Rs bg0 r):=so (fn:=Tryd.f35) (k:=false) (m:=0) h<| by
 intro r h;unfold R3 at h
 refine zs 14 h (fun h=> ?_) fun h=> ?_
 ·
  exact zu 14 h
 exact zu 23 h
noncomputable def bE8:=r4 (r9 Tryd.f19)
noncomputable def aT2 (c:f0) (d8 ac6:Int) (ad9:Bool) (b2 b3:List Int) (y:i0):D×i4:=(.tup [],[some ⟨67,true,[(i0.l y (f0.l c [.int .i64 d8,.ptr 1 0 0]))]⟩,some ⟨4,true,[[(i9 2 (List.map (d7 .u8) b2)),(i9 3 (List.map (d7 .u8) b3)),.int .i64 ac6,.bool ad9]]⟩,some ⟨1,false,(List.map (d7 .u8) b2)⟩,some ⟨1,false,(List.map (d7 .u8) b3)⟩])
abbrev bE1 (m:i5) (c:f0) (d8 ac6:Int) (ad9:Bool) (b2 b3:List Int):=AOk E (Cx.of Tryd.f19 false 4) (aT2 c d8 ac6 ad9 b2 b3)
noncomputable def bC1 (m:i5) (c:f0) (d8 ac6:Int) (ad9:Bool) (b2 b3:List Int) (j0:i0):M:=⟨[.code (bE8 [1,1,0,1,0,1]),.blk 0],[(0,.ptr 0 0 0),(3,.ptr 4 0 0)],[some ⟨67,true,[(i0.l j0 (f0.l c [.int .i64 d8,.ptr 1 0 0]))]⟩,some ⟨4,true,[[(i9 2 (List.map (d7 .u8) b2)),(i9 3 (List.map (d7 .u8) b3)),.int .i64 ac6,.bool ad9]]⟩,some ⟨1,false,(List.map (d7 .u8) b2)⟩,some ⟨1,false,(List.map (d7 .u8) b3)⟩,some ⟨26,false,[(i5.enc m)]⟩]⟩
noncomputable def S9 (m:i5) (c:f0) (d8 ac6:Int) (ad9:Bool) (b2 b3:List Int) (j0:i0):Option i0:=(some (⟨m.Epoch,m.Plan,m.Ballot,j0.accepted,j0.plan,j0.writes,j0.wish,j0.wishAt,j0.lead⟩:i0))
theorem aH9 {m c d8 ac6 ad9 b2 b3 j0}:bE1 m c d8 ac6 ad9 b2 b3 (bC1 m c d8 ac6 ad9 b2 b3 j0) (S9 m c d8 ac6 ad9 b2 b3 j0):=by
 intro r h;unfold S9 at h
 exact zu 12 h
noncomputable def aa7 (m:i5) (af2:i0) (c:f0) (d8 ac6:Int) (ad9:Bool) (b2 b3:List Int):Option i0:=(bif (m.Kind==5) then (bif (m.Epoch !=af2.epoch) then ((R1 af2.writes m.Epoch).bind fun y3=>(S9 m c d8 ac6 ad9 b2 b3 (⟨af2.epoch,af2.known,af2.promised,0,(⟨0,0,0,0,0,0,0,0,0,0,[],[]⟩:Plan),y3,af2.wish,af2.wishAt,af2.lead⟩:i0))) else (S9 m c d8 ac6 ad9 b2 b3 af2)) else (bif (m.Kind==8) then (some (⟨af2.epoch,af2.known,m.Ballot,m.Ballot,m.Plan,af2.writes,af2.wish,af2.wishAt,af2.lead⟩:i0)) else (bif (m.Kind==11) then (bif (m.Code==2) then (some (⟨af2.epoch,af2.known,af2.promised,af2.accepted,af2.plan,af2.writes,af2.wish,af2.wishAt,(⟨true,(-1),af2.lead.at_⟩:q7)⟩:i0)) else ((R3 af2.writes m.Epoch).bind fun y7=>(some (⟨af2.epoch,af2.known,af2.promised,af2.accepted,af2.plan,y7,af2.wish,af2.wishAt,af2.lead⟩:i0)))) else (some af2))))
theorem aR5 {m:i5}{af2:i0}{c:f0}{d8 ac6:Int}{ad9:Bool}{b2 b3:List Int}{r:i0} (h:aa7 m af2 c d8 ac6 ad9 b2 b3=some r):l4 E 19 [.ptr 0 0 0,.agg (i5.enc m)] [some ⟨67,true,[(i0.l af2 (f0.l c [.int .i64 d8,.ptr 1 0 0]))]⟩,some ⟨4,true,[[(i9 2 (List.map (d7 .u8) b2)),(i9 3 (List.map (d7 .u8) b3)),.int .i64 ac6,.bool ad9]]⟩,some ⟨1,false,(List.map (d7 .u8) b2)⟩,some ⟨1,false,(List.map (d7 .u8) b3)⟩] (Rs (aT2 c d8 ac6 ad9 b2 b3) r):=so (fn:=Tryd.f19) (k:=false) (m:=4) h<| by
 intro r h;unfold aa7 at h
 refine zs 17 h (fun h=> ?_) fun h=> ?_
 ·
  refine zs 6 h (fun h=> ?_) fun h=> ?_
  ·
   refine zd 3 [] h (fun _=>ba1) fun y3 h=> ?_
   exact zg 6 (aH9 h) [.blk 0 [some 1,some 1]]
  exact zg 1 (aH9 h)
 refine zs 6 h (fun h=> ?_) fun h=> ?_
 ·
  exact zu 12 h
 refine zs 6 h (fun h=> ?_) fun h=> ?_
 ·
  refine zs 8 h (fun h=> ?_) fun h=> ?_
  ·
   exact zu 19 h
  refine zd 3 [] h (fun _=>bc1) fun y7 h=> ?_
  exact zu 4 h
 exact zu 3 h
noncomputable def am3:=r4 (r9 Tryd.f41)
noncomputable def al9 (c:f0) (d8:Int) (y:Bool×i0×Int×Bool×(List Int)×(List Int)):D×i4:=(.bool y.1,[some ⟨67,true,[(i0.l y.2.1 (f0.l c [.int .i64 d8,.ptr 1 0 0]))]⟩,some ⟨4,true,[[(i9 4 (List.map (d7 .u8) y.2.2.2.2.1)),(i9 5 (List.map (d7 .u8) y.2.2.2.2.2)),.int .i64 y.2.2.1,.bool y.2.2.2.1]]⟩,none,none,some ⟨1,false,(List.map (d7 .u8) y.2.2.2.2.1)⟩,some ⟨1,false,(List.map (d7 .u8) y.2.2.2.2.2)⟩])
abbrev aN8 (m:i5) (af2:i0) (c:f0) (d8:Int):=AOk E (Cx.of Tryd.f41 true 4) (al9 c d8)
noncomputable def aJ2 (m:i5) (af2:i0) (c:f0) (d8:Int) (t35:Bool) (k8:Int) (k7:Bool) (b5 b6:List Int):M:=⟨[.code (am3 [1,1,0,1]),.code (am3 [1,1,1])],[(2,.fn 19 [.ptr 0 0 0] []),(4,.ptr 4 0 0),(35,.bool t35)],[some ⟨67,true,[(i0.l af2 (f0.l c [.int .i64 d8,.ptr 1 0 0]))]⟩,some ⟨4,true,[[(i9 5 (List.map (d7 .u8) b5)),(i9 6 (List.map (d7 .u8) b6)),.int .i64 k8,.bool k7]]⟩,none,none,some ⟨26,false,[(i5.enc m)]⟩,some ⟨1,false,(List.map (d7 .u8) b5)⟩,some ⟨1,false,(List.map (d7 .u8) b6)⟩]⟩
noncomputable def w6 (m:i5) (af2:i0) (c:f0) (d8:Int) (t35:Bool) (k8:Int) (k7:Bool) (b5 b6:List Int):Option (Bool×i0×Int×Bool×(List Int)×(List Int)):=(bif t35 then (some (false,af2,k8,k7,b5,b6)) else ((aa7 m af2 c d8 k8 k7 b5 b6).bind fun y2=>(some (true,y2,k8,k7,b5,b6))))
theorem P3 {m af2 c d8 t35 k8 k7 b5 b6}:aN8 m af2 c d8 (aJ2 m af2 c d8 t35 k8 k7 b5 b6) (w6 m af2 c d8 t35 k8 k7 b5 b6):=by
 intro r h;unfold w6 at h
 refine zs 1 h (fun h=> ?_) fun h=> ?_
 ·
  exact zu 5 h
 refine zc 7 [] h (fun _=>aR5) fun y2 h=> ?_
 exact zu 6 h
noncomputable def r5 (m:i5) (af2:i0) (c:f0) (d8 ac6:Int) (ad9:Bool) (b2 b3:List Int):Option (Bool×i0×Int×Bool×(List Int)×(List Int)):=((bc4 m).bind fun y1=>(bif ((y1.2.2:Int) !=0) then (w6 m af2 c d8 true ac6 ad9 b2 b3) else ((ag6 y1.1 y1.2.1 ac6 ad9 b2 b3).bind fun y3=>(bif ((y3.1:Int) !=0) then (w6 m af2 c d8 true y3.2.1 y3.2.2.1 b2 y3.2.2.2) else ((an7 y3.2.1 y3.2.2.1 b2 y3.2.2.2).bind fun y5=>(w6 m af2 c d8 ((y5.1:Int) !=0) y5.2.1 y5.2.2.1 y5.2.2.2.1 y5.2.2.2.2))))))
theorem D3 {m:i5}{af2:i0}{c:f0}{d8 ac6:Int}{ad9:Bool}{b2 b3:List Int}{r:Bool×i0×Int×Bool×(List Int)×(List Int)} (h:r5 m af2 c d8 ac6 ad9 b2 b3=some r):l4 E 41 [.ptr 0 0 0,.agg (i5.enc m),.fn 19 [.ptr 0 0 0] []] [some ⟨67,true,[(i0.l af2 (f0.l c [.int .i64 d8,.ptr 1 0 0]))]⟩,some ⟨4,true,[[(i9 2 (List.map (d7 .u8) b2)),(i9 3 (List.map (d7 .u8) b3)),.int .i64 ac6,.bool ad9]]⟩,some ⟨1,false,(List.map (d7 .u8) b2)⟩,some ⟨1,false,(List.map (d7 .u8) b3)⟩] (Rs (al9 c d8) r):=so (fn:=Tryd.f41) (k:=true) (m:=4) h<| by
 intro r h;unfold r5 at h
 refine zc 10 [] h (fun _=>ck7) fun y1 h=> ?_
 refine zs 15 h (fun h=> ?_) fun h=> ?_
 ·
  exact zg 32 (P3 h) [.mv 2,.mv 3]
 refine zc 13 [] h (fun _=>bs9) fun y3 h=> ?_
 refine zs 6 h (fun h=> ?_) fun h=> ?_
 ·
  exact zg 13 (P3 h)
 refine zc 9 [] h (fun _=>bJ9) fun y5 h=> ?_
 exact zg 5 (P3 h)
end Go.RX.L
